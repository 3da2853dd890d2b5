/- Parts of the proof: MO6, OF1, KN0, OF2. -/
import Derived.Laws.MakeOwn
import Derived.Deep.RegionHeld3
import Derived.Test.YtbgaiceakmmfdaaGreatDoorMMV2
import Derived.Test.YtbgaiceakmmfdaaGreatDoorMMV24
section
/- The program's list of all monomials. -/
namespace Go.Proofs.Tg
open Go.RowKit Go.Mm
set_option maxHeartbeats 8000000
set_option maxRecDepth 100000
theorem all_any (n d : Nat) (hn : n ≤ 6) (hd : d ≤ 24) (hc : cnt n d ≤ 4096) (w : World) :
    Calls Tryz.prog 15 #[.int .i64 (n : Nat), .int .i64 (d : Nat)] w (RetMons n d w) := by
  obtain ⟨j0, hj, jz0, jz1, jz2⟩ := info_parts irow_info
  have HCO := Lib.hid (count_any n d hn hd w)
  obtain ⟨k0, hk0⟩ : ∃ k, cnt n d = k := ⟨_, rfl⟩
  have HML := Lib.hid (fun k (h : k ≤ d + 1) => monTo_le n d k h)
  rw [hk0] at HCO hc HML
  have d1 : decide ((4096 : Int) < (k0 : Int)) = false := decide_eq_false (by omega)
  have hmk := fun W => run_make_own (P := Tryz.prog) W W.heap.size 44 48 j0 _ 1 Tryz.underlying44 hj jz0 jz1 .i64 .i64 k0 (by rw [jz2]; omega) (by simp only [maxLen]; omega) (Nat.le_refl _)
  have HMK := Lib.hid hmk
  clear hk0 hmk
  go_enter Tryz.func15, Tryz.ntmps15
  go_wp2_with (fail)
  refine HCO.out.mono ?_
  rintro e w1 ⟨rfl, hb1⟩
  obtain ⟨w2, hrun, hown, hgrow⟩ := HMK.out w1
  have hb2 : Below w.heap.size w w2 := hb1.grown hgrow hb1.size (fun k hk => by cases hk)
  have HST : Hid (OwnI w.heap.size w2 (some ⟨w1.heap.size, 0, none⟩) k0 [] ∧ Below w.heap.size w w2) := Lib.hid ⟨⟨own_base hown hb1.size, fun r hr => absurd hr (by simp)⟩, hb2⟩
  clear hown hgrow HMK HCO
  go_wp2
  go_loopw [8, 24] (fun s8 s24 wr => ∃ (k : Nat) (A : Option Addr) (c : Nat) (rs : List IRow), s8 = .slice A rs.length c ∧ s24 = .int .i64 (k : Nat) ∧ k ≤ d + 1 ∧ Hid (rs.map IRow.l = monTo n k) ∧ Hid (OwnI w.heap.size wr A c rs ∧ Below w.heap.size w wr)) (fun _ s24 _ => d + 1 - (intOf s24).toNat)
  case atStart => exact ⟨0, _, k0, [], rfl, rfl, Nat.zero_le _, Lib.hid rfl, HST⟩
  case round =>
   clear HST hrun
   obtain ⟨wo, rfl⟩ : ∃ wo : World, wo = wr := ⟨_, rfl⟩
   obtain ⟨k, A, c, rs, rfl, rfl, hk, HEQ, HST⟩ := hrel
   by_cases hkd : k = d + 1
   ·have e1 : decide ((k : Int) < (d : Int) + 1) = false := decide_eq_false (by omega)
    have HK := Lib.hid hkd
    clear hkd
    go_wp2
    go_ret2
    exact ⟨A, c, rs, rfl, HST.out.1, by rw [HEQ.out, HK.out, monTo_all], HST.out.2⟩
   ·have hk2 : k ≤ d := by omega
    have e1 : decide ((k : Int) < (d : Int) + 1) = true := decide_eq_true (by omega)
    have hrl : rs.length + (exactL n k).length ≤ 4096 := by
     have h1 := congrArg List.length HEQ.out
     rw [List.length_map] at h1
     have h2 := HML.out (k + 1) (by omega)
     rw [monTo_len] at h2
     omega
    have HC := appdeg_any n k w.heap.size wo A c rs none 0 [] HST.out.1 HST.out.2.size (World.ownsRow_nil _ _ _ _) (by omega) (by simp; omega) (by omega) (by omega)
    unfold RetApp at HC
    have e2 : (exactL n k).map (· ++ ([] : List Int)) = exactL n k := by simp
    rw [e2, List.length_nil] at HC
    obtain ⟨nr, hnr⟩ : ∃ x, rs.length = x := ⟨_, rfl⟩
    rw [hnr] at HC ⊢
    have HNR := Lib.hid hnr
    have HC := Lib.hid HC
    clear e2 hnr hrl hkd
    go_wp2_with (fail)
    refine HC.out.mono ?_
    rintro e w5 ⟨A5, c5, rs5, rfl, hO5, he5, hg5, hat5⟩
    go_wp2
    go_roundw
    case rel =>
     refine ⟨k + 1, A5, c5, rs5, rfl, by go_num, by omega, Lib.hid (by rw [he5, HEQ.out, monTo_succ]), Lib.hid ⟨hO5, ?_⟩⟩
     refine HST.out.2.grown hg5 HST.out.2.size (fun j hj => ?_)
     have := HST.out.1.own
     rw [HNR.out] at this
     exact (this.lt j hj).1
    case measure => simp [intOf]; omega
end Go.Proofs.Tg
end
section
/- Plain and memory: the values of the functional of points. -/
namespace Go.Rq
/-- A weight times powers of coordinates. -/
def tmTo (w : Rat) (x : List Rat) (m : List Int) : Nat → Rat
  | 0 => w
  | k + 1 => tmTo w x m k * (x.getD k 0) ^ ((m.getD k 0).toNat)
def tm (w : Rat) (x : List Rat) (m : List Int) : Rat := tmTo w x m m.length
def sumTo (ws : List Rat) (xs : List (List Rat)) : Nat → List Int → Rat
  | 0, _ => 0
  | k + 1, m => sumTo ws xs k m + tm (ws.getD k 0) (xs.getD k []) m
/-- A list of values of which the first i are new. -/
def vals (f h : List Int → Rat) (ms : List (List Int)) (i : Nat) : List Rat := (ms.take i).map h ++ (ms.drop i).map f
theorem vals_zero (f h : List Int → Rat) (ms : List (List Int)) : vals f h ms 0 = ms.map f := by simp [vals]
theorem vals_all (f h : List Int → Rat) (ms : List (List Int)) : vals f h ms ms.length = ms.map h := by simp [vals]
theorem vals_at (f h : List Int → Rat) (ms : List (List Int)) {i : Nat} (hi : i < ms.length) : (vals f h ms i)[i]? = some (f ms[i]) := by
 unfold vals
 rw [List.getElem?_append_right (by simp; omega), List.length_map, List.length_take, Nat.min_eq_left (by omega), Nat.sub_self, List.drop_eq_getElem_cons hi]; rfl
theorem vals_set (f h : List Int → Rat) (ms : List (List Int)) {i : Nat} (hi : i < ms.length) : (vals f h ms i).set i (h ms[i]) = vals f h ms (i + 1) := by
 unfold vals
 rw [List.set_append_right _ _ (by simp; omega), List.length_map, List.length_take, Nat.min_eq_left (by omega), Nat.sub_self, List.drop_eq_getElem_cons hi, List.map_cons, List.set_cons_zero, List.take_succ_eq_append_getElem hi, List.map_append, List.map_cons, List.map_nil, List.append_assoc]
 rfl
end Go.Rq
namespace Go.Proofs.Tg.Fi
open Go.RowKit Go.Rq Go.Qn Go.Bn Go.Mm Go.Proofs.Tg
set_option maxHeartbeats 8000000
set_option maxRecDepth 100000
/-- Rows of texts that can be read. -/
structure TRowsAt (w : World) (A : Option Addr) (xs : List (List Rat)) : Prop where
  ex : ∃ rows : List TRow, Sl w A rows.length 1 (rows.map TRow.cell) ∧ rows.map TRow.qs = xs ∧ ∀ r ∈ rows, Txts w r.A r.qs
theorem TRowsAt.keep {w w' : World} {A : Option Addr} {xs : List (List Rat)} (h : TRowsAt w A xs) (hb : Below w.heap.size w w') : TRowsAt w' A xs := by
 obtain ⟨rows, h1, h2, h3⟩ := h.ex
 exact ⟨rows, h1.keep hb, h2, fun r hr => (h3 r hr).keep hb⟩
theorem TRowsAt.at {w : World} {A : Option Addr} {xs : List (List Rat)} (h : TRowsAt w A xs) {k : Nat} (hk : k < xs.length) : ∃ ad R c, A = some ad ∧ w.cell? (ad.add k) = some (.slice R xs[k].length c) ∧ Txts w R xs[k] := by
 obtain ⟨rows, h1, h2, h3⟩ := h.ex
 have hl : rows.length = xs.length := by rw [← h2, List.length_map]
 have hk2 : k < rows.length := by omega
 obtain ⟨ad, e, hc⟩ := Sl.at1 h1 hk2
 have hx : xs[k] = rows[k].qs := by subst h2; simp
 refine ⟨ad, rows[k].A, rows[k].c, e, ?_, ?_⟩
 ·rw [hx]; simpa [TRow.cell] using hc
 ·rw [hx]; exact h3 _ (List.getElem_mem _)
theorem qtx_zero : qtx (0 : Rat) = ⟨#[48]⟩ := by
 rw [show (0 : Rat) = ((0 : Int) : Rat) from rfl, qtx_int]
 have : Lib.itoa 0 = [48] := by unfold Lib.itoa; rw [if_neg (by omega)]; exact dec_zero
 rw [this]; rfl
/-- The functional that a call returns. -/
def RetFun (v d : Nat) (qs : List Rat) (w : World) (e : Ending) (w' : World) : Prop := ∃ A, e = .returned (.tuple #[.agg #[.int .i64 (v : Nat), .int .i64 (d : Nat), .slice A qs.length qs.length], .int .i64 0]) ∧ Txts w' A qs ∧ Below w.heap.size w w'
theorem txts_set {w : World} {g : Nat} {qs : List Rat} (h : Blk w g 9 (qs.map vq).toArray) (i : Nat) (q : Rat) : Blk (w.setCell ⟨g, i, none⟩ (.string (qtx q))) g 9 ((qs.set i q).map vq).toArray := by
 have := h.set i (.string (qtx q))
 rw [List.setIfInBounds_toArray, show Value.string (qtx q) = vq q from rfl, ← List.map_set] at this
 exact this
/-- What the innermost loop of Of needs of its data. -/
structure OfOk (v d : Nat) (ws : List Rat) (xs : List (List Rat)) : Prop where
  n1 : 1 ≤ xs.length
  n2 : xs.length ≤ 16
  lw : ws.length = xs.length
  dim : ∀ x ∈ xs, x.length = v
  v1 : 1 ≤ v
  v6 : v ≤ 6
  d24 : d ≤ 24
  few : cnt v d ≤ 1024
  shw : ∀ q ∈ ws, Sh q
  shx : ∀ x ∈ xs, ∀ q ∈ x, Sh q ∧ ∀ e, e ≤ d → Sh (q ^ e)
  sht : ∀ k, k < xs.length → ∀ m ∈ mons v d, ∀ j, j ≤ v → Sh (tmTo (ws.getD k 0) (xs.getD k []) m j)
  shs : ∀ k, k ≤ xs.length → ∀ m ∈ mons v d, Sh (sumTo ws xs k m)
end Go.Proofs.Tg.Fi
end
section
/- Plain: the functional of two points, 1 and -1, of degree two. -/
namespace Go.Proofs.Tg.Fi
open Go.Rq Go.Mm
theorem mons12 : mons 1 2 = [[0], [1], [2]] := by decide +kernel
theorem knowns : (mons 1 2).map (sumTo [1, 1] [[1], [-1]] 2) = [2, 0, 2] := by rw [mons12]; decide +kernel
theorem kn_sht : ∀ k, k < 2 → ∀ m ∈ [[0], [1], [2]], ∀ j, j < 2 → (tmTo (([1, 1] : List Rat).getD k 0) (([[1], [-1]] : List (List Rat)).getD k []) m j).num.natAbs < 1000000000 ∧ (tmTo (([1, 1] : List Rat).getD k 0) (([[1], [-1]] : List (List Rat)).getD k []) m j).den < 1000000000 := by decide +kernel
theorem kn_shs : ∀ k, k < 3 → ∀ m ∈ [[0], [1], [2]], (sumTo [1, 1] [[1], [-1]] k m).num.natAbs < 1000000000 ∧ (sumTo [1, 1] [[1], [-1]] k m).den < 1000000000 := by decide +kernel
theorem kn_shx : ∀ x ∈ ([[1], [-1]] : List (List Rat)), ∀ q ∈ x, (q.num.natAbs < 1000000000 ∧ q.den < 1000000000) ∧ ∀ e, e < 3 → (q ^ e).num.natAbs < 1000000000 ∧ (q ^ e).den < 1000000000 := by decide +kernel
theorem kn_ok : OfOk 1 2 [1, 1] [[1], [-1]] where
  n1 := by decide
  n2 := by decide
  lw := by decide
  dim := by decide +kernel
  v1 := by decide
  v6 := by decide
  d24 := by decide
  few := by decide +kernel
  shw := by
   intro q hq
   have hq1 : q = 1 := by simpa using hq
   subst hq1
   exact ⟨by decide +kernel, by decide +kernel⟩
  shx := fun x hx q hq => ⟨(kn_shx x hx q hq).1, fun e he => (kn_shx x hx q hq).2 e (Nat.lt_succ_of_le he)⟩
  sht := fun k hk m hm j hj => kn_sht k hk m (by rw [← mons12]; exact hm) j (Nat.lt_succ_of_le hj)
  shs := fun k hk m hm => kn_shs k (Nat.lt_succ_of_le hk) m (by rw [← mons12]; exact hm)
theorem kn_tx : qtx 1 = ⟨#[49]⟩ ∧ qtx (-1) = ⟨#[45, 49]⟩ ∧ qtx 2 = ⟨#[50]⟩ ∧ qtx 0 = ⟨#[48]⟩ := by decide +kernel
end Go.Proofs.Tg.Fi
end
section
/- The program's functional of points. -/
namespace Go.Proofs.Tg.Fi
open Go.RowKit Go.Rq Go.Qn Go.Bn Go.Mm Go.Proofs.Tg
set_option maxHeartbeats 16000000
set_option maxRecDepth 100000
theorem blk_three' {V : World} {g : Nat} {a b c a' b' c' : Value} {t : TypeId} (h : Blk V g t #[a, b, c]) : Blk (((V.setCell ⟨g, 0, none⟩ a').setCell ⟨g, 1, none⟩ b').setCell ⟨g, 2, none⟩ c') g t #[a', b', c'] := by
 have := ((h.set 0 a').set 1 b').set 2 c'
 simpa using this
theorem of_any (X Y : Option Addr) (cx cy v d : Nat) (xs : List (List Rat)) (ws : List Rat) (w : World) (hX : TRowsAt w X xs) (hY : Txts w Y ws) (ok : OfOk v d ws xs) (ht : PT w) :
    Calls Tryz.prog 9 #[.slice X xs.length cx, .slice Y ws.length cy, .int .i64 (d : Nat)] w (RetFun v d ((mons v d).map (sumTo ws xs xs.length)) w) := by
  obtain ⟨n, hn⟩ : ∃ n, xs.length = n := ⟨_, rfl⟩
  have hwl := ok.lw
  have HOK := Lib.hid ok
  have hn1 := ok.n1
  have hn2 := ok.n2
  have hv1 := ok.v1
  have hv6 := ok.v6
  have hd24 := ok.d24
  have hfew := ok.few
  rw [hn] at hwl hn1 hn2 ⊢
  rw [hwl]
  have HN := Lib.hid hn
  have HWL := Lib.hid hwl
  have HX := Lib.hid hX
  have HY := Lib.hid hY
  have HT := Lib.hid ht
  obtain ⟨W, hW⟩ : ∃ W, w.alloc (.cells #[.int .i64 0, .int .i64 0, .slice none 0 0] 24) = W := ⟨_, rfl⟩
  have hbW : Below w.heap.size w W := by rw [← hW]; exact (Below.refl _ _).alloc (Nat.le_refl _) _
  have HB6 : Hid (Blk W w.heap.size 24 #[.int .i64 0, .int .i64 0, .slice none 0 0]) := Lib.hid (by rw [← hW]; exact Blk.new _ _ _)
  have HBW := Lib.hid hbW
  have HNU : Hid (Calls Tryz.prog 14 #[.slice Y n cy] W fun e w' => e = .returned (.bool true) ∧ Below W.heap.size W w') := Lib.hid (by
   have := numbers_q Y cy ws W (hY.keep hbW) ok.shw (by omega)
   rwa [hwl] at this)
  have HWW := Lib.hid hW
  clear hX hY ht ok hn hwl hW
  go_enter Tryz.func9, Tryz.ntmps9
  go_upto_region 1 with (fail)
  rw [HWW.out]
  go_wp2_with (fail)
  refine HNU.out.mono ?_
  rintro e w1 ⟨rfl, hb1⟩
  have HB1 : Hid (Below W.heap.size W w1) := Lib.hid hb1
  clear HNU hb1 hbW
  go_wp2
  go_loopw [33] (fun s33 wr => ∃ k : Nat, s33 = .int .i64 (k : Nat) ∧ k ≤ n ∧ Hid (Below W.heap.size W wr)) (fun s33 _ => n - (intOf s33).toNat)
  case atStart => exact ⟨0, rfl, Nat.zero_le _, HB1⟩
  case round =>
   clear HB1
   obtain ⟨wo, rfl⟩ : ∃ wo : World, wo = wr := ⟨_, rfl⟩
   obtain ⟨k, rfl, hk, HB⟩ := hrel
   by_cases hkn : k = n
   ·have e1 : decide ((k : Int) < (n : Int)) = false := decide_eq_false (by omega)
    have e1' : decide (k < n) = false := decide_eq_false (by omega)
    clear hkn
    have f1 : decide ((n : Int) < 1) = false := decide_eq_false (by omega)
    have f2 : decide ((16 : Int) < (n : Int)) = false := decide_eq_false (by omega)
    have hkx : 0 < xs.length := by rw [HN.out]; exact hn1
    obtain ⟨ad, R0, c0, hXe, hc, hT0⟩ := (HX.out.keep (below_all HBW.out HB.out)).at hkx
    have hl0 : (xs[0]'hkx).length = v := HOK.out.dim _ (List.getElem_mem _)
    rw [hl0] at hc
    subst hXe
    have hc' : wo.cell? ad = some (.slice R0 v c0) := by simpa [Addr.add] using hc
    clear hT0 hl0 hc
    have g1 : decide ((v : Int) < 1) = false := decide_eq_false (by omega)
    have g2 : decide ((6 : Int) < (v : Int)) = false := decide_eq_false (by omega)
    have HB2 : Hid (Below W.heap.size W wo) := HB
    go_wp2
    go_loopw [64] (fun s64 wr => ∃ k : Nat, s64 = .int .i64 (k : Nat) ∧ k ≤ n ∧ Hid (Below W.heap.size W wr)) (fun s64 _ => n - (intOf s64).toNat)
    case atStart => exact ⟨0, rfl, Nat.zero_le _, HB2⟩
    case round =>
     clear HB2 HB hc' e1 e1'
     obtain ⟨wi, rfl⟩ : ∃ wi : World, wi = wr := ⟨_, rfl⟩
     obtain ⟨k, rfl, hk, HB⟩ := hrel
     by_cases hkn : k = n
     ·have e1 : decide ((k : Int) < (n : Int)) = false := decide_eq_false (by omega)
      have e1' : decide (k < n) = false := decide_eq_false (by omega)
      clear hkn
      have f3 : decide ((d : Int) < 0) = false := decide_eq_false (by omega)
      have f4 : decide ((24 : Int) < (d : Int)) = false := decide_eq_false (by omega)
      have f5 : decide ((1024 : Int) < ((cnt v d : Nat) : Int)) = false := decide_eq_false (by omega)
      have HCO := Lib.hid (fun V => count_any v d hv6 hd24 V)
      have HAL := Lib.hid (fun V => all_any v d hv6 hd24 (by omega) V)
      unfold RetMons at HAL
      obtain ⟨L, hL⟩ : ∃ L, cnt v d = L := ⟨_, rfl⟩
      rw [hL] at f5 hfew HCO
      have HL := Lib.hid hL
      clear hL
      go_wp2_with (first
        | (go_at_call 13; with_reducible refine Calls.mono (HCO.out _) ?_; rintro e w2 ⟨rfl, hb2⟩))
      refine (HAL.out _).mono ?_
      rintro e w3 ⟨MA, mc, rs, rfl, hOI, hms, hb3⟩
      have hrl : rs.length = L := by rw [← HL.out]; have := congrArg List.length hms; rw [List.length_map] at this; exact this
      rw [hrl]
      have hbw3 : Below w.heap.size w w3 := below_all (below_all (below_all HBW.out HB.out) hb2) hb3
      have HW3 := Lib.hid hbw3
      have HOI := Lib.hid hOI
      have HMS := Lib.hid hms
      have HRL := Lib.hid hrl
      have HB63 := Lib.hid ((HB6.out.keep (below_all (below_all HB.out hb2) hb3) HB6.out.lt))
      have hmk := make_txts L (by omega)
      clear hOI hms hrl hbw3 hb2 hb3 HCO HAL e1 e1'
      go_upto_region 27 with (fail)
      obtain ⟨W4, hW4⟩ : ∃ W4, (w3.alloc (.cells (madeCells #[.string ⟨#[]⟩] L) 9)).alloc (.cells #[.int .i64 (v : Nat), .int .i64 (d : Nat), .slice (some ⟨w3.heap.size, 0, none⟩) L L] 24) = W4 := ⟨_, rfl⟩
      have HF4 : Hid (Blk W4 (w3.heap.size + 1) 24 #[.int .i64 (v : Nat), .int .i64 (d : Nat), .slice (some ⟨w3.heap.size, 0, none⟩) L L]) := Lib.hid (by
       rw [← hW4]
       have := Blk.new (w3.alloc (.cells (madeCells #[.string ⟨#[]⟩] L) 9)) 24 #[.int .i64 (v : Nat), .int .i64 (d : Nat), .slice (some ⟨w3.heap.size, 0, none⟩) L L]
       simpa using this)
      have HV4 : Hid (Blk W4 w3.heap.size 9 (tpart (List.replicate L 0) L 0)) := Lib.hid (by
       rw [← hW4, ← tpart_zero]; exact (Blk.new _ _ _).alloc _)
      have HB4 : Hid (Below w3.heap.size w3 W4) := Lib.hid (by rw [← hW4]; exact ((Below.refl _ _).alloc (Nat.le_refl _) _).alloc (by simp) _)
      try rw [hW4]
      clear hW4 hmk
      obtain ⟨gv, hgv⟩ : ∃ g, w3.heap.size = g := ⟨_, rfl⟩
      rw [hgv] at HF4 HV4 HB4 ⊢
      have HGV := Lib.hid hgv
      have hf := HF4.out
      obtain ⟨x0, x1, x2, y0, y1, y2⟩ := hf.three
      clear hgv hf
      go_wp2
      go_loopw [117] (fun s117 wr => ∃ k : Nat, s117 = .int .i64 (k : Nat) ∧ k ≤ L ∧ Hid (Blk wr gv 9 (tpart (List.replicate L 0) L k) ∧ Blk wr (gv + 1) 24 #[.int .i64 (v : Nat), .int .i64 (d : Nat), .slice (some ⟨gv, 0, none⟩) L L] ∧ Below gv w3 wr)) (fun s117 _ => L - (intOf s117).toNat)
      case atStart => exact ⟨0, rfl, Nat.zero_le _, Lib.hid ⟨HV4.out, HF4.out, HB4.out⟩⟩
      case round =>
       clear HF4 HV4 HB4 x0 x1 x2 y0 y1 y2 f5
       obtain ⟨wj, rfl⟩ : ∃ wj : World, wj = wr := ⟨_, rfl⟩
       obtain ⟨k, rfl, hk, HST⟩ := hrel
       obtain ⟨x0, x1, x2, y0, y1, y2⟩ := HST.out.2.1.three
       by_cases hkn : k = L
       ·have e1 : decide ((k : Int) < (L : Int)) = false := decide_eq_false (by omega)
        have e1' : decide (k < L) = false := decide_eq_false (by omega)
        have HKL := Lib.hid hkn
        clear hkn
        go_wp2
        have hml : (mons v d).length = L := HL.out
        have HML := Lib.hid hml
        have HZ : Hid (Blk wj gv 9 (((mons v d).map (sumTo ws xs 0)).map vq).toArray) := Lib.hid (by
         have h1 := HST.out.1
         rw [HKL.out, tpart_all (by simp)] at h1
         have h2 : (mons v d).map (sumTo ws xs 0) = List.replicate L 0 := by
          rw [← hml, ← List.map_const']
          rfl
         rw [h2]; exact h1)
        have HV0 : Hid (Blk wj gv 9 (((mons v d).map (sumTo ws xs 0)).map vq).toArray ∧ Blk wj (gv + 1) 24 #[.int .i64 (v : Nat), .int .i64 (d : Nat), .slice (some ⟨gv, 0, none⟩) L L] ∧ Below gv w3 wj) := Lib.hid ⟨HZ.out, HST.out.2.1, HST.out.2.2⟩
        clear HZ hml
        go_loopw [127] (fun s127 wr => ∃ k : Nat, s127 = .int .i64 (k : Nat) ∧ k ≤ n ∧ Hid (Blk wr gv 9 (((mons v d).map (sumTo ws xs k)).map vq).toArray ∧ Blk wr (gv + 1) 24 #[.int .i64 (v : Nat), .int .i64 (d : Nat), .slice (some ⟨gv, 0, none⟩) L L] ∧ Below gv w3 wr)) (fun s127 _ => n - (intOf s127).toNat)
        case atStart => exact ⟨0, rfl, Nat.zero_le _, HV0⟩
        case round =>
         clear HV0 HST x0 x1 x2 y0 y1 y2 e1 e1'
         obtain ⟨wk, rfl⟩ : ∃ wk : World, wk = wr := ⟨_, rfl⟩
         obtain ⟨k, rfl, hk, HST⟩ := hrel
         obtain ⟨x0, x1, x2, y0, y1, y2⟩ := HST.out.2.1.three
         by_cases hkn : k = n
         ·have e1 : decide ((k : Int) < (n : Int)) = false := decide_eq_false (by omega)
          have e1' : decide (k < n) = false := decide_eq_false (by omega)
          have HKN := Lib.hid hkn
          clear hkn
          have hB6k : Blk wk w.heap.size 24 #[.int .i64 0, .int .i64 0, .slice none 0 0] := HB63.out.keep (by rw [HGV.out]; exact HST.out.2.2) HB63.out.lt
          obtain ⟨z0, z1, z2, r0, r1, r2⟩ := hB6k.three
          have hgw : w.heap.size < gv := by rw [← HGV.out]; exact HB63.out.lt
          have HBK := Lib.hid (HW3.out.trans (HST.out.2.2.mono (by omega)))
          have HB6K := Lib.hid hB6k
          clear hB6k
          go_wp2
          obtain ⟨p0, p1, p2, _⟩ := (blk_three' (a' := .int .i64 (v : Nat)) (b' := .int .i64 (d : Nat)) (c' := .slice (some ⟨gv, 0, none⟩) L L) HB6K.out).three
          refine bodyPost_ret (v := .tuple #[.agg #[.int .i64 (v : Nat), .int .i64 (d : Nat), .slice (some ⟨gv, 0, none⟩) L L], .int .i64 0]) (by simp [results, Tryz.results9, go_sem, p0, p1, p2]) rfl ⟨some ⟨gv, 0, none⟩, ?_, ?_, ?_⟩
          ·rw [List.length_map, HML.out]
          ·rw [← HKN.out]
           exact txts_of (((HST.out.1.far (by simp; omega) _).far (by simp; omega) _).far (by simp; omega) _)
          ·exact below_far (below_far (below_far HBK.out (Nat.le_refl _) _ _) (Nat.le_refl _) _ _) (Nat.le_refl _) _ _
         ·have hkl : k < n := by omega
          have e1 : decide ((k : Int) < (n : Int)) = true := decide_eq_true (by omega)
          have e1' : decide (k < n) = true := decide_eq_true hkl
          have q0 : (0 : Int) ≤ (k : Int) := by omega
          have q1 : (k : Int) < (n : Int) := by omega
          have hkx2 : k < xs.length := by rw [HN.out]; exact hkl
          have hb3k : Below w.heap.size w wk := HW3.out.trans (by rw [← HGV.out] at *; exact HST.out.2.2.mono HW3.out.size)
          have HBK := Lib.hid hb3k
          obtain ⟨ad2, R2, c2, hXe2, hc2, hT2⟩ := (HX.out.keep hb3k).at hkx2
          injection hXe2 with hXe2
          subst hXe2
          have hl2 : (xs[k]'hkx2).length = v := HOK.out.dim _ (List.getElem_mem _)
          have HPQ := Lib.hid (pows_q R2 c2 d (xs[k]'hkx2) wk hT2 (HOK.out.shx _ (List.getElem_mem _)) (by omega) (by omega) (HT.out.keep hb3k))
          unfold RetPows at HPQ
          have HXD : Hid (xs.getD k [] = xs[k]'hkx2) := Lib.hid (by simp [hkx2])
          obtain ⟨x, hx⟩ : ∃ x, xs[k]'hkx2 = x := ⟨_, rfl⟩
          rw [hx] at hl2 HPQ HXD hc2
          rw [hl2] at HPQ hc2
          have HL2 := Lib.hid hl2
          clear hkn hl2 hT2 hx hb3k
          go_wp2_with (fail)
          refine HPQ.out.mono ?_
          rintro e w5 ⟨gp, rows, rfl, hP, hb5⟩
          have hgk : gv + 1 < wk.heap.size := HST.out.2.1.lt
          have HV5 : Hid (PowsB wk.heap.size w5 gp d x rows ∧ Blk w5 gv 9 ((vals (sumTo ws xs k) (sumTo ws xs (k + 1)) (mons v d) 0).map vq).toArray ∧ Blk w5 (gv + 1) 24 #[.int .i64 (v : Nat), .int .i64 (d : Nat), .slice (some ⟨gv, 0, none⟩) L L] ∧ Below gv w3 w5) := Lib.hid (by
           refine ⟨hP, ?_, HST.out.2.1.keep hb5 HST.out.2.1.lt, ?_⟩
           ·rw [vals_zero]; exact HST.out.1.keep hb5 HST.out.1.lt
           ·exact HST.out.2.2.trans (hb5.mono (by omega)))
          clear hP HPQ x0 x1 x2 y0 y1 y2 hc2
          have HP0 := Lib.hid hb5
          clear hb5
          go_wp2
          go_loopw [137] (fun s137 wr => ∃ i : Nat, s137 = .int .i64 (i : Nat) ∧ i ≤ L ∧ Hid (PowsB wk.heap.size wr gp d x rows ∧ Blk wr gv 9 ((vals (sumTo ws xs k) (sumTo ws xs (k + 1)) (mons v d) i).map vq).toArray ∧ Blk wr (gv + 1) 24 #[.int .i64 (v : Nat), .int .i64 (d : Nat), .slice (some ⟨gv, 0, none⟩) L L] ∧ Below gv w3 wr)) (fun s137 _ => L - (intOf s137).toNat)
          case atStart => exact ⟨0, rfl, Nat.zero_le _, HV5⟩
          case round =>
           clear HV5 HST
           obtain ⟨wl, rfl⟩ : ∃ wl : World, wl = wr := ⟨_, rfl⟩
           obtain ⟨i, rfl, hi, HST⟩ := hrel
           by_cases hiL : i = L
           ·have e2 : decide ((i : Int) < (L : Int)) = false := decide_eq_false (by omega)
            have e2' : decide (i < L) = false := decide_eq_false (by omega)
            have HIL := Lib.hid hiL
            clear hiL
            go_wp2
            go_roundw
            case rel =>
             refine ⟨k + 1, by go_num, by omega, Lib.hid ⟨?_, HST.out.2.2⟩⟩
             have h := HST.out.2.1
             rw [HIL.out, ← HML.out, vals_all] at h
             exact h
            case measure => simp [intOf]; omega
           ·have hil : i < L := by omega
            have e2 : decide ((i : Int) < (L : Int)) = true := decide_eq_true (by omega)
            have e2' : decide (i < L) = true := decide_eq_true hil
            have r0 : (0 : Int) ≤ (i : Int) := by omega
            have r1 : (i : Int) < (L : Int) := by omega
            have him : i < (mons v d).length := by rw [HML.out]; exact hil
            have hir : i < rs.length := by rw [HRL.out]; exact hil
            obtain ⟨am, hAM, hcm, hIm⟩ := (HOI.out.keep (by rw [HGV.out]; exact HST.out.2.2.2)).lists hir
            have hme : rs[i].l = (mons v d)[i] := by
             have h1 : (rs.map IRow.l)[i]? = (mons v d)[i]? := by rw [HMS.out]
             simpa [hir, him] using h1
            have hmm : (mons v d)[i] ∈ mons v d := List.getElem_mem _
            rw [hme] at hcm hIm
            obtain ⟨mo, hmo⟩ : ∃ mo, (mons v d)[i] = mo := ⟨_, rfl⟩
            have HMO : Hid (∃ h : i < (mons v d).length, (mons v d)[i] = mo) := Lib.hid ⟨him, hmo⟩
            rw [hmo] at hcm hIm hmm
            obtain ⟨hmol, hmob⟩ := mons_mem hmm
            rw [hmol] at hcm
            subst hAM
            have HMM := Lib.hid hmm
            have HMOL := Lib.hid hmol
            have HMOB := Lib.hid hmob
            have HIM := Lib.hid hIm
            have hb3l : Below w.heap.size w wl := HW3.out.trans (HST.out.2.2.2.mono (by have := HW3.out.size; have := HGV.out; omega))
            have HBL := Lib.hid hb3l
            obtain ⟨aw, hYe, hcw⟩ := Txts.at (HY.out.keep hb3l) (k := k) (by rw [HWL.out]; exact hkl)
            subst hYe
            have hwk : k < ws.length := by rw [HWL.out]; exact hkl
            obtain ⟨U0, hU0⟩ : ∃ U, qtx (ws[k]'hwk) = U := ⟨_, rfl⟩
            rw [hU0] at hcw
            have HU0 : Hid (U0 = qtx (tmTo (ws.getD k 0) x mo 0)) := Lib.hid (by
             rw [← hU0]
             unfold tmTo
             simp [hwk])
            generalize rs[i].A = mA at *
            generalize rs[i].c = mC at *
            clear hmo hme hmm hmol hmob hIm hb3l hU0 hiL him hir
            have HBZ : Hid (Below wl.heap.size wl wl) := Lib.hid (Below.refl _ _)
            go_wp2
            go_loopw [24, 148] (fun s24 s148 wr => ∃ (j : Nat) (U : ByteArray), s24 = .string U ∧ s148 = .int .i64 (j : Nat) ∧ j ≤ v ∧ Hid (U = qtx (tmTo (ws.getD k 0) x mo j)) ∧ Hid (Below wl.heap.size wl wr)) (fun _ s148 _ => v - (intOf s148).toNat)
            case atStart => exact ⟨0, U0, rfl, rfl, Nat.zero_le _, HU0, HBZ⟩
            case round =>
             clear HU0 HBZ hcm hcw
             obtain ⟨wm, rfl⟩ : ∃ wm : World, wm = wr := ⟨_, rfl⟩
             obtain ⟨j, U, rfl, rfl, hj, HU, HBM⟩ := hrel
             by_cases hjv : j = v
             ·have e3 : decide ((j : Int) < (v : Int)) = false := decide_eq_false (by omega)
              have e3' : decide (j < v) = false := decide_eq_false (by omega)
              have HJV := Lib.hid hjv
              clear hjv
              have hFB := HST.out.2.2.1.keep HBM.out HST.out.2.2.1.lt
              have hVB := HST.out.2.1.keep HBM.out HST.out.2.1.lt
              obtain ⟨x0, x1, x2, y0, y1, y2⟩ := hFB.three
              obtain ⟨him2, hmoe⟩ := HMO.out
              have hcv : wm.cell? ⟨gv, i, none⟩ = some (.string (qtx (sumTo ws xs k mo))) := by
               rw [hVB.cell i]
               have := vals_at (sumTo ws xs k) (sumTo ws xs (k + 1)) (mons v d) him2
               rw [hmoe] at this
               simp [this, vq]
              have fv := hVB.frozen i
              have HTM : Hid (tmTo (ws.getD k 0) x mo j = tm (ws.getD k 0) (xs.getD k []) mo) := Lib.hid (by unfold tm; rw [HXD.out, HJV.out, HMOL.out])
              have HAD := Lib.hid (add_q (sumTo ws xs k mo) (tmTo (ws.getD k 0) x mo j) (HOK.out.shs k (by rw [HN.out]; omega) mo HMM.out) (by
               have := HOK.out.sht k (by rw [HN.out]; exact hkl) mo HMM.out j (by omega)
               rwa [HXD.out] at this))
              have HSU : Hid (sumTo ws xs k mo + tmTo (ws.getD k 0) x mo j = sumTo ws xs (k + 1) mo) := Lib.hid (by rw [HTM.out]; rfl)
              rw [HSU.out, ← HU.out] at HAD
              unfold RetTx at HAD
              have HADW : Hid (∀ V, Below wm.heap.size wm V → Calls Tryz.prog 18 #[.string (qtx (sumTo ws xs k mo)), .string U] V fun e w' => e = .returned (.string (qtx (sumTo ws xs (k + 1) mo))) ∧ Below V.heap.size V w') := Lib.hid (fun V h => HAD.out V (HT.out.keep (below_all (below_all HBL.out HBM.out) h)))
              have HSET : Hid ((vals (sumTo ws xs k) (sumTo ws xs (k + 1)) (mons v d) i).set i (sumTo ws xs (k + 1) mo) = vals (sumTo ws xs k) (sumTo ws xs (k + 1)) (mons v d) (i + 1)) := Lib.hid (by rw [← vals_set _ _ _ him2, hmoe])
              obtain ⟨V1, hV1⟩ : ∃ V1, qtx (sumTo ws xs k mo) = V1 := ⟨_, rfl⟩
              obtain ⟨V2, hV2⟩ : ∃ V1, qtx (sumTo ws xs (k + 1) mo) = V1 := ⟨_, rfl⟩
              rw [hV1] at hcv HADW
              rw [hV2] at HADW
              have HV2 := Lib.hid hV2
              have HFB := Lib.hid hFB
              have HVB := Lib.hid hVB
              have hbe : Below wm.heap.size wm wm.drew := (Below.refl _ _).drew
              have hvl := hVB.lt
              clear hV1 hV2 hFB hVB HAD him2 hmoe
              go_wp2
              go_region_with
                (first | (go_at_call 18; with_reducible refine Calls.mono (HADW.out _ (by assumption)) ?_; rintro e w7 ⟨rfl, hb7⟩; have hbe := below_all hbe hb7; have x2 := keep_cell hbe x2; have Y := HVB.out.keep hbe HVB.out.lt; have hcv := keep_cell hbe hcv; have fv := Y.frozen i))
              all_goals
                go_wp2
                go_roundw
                case rel =>
                 refine ⟨i + 1, by go_num, by omega, Lib.hid ⟨?_, ?_, ?_, ?_⟩⟩
                 ·exact ((HST.out.1.keep HBM.out).keep hbe).far (by omega) _ _
                 ·rw [← HSET.out]
                  have h := txts_set Y i (sumTo ws xs (k + 1) mo)
                  rw [HV2.out] at h
                  exact h
                 ·exact (HFB.out.keep hbe HFB.out.lt).far (by simp) _
                 ·exact below_far (HST.out.2.2.2.trans ((HBM.out.trans (hbe.mono HBM.out.size)).mono (by have := HST.out.2.1.lt; omega))) (Nat.le_refl _) _ _
                case measure => simp [intOf]; omega
             ·have hjl : j < v := by omega
              have e3 : decide ((j : Int) < (v : Int)) = true := decide_eq_true (by omega)
              have e3' : decide (j < v) = true := decide_eq_true hjl
              have t0 : (0 : Int) ≤ (j : Int) := by omega
              have t1 : (j : Int) < (v : Int) := by omega
              have hjm : j < mo.length := by rw [HMOL.out]; exact hjl
              have hjx : j < x.length := by rw [HL2.out]; exact hjl
              obtain ⟨ae, hAE, hce⟩ := Ints.at (HIM.out.keep HBM.out) hjm
              subst hAE
              obtain ⟨ej, hej⟩ : ∃ e : Nat, mo[j] = (e : Int) := ⟨(mo[j]).toNat, by have := (HMOB.out _ (List.getElem_mem hjm)).1; omega⟩
              have hed : ej ≤ d := by have := (HMOB.out _ (List.getElem_mem hjm)).2; omega
              rw [hej] at hce
              obtain ⟨Rp, cp, hcp, hTp⟩ := (HST.out.1.keep HBM.out).at hjx
              obtain ⟨hep, hpe⟩ := pw_at d (x[j]'hjx) hed
              obtain ⟨ap, hAP, hcq⟩ := Txts.at hTp hep
              rw [hpe] at hcq
              subst hAP
              have HEJ : Hid (tmTo (ws.getD k 0) x mo (j + 1) = tmTo (ws.getD k 0) x mo j * (x[j]'hjx) ^ ej) := Lib.hid (by
               show tmTo (ws.getD k 0) x mo j * (x.getD j 0) ^ ((mo.getD j 0).toNat) = _
               have h1 : x.getD j 0 = x[j]'hjx := by simp [hjx]
               have h2 : (mo.getD j 0).toNat = ej := by simp [hjm, hej]
               rw [h1, h2])
              have hxm : x ∈ xs := by rw [← HXD.out]; simp [hkx2]
              have HM1 := Lib.hid (mul_q (tmTo (ws.getD k 0) x mo j) ((x[j]'hjx) ^ ej) (by
               have := HOK.out.sht k (by rw [HN.out]; exact hkl) mo HMM.out j (by omega)
               rw [HXD.out] at this
               exact this) ((HOK.out.shx x hxm _ (List.getElem_mem _)).2 ej hed) wm (HT.out.keep (below_all HBL.out HBM.out)))
              rw [← HU.out, ← HEJ.out] at HM1
              unfold RetTx at HM1
              obtain ⟨U2, hU2⟩ : ∃ U2, qtx (tmTo (ws.getD k 0) x mo (j + 1)) = U2 := ⟨_, rfl⟩
              obtain ⟨V2, hV2⟩ : ∃ U2, qtx ((x[j]'hjx) ^ ej) = U2 := ⟨_, rfl⟩
              rw [hU2, hV2] at HM1
              rw [hV2] at hcq
              have HU2 := Lib.hid hU2
              have s0 : (0 : Int) ≤ (ej : Int) := by omega
              have s1 : (ej : Int) < (d : Int) + 1 := by omega
              clear hU2 hV2 hpe hTp hej hjv
              go_wp2_with (fail)
              refine HM1.out.mono ?_
              rintro e w7 ⟨rfl, hb7⟩
              go_wp2
              go_roundw
              case rel => exact ⟨j + 1, U2, rfl, by go_num, by omega, Lib.hid HU2.out.symm, Lib.hid (below_all HBM.out hb7)⟩
              case measure => simp [intOf]; omega
       ·have hkl : k < L := by omega
        have e1 : decide ((k : Int) < (L : Int)) = true := decide_eq_true (by omega)
        have e1' : decide (k < L) = true := decide_eq_true hkl
        have q0 : (0 : Int) ≤ (k : Int) := by omega
        have q1 : (k : Int) < (L : Int) := by omega
        have hB := HST.out.1
        obtain ⟨u, hu⟩ := tpart_at (qs := List.replicate L 0) (by simp) hkl
        have c0 : wj.cell? ⟨gv, k, none⟩ = some u := by rw [hB.cell k]; exact hu
        have f0 := hB.frozen k
        have HSET : Hid ((tpart (List.replicate L 0) L k).setIfInBounds k (.string ⟨#[48]⟩) = tpart (List.replicate L 0) L (k + 1)) := Lib.hid (by
         have := tpart_set (qs := List.replicate L 0) (by simp) hkl
         rw [List.getElem_replicate, qtx_zero] at this
         exact this)
        clear hu hB hkn
        go_wp2
        go_roundw
        case rel =>
         refine ⟨k + 1, by go_num, by omega, Lib.hid ⟨?_, HST.out.2.1.far (by simp) _, below_far HST.out.2.2 (Nat.le_refl _) _ _⟩⟩
         rw [← HSET.out]
         exact HST.out.1.set _ _
        case measure => simp [intOf]; omega
     ·have hkl : k < n := by omega
      have e1 : decide ((k : Int) < (n : Int)) = true := decide_eq_true (by omega)
      have e1' : decide (k < n) = true := decide_eq_true hkl
      have hkx2 : k < xs.length := by rw [HN.out]; exact hkl
      obtain ⟨ad2, R2, c2, hXe2, hc2, hT2⟩ := (HX.out.keep (below_all HBW.out HB.out)).at hkx2
      injection hXe2 with hXe2
      subst hXe2
      have hl2 : (xs[k]'hkx2).length = v := HOK.out.dim _ (List.getElem_mem _)
      rw [hl2] at hc2
      have q0 : (0 : Int) ≤ (k : Int) := by omega
      have q1 : (k : Int) < (n : Int) := by omega
      clear hkn hl2 hT2
      go_wp2
      go_roundw
      case rel => exact ⟨k + 1, by go_num, by omega, HB⟩
      case measure => simp [intOf]; omega
   ·have hkl : k < n := by omega
    have e1 : decide ((k : Int) < (n : Int)) = true := decide_eq_true (by omega)
    have e1' : decide (k < n) = true := decide_eq_true hkl
    have hkx2 : k < xs.length := by rw [HN.out]; exact hkl
    obtain ⟨ad2, R2, c2, hXe2, hc2, hT2⟩ := (HX.out.keep (below_all HBW.out HB.out)).at hkx2
    subst hXe2
    have HNU := Lib.hid (numbers_q R2 c2 (xs[k]'hkx2) wo hT2 (fun q hq => (HOK.out.shx _ (List.getElem_mem _) q hq).1) (by rw [HOK.out.dim _ (List.getElem_mem _)]; omega))
    have q0 : (0 : Int) ≤ (k : Int) := by omega
    have q1 : (k : Int) < (n : Int) := by omega
    generalize (xs[k]'hkx2).length = l at *
    clear hkn hT2
    go_wp2_with (fail)
    refine HNU.out.mono ?_
    rintro e w5 ⟨rfl, hb5⟩
    go_wp2
    go_roundw
    case rel => exact ⟨k + 1, by go_num, by omega, Lib.hid (below_all HB.out hb5)⟩
    case measure => simp [intOf]; omega
end Go.Proofs.Tg.Fi
end
