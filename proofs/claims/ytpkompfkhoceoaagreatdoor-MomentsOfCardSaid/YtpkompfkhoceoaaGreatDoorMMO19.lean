/- Parts of the proof: MO6, OF1, RO1, LO1, KN0. -/
import Derived.Laws.MakeOwn
import Derived.Test.YtpkompfkhoceoaaGreatDoorMMO13
import Derived.Test.YtpkompfkhoceoaaGreatDoorMMO14
import Derived.Test.YtpkompfkhoceoaaGreatDoorMMO16
import Derived.Test.YtpkompfkhoceoaaGreatDoorMMO18
section
/- The program's list of all monomials. -/
namespace Go.Proofs.Tg
open Go.RowKit Go.Mm
set_option maxHeartbeats 8000000
set_option maxRecDepth 100000
theorem all_any (n d : Nat) (hn : n ≤ 6) (hd : d ≤ 24) (hc : cnt n d ≤ 4096) (w : World) :
    Calls Tryz.prog 38 #[.int .i64 (n : Nat), .int .i64 (d : Nat)] w (RetMons n d w) := by
  obtain ⟨j0, hj, jz0, jz1, jz2⟩ := info_parts irow_info
  have HCO := Lib.hid (count_any n d hn hd w)
  obtain ⟨k0, hk0⟩ : ∃ k, cnt n d = k := ⟨_, rfl⟩
  have HML := Lib.hid (fun k (h : k ≤ d + 1) => monTo_le n d k h)
  rw [hk0] at HCO hc HML
  have d1 : decide ((4096 : Int) < (k0 : Int)) = false := decide_eq_false (by omega)
  have hmk := fun W => run_make_own (P := Tryz.prog) W W.heap.size 80 41 j0 _ 1 Tryz.underlying80 hj jz0 jz1 .i64 .i64 k0 (by rw [jz2]; omega) (by simp only [maxLen]; omega) (Nat.le_refl _)
  have HMK := Lib.hid hmk
  clear hk0 hmk
  go_enter Tryz.func38, Tryz.ntmps38
  go_wp2_with (fail)
  refine HCO.out.mono ?_
  rintro e w1 ⟨rfl, hb1⟩
  obtain ⟨w2, hrun, hown, hgrow⟩ := HMK.out w1
  have hb2 : Below w.heap.size w w2 := hb1.grown hgrow hb1.size (fun k hk => by cases hk)
  have HST : Hid (OwnI w.heap.size w2 (some ⟨w1.heap.size, 0, none⟩) k0 [] ∧ Below w.heap.size w w2) := Lib.hid ⟨⟨own_base hown hb1.size, fun r hr => absurd hr (by simp)⟩, hb2⟩
  clear hown hgrow HMK HCO
  go_wp2
  go_loopw [8, 24] (fun s8 s24 wr => ∃ (k : Nat) (A : Option Addr) (c : Nat) (rs : List IRow), s8 = .slice A rs.length c ∧ s24 = .int .i64 (k : Nat) ∧ k ≤ d + 1 ∧ Hid (rs.map IRow.l = monTo n k) ∧ Hid (OwnI w.heap.size wr A c rs ∧ Below w.heap.size w wr)) (fun _ s24 _ => d + 1 - (intOf s24).toNat)
  case atStart => exact ⟨0, _, k0, [], rfl, rfl, Nat.zero_le _, Lib.hid rfl, HST⟩
  case round =>
    clear HST hrun
    obtain ⟨wo, rfl⟩ : ∃ wo : World, wo = wr := ⟨_, rfl⟩
    obtain ⟨k, A, c, rs, rfl, rfl, hk, HEQ, HST⟩ := hrel
    by_cases hkd : k = d + 1
    · have e1 : decide ((k : Int) < (d : Int) + 1) = false := decide_eq_false (by omega)
      have HK := Lib.hid hkd
      clear hkd
      go_wp2
      go_ret2
      exact ⟨A, c, rs, rfl, HST.out.1, by rw [HEQ.out, HK.out, monTo_all], HST.out.2⟩
    · have hk2 : k ≤ d := by omega
      have e1 : decide ((k : Int) < (d : Int) + 1) = true := decide_eq_true (by omega)
      have hrl : rs.length + (exactL n k).length ≤ 4096 := by
        have h1 := congrArg List.length HEQ.out
        rw [List.length_map] at h1
        have h2 := HML.out (k + 1) (by omega)
        rw [monTo_len] at h2
        omega
      have HC := appdeg_any n k w.heap.size wo A c rs none 0 [] HST.out.1 HST.out.2.size (World.ownsRow_nil _ _ _ _) (by omega) (by simp; omega) (by omega) (by omega)
      unfold RetApp at HC
      have e2 : (exactL n k).map (· ++ ([] : List Int)) = exactL n k := by simp
      rw [e2, List.length_nil] at HC
      obtain ⟨nr, hnr⟩ : ∃ x, rs.length = x := ⟨_, rfl⟩
      rw [hnr] at HC ⊢
      have HNR := Lib.hid hnr
      have HC := Lib.hid HC
      clear e2 hnr hrl hkd
      go_wp2_with (fail)
      refine HC.out.mono ?_
      rintro e w5 ⟨A5, c5, rs5, rfl, hO5, he5, hg5, hat5⟩
      go_wp2
      go_roundw
      case rel =>
        refine ⟨k + 1, A5, c5, rs5, rfl, by go_num, by omega, Lib.hid (by rw [he5, HEQ.out, monTo_succ]), Lib.hid ⟨hO5, ?_⟩⟩
        refine HST.out.2.grown hg5 HST.out.2.size (fun j hj => ?_)
        have := HST.out.1.own
        rw [HNR.out] at this
        exact (this.lt j hj).1
      case measure => simp [intOf]; omega
end Go.Proofs.Tg
end
section
/- Plain and memory: the values of the functional of points. -/
namespace Go.Rq
/-- A weight times powers of coordinates. -/
def tmTo (w : Rat) (x : List Rat) (m : List Int) : Nat → Rat
  | 0 => w
  | k + 1 => tmTo w x m k * (x.getD k 0) ^ ((m.getD k 0).toNat)
def tm (w : Rat) (x : List Rat) (m : List Int) : Rat := tmTo w x m m.length
def sumTo (ws : List Rat) (xs : List (List Rat)) : Nat → List Int → Rat
  | 0, _ => 0
  | k + 1, m => sumTo ws xs k m + tm (ws.getD k 0) (xs.getD k []) m
/-- A list of values of which the first i are new. -/
def vals (f h : List Int → Rat) (ms : List (List Int)) (i : Nat) : List Rat := (ms.take i).map h ++ (ms.drop i).map f
theorem vals_zero (f h : List Int → Rat) (ms : List (List Int)) : vals f h ms 0 = ms.map f := by simp [vals]
theorem vals_all (f h : List Int → Rat) (ms : List (List Int)) : vals f h ms ms.length = ms.map h := by simp [vals]
theorem vals_at (f h : List Int → Rat) (ms : List (List Int)) {i : Nat} (hi : i < ms.length) : (vals f h ms i)[i]? = some (f ms[i]) := by
  unfold vals
  rw [List.getElem?_append_right (by simp; omega), List.length_map, List.length_take, Nat.min_eq_left (by omega), Nat.sub_self, List.drop_eq_getElem_cons hi]; rfl
theorem vals_set (f h : List Int → Rat) (ms : List (List Int)) {i : Nat} (hi : i < ms.length) : (vals f h ms i).set i (h ms[i]) = vals f h ms (i + 1) := by
  unfold vals
  rw [List.set_append_right _ _ (by simp; omega), List.length_map, List.length_take, Nat.min_eq_left (by omega), Nat.sub_self, List.drop_eq_getElem_cons hi, List.map_cons, List.set_cons_zero, List.take_succ_eq_append_getElem hi, List.map_append, List.map_cons, List.map_nil, List.append_assoc]
  rfl
end Go.Rq
namespace Go.Proofs.Tg.Fi
open Go.RowKit Go.Rq Go.Qn Go.Bn Go.Mm Go.Proofs.Tg
set_option maxHeartbeats 8000000
set_option maxRecDepth 100000
/-- Rows of texts that can be read. -/
structure TRowsAt (w : World) (A : Option Addr) (xs : List (List Rat)) : Prop where
  ex : ∃ rows : List TRow, Sl w A rows.length 1 (rows.map TRow.cell) ∧ rows.map TRow.qs = xs ∧ ∀ r ∈ rows, Txts w r.A r.qs
theorem TRowsAt.keep {w w' : World} {A : Option Addr} {xs : List (List Rat)} (h : TRowsAt w A xs) (hb : Below w.heap.size w w') : TRowsAt w' A xs := by
  obtain ⟨rows, h1, h2, h3⟩ := h.ex
  exact ⟨rows, h1.keep hb, h2, fun r hr => (h3 r hr).keep hb⟩
theorem TRowsAt.at {w : World} {A : Option Addr} {xs : List (List Rat)} (h : TRowsAt w A xs) {k : Nat} (hk : k < xs.length) : ∃ ad R c, A = some ad ∧ w.cell? (ad.add k) = some (.slice R xs[k].length c) ∧ Txts w R xs[k] := by
  obtain ⟨rows, h1, h2, h3⟩ := h.ex
  have hl : rows.length = xs.length := by rw [← h2, List.length_map]
  have hk2 : k < rows.length := by omega
  obtain ⟨ad, e, hc⟩ := Sl.at1 h1 hk2
  have hx : xs[k] = rows[k].qs := by subst h2; simp
  refine ⟨ad, rows[k].A, rows[k].c, e, ?_, ?_⟩
  · rw [hx]; simpa [TRow.cell] using hc
  · rw [hx]; exact h3 _ (List.getElem_mem _)
theorem qtx_zero : qtx (0 : Rat) = ⟨#[48]⟩ := by
  rw [show (0 : Rat) = ((0 : Int) : Rat) from rfl, qtx_int]
  have : Lib.itoa 0 = [48] := by unfold Lib.itoa; rw [if_neg (by omega)]; exact dec_zero
  rw [this]; rfl
/-- The functional that a call returns. -/
def RetFun (v d : Nat) (qs : List Rat) (w : World) (e : Ending) (w' : World) : Prop := ∃ A, e = .returned (.tuple #[.agg #[.int .i64 (v : Nat), .int .i64 (d : Nat), .slice A qs.length qs.length], .int .i64 0]) ∧ Txts w' A qs ∧ Below w.heap.size w w'
theorem txts_set {w : World} {g : Nat} {qs : List Rat} (h : Blk w g 9 (qs.map vq).toArray) (i : Nat) (q : Rat) : Blk (w.setCell ⟨g, i, none⟩ (.string (qtx q))) g 9 ((qs.set i q).map vq).toArray := by
  have := h.set i (.string (qtx q))
  rw [List.setIfInBounds_toArray, show Value.string (qtx q) = vq q from rfl, ← List.map_set] at this
  exact this
/-- What the innermost loop of Of needs of its data. -/
structure OfOk (v d : Nat) (ws : List Rat) (xs : List (List Rat)) : Prop where
  n1 : 1 ≤ xs.length
  n2 : xs.length ≤ 16
  lw : ws.length = xs.length
  dim : ∀ x ∈ xs, x.length = v
  v1 : 1 ≤ v
  v6 : v ≤ 6
  d24 : d ≤ 24
  few : cnt v d ≤ 1024
  shw : ∀ q ∈ ws, Sh q
  shx : ∀ x ∈ xs, ∀ q ∈ x, Sh q ∧ ∀ e, e ≤ d → Sh (q ^ e)
  sht : ∀ k, k < xs.length → ∀ m ∈ mons v d, ∀ j, j ≤ v → Sh (tmTo (ws.getD k 0) (xs.getD k []) m j)
  shs : ∀ k, k ≤ xs.length → ∀ m ∈ mons v d, Sh (sumTo ws xs k m)
end Go.Proofs.Tg.Fi
end
section
/- What the reference's functional of points needs: the values, the points in memory, the number one. -/
namespace Go.Rq
theorem tm_pr (w : Rat) (x : List Rat) (m : List Int) : ∀ k, tmTo w x m k = w * prTo x m k
  | 0 => by show w = w * 1; rw [Rat.mul_one]
  | k + 1 => by
    show tmTo w x m k * _ = w * (prTo x m k * _)
    rw [tm_pr w x m k, Rat.mul_assoc]
end Go.Rq
namespace Go.Proofs.Tg
open Go.RowKit Go.Gr Go.Bn Go.Rq Go.Mm
open Go.Proofs.Tg.Fi (QsAt)
open Go.Proofs.Tg.Sx (one1)
set_option maxHeartbeats 8000000
set_option maxRecDepth 100000
/-- Points that can be read. -/
structure PtsAt (w : World) (X : Option Addr) (ps : List PRow2) : Prop where
  sl : Sl w X ps.length 1 (ps.map PRow2.cell)
  ok : ∀ p ∈ ps, QsAt w p.A p.rs
theorem PtsAt.keep {w w' : World} {X : Option Addr} {ps : List PRow2} (h : PtsAt w X ps) (hb : Below w.heap.size w w') : PtsAt w' X ps := ⟨h.sl.keep hb, fun p hp => (h.ok p hp).keep hb⟩
theorem OwnP.pts {base : Nat} {w : World} {X : Option Addr} {c : Nat} {ps : List PRow2} (h : OwnP base w X c ps) : PtsAt w X ps := ⟨Sl.own h.own, fun p hp => Fi.OwnQ.qs (h.rows p hp)⟩
theorem PtsAt.at {w : World} {X : Option Addr} {ps : List PRow2} (h : PtsAt w X ps) {k : Nat} (hk : k < ps.length) : ∃ ad, X = some ad ∧ w.cell? (ad.add k) = some (.slice ps[k].A ps[k].rs.length ps[k].c) ∧ QsAt w ps[k].A ps[k].rs := by
  obtain ⟨ad, e, hc⟩ := Sl.at1 h.sl (k := k) hk
  exact ⟨ad, e, by simpa [PRow2.cell] using hc, h.ok _ (List.getElem_mem hk)⟩
/-- Points as rational numbers. -/
def ptQ (ps : List PRow2) : List (List Rat) := ps.map fun p => p.rs.map RVal.q
/-- What the reference's Of needs of its data. -/
structure ROk (v d : Nat) (ws : List Rat) (xs : List (List Rat)) : Prop where
  n1 : 1 ≤ xs.length
  n2 : xs.length ≤ 16
  lw : ws.length = xs.length
  dim : ∀ x ∈ xs, x.length = v
  v1 : 1 ≤ v
  v6 : v ≤ 6
  d24 : d ≤ 24
  few : cnt v d ≤ 1024
  int : ∀ x ∈ xs, ∀ q ∈ x, ∃ z : Int, q = (z : Rat) ∧ z.natAbs ≤ 16
  qw : ∀ q ∈ ws, QS q
  qp : ∀ x ∈ xs, ∀ m ∈ mons v d, ∀ k, k ≤ v → QS (prTo x m k)
  qs : ∀ k, k ≤ xs.length → ∀ m ∈ mons v d, QS (sumTo ws xs k m)
  qt : ∀ k, k < xs.length → ∀ m ∈ mons v d, QS (tm (ws.getD k 0) (xs.getD k []) m)
theorem QS.zero : QS 0 := ⟨by decide, by decide⟩
/-- The number one, as num.R gives it. -/
def r1v (A : Option Addr) (c : Nat) : RVal := ⟨1, A, c, none, 0⟩
theorem r1v_parts : decide ((1 : Rat).num < 0) = false ∧ (dg (1 : Rat).num.natAbs).length = 1 ∧ (dg (dnz (1 : Rat).den)).length = 0 := by
  refine ⟨rfl, ?_, ?_⟩
  · show (dg 1).length = 1
    rw [dg_small (by decide) (by decide)]; rfl
  · show (dg (dnz 1)).length = 0; rw [dnz_one, dg_zero]; rfl
theorem r1v_cells (A : Option Addr) (c : Nat) : (r1v A c).cells = [.bool false, .slice A 1 c, .bool false, .slice none 0 0] := by
  unfold RVal.cells r1v
  rw [r1v_parts.1, r1v_parts.2.1, r1v_parts.2.2]
theorem one_cells (A : Option Addr) (c : Nat) (E : Option Addr) (ce : Nat) (el : List Int) : (one1 A c E ce el).cells = (r1v A c).cells ++ [.slice E el.length ce] := by
  rw [r1v_cells]; rfl
theorem r_one (w : World) :
    Calls Tryz.prog 52 #[.int .i64 1] w fun e w' => ∃ A c, e = .returned (.agg #[.bool false, .slice A 1 c, .bool false, .slice none 0 0]) ∧ (r1v A c).Ok w' ∧ Below w.heap.size w w' := by
  obtain ⟨W, hW⟩ : ∃ W, w.alloc (.cells #[.bool false, .slice none 0 0, .bool false, .slice none 0 0] 52) = W := ⟨_, rfl⟩
  have hbA : Below w.heap.size w W := by rw [← hW]; exact (Below.refl _ _).alloc (Nat.le_refl _) _
  have B0 : Blk W w.heap.size 52 #[.bool false, .slice none 0 0, .bool false, .slice none 0 0] := by rw [← hW]; exact Blk.new _ _ _
  have HWW := Lib.hid hW
  have HFI : Hid (∀ V, Calls Tryz.prog 47 #[.int .i64 1] V fun e w' => ∃ R c, e = .returned (.agg #[.bool false, .slice R 1 c]) ∧ ND w' R c 1 ∧ Below V.heap.size V w') := Lib.hid (fun V => by
    have h := fromint_num 1 (by decide) (by decide) V
    refine h.mono ?_
    rintro e w' ⟨R, c, rfl, hN, hb⟩
    exact ⟨R, c, by rw [show decide ((1 : Int) < 0) = false from rfl, show (dg (1 : Int).natAbs).length = 1 from r1v_parts.2.1], hN, hb⟩)
  clear hW
  obtain ⟨a0, a1, a2, a3, f0, f1, f2, f3⟩ := B0.four
  go_enter Tryz.func52, Tryz.ntmps52
  go_upto_region 1 with (fail)
  rw [HWW.out]
  go_wp2_with (go_at_call 47; refine (HFI.out _).mono ?_; rintro e w3 ⟨A, c, rfl, hD, hb3⟩; have B3 := B0.keep hb3 B0.lt; obtain ⟨a0, a1, a2, a3, f0, f1, f2, f3⟩ := B3.four)
  obtain ⟨g0, g1, g2, g3, _⟩ := (blk_four (a' := .bool false) (b' := .slice A 1 c) (c' := .bool false) (d' := .slice none 0 0) B3).four
  refine bodyPost_ret (v := .agg #[.bool false, .slice A 1 c, .bool false, .slice none 0 0]) (by simp [results, Tryz.results52, go_sem, g0, g1, g2, g3]) rfl ⟨A, c, rfl, ⟨?_, ?_⟩, Below.four (below_all hbA hb3) (Nat.le_refl _)⟩
  · exact hD.four B3 (by decide)
  · show ND _ none 0 (dnz 1)
    rw [dnz_one]; exact ND.zero _
end Go.Proofs.Tg
end
section
/- Plain: the bounds of the numbers in the law on functionals of points. -/
namespace Go.Rq
open Go.Mm
/-- Up to four points with small whole coordinates, and their weights. -/
structure PtOk (v : Nat) (ws : List Rat) (xs : List (List Rat)) : Prop where
  n1 : 1 ≤ xs.length
  n4 : xs.length ≤ 4
  lw : ws.length = xs.length
  dim : ∀ x ∈ xs, x.length = v
  co : ∀ x ∈ xs, ∀ q ∈ x, ∃ z : Int, z.natAbs ≤ 2 ∧ q = (z : Rat)
  wt : ∀ q ∈ ws, Bd 12 108 q
theorem bd_weight (n : Int) (d : Nat) (hn : n.natAbs ≤ 9) (h1 : 1 ≤ d) (h4 : d ≤ 4) : Bd 12 108 (mkRat n d) := by
  have h : d ∣ 12 ∧ 9 * (12 / d) ≤ 108 := by
    have : d = 1 ∨ d = 2 ∨ d = 3 ∨ d = 4 := by omega
    rcases this with rfl | rfl | rfl | rfl <;> decide
  exact (((Bd.of n d).mono hn).over h.1 (by decide)).mono h.2
theorem bd_pow {K : Nat} {q : Rat} (h : Bd 1 K q) : ∀ e, Bd 1 (K ^ e) (q ^ e)
  | 0 => by
    have h1 : Bd 1 1 ((1 : Int) : Rat) := Bd.int 1
    rw [Rat.pow_zero]
    exact h1
  | e + 1 => by
    rw [Rat.pow_succ]
    exact (bd_pow h e).mul h
theorem bd_co {q : Rat} (h : ∃ z : Int, z.natAbs ≤ 2 ∧ q = (z : Rat)) : Bd 1 2 q := by
  obtain ⟨z, hz, rfl⟩ := h
  exact (Bd.int z).mono hz
theorem bd_pow16 {q : Rat} (h : Bd 1 2 q) (e : Nat) (he : e ≤ 4) : Bd 1 16 (q ^ e) :=
  (bd_pow h e).mono (Nat.pow_le_pow_right (by decide) he)
theorem bd_zero' (D K : Nat) : Bd D K 0 := (Bd.zero D).mono (Nat.zero_le _)
theorem getD_all {α : Type} {P : α → Prop} {l : List α} {z : α} (h : ∀ x ∈ l, P x) (hz : P z) (k : Nat) : P (l.getD k z) := by
  rw [List.getD_eq_getElem?_getD]
  rcases Nat.lt_or_ge k l.length with hk | hk
  · rw [List.getElem?_eq_getElem hk]; exact h _ (List.getElem_mem hk)
  · rw [List.getElem?_eq_none hk]; exact hz
theorem bd_pr {x : List Rat} {m : List Int} (hx : ∀ q ∈ x, Bd 1 2 q) (hm : ∀ e ∈ m, 0 ≤ e ∧ e ≤ 4) : ∀ k, Bd 1 (16 ^ k) (prTo x m k)
  | 0 => by
    have h1 : Bd 1 1 ((1 : Int) : Rat) := Bd.int 1
    exact h1
  | k + 1 => by
    have h1 := bd_pr hx hm k
    have h2 : Bd 1 2 (x.getD k 0) := getD_all hx (bd_zero' _ _) k
    have h3 : 0 ≤ m.getD k 0 ∧ m.getD k 0 ≤ 4 := getD_all hm (by decide) k
    have h4 := bd_pow16 h2 (m.getD k 0).toNat (by omega)
    show Bd 1 (16 ^ (k + 1)) (prTo x m k * _)
    rw [Nat.pow_succ]
    exact h1.mul h4
theorem bd_tm {w : Rat} {x : List Rat} {m : List Int} (hw : Bd 12 108 w) (hx : ∀ q ∈ x, Bd 1 2 q) (hm : ∀ e ∈ m, 0 ≤ e ∧ e ≤ 4) (k : Nat) (hk : k ≤ 3) : Bd 12 442368 (tmTo w x m k) := by
  rw [tm_pr]
  have h := hw.mul (bd_pr hx hm k)
  have h2 : 108 * 16 ^ k ≤ 442368 := by
    have : 16 ^ k ≤ 16 ^ 3 := Nat.pow_le_pow_right (by decide) hk
    omega
  exact h.mono h2
theorem PtOk.cb {v : Nat} {ws : List Rat} {xs : List (List Rat)} (h : PtOk v ws xs) : ∀ x ∈ xs, ∀ q ∈ x, Bd 1 2 q := fun x hx q hq => bd_co (h.co x hx q hq)
theorem PtOk.tm {v d : Nat} {ws : List Rat} {xs : List (List Rat)} (h : PtOk v ws xs) (hd : d ≤ 4) {m : List Int} (hm : m ∈ mons v d) (j k : Nat) (hk : k ≤ 3) : Bd 12 442368 (tmTo (ws.getD j 0) (xs.getD j []) m k) :=
  bd_tm (getD_all h.wt (bd_zero' _ _) j) (getD_all (P := fun x => ∀ q ∈ x, Bd 1 2 q) h.cb (fun q hq => absurd hq (by simp)) j) (fun e he => by have := (mons_mem hm).2 e he; omega) k hk
theorem PtOk.sum {v d : Nat} {ws : List Rat} {xs : List (List Rat)} (h : PtOk v ws xs) (hv : v ≤ 3) (hd : d ≤ 4) {m : List Int} (hm : m ∈ mons v d) : ∀ k, Bd 12 (k * 442368) (sumTo ws xs k m)
  | 0 => (bd_zero' _ _)
  | k + 1 => by
    have h1 := h.sum hv hd hm k
    have h2 := h.tm hd hm k m.length (by rw [(mons_mem hm).1]; omega)
    have h3 := h1.add h2 (by decide)
    exact h3.mono (by omega)
theorem PtOk.sum4 {v d : Nat} {ws : List Rat} {xs : List (List Rat)} (h : PtOk v ws xs) (hv : v ≤ 3) (hd : d ≤ 4) {m : List Int} (hm : m ∈ mons v d) (k : Nat) (hk : k ≤ xs.length) : Bd 12 1769472 (sumTo ws xs k m) :=
  (h.sum hv hd hm k).mono (by have := h.n4; omega)
theorem cnt_small (v d : Nat) (hv : v ≤ 3) (hd : d ≤ 4) : cnt v d ≤ 35 := by
  have : (v = 0 ∨ v = 1 ∨ v = 2 ∨ v = 3) ∧ (d = 0 ∨ d = 1 ∨ d = 2 ∨ d = 3 ∨ d = 4) := by omega
  obtain ⟨rfl | rfl | rfl | rfl, rfl | rfl | rfl | rfl | rfl⟩ := this <;> decide +kernel
theorem Bd.qs' {D K : Nat} {q : Rat} (h : Bd D K q) (hD : 0 < D) (hD2 : D < 65536) (hK : K < 1000000000) : Go.Proofs.Tg.QS q :=
  Go.Proofs.Tg.Bd.qs h hD hD2 (Nat.lt_of_lt_of_le hK (by unfold Go.Bn.B; exact Nat.le_trans (by decide : 1000000000 ≤ (2 ^ 32) ^ 1) (Nat.pow_le_pow_right (by decide) (by decide))))
theorem PtOk.ofOk {v d : Nat} {ws : List Rat} {xs : List (List Rat)} (h : PtOk v ws xs) (hv1 : 1 ≤ v) (hv : v ≤ 3) (hd : d ≤ 4) : Go.Proofs.Tg.Fi.OfOk v d ws xs where
  n1 := h.n1
  n2 := Nat.le_trans h.n4 (by decide)
  lw := h.lw
  dim := h.dim
  v1 := hv1
  v6 := by omega
  d24 := by omega
  few := Nat.le_trans (cnt_small v d hv hd) (by decide)
  shw := fun q hq => (h.wt q hq).sh (by decide) (by decide) (by decide)
  shx := fun x hx q hq => ⟨(h.cb x hx q hq).sh (by decide) (by decide) (by decide), fun e he => (bd_pow16 (h.cb x hx q hq) e (by omega)).sh (by decide) (by decide) (by decide)⟩
  sht := fun k _ m hm j hj => (h.tm hd hm k j (by omega)).sh (by decide) (by decide) (by decide)
  shs := fun k hk m hm => (h.sum4 hv hd hm k hk).sh (by decide) (by decide) (by decide)
theorem PtOk.rOk {v d : Nat} {ws : List Rat} {xs : List (List Rat)} (h : PtOk v ws xs) (hv1 : 1 ≤ v) (hv : v ≤ 3) (hd : d ≤ 4) : Go.Proofs.Tg.ROk v d ws xs where
  n1 := h.n1
  n2 := Nat.le_trans h.n4 (by decide)
  lw := h.lw
  dim := h.dim
  v1 := hv1
  v6 := by omega
  d24 := by omega
  few := Nat.le_trans (cnt_small v d hv hd) (by decide)
  int := fun x hx q hq => by
    obtain ⟨z, hz, e⟩ := h.co x hx q hq
    exact ⟨z, e, by omega⟩
  qw := fun q hq => (h.wt q hq).qs' (by decide) (by decide) (by decide)
  qp := fun x hx m hm k hk => by
    refine ((bd_pr (h.cb x hx) (fun e he => ?_) k).mono (Nat.pow_le_pow_right (by decide) (show k ≤ 3 by omega))).qs' (by decide) (by decide) (by decide)
    have := (mons_mem hm).2 e he
    omega
  qs := fun k hk m hm => (h.sum4 hv hd hm k hk).qs' (by decide) (by decide) (by decide)
  qt := fun k _ m hm => (h.tm hd hm k m.length (by rw [(mons_mem hm).1]; omega)).qs' (by decide) (by decide) (by decide)
end Go.Rq
end
section
/- Plain: the functional of two points, 1 and -1, of degree two. -/
namespace Go.Proofs.Tg.Fi
open Go.Rq Go.Mm
theorem mons12 : mons 1 2 = [[0], [1], [2]] := by decide +kernel
theorem knowns : (mons 1 2).map (sumTo [1, 1] [[1], [-1]] 2) = [2, 0, 2] := by rw [mons12]; decide +kernel
theorem kn_sht : ∀ k, k < 2 → ∀ m ∈ [[0], [1], [2]], ∀ j, j < 2 → (tmTo (([1, 1] : List Rat).getD k 0) (([[1], [-1]] : List (List Rat)).getD k []) m j).num.natAbs < 1000000000 ∧ (tmTo (([1, 1] : List Rat).getD k 0) (([[1], [-1]] : List (List Rat)).getD k []) m j).den < 1000000000 := by decide +kernel
theorem kn_shs : ∀ k, k < 3 → ∀ m ∈ [[0], [1], [2]], (sumTo [1, 1] [[1], [-1]] k m).num.natAbs < 1000000000 ∧ (sumTo [1, 1] [[1], [-1]] k m).den < 1000000000 := by decide +kernel
theorem kn_shx : ∀ x ∈ ([[1], [-1]] : List (List Rat)), ∀ q ∈ x, (q.num.natAbs < 1000000000 ∧ q.den < 1000000000) ∧ ∀ e, e < 3 → (q ^ e).num.natAbs < 1000000000 ∧ (q ^ e).den < 1000000000 := by decide +kernel
theorem kn_ok : OfOk 1 2 [1, 1] [[1], [-1]] where
  n1 := by decide
  n2 := by decide
  lw := by decide
  dim := by decide +kernel
  v1 := by decide
  v6 := by decide
  d24 := by decide
  few := by decide +kernel
  shw := by
    intro q hq
    have hq1 : q = 1 := by simpa using hq
    subst hq1
    exact ⟨by decide +kernel, by decide +kernel⟩
  shx := fun x hx q hq => ⟨(kn_shx x hx q hq).1, fun e he => (kn_shx x hx q hq).2 e (Nat.lt_succ_of_le he)⟩
  sht := fun k hk m hm j hj => kn_sht k hk m (by rw [← mons12]; exact hm) j (Nat.lt_succ_of_le hj)
  shs := fun k hk m hm => kn_shs k (Nat.lt_succ_of_le hk) m (by rw [← mons12]; exact hm)
theorem kn_tx : qtx 1 = ⟨#[49]⟩ ∧ qtx (-1) = ⟨#[45, 49]⟩ ∧ qtx 2 = ⟨#[50]⟩ ∧ qtx 0 = ⟨#[48]⟩ := by decide +kernel
end Go.Proofs.Tg.Fi
end
