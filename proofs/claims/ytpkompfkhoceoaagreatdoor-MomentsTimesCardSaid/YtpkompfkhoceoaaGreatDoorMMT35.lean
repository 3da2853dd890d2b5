/- Parts of the proof: ST6, TI2, WRB, KN0, OF2. -/
import Derived.Deep.RegionHeld3
import Derived.Test.YtpkompfkhoceoaaGreatDoorMMT3
import Derived.Test.YtpkompfkhoceoaaGreatDoorMMT27
import Derived.Test.YtpkompfkhoceoaaGreatDoorMMT29
import Derived.Test.YtpkompfkhoceoaaGreatDoorMMT31
import Derived.Test.YtpkompfkhoceoaaGreatDoorMMT33
import Derived.Test.YtpkompfkhoceoaaGreatDoorMMT34
section
/- The harness's polynomials written as texts. -/
namespace Go.Proofs.Tg
open Go.RowKit Go.Gr Go.Bn Go.Rq Go.Mo Go.Qn
set_option maxHeartbeats 8000000
set_option maxRecDepth 100000
/-- A term in the form of the reference's polynomials. -/
def TQ.rt (t : TQ) : RT := ⟨.bool (decide (t.r.q.num < 0)), .slice t.r.N (dg t.r.q.num.natAbs).length t.r.cn, .bool false, .slice t.r.D (dg (dnz t.r.q.den)).length t.r.cd, t.E, t.ce, t.el⟩
theorem rt_flat (ts : List TQ) : (ts.map TQ.rt).flatMap RT.cells = ts.flatMap TQ.cells := by
  rw [List.flatMap_map]; rfl
theorem TQ.rnm {w : World} {t : TQ} (h : t.r.Ok w) (hs : Sh t.r.q) (hz : t.r.q ≠ 0) : RNm w t.rt (qtx t.r.q) := by
  have b1 : t.r.q.num.natAbs < B := Nat.lt_of_lt_of_le hs.1 (by decide)
  have b2 : t.r.q.den < B := Nat.lt_of_lt_of_le hs.2 (by decide)
  have d1 := h.num.digs
  have d2 := h.den.digs
  rw [dg_mg b1] at d1
  rw [dg_dl b2] at d2
  refine ⟨decide (t.r.q.num < 0), t.r.q.num.natAbs, t.r.q.den, t.r.N, t.r.cn, t.r.D, t.r.cd, ?_, hs.1, hs.2, t.r.q.den_nz, rfl, ?_, rfl, ?_, d1, d2, rfl⟩
  · intro e
    exact hz (Rat.num_eq_zero.1 (Int.natAbs_eq_zero.1 e))
  · show Value.slice t.r.N (dg t.r.q.num.natAbs).length t.r.cn = _
    rw [dg_mg b1]
  · show Value.slice t.r.D (dg (dnz t.r.q.den)).length t.r.cd = _
    rw [dg_dl b2]
theorem twrite_any (v : Int) (out : List TQ) (R : Option Addr) (c : Nat) (w : World) (hQ : TQs w R out) (hs : ∀ t ∈ out, Sh t.r.q ∧ t.r.q ≠ 0) (hn : out.length ≤ 4096) (he : ∀ t ∈ out, t.el.length ≤ 64) :
    Calls Tryz.prog 30 #[.agg #[.int .i64 v, .slice R out.length c]] w fun e w' => Below w.heap.size w w' ∧ ∃ (A : Option Addr) (c : Nat) (tv : List TV), e = .returned (.agg #[.int .i64 v, .slice A tv.length c]) ∧ OwnTerms w.heap.size w' A c tv ∧ tv.map TV.pl = out.map fun t => (qtx t.r.q, t.el) := by
  have hl : (out.map TQ.rt).length = out.length := List.length_map _
  have h := rwrite_any v R c (out.map TQ.rt) (out.map fun t => qtx t.r.q) w (by rw [hl, rt_flat]; exact hQ.sl) (fun t ht => by
      obtain ⟨x, hx, rfl⟩ := List.mem_map.1 ht
      exact (hQ.ok x hx).e) (by simp) (fun j h1 h2 => by
      have hj : j < out.length := by rwa [hl] at h1
      rw [List.getElem_map, List.getElem_map]
      exact TQ.rnm (hQ.ok _ (List.getElem_mem hj)).r (hs _ (List.getElem_mem hj)).1 (hs _ (List.getElem_mem hj)).2) (by rw [hl]; exact hn) (fun t ht => by
      obtain ⟨x, hx, rfl⟩ := List.mem_map.1 ht
      exact he x hx)
  rw [hl] at h
  refine h.mono ?_
  rintro e w' ⟨hb, A, c', tv, e1, hO, hp⟩
  refine ⟨hb, A, c', tv, e1, hO, ?_⟩
  rw [hp]
  unfold wrPl
  rw [List.zipWith_map_left, List.zipWith_map_right, List.zipWith_self]
  rfl
end Go.Proofs.Tg
end
section
/- Plain: the bounds of the numbers in the law on the functional at a product, and the law itself. -/
namespace Go.Rs
open Go.Mo Go.Rq Go.Mm Go.Qn Go.Ev Go.Proofs.Tg
theorem text_len19 {b : Bool} {n d : Nat} (hn : n < 1000000000) (hd : d < 100000000) : (text b n d).length ≤ 19 := by
  unfold text
  have h1 := dec_len 8 n hn
  have h2 := dec_len 7 d hd
  by_cases h : d = 1
  · rw [if_pos h]
    cases b <;> simp <;> omega
  · rw [if_neg h]
    cases b <;> simp <;> omega
theorem qtx_size19 {D K : Nat} {q : Rat} (h : Bd D K q) (h0 : 0 < D) (hD : D < 100000000) (hK : K < 1000000000) : (qtx q).size ≤ 19 := by
  have h1 := text_len19 (b := decide (q.num < 0)) (Nat.lt_of_le_of_lt h.num hK) (Nat.lt_of_le_of_lt (h.denle h0) hD)
  unfold qtx
  exact h1
/-- The values of a functional of points at monomials of a degree at most 5. -/
theorem bd_tm5 {v : Nat} {ws : List Rat} {xs : List (List Rat)} (h : PtOk v ws xs) {m : List Int} (hm : m ∈ mons v 5) (j : Nat) : Bd 12 3456 (tm (ws.getD j 0) (xs.getD j []) m) := by
  unfold tm
  rw [tm_pr]
  have hw : Bd 12 108 (ws.getD j 0) := getD_all h.wt (bd_zero' _ _) j
  have hp := bd_prs (x := xs.getD j []) (m := m) (getD_all (P := fun x => ∀ q ∈ x, Bd 1 2 q) h.cb (fun q hq => absurd hq (by simp)) _) (fun e he => ((mons_mem hm).2 e he).1) m.length (Nat.le_refl _)
  have hp2 : Bd 1 32 (prTo (xs.getD j []) m m.length) := by
    refine hp.mono ?_
    rw [List.take_length]
    have := (mons_sum hm).2
    exact Nat.le_trans (Nat.pow_le_pow_right (by decide) (show m.sum.toNat ≤ 5 by omega)) (by decide)
  exact hw.mul hp2
theorem bd_sum5 {v : Nat} {ws : List Rat} {xs : List (List Rat)} (h : PtOk v ws xs) {m : List Int} (hm : m ∈ mons v 5) : ∀ k, Bd 12 (k * 3456) (sumTo ws xs k m)
  | 0 => bd_zero' _ _
  | k + 1 => ((bd_sum5 h hm k).add (bd_tm5 h hm k) (by decide)).mono (by omega)
theorem cnt_two (v : Nat) (h1 : 1 ≤ v) (h2 : v ≤ 2) : cnt v 5 ≤ 21 := by
  have : v = 1 ∨ v = 2 := by omega
  rcases this with rfl | rfl <;> decide +kernel
theorem rOk5 {v : Nat} {ws : List Rat} {xs : List (List Rat)} (h : PtOk v ws xs) (hv1 : 1 ≤ v) (hv : v ≤ 2) : ROk v 5 ws xs where
  n1 := h.n1
  n2 := Nat.le_trans h.n4 (by decide)
  lw := h.lw
  dim := h.dim
  v1 := hv1
  v6 := by omega
  d24 := by omega
  few := Nat.le_trans (cnt_two v hv1 hv) (by decide)
  int := fun x hx q hq => by
    obtain ⟨z, hz, e⟩ := h.co x hx q hq
    exact ⟨z, e, by omega⟩
  qw := fun q hq => (h.wt q hq).qs' (by decide) (by decide) (by decide)
  qp := fun x hx m hm k hk => by
    have hp := bd_prs (x := x) (m := m) (h.cb x hx) (fun e he => ((mons_mem hm).2 e he).1) k (by rw [(mons_mem hm).1]; exact hk)
    refine (hp.mono (K' := 32) ?_).qs' (by decide) (by decide) (by decide)
    have h1 := sum_take_le m k (fun e he => ((mons_mem hm).2 e he).1)
    have := (mons_sum hm).2
    exact Nat.le_trans (Nat.pow_le_pow_right (by decide) (show (m.take k).sum.toNat ≤ 5 by omega)) (by decide)
  qs := fun k hk m hm => ((bd_sum5 h hm k).mono (K' := 13824) (by have := h.n4; omega)).qs' (by decide) (by decide) (by decide)
  qt := fun k _ m hm => (bd_tm5 h hm k).qs' (by decide) (by decide) (by decide)
theorem val_sh {v : Nat} {ws : List Rat} {xs : List (List Rat)} (h : PtOk v ws xs) {m : List Int} (hm : m ∈ mons v 5) : Sh (sumTo ws xs xs.length m) :=
  ((bd_sum5 h hm xs.length).mono (K' := 13824) (by have := h.n4; omega)).sh (by decide) (by decide) (by decide)
/-- The degree of a polynomial bounds that of its terms. -/
theorem top_all {v d : Nat} {l : List (Rat × List Int)} (h : PolyOk v d l) : ∃ dg : Nat, max (topd l) 0 = (dg : Int) ∧ dg ≤ d ∧ ∀ t ∈ l, t.2 ∈ mons v dg := by
  match l, h with
  | [], _ => exact ⟨0, by rfl, Nat.zero_le _, fun t ht => absurd ht (by simp)⟩
  | a :: l, h =>
    have ha := (h.mem a (by simp)).2
    have hs := mons_sum ha
    refine ⟨a.2.sum.toNat, ?_, by omega, fun t ht => ?_⟩
    · show max a.2.sum 0 = _
      omega
    · rcases List.mem_cons.1 ht with rfl | ht2
      · exact mons_of (mons_mem ha).1 (fun x hx => ((mons_mem ha).2 x hx).1) (by omega)
      · have htm := (h.mem t ht).2
        have ho := (List.pairwise_cons.1 h.desc).1 t ht2
        refine mons_of (mons_mem htm).1 (fun x hx => ((mons_mem htm).2 x hx).1) ?_
        have : ¬ a.2.sum < t.2.sum := fun hlt => by have := ord_less hlt; omega
        omega
/-- A sum over a table is within the bounds. -/
theorem sumOk_of {φ : List Int → Rat} {v a b d : Nat} {m : List Int} {l : List (Rat × List Int)} {D K E L : Nat} (hm : m ∈ mons v b) (hl : ∀ t ∈ l, t.2 ∈ mons v a) (hab : a + b ≤ d) (hD : 0 < D) (hE : 0 < E) (hn : Nm D l K) (hφ : ∀ e ∈ mons v d, Bd E L (φ e)) (hDE : D * E < 1000000000) (hKL : K * L < 1000000000) (hD9 : D < 1000000000) (hE9 : E < 1000000000) (hK9 : K < 1000000000) (hL9 : L < 1000000000) : SumOk φ v d m l where
  deg := ⟨a, b, hm, hl, hab⟩
  sh := fun t ht => by
    have h1 := hn.mem t ht
    have h2 := hφ (addL t.2 m) (mons_le (addL_mem (hl t ht) hm) hab)
    exact ⟨h1.sh hD hD9 hK9, h2.sh hE hE9 hL9, (h1.mul h2).sh (Nat.mul_pos hD hE) hDE hKL⟩
  part := fun k _ => ((hn.take k).lin hD hE (fun t ht => hφ (addL t.2 m) (mons_le (addL_mem (hl t (List.mem_of_mem_take ht)) hm) hab))).sh (Nat.mul_pos hD hE) hDE hKL
/-- A polynomial from the tape. -/
structure DrawnP (v d : Nat) (l : List (Rat × List Int)) (D : Nat) : Prop where
  ok : PolyOk v d l
  nm : Nm D l 171
  d0 : 0 < D
  d12 : D ≤ 12
theorem drawn_of {v d : Nat} {ts : List TQ} {out : List (Rat × List Int)} (h3 : ts.length ≤ 3) (hc : ∀ t ∈ ts, CoefT t.r.q ∧ t.el ∈ mons v d) (ho : out = col ((msrt leT ts.length ts).map TQ.qe)) (hn : out.length ≤ 4096) : ∃ D, DrawnP v d out D := by
  obtain ⟨D, hD, hD12, hnm⟩ := nm_coefs (l := ts.map TQ.qe) (by rw [List.length_map]; omega) (fun t ht => by
    obtain ⟨x, hx, rfl⟩ := List.mem_map.1 ht
    exact (hc x hx).1)
  rw [if_pos (by rw [List.length_map]; exact h3)] at hnm
  refine ⟨D, polyOk_of (fun t ht => (hc t ht).2) ho hn, ?_, hD, hD12⟩
  rw [ho]
  exact (eqv_col (fun t ht => (mons_mem (hc t ht).2).1) ts.length).nm D 171 hD hnm
theorem DrawnP.sh {v d D : Nat} {l : List (Rat × List Int)} (h : DrawnP v d l D) : ∀ t ∈ l, Sh t.1 ∧ t.1 ≠ 0 ∧ (qtx t.1).size ≤ 19 := fun t ht => by
  have h1 := h.nm.mem t ht
  have h2 := h.d12
  exact ⟨h1.sh h.d0 (by omega) (by decide), (h.ok.mem t ht).1, qtx_size19 h1 h.d0 (by omega) (by decide)⟩
/-- What the law asks of its numbers. -/
structure TiOk (v : Nat) (f : List Int → Rat) (G P H : List (Rat × List Int)) (dg : Nat) : Prop where
  top : max (topd G) 0 = (dg : Int)
  dg2 : dg ≤ 2
  s1 : ∀ m ∈ mons v (5 - dg), SumOk f v 5 m G
  s2 : SumOk (fun m => lin (fun e => f (addL e m)) G) v (5 - dg) (List.replicate v 0) P
  s3 : SumOk f v 5 (List.replicate v 0) H
  sh : ∀ m ∈ mons v (5 - dg), Sh (lin (fun e => f (addL e m)) G)
  law : lin (fun m => lin (fun e => f (addL e m)) G) P = lin f H
theorem ti_ok {v DW DG DP n : Nat} {ws : List Rat} {xs : List (List Rat)} {G P H : List (Rat × List Int)} (h : PtOk v ws xs) (hW : 0 < DW ∧ DW ≤ 12) (hw : Nm DW (wl ws n) 279) (hG : DrawnP v 2 G DG) (hP : DrawnP v 3 P DP) (hH : Eqv v H (prL G P)) (hHm : ∀ t ∈ H, t.2 ∈ mons v 5) : ∃ dg, TiOk v (sumTo ws xs n) G P H dg := by
  obtain ⟨dg, htop, hdg, hGm⟩ := top_all hG.ok
  have hf : ∀ m ∈ mons v 5, Bd DW 8928 (sumTo ws xs n m) := fun m hm => val_bd h hW.1 hw hm n (Nat.le_refl _)
  have hg0 := hG.d0
  have hg12 := hG.d12
  have hp0 := hP.d0
  have hp12 := hP.d12
  have hGW : DG * DW ≤ 144 := Nat.mul_le_mul hg12 hW.2
  have hGW0 : 0 < DG * DW := Nat.mul_pos hg0 hW.1
  have hGP : DG * DP ≤ 144 := Nat.mul_le_mul hg12 hp12
  have hGP0 : 0 < DG * DP := Nat.mul_pos hg0 hp0
  have hPGW : DP * (DG * DW) ≤ 12 * 144 := Nat.mul_le_mul hp12 hGW
  have hGPW : (DG * DP) * DW ≤ 144 * 12 := Nat.mul_le_mul hGP hW.2
  have hσ : ∀ m ∈ mons v (5 - dg), Bd (DG * DW) 1526688 (lin (fun e => sumTo ws xs n (addL e m)) G) := fun m hm => hG.nm.lin hg0 hW.1 (L := 8928) (fun t ht => hf _ (mons_le (addL_mem (hGm t ht) hm) (by omega)))
  refine ⟨dg, htop, hdg, fun m hm => sumOk_of hm hGm (by omega) hg0 hW.1 hG.nm hf (by omega) (by decide) (by omega) (by omega) (by decide) (by decide), ?_, ?_, fun m hm => (hσ m hm).sh hGW0 (by omega) (by decide), ?_⟩
  · exact sumOk_of (zeros_mem v) (fun t ht => (hP.ok.mem t ht).2) (by omega) hp0 hGW0 hP.nm hσ (by omega) (by decide) (by omega) (by omega) (by decide) (by decide)
  · exact sumOk_of (a := 5) (zeros_mem v) hHm (by omega) hGP0 hW.1 (hH.nm _ _ hGP0 (prL_nm hG.nm hP.nm)) hf (by omega) (by decide) (by omega) (by omega) (by decide) (by decide)
  · rw [hH.lin, prL_lin]
end Go.Rs
end
section
/- The reference's functional written, the block of its texts named. -/
namespace Go.Proofs.Tg.Fi
open Go.RowKit Go.Gr Go.Bn Go.Rq Go.Qn
set_option maxHeartbeats 8000000
set_option maxRecDepth 100000
/-- The same, with the block of the texts named. -/
theorem write_b (v d : Nat) (A : Option Addr) (c : Nat) (rs : List RVal) (w : World) (h : QsAt w A rs) (hs : ∀ r ∈ rs, Sh r.q) (hn : rs.length ≤ 1000000) :
    Calls Tryz.prog 24 #[.agg #[.int .i64 (v : Nat), .int .i64 (d : Nat), .slice A rs.length c]] w fun e w' => ∃ g, e = .returned (.agg #[.int .i64 (v : Nat), .int .i64 (d : Nat), .slice (some ⟨g, 0, none⟩) rs.length rs.length]) ∧ Blk w' g 9 ((rs.map RVal.q).map vq).toArray ∧ w.heap.size ≤ g ∧ Below w.heap.size w w' := by
  have HTX : Hid (∀ V, Below w.heap.size w V → Calls Tryz.prog 19 #[.slice A rs.length c] V fun e w' => ∃ g, e = .returned (.slice (some ⟨g, 0, none⟩) rs.length rs.length) ∧ Blk w' g 9 ((rs.map RVal.q).map vq).toArray ∧ V.heap.size ≤ g ∧ Below V.heap.size V w') := Lib.hid (fun V hb => by
    have := texts_b A c rs V (h.keep hb) hs hn
    unfold RetTB at this
    rw [List.length_map] at this
    exact this)
  obtain ⟨W, hW⟩ : ∃ W, (w.alloc (.cells #[.int .i64 (v : Nat), .int .i64 (d : Nat), .slice A rs.length c] 29)).alloc (.cells #[.int .i64 0, .int .i64 0, .slice none 0 0] 24) = W := ⟨_, rfl⟩
  have hbW : Below w.heap.size w W := by rw [← hW]; exact ((Below.refl _ _).alloc (Nat.le_refl _) _).alloc (by simp) _
  have HBW := Lib.hid hbW
  have B1 : Blk W w.heap.size 29 #[.int .i64 (v : Nat), .int .i64 (d : Nat), .slice A rs.length c] := by rw [← hW]; exact (Blk.new _ _ _).alloc _
  have B2 : Blk W (w.heap.size + 1) 24 #[.int .i64 0, .int .i64 0, .slice none 0 0] := by
    rw [← hW]
    have := Blk.new (w.alloc (.cells #[.int .i64 (v : Nat), .int .i64 (d : Nat), .slice A rs.length c] 29)) 24 #[.int .i64 0, .int .i64 0, .slice none 0 0]
    simpa using this
  obtain ⟨x0, x1, x2, _, _, _⟩ := B1.three
  obtain ⟨y0, y1, y2, f0, f1, f2⟩ := B2.three
  have HB2 := Lib.hid B2
  have HWW := Lib.hid hW
  have HC : Hid (∀ V, Below W.heap.size W V → Calls Tryz.prog 19 #[.slice A rs.length c] V fun e w' => ∃ g, e = .returned (.slice (some ⟨g, 0, none⟩) rs.length rs.length) ∧ Blk w' g 9 ((rs.map RVal.q).map vq).toArray ∧ V.heap.size ≤ g ∧ Below V.heap.size V w') := Lib.hid (fun V hb => HTX.out V (below_all hbW hb))
  have hbe : Below W.heap.size W W.drew := (Below.refl _ _).drew
  have HRL : Hid (∀ k, Hid (rs.length = k) → True) := Lib.hid (fun _ _ => trivial)
  clear hW hbW B1 B2 h HTX HRL
  generalize rs.length = n at *
  go_enter Tryz.func24, Tryz.ntmps24
  go_upto_region 1 with (fail)
  rw [HWW.out]
  go_region_held3 (fun w' => w'.cell? ⟨w.heap.size, 0, none⟩ = some (.int .i64 (v : Nat)) ∧ w'.cell? ⟨w.heap.size, 1, none⟩ = some (.int .i64 (d : Nat)) ∧ w'.cell? ⟨w.heap.size, 2, none⟩ = some (.slice A n c))
    (first | exact ⟨keep_cell hbe x0, keep_cell hbe x1, keep_cell hbe x2⟩ | go_keep)
    (first | (go_at_call 19; with_reducible refine Calls.mono (HC.out _ (by assumption)) ?_; rintro e w3 ⟨gB, rfl, hT3, hgB, hb3⟩; have HT3 := Lib.hid hT3; have hgB2 := Nat.le_trans hbe.size hgB; clear hT3 hgB; have hbe := below_all hbe hb3; have Y2 := HB2.out.keep hbe HB2.out.lt; obtain ⟨y0, y1, y2, f0, f1, f2⟩ := Y2.three))
  all_goals
    go_wp2
    obtain ⟨p0, p1, p2, _⟩ := (blk3 (a' := .int .i64 (v : Nat)) (b' := .int .i64 (d : Nat)) (c' := .slice (some ⟨gB, 0, none⟩) n n) Y2).three
    refine bodyPost_ret (v := .agg #[.int .i64 (v : Nat), .int .i64 (d : Nat),   .slice (some ⟨gB, 0, none⟩) n n]) (by simp [results, Tryz.results24, go_sem, p0, p1, p2]) rfl ⟨gB, rfl, ?_, by have := HB2.out.lt; omega, ?_⟩
    · have h2 := HB2.out.lt
      exact ((HT3.out.far (by simp; omega) _).far (by simp; omega) _).far (by simp; omega) _
    · exact below_far (below_far (below_far (below_all HBW.out hbe) (by omega) _ _) (by omega) _ _) (by omega) _ _
end Go.Proofs.Tg.Fi
end
section
/- Plain: the functional of two points, 1 and -1, of degree two. -/
namespace Go.Proofs.Tg.Fi
open Go.Rq Go.Mm
theorem mons12 : mons 1 2 = [[0], [1], [2]] := by decide +kernel
theorem knowns : (mons 1 2).map (sumTo [1, 1] [[1], [-1]] 2) = [2, 0, 2] := by rw [mons12]; decide +kernel
theorem kn_sht : ∀ k, k < 2 → ∀ m ∈ [[0], [1], [2]], ∀ j, j < 2 → (tmTo (([1, 1] : List Rat).getD k 0) (([[1], [-1]] : List (List Rat)).getD k []) m j).num.natAbs < 1000000000 ∧ (tmTo (([1, 1] : List Rat).getD k 0) (([[1], [-1]] : List (List Rat)).getD k []) m j).den < 1000000000 := by decide +kernel
theorem kn_shs : ∀ k, k < 3 → ∀ m ∈ [[0], [1], [2]], (sumTo [1, 1] [[1], [-1]] k m).num.natAbs < 1000000000 ∧ (sumTo [1, 1] [[1], [-1]] k m).den < 1000000000 := by decide +kernel
theorem kn_shx : ∀ x ∈ ([[1], [-1]] : List (List Rat)), ∀ q ∈ x, (q.num.natAbs < 1000000000 ∧ q.den < 1000000000) ∧ ∀ e, e < 3 → (q ^ e).num.natAbs < 1000000000 ∧ (q ^ e).den < 1000000000 := by decide +kernel
theorem kn_ok : OfOk 1 2 [1, 1] [[1], [-1]] where
  n1 := by decide
  n2 := by decide
  lw := by decide
  dim := by decide +kernel
  v1 := by decide
  v6 := by decide
  d24 := by decide
  few := by decide +kernel
  shw := by
    intro q hq
    have hq1 : q = 1 := by simpa using hq
    subst hq1
    exact ⟨by decide +kernel, by decide +kernel⟩
  shx := fun x hx q hq => ⟨(kn_shx x hx q hq).1, fun e he => (kn_shx x hx q hq).2 e (Nat.lt_succ_of_le he)⟩
  sht := fun k hk m hm j hj => kn_sht k hk m (by rw [← mons12]; exact hm) j (Nat.lt_succ_of_le hj)
  shs := fun k hk m hm => kn_shs k (Nat.lt_succ_of_le hk) m (by rw [← mons12]; exact hm)
theorem kn_tx : qtx 1 = ⟨#[49]⟩ ∧ qtx (-1) = ⟨#[45, 49]⟩ ∧ qtx 2 = ⟨#[50]⟩ ∧ qtx 0 = ⟨#[48]⟩ := by decide +kernel
end Go.Proofs.Tg.Fi
end
section
/- The program's functional of points. -/
namespace Go.Proofs.Tg.Fi
open Go.RowKit Go.Rq Go.Qn Go.Bn Go.Mm Go.Proofs.Tg
set_option maxHeartbeats 16000000
set_option maxRecDepth 100000
theorem blk_three' {V : World} {g : Nat} {a b c a' b' c' : Value} {t : TypeId} (h : Blk V g t #[a, b, c]) : Blk (((V.setCell ⟨g, 0, none⟩ a').setCell ⟨g, 1, none⟩ b').setCell ⟨g, 2, none⟩ c') g t #[a', b', c'] := by
  have := ((h.set 0 a').set 1 b').set 2 c'
  simpa using this
theorem of_any (X Y : Option Addr) (cx cy v d : Nat) (xs : List (List Rat)) (ws : List Rat) (w : World) (hX : TRowsAt w X xs) (hY : Txts w Y ws) (ok : OfOk v d ws xs) (ht : PT w) :
    Calls Tryz.prog 12 #[.slice X xs.length cx, .slice Y ws.length cy, .int .i64 (d : Nat)] w (RetFun v d ((mons v d).map (sumTo ws xs xs.length)) w) := by
  obtain ⟨n, hn⟩ : ∃ n, xs.length = n := ⟨_, rfl⟩
  have hwl := ok.lw
  have HOK := Lib.hid ok
  have hn1 := ok.n1
  have hn2 := ok.n2
  have hv1 := ok.v1
  have hv6 := ok.v6
  have hd24 := ok.d24
  have hfew := ok.few
  rw [hn] at hwl hn1 hn2 ⊢
  rw [hwl]
  have HN := Lib.hid hn
  have HWL := Lib.hid hwl
  have HX := Lib.hid hX
  have HY := Lib.hid hY
  have HT := Lib.hid ht
  obtain ⟨W, hW⟩ : ∃ W, w.alloc (.cells #[.int .i64 0, .int .i64 0, .slice none 0 0] 24) = W := ⟨_, rfl⟩
  have hbW : Below w.heap.size w W := by rw [← hW]; exact (Below.refl _ _).alloc (Nat.le_refl _) _
  have HB6 : Hid (Blk W w.heap.size 24 #[.int .i64 0, .int .i64 0, .slice none 0 0]) := Lib.hid (by rw [← hW]; exact Blk.new _ _ _)
  have HBW := Lib.hid hbW
  have HNU : Hid (Calls Tryz.prog 37 #[.slice Y n cy] W fun e w' => e = .returned (.bool true) ∧ Below W.heap.size W w') := Lib.hid (by
    have := numbers_q Y cy ws W (hY.keep hbW) ok.shw (by omega)
    rwa [hwl] at this)
  have HWW := Lib.hid hW
  clear hX hY ht ok hn hwl hW
  go_enter Tryz.func12, Tryz.ntmps12
  go_upto_region 1 with (fail)
  rw [HWW.out]
  go_wp2_with (fail)
  refine HNU.out.mono ?_
  rintro e w1 ⟨rfl, hb1⟩
  have HB1 : Hid (Below W.heap.size W w1) := Lib.hid hb1
  clear HNU hb1 hbW
  go_wp2
  go_loopw [33] (fun s33 wr => ∃ k : Nat, s33 = .int .i64 (k : Nat) ∧ k ≤ n ∧ Hid (Below W.heap.size W wr)) (fun s33 _ => n - (intOf s33).toNat)
  case atStart => exact ⟨0, rfl, Nat.zero_le _, HB1⟩
  case round =>
    clear HB1
    obtain ⟨wo, rfl⟩ : ∃ wo : World, wo = wr := ⟨_, rfl⟩
    obtain ⟨k, rfl, hk, HB⟩ := hrel
    by_cases hkn : k = n
    · have e1 : decide ((k : Int) < (n : Int)) = false := decide_eq_false (by omega)
      have e1' : decide (k < n) = false := decide_eq_false (by omega)
      clear hkn
      have f1 : decide ((n : Int) < 1) = false := decide_eq_false (by omega)
      have f2 : decide ((16 : Int) < (n : Int)) = false := decide_eq_false (by omega)
      have hkx : 0 < xs.length := by rw [HN.out]; exact hn1
      obtain ⟨ad, R0, c0, hXe, hc, hT0⟩ := (HX.out.keep (below_all HBW.out HB.out)).at hkx
      have hl0 : (xs[0]'hkx).length = v := HOK.out.dim _ (List.getElem_mem _)
      rw [hl0] at hc
      subst hXe
      have hc' : wo.cell? ad = some (.slice R0 v c0) := by simpa [Addr.add] using hc
      clear hT0 hl0 hc
      have g1 : decide ((v : Int) < 1) = false := decide_eq_false (by omega)
      have g2 : decide ((6 : Int) < (v : Int)) = false := decide_eq_false (by omega)
      have HB2 : Hid (Below W.heap.size W wo) := HB
      go_wp2
      go_loopw [64] (fun s64 wr => ∃ k : Nat, s64 = .int .i64 (k : Nat) ∧ k ≤ n ∧ Hid (Below W.heap.size W wr)) (fun s64 _ => n - (intOf s64).toNat)
      case atStart => exact ⟨0, rfl, Nat.zero_le _, HB2⟩
      case round =>
        clear HB2 HB hc' e1 e1'
        obtain ⟨wi, rfl⟩ : ∃ wi : World, wi = wr := ⟨_, rfl⟩
        obtain ⟨k, rfl, hk, HB⟩ := hrel
        by_cases hkn : k = n
        · have e1 : decide ((k : Int) < (n : Int)) = false := decide_eq_false (by omega)
          have e1' : decide (k < n) = false := decide_eq_false (by omega)
          clear hkn
          have f3 : decide ((d : Int) < 0) = false := decide_eq_false (by omega)
          have f4 : decide ((24 : Int) < (d : Int)) = false := decide_eq_false (by omega)
          have f5 : decide ((1024 : Int) < ((cnt v d : Nat) : Int)) = false := decide_eq_false (by omega)
          have HCO := Lib.hid (fun V => count_any v d hv6 hd24 V)
          have HAL := Lib.hid (fun V => all_any v d hv6 hd24 (by omega) V)
          unfold RetMons at HAL
          obtain ⟨L, hL⟩ : ∃ L, cnt v d = L := ⟨_, rfl⟩
          rw [hL] at f5 hfew HCO
          have HL := Lib.hid hL
          clear hL
          go_wp2_with (first
            | (go_at_call 36; with_reducible refine Calls.mono (HCO.out _) ?_; rintro e w2 ⟨rfl, hb2⟩))
          refine (HAL.out _).mono ?_
          rintro e w3 ⟨MA, mc, rs, rfl, hOI, hms, hb3⟩
          have hrl : rs.length = L := by rw [← HL.out]; have := congrArg List.length hms; rw [List.length_map] at this; exact this
          rw [hrl]
          have hbw3 : Below w.heap.size w w3 := below_all (below_all (below_all HBW.out HB.out) hb2) hb3
          have HW3 := Lib.hid hbw3
          have HOI := Lib.hid hOI
          have HMS := Lib.hid hms
          have HRL := Lib.hid hrl
          have HB63 := Lib.hid ((HB6.out.keep (below_all (below_all HB.out hb2) hb3) HB6.out.lt))
          have hmk := make_txts L (by omega)
          clear hOI hms hrl hbw3 hb2 hb3 HCO HAL e1 e1'
          go_upto_region 27 with (fail)
          obtain ⟨W4, hW4⟩ : ∃ W4, (w3.alloc (.cells (madeCells #[.string ⟨#[]⟩] L) 9)).alloc (.cells #[.int .i64 (v : Nat), .int .i64 (d : Nat), .slice (some ⟨w3.heap.size, 0, none⟩) L L] 24) = W4 := ⟨_, rfl⟩
          have HF4 : Hid (Blk W4 (w3.heap.size + 1) 24 #[.int .i64 (v : Nat), .int .i64 (d : Nat), .slice (some ⟨w3.heap.size, 0, none⟩) L L]) := Lib.hid (by
            rw [← hW4]
            have := Blk.new (w3.alloc (.cells (madeCells #[.string ⟨#[]⟩] L) 9)) 24 #[.int .i64 (v : Nat), .int .i64 (d : Nat), .slice (some ⟨w3.heap.size, 0, none⟩) L L]
            simpa using this)
          have HV4 : Hid (Blk W4 w3.heap.size 9 (tpart (List.replicate L 0) L 0)) := Lib.hid (by
            rw [← hW4, ← tpart_zero]; exact (Blk.new _ _ _).alloc _)
          have HB4 : Hid (Below w3.heap.size w3 W4) := Lib.hid (by rw [← hW4]; exact ((Below.refl _ _).alloc (Nat.le_refl _) _).alloc (by simp) _)
          try rw [hW4]
          clear hW4 hmk
          obtain ⟨gv, hgv⟩ : ∃ g, w3.heap.size = g := ⟨_, rfl⟩
          rw [hgv] at HF4 HV4 HB4 ⊢
          have HGV := Lib.hid hgv
          have hf := HF4.out
          obtain ⟨x0, x1, x2, y0, y1, y2⟩ := hf.three
          clear hgv hf
          go_wp2
          go_loopw [117] (fun s117 wr => ∃ k : Nat, s117 = .int .i64 (k : Nat) ∧ k ≤ L ∧ Hid (Blk wr gv 9 (tpart (List.replicate L 0) L k) ∧ Blk wr (gv + 1) 24 #[.int .i64 (v : Nat), .int .i64 (d : Nat), .slice (some ⟨gv, 0, none⟩) L L] ∧ Below gv w3 wr)) (fun s117 _ => L - (intOf s117).toNat)
          case atStart => exact ⟨0, rfl, Nat.zero_le _, Lib.hid ⟨HV4.out, HF4.out, HB4.out⟩⟩
          case round =>
            clear HF4 HV4 HB4 x0 x1 x2 y0 y1 y2 f5
            obtain ⟨wj, rfl⟩ : ∃ wj : World, wj = wr := ⟨_, rfl⟩
            obtain ⟨k, rfl, hk, HST⟩ := hrel
            obtain ⟨x0, x1, x2, y0, y1, y2⟩ := HST.out.2.1.three
            by_cases hkn : k = L
            · have e1 : decide ((k : Int) < (L : Int)) = false := decide_eq_false (by omega)
              have e1' : decide (k < L) = false := decide_eq_false (by omega)
              have HKL := Lib.hid hkn
              clear hkn
              go_wp2
              have hml : (mons v d).length = L := HL.out
              have HML := Lib.hid hml
              have HZ : Hid (Blk wj gv 9 (((mons v d).map (sumTo ws xs 0)).map vq).toArray) := Lib.hid (by
                have h1 := HST.out.1
                rw [HKL.out, tpart_all (by simp)] at h1
                have h2 : (mons v d).map (sumTo ws xs 0) = List.replicate L 0 := by
                  rw [← hml, ← List.map_const']
                  rfl
                rw [h2]; exact h1)
              have HV0 : Hid (Blk wj gv 9 (((mons v d).map (sumTo ws xs 0)).map vq).toArray ∧ Blk wj (gv + 1) 24 #[.int .i64 (v : Nat), .int .i64 (d : Nat), .slice (some ⟨gv, 0, none⟩) L L] ∧ Below gv w3 wj) := Lib.hid ⟨HZ.out, HST.out.2.1, HST.out.2.2⟩
              clear HZ hml
              go_loopw [127] (fun s127 wr => ∃ k : Nat, s127 = .int .i64 (k : Nat) ∧ k ≤ n ∧ Hid (Blk wr gv 9 (((mons v d).map (sumTo ws xs k)).map vq).toArray ∧ Blk wr (gv + 1) 24 #[.int .i64 (v : Nat), .int .i64 (d : Nat), .slice (some ⟨gv, 0, none⟩) L L] ∧ Below gv w3 wr)) (fun s127 _ => n - (intOf s127).toNat)
              case atStart => exact ⟨0, rfl, Nat.zero_le _, HV0⟩
              case round =>
                clear HV0 HST x0 x1 x2 y0 y1 y2 e1 e1'
                obtain ⟨wk, rfl⟩ : ∃ wk : World, wk = wr := ⟨_, rfl⟩
                obtain ⟨k, rfl, hk, HST⟩ := hrel
                obtain ⟨x0, x1, x2, y0, y1, y2⟩ := HST.out.2.1.three
                by_cases hkn : k = n
                · have e1 : decide ((k : Int) < (n : Int)) = false := decide_eq_false (by omega)
                  have e1' : decide (k < n) = false := decide_eq_false (by omega)
                  have HKN := Lib.hid hkn
                  clear hkn
                  have hB6k : Blk wk w.heap.size 24 #[.int .i64 0, .int .i64 0, .slice none 0 0] := HB63.out.keep (by rw [HGV.out]; exact HST.out.2.2) HB63.out.lt
                  obtain ⟨z0, z1, z2, r0, r1, r2⟩ := hB6k.three
                  have hgw : w.heap.size < gv := by rw [← HGV.out]; exact HB63.out.lt
                  have HBK := Lib.hid (HW3.out.trans (HST.out.2.2.mono (by omega)))
                  have HB6K := Lib.hid hB6k
                  clear hB6k
                  go_wp2
                  obtain ⟨p0, p1, p2, _⟩ := (blk_three' (a' := .int .i64 (v : Nat)) (b' := .int .i64 (d : Nat)) (c' := .slice (some ⟨gv, 0, none⟩) L L) HB6K.out).three
                  refine bodyPost_ret (v := .tuple #[.agg #[.int .i64 (v : Nat), .int .i64 (d : Nat), .slice (some ⟨gv, 0, none⟩) L L], .int .i64 0]) (by simp [results, Tryz.results12, go_sem, p0, p1, p2]) rfl ⟨some ⟨gv, 0, none⟩, ?_, ?_, ?_⟩
                  · rw [List.length_map, HML.out]
                  · rw [← HKN.out]
                    exact txts_of (((HST.out.1.far (by simp; omega) _).far (by simp; omega) _).far (by simp; omega) _)
                  · exact below_far (below_far (below_far HBK.out (Nat.le_refl _) _ _) (Nat.le_refl _) _ _) (Nat.le_refl _) _ _
                · have hkl : k < n := by omega
                  have e1 : decide ((k : Int) < (n : Int)) = true := decide_eq_true (by omega)
                  have e1' : decide (k < n) = true := decide_eq_true hkl
                  have q0 : (0 : Int) ≤ (k : Int) := by omega
                  have q1 : (k : Int) < (n : Int) := by omega
                  have hkx2 : k < xs.length := by rw [HN.out]; exact hkl
                  have hb3k : Below w.heap.size w wk := HW3.out.trans (by rw [← HGV.out] at *; exact HST.out.2.2.mono HW3.out.size)
                  have HBK := Lib.hid hb3k
                  obtain ⟨ad2, R2, c2, hXe2, hc2, hT2⟩ := (HX.out.keep hb3k).at hkx2
                  injection hXe2 with hXe2
                  subst hXe2
                  have hl2 : (xs[k]'hkx2).length = v := HOK.out.dim _ (List.getElem_mem _)
                  have HPQ := Lib.hid (pows_q R2 c2 d (xs[k]'hkx2) wk hT2 (HOK.out.shx _ (List.getElem_mem _)) (by omega) (by omega) (HT.out.keep hb3k))
                  unfold RetPows at HPQ
                  have HXD : Hid (xs.getD k [] = xs[k]'hkx2) := Lib.hid (by simp [hkx2])
                  obtain ⟨x, hx⟩ : ∃ x, xs[k]'hkx2 = x := ⟨_, rfl⟩
                  rw [hx] at hl2 HPQ HXD hc2
                  rw [hl2] at HPQ hc2
                  have HL2 := Lib.hid hl2
                  clear hkn hl2 hT2 hx hb3k
                  go_wp2_with (fail)
                  refine HPQ.out.mono ?_
                  rintro e w5 ⟨gp, rows, rfl, hP, hb5⟩
                  have hgk : gv + 1 < wk.heap.size := HST.out.2.1.lt
                  have HV5 : Hid (PowsB wk.heap.size w5 gp d x rows ∧ Blk w5 gv 9 ((vals (sumTo ws xs k) (sumTo ws xs (k + 1)) (mons v d) 0).map vq).toArray ∧ Blk w5 (gv + 1) 24 #[.int .i64 (v : Nat), .int .i64 (d : Nat), .slice (some ⟨gv, 0, none⟩) L L] ∧ Below gv w3 w5) := Lib.hid (by
                    refine ⟨hP, ?_, HST.out.2.1.keep hb5 HST.out.2.1.lt, ?_⟩
                    · rw [vals_zero]; exact HST.out.1.keep hb5 HST.out.1.lt
                    · exact HST.out.2.2.trans (hb5.mono (by omega)))
                  clear hP HPQ x0 x1 x2 y0 y1 y2 hc2
                  have HP0 := Lib.hid hb5
                  clear hb5
                  go_wp2
                  go_loopw [137] (fun s137 wr => ∃ i : Nat, s137 = .int .i64 (i : Nat) ∧ i ≤ L ∧ Hid (PowsB wk.heap.size wr gp d x rows ∧ Blk wr gv 9 ((vals (sumTo ws xs k) (sumTo ws xs (k + 1)) (mons v d) i).map vq).toArray ∧ Blk wr (gv + 1) 24 #[.int .i64 (v : Nat), .int .i64 (d : Nat), .slice (some ⟨gv, 0, none⟩) L L] ∧ Below gv w3 wr)) (fun s137 _ => L - (intOf s137).toNat)
                  case atStart => exact ⟨0, rfl, Nat.zero_le _, HV5⟩
                  case round =>
                    clear HV5 HST
                    obtain ⟨wl, rfl⟩ : ∃ wl : World, wl = wr := ⟨_, rfl⟩
                    obtain ⟨i, rfl, hi, HST⟩ := hrel
                    by_cases hiL : i = L
                    · have e2 : decide ((i : Int) < (L : Int)) = false := decide_eq_false (by omega)
                      have e2' : decide (i < L) = false := decide_eq_false (by omega)
                      have HIL := Lib.hid hiL
                      clear hiL
                      go_wp2
                      go_roundw
                      case rel =>
                        refine ⟨k + 1, by go_num, by omega, Lib.hid ⟨?_, HST.out.2.2⟩⟩
                        have h := HST.out.2.1
                        rw [HIL.out, ← HML.out, vals_all] at h
                        exact h
                      case measure => simp [intOf]; omega
                    · have hil : i < L := by omega
                      have e2 : decide ((i : Int) < (L : Int)) = true := decide_eq_true (by omega)
                      have e2' : decide (i < L) = true := decide_eq_true hil
                      have r0 : (0 : Int) ≤ (i : Int) := by omega
                      have r1 : (i : Int) < (L : Int) := by omega
                      have him : i < (mons v d).length := by rw [HML.out]; exact hil
                      have hir : i < rs.length := by rw [HRL.out]; exact hil
                      obtain ⟨am, hAM, hcm, hIm⟩ := (HOI.out.keep (by rw [HGV.out]; exact HST.out.2.2.2)).lists hir
                      have hme : rs[i].l = (mons v d)[i] := by
                        have h1 : (rs.map IRow.l)[i]? = (mons v d)[i]? := by rw [HMS.out]
                        simpa [hir, him] using h1
                      have hmm : (mons v d)[i] ∈ mons v d := List.getElem_mem _
                      rw [hme] at hcm hIm
                      obtain ⟨mo, hmo⟩ : ∃ mo, (mons v d)[i] = mo := ⟨_, rfl⟩
                      have HMO : Hid (∃ h : i < (mons v d).length, (mons v d)[i] = mo) := Lib.hid ⟨him, hmo⟩
                      rw [hmo] at hcm hIm hmm
                      obtain ⟨hmol, hmob⟩ := mons_mem hmm
                      rw [hmol] at hcm
                      subst hAM
                      have HMM := Lib.hid hmm
                      have HMOL := Lib.hid hmol
                      have HMOB := Lib.hid hmob
                      have HIM := Lib.hid hIm
                      have hb3l : Below w.heap.size w wl := HW3.out.trans (HST.out.2.2.2.mono (by have := HW3.out.size; have := HGV.out; omega))
                      have HBL := Lib.hid hb3l
                      obtain ⟨aw, hYe, hcw⟩ := Txts.at (HY.out.keep hb3l) (k := k) (by rw [HWL.out]; exact hkl)
                      subst hYe
                      have hwk : k < ws.length := by rw [HWL.out]; exact hkl
                      obtain ⟨U0, hU0⟩ : ∃ U, qtx (ws[k]'hwk) = U := ⟨_, rfl⟩
                      rw [hU0] at hcw
                      have HU0 : Hid (U0 = qtx (tmTo (ws.getD k 0) x mo 0)) := Lib.hid (by
                        rw [← hU0]
                        unfold tmTo
                        simp [hwk])
                      generalize rs[i].A = mA at *
                      generalize rs[i].c = mC at *
                      clear hmo hme hmm hmol hmob hIm hb3l hU0 hiL him hir
                      have HBZ : Hid (Below wl.heap.size wl wl) := Lib.hid (Below.refl _ _)
                      go_wp2
                      go_loopw [24, 148] (fun s24 s148 wr => ∃ (j : Nat) (U : ByteArray), s24 = .string U ∧ s148 = .int .i64 (j : Nat) ∧ j ≤ v ∧ Hid (U = qtx (tmTo (ws.getD k 0) x mo j)) ∧ Hid (Below wl.heap.size wl wr)) (fun _ s148 _ => v - (intOf s148).toNat)
                      case atStart => exact ⟨0, U0, rfl, rfl, Nat.zero_le _, HU0, HBZ⟩
                      case round =>
                        clear HU0 HBZ hcm hcw
                        obtain ⟨wm, rfl⟩ : ∃ wm : World, wm = wr := ⟨_, rfl⟩
                        obtain ⟨j, U, rfl, rfl, hj, HU, HBM⟩ := hrel
                        by_cases hjv : j = v
                        · have e3 : decide ((j : Int) < (v : Int)) = false := decide_eq_false (by omega)
                          have e3' : decide (j < v) = false := decide_eq_false (by omega)
                          have HJV := Lib.hid hjv
                          clear hjv
                          have hFB := HST.out.2.2.1.keep HBM.out HST.out.2.2.1.lt
                          have hVB := HST.out.2.1.keep HBM.out HST.out.2.1.lt
                          obtain ⟨x0, x1, x2, y0, y1, y2⟩ := hFB.three
                          obtain ⟨him2, hmoe⟩ := HMO.out
                          have hcv : wm.cell? ⟨gv, i, none⟩ = some (.string (qtx (sumTo ws xs k mo))) := by
                            rw [hVB.cell i]
                            have := vals_at (sumTo ws xs k) (sumTo ws xs (k + 1)) (mons v d) him2
                            rw [hmoe] at this
                            simp [this, vq]
                          have fv := hVB.frozen i
                          have HTM : Hid (tmTo (ws.getD k 0) x mo j = tm (ws.getD k 0) (xs.getD k []) mo) := Lib.hid (by unfold tm; rw [HXD.out, HJV.out, HMOL.out])
                          have HAD := Lib.hid (add_q (sumTo ws xs k mo) (tmTo (ws.getD k 0) x mo j) (HOK.out.shs k (by rw [HN.out]; omega) mo HMM.out) (by
                            have := HOK.out.sht k (by rw [HN.out]; exact hkl) mo HMM.out j (by omega)
                            rwa [HXD.out] at this))
                          have HSU : Hid (sumTo ws xs k mo + tmTo (ws.getD k 0) x mo j = sumTo ws xs (k + 1) mo) := Lib.hid (by rw [HTM.out]; rfl)
                          rw [HSU.out, ← HU.out] at HAD
                          unfold RetTx at HAD
                          have HADW : Hid (∀ V, Below wm.heap.size wm V → Calls Tryz.prog 41 #[.string (qtx (sumTo ws xs k mo)), .string U] V fun e w' => e = .returned (.string (qtx (sumTo ws xs (k + 1) mo))) ∧ Below V.heap.size V w') := Lib.hid (fun V h => HAD.out V (HT.out.keep (below_all (below_all HBL.out HBM.out) h)))
                          have HSET : Hid ((vals (sumTo ws xs k) (sumTo ws xs (k + 1)) (mons v d) i).set i (sumTo ws xs (k + 1) mo) = vals (sumTo ws xs k) (sumTo ws xs (k + 1)) (mons v d) (i + 1)) := Lib.hid (by rw [← vals_set _ _ _ him2, hmoe])
                          obtain ⟨V1, hV1⟩ : ∃ V1, qtx (sumTo ws xs k mo) = V1 := ⟨_, rfl⟩
                          obtain ⟨V2, hV2⟩ : ∃ V1, qtx (sumTo ws xs (k + 1) mo) = V1 := ⟨_, rfl⟩
                          rw [hV1] at hcv HADW
                          rw [hV2] at HADW
                          have HV2 := Lib.hid hV2
                          have HFB := Lib.hid hFB
                          have HVB := Lib.hid hVB
                          have hbe : Below wm.heap.size wm wm.drew := (Below.refl _ _).drew
                          have hvl := hVB.lt
                          clear hV1 hV2 hFB hVB HAD him2 hmoe
                          go_wp2
                          go_region_with
                            (first | (go_at_call 41; with_reducible refine Calls.mono (HADW.out _ (by assumption)) ?_; rintro e w7 ⟨rfl, hb7⟩; have hbe := below_all hbe hb7; have x2 := keep_cell hbe x2; have Y := HVB.out.keep hbe HVB.out.lt; have hcv := keep_cell hbe hcv; have fv := Y.frozen i))
                          all_goals
                            go_wp2
                            go_roundw
                            case rel =>
                              refine ⟨i + 1, by go_num, by omega, Lib.hid ⟨?_, ?_, ?_, ?_⟩⟩
                              · exact ((HST.out.1.keep HBM.out).keep hbe).far (by omega) _ _
                              · rw [← HSET.out]
                                have h := txts_set Y i (sumTo ws xs (k + 1) mo)
                                rw [HV2.out] at h
                                exact h
                              · exact (HFB.out.keep hbe HFB.out.lt).far (by simp) _
                              · exact below_far (HST.out.2.2.2.trans ((HBM.out.trans (hbe.mono HBM.out.size)).mono (by have := HST.out.2.1.lt; omega))) (Nat.le_refl _) _ _
                            case measure => simp [intOf]; omega
                        · have hjl : j < v := by omega
                          have e3 : decide ((j : Int) < (v : Int)) = true := decide_eq_true (by omega)
                          have e3' : decide (j < v) = true := decide_eq_true hjl
                          have t0 : (0 : Int) ≤ (j : Int) := by omega
                          have t1 : (j : Int) < (v : Int) := by omega
                          have hjm : j < mo.length := by rw [HMOL.out]; exact hjl
                          have hjx : j < x.length := by rw [HL2.out]; exact hjl
                          obtain ⟨ae, hAE, hce⟩ := Ints.at (HIM.out.keep HBM.out) hjm
                          subst hAE
                          obtain ⟨ej, hej⟩ : ∃ e : Nat, mo[j] = (e : Int) := ⟨(mo[j]).toNat, by have := (HMOB.out _ (List.getElem_mem hjm)).1; omega⟩
                          have hed : ej ≤ d := by have := (HMOB.out _ (List.getElem_mem hjm)).2; omega
                          rw [hej] at hce
                          obtain ⟨Rp, cp, hcp, hTp⟩ := (HST.out.1.keep HBM.out).at hjx
                          obtain ⟨hep, hpe⟩ := pw_at d (x[j]'hjx) hed
                          obtain ⟨ap, hAP, hcq⟩ := Txts.at hTp hep
                          rw [hpe] at hcq
                          subst hAP
                          have HEJ : Hid (tmTo (ws.getD k 0) x mo (j + 1) = tmTo (ws.getD k 0) x mo j * (x[j]'hjx) ^ ej) := Lib.hid (by
                            show tmTo (ws.getD k 0) x mo j * (x.getD j 0) ^ ((mo.getD j 0).toNat) = _
                            have h1 : x.getD j 0 = x[j]'hjx := by simp [hjx]
                            have h2 : (mo.getD j 0).toNat = ej := by simp [hjm, hej]
                            rw [h1, h2])
                          have hxm : x ∈ xs := by rw [← HXD.out]; simp [hkx2]
                          have HM1 := Lib.hid (mul_q (tmTo (ws.getD k 0) x mo j) ((x[j]'hjx) ^ ej) (by
                            have := HOK.out.sht k (by rw [HN.out]; exact hkl) mo HMM.out j (by omega)
                            rw [HXD.out] at this
                            exact this) ((HOK.out.shx x hxm _ (List.getElem_mem _)).2 ej hed) wm (HT.out.keep (below_all HBL.out HBM.out)))
                          rw [← HU.out, ← HEJ.out] at HM1
                          unfold RetTx at HM1
                          obtain ⟨U2, hU2⟩ : ∃ U2, qtx (tmTo (ws.getD k 0) x mo (j + 1)) = U2 := ⟨_, rfl⟩
                          obtain ⟨V2, hV2⟩ : ∃ U2, qtx ((x[j]'hjx) ^ ej) = U2 := ⟨_, rfl⟩
                          rw [hU2, hV2] at HM1
                          rw [hV2] at hcq
                          have HU2 := Lib.hid hU2
                          have s0 : (0 : Int) ≤ (ej : Int) := by omega
                          have s1 : (ej : Int) < (d : Int) + 1 := by omega
                          clear hU2 hV2 hpe hTp hej hjv
                          go_wp2_with (fail)
                          refine HM1.out.mono ?_
                          rintro e w7 ⟨rfl, hb7⟩
                          go_wp2
                          go_roundw
                          case rel => exact ⟨j + 1, U2, rfl, by go_num, by omega, Lib.hid HU2.out.symm, Lib.hid (below_all HBM.out hb7)⟩
                          case measure => simp [intOf]; omega
            · have hkl : k < L := by omega
              have e1 : decide ((k : Int) < (L : Int)) = true := decide_eq_true (by omega)
              have e1' : decide (k < L) = true := decide_eq_true hkl
              have q0 : (0 : Int) ≤ (k : Int) := by omega
              have q1 : (k : Int) < (L : Int) := by omega
              have hB := HST.out.1
              obtain ⟨u, hu⟩ := tpart_at (qs := List.replicate L 0) (by simp) hkl
              have c0 : wj.cell? ⟨gv, k, none⟩ = some u := by rw [hB.cell k]; exact hu
              have f0 := hB.frozen k
              have HSET : Hid ((tpart (List.replicate L 0) L k).setIfInBounds k (.string ⟨#[48]⟩) = tpart (List.replicate L 0) L (k + 1)) := Lib.hid (by
                have := tpart_set (qs := List.replicate L 0) (by simp) hkl
                rw [List.getElem_replicate, qtx_zero] at this
                exact this)
              clear hu hB hkn
              go_wp2
              go_roundw
              case rel =>
                refine ⟨k + 1, by go_num, by omega, Lib.hid ⟨?_, HST.out.2.1.far (by simp) _, below_far HST.out.2.2 (Nat.le_refl _) _ _⟩⟩
                rw [← HSET.out]
                exact HST.out.1.set _ _
              case measure => simp [intOf]; omega
        · have hkl : k < n := by omega
          have e1 : decide ((k : Int) < (n : Int)) = true := decide_eq_true (by omega)
          have e1' : decide (k < n) = true := decide_eq_true hkl
          have hkx2 : k < xs.length := by rw [HN.out]; exact hkl
          obtain ⟨ad2, R2, c2, hXe2, hc2, hT2⟩ := (HX.out.keep (below_all HBW.out HB.out)).at hkx2
          injection hXe2 with hXe2
          subst hXe2
          have hl2 : (xs[k]'hkx2).length = v := HOK.out.dim _ (List.getElem_mem _)
          rw [hl2] at hc2
          have q0 : (0 : Int) ≤ (k : Int) := by omega
          have q1 : (k : Int) < (n : Int) := by omega
          clear hkn hl2 hT2
          go_wp2
          go_roundw
          case rel => exact ⟨k + 1, by go_num, by omega, HB⟩
          case measure => simp [intOf]; omega
    · have hkl : k < n := by omega
      have e1 : decide ((k : Int) < (n : Int)) = true := decide_eq_true (by omega)
      have e1' : decide (k < n) = true := decide_eq_true hkl
      have hkx2 : k < xs.length := by rw [HN.out]; exact hkl
      obtain ⟨ad2, R2, c2, hXe2, hc2, hT2⟩ := (HX.out.keep (below_all HBW.out HB.out)).at hkx2
      subst hXe2
      have HNU := Lib.hid (numbers_q R2 c2 (xs[k]'hkx2) wo hT2 (fun q hq => (HOK.out.shx _ (List.getElem_mem _) q hq).1) (by rw [HOK.out.dim _ (List.getElem_mem _)]; omega))
      have q0 : (0 : Int) ≤ (k : Int) := by omega
      have q1 : (k : Int) < (n : Int) := by omega
      generalize (xs[k]'hkx2).length = l at *
      clear hkn hT2
      go_wp2_with (fail)
      refine HNU.out.mono ?_
      rintro e w5 ⟨rfl, hb5⟩
      go_wp2
      go_roundw
      case rel => exact ⟨k + 1, by go_num, by omega, Lib.hid (below_all HB.out hb5)⟩
      case measure => simp [intOf]; omega
end Go.Proofs.Tg.Fi
end
