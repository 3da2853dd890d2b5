/- Parts of the proof: SS1, VL1. -/
import Derived.Test.YtpkompfkhoceoaaGreatDoorMMV15
import Derived.Test.YtpkompfkhoceoaaGreatDoorMMV20
import Derived.Test.YtpkompfkhoceoaaGreatDoorMMV21
import Derived.Test.YtpkompfkhoceoaaGreatDoorMMV24
import Derived.Test.YtpkompfkhoceoaaGreatDoorMMV26
import Derived.Test.YtpkompfkhoceoaaGreatDoorMMV27
section
/- Plain: sums of terms that are worth the same; products. -/
namespace Go.Rs
open Go.Mo Go.Rq Go.Mm Go.Qn Go.Ev Go.Proofs.Tg
/-- What a sum of terms is. -/
theorem polyOk_of {v d : Nat} {ts : List TQ} {out : List (Rat × List Int)} (hm : ∀ t ∈ ts, t.el ∈ mons v d) (ho : out = col ((msrt leT ts.length ts).map TQ.qe)) (hn : out.length ≤ 4096) : PolyOk v d out := by
  have hlen : ∀ t ∈ (msrt leT ts.length ts).map TQ.qe, t.2 ∈ mons v d := fun t ht => by
    obtain ⟨x, hx, rfl⟩ := List.mem_map.1 ht
    exact hm x ((msrt_mem leT).1 hx)
  have hs : ((msrt leT ts.length ts).map TQ.qe).Pairwise (fun a b => 0 ≤ ord a.2 b.2) := by
    rw [List.pairwise_map]
    have h2 := sort_asc (leT) (P := fun t : TQ => t.el.length = v) (fun a b c ha hb hc h1 h2 => decide_eq_true (ord_trans (ha.trans hb.symm) (of_decide_eq_true h1) (of_decide_eq_true h2))) (fun a b ha hb => by
      unfold leT
      rw [ord_anti (ha.trans hb.symm)]
      rcases Int.le_total 0 (ord a.el b.el) with h | h
      · exact .inl (decide_eq_true h)
      · exact .inr (decide_eq_true (by omega))) ts.length ts (by omega) (fun t ht => (mons_mem (hm t ht)).1)
    exact h2.imp fun h => of_decide_eq_true h
  subst ho
  refine ⟨desc_col (v := v) _ (fun t ht => (mons_mem (hlen t ht)).1) hs, fun t ht => ?_, hn⟩
  obtain ⟨h1, s, hs2, h2⟩ := col_mem _ t ht
  exact ⟨h1, h2 ▸ hlen s hs2⟩
/-- Terms that are worth the same. -/
structure Eqv (v : Nat) (l m : List (Rat × List Int)) : Prop where
  lin : ∀ φ, lin φ l = lin φ m
  nm : ∀ D K, 0 < D → Nm D m K → Nm D l K
  mem : ∀ t ∈ l, ∃ s ∈ m, s.2 = t.2
theorem Eqv.nil (v : Nat) : Eqv v [] [] := ⟨fun _ => rfl, fun _ _ _ h => h, fun _ h => absurd h (by simp)⟩
theorem Nm.split {D : Nat} : ∀ {l m : List (Rat × List Int)} {K : Nat}, Nm D (l ++ m) K → ∃ K1 K2, K1 + K2 ≤ K ∧ Nm D l K1 ∧ Nm D m K2
  | [], m, K, h => ⟨0, K, by omega, trivial, h⟩
  | t :: l, m, K, ⟨k, e, h1, h2⟩ => by
    obtain ⟨K1, K2, h3, h4, h5⟩ := Nm.split h2
    exact ⟨k.natAbs + K1, K2, by omega, ⟨k, e, by omega, h4.mono (by omega)⟩, h5⟩
theorem Eqv.append {v : Nat} {l l' m m' : List (Rat × List Int)} (h : Eqv v l m) (h' : Eqv v l' m') : Eqv v (l ++ l') (m ++ m') where
  lin := fun φ => by rw [lin_append, lin_append, h.lin, h'.lin]
  nm := fun D K hD hn => by
    obtain ⟨K1, K2, h1, h2, h3⟩ := Nm.split hn
    exact ((h.nm D K1 hD h2).append (h'.nm D K2 hD h3)).mono h1
  mem := fun t ht => by
    rcases List.mem_append.1 ht with ht | ht
    · obtain ⟨s, hs, e⟩ := h.mem t ht; exact ⟨s, by simp [hs], e⟩
    · obtain ⟨s, hs, e⟩ := h'.mem t ht; exact ⟨s, by simp [hs], e⟩
theorem Eqv.trans {v : Nat} {l m n : List (Rat × List Int)} (h : Eqv v l m) (h' : Eqv v m n) : Eqv v l n where
  lin := fun φ => (h.lin φ).trans (h'.lin φ)
  nm := fun D K hD hn => h.nm D K hD (h'.nm D K hD hn)
  mem := fun t ht => by
    obtain ⟨s, hs, e⟩ := h.mem t ht
    obtain ⟨u, hu, e2⟩ := h'.mem s hs
    exact ⟨u, hu, e2.trans e⟩
/-- What Sum returns is worth its terms. -/
theorem eqv_col {v : Nat} {ts : List TQ} (hv : ∀ t ∈ ts, t.el.length = v) (n : Nat) : Eqv v (col ((msrt leT n ts).map TQ.qe)) (ts.map TQ.qe) where
  lin := fun φ => by
    rw [lin_col φ (v := v) _ (fun t ht => ?_)]
    · exact lin_perm φ ((msrt_perm leT n ts).map _)
    · obtain ⟨x, hx, rfl⟩ := List.mem_map.1 ht
      exact hv x ((msrt_mem leT).1 hx)
  nm := fun D K hD hn => Nm.col hD (Nm.perm ((msrt_perm leT n ts).map _).symm hn)
  mem := fun t ht => by
    obtain ⟨_, s, hs, e⟩ := col_mem _ t ht
    obtain ⟨x, hx, rfl⟩ := List.mem_map.1 hs
    exact ⟨x.qe, List.mem_map.2 ⟨x, (msrt_mem leT).1 hx, rfl⟩, e⟩
/-- A product with a term, a product of polynomials. -/
def shL (G : List (Rat × List Int)) (p : Rat × List Int) : List (Rat × List Int) := G.map fun t => (t.1 * p.1, addL t.2 p.2)
def prL (G P : List (Rat × List Int)) : List (Rat × List Int) := P.flatMap (shL G)
end Go.Rs
end
section
/- The reference's value of a functional at a monomial, and the degree of a polynomial. -/
namespace Go.Proofs.Tg
open Go.RowKit Go.Gr Go.Bn Go.Rq Go.Mm Go.Mo Go.Rs
open Go.Proofs.Tg.Fi (QsAt)
set_option maxHeartbeats 8000000
set_option maxRecDepth 100000
theorem lat_any (v d n : Nat) (A : Option Addr) (c : Nat) (rs : List RVal) (M : Option Addr) (cm : Nat) (m : List Int) (w : World) (hQ : QsAt w A rs) (hn : rs.length = n) (hc : cnt v d = n) (hM : Ints w M m) (hm : m ∈ mons v d) (hv1 : 1 ≤ v) (hv : v ≤ 6) (hd : d ≤ 24) :
    Calls Tryz.prog 61 #[.agg #[.int .i64 (v : Nat), .int .i64 (d : Nat), .slice A n c], .slice M v cm] w fun e w' => ∃ r : RVal, rs[rank m]? = some r ∧ e = .returned (.agg #[.bool (decide (r.q.num < 0)), .slice r.N (dg r.q.num.natAbs).length r.cn, .bool false, .slice r.D (dg (dnz r.q.den)).length r.cd]) ∧ r.Ok w' ∧ Below w.heap.size w w' := by
  have hrl : rank m < n := by rw [← hc]; exact rank_lt hm
  have HIX : Hid (∀ V, Below w.heap.size w V → Calls Tryz.prog 99 #[.slice M v cm] V fun e w' => e = .returned (.tuple #[.int .i64 (rank m : Nat), .bool true]) ∧ Below V.heap.size V w') := Lib.hid (fun V hb => mindex_any M cm m v d V (hM.keep hb) hm hv1 hv hd)
  obtain ⟨k, hk⟩ : ∃ k, rank m = k := ⟨_, rfl⟩
  rw [hk] at hrl HIX ⊢
  have hkr : k < rs.length := by omega
  obtain ⟨r, hr⟩ : ∃ r, rs[k] = r := ⟨_, rfl⟩
  have HRK : Hid (rs[k]? = some r) := Lib.hid (by rw [List.getElem?_eq_getElem hkr, hr])
  have HCC : Hid (∀ V, Below w.heap.size w V → ∃ ad, A = some ad ∧ V.cell? (ad.add (k * 4)) = some (.bool (decide (r.q.num < 0))) ∧ V.cell? ⟨(ad.add (k * 4)).block, (ad.add (k * 4)).off + 1, none⟩ = some (.slice r.N (dg r.q.num.natAbs).length r.cn) ∧
    V.cell? ⟨(ad.add (k * 4)).block, (ad.add (k * 4)).off + 2, none⟩ = some (.bool false) ∧ V.cell? ⟨(ad.add (k * 4)).block, (ad.add (k * 4)).off + 3, none⟩ = some (.slice r.D (dg (dnz r.q.den)).length r.cd)) := Lib.hid (fun V hb => by
    have h := (hQ.keep hb).at hkr
    rw [hr] at h
    exact h)
  have HRO : Hid (r.Ok w) := Lib.hid (by rw [← hr]; exact hQ.ok _ (List.getElem_mem hkr))
  obtain ⟨W, hW⟩ : ∃ W, (w.alloc (.cells #[.int .i64 (v : Nat), .int .i64 (d : Nat), .slice A n c] 29)).alloc (.cells #[.bool false, .slice none 0 0, .bool false, .slice none 0 0] 52) = W := ⟨_, rfl⟩
  have HBW : Hid (Below w.heap.size w W) := Lib.hid (by rw [← hW]; exact ((Below.refl _ _).alloc (Nat.le_refl _) _).alloc (by simp) _)
  have HB1 : Hid (Blk W w.heap.size 29 #[.int .i64 (v : Nat), .int .i64 (d : Nat), .slice A n c]) := Lib.hid (by rw [← hW]; exact (Blk.new _ _ _).alloc _)
  have HB2 : Hid (Blk W (w.heap.size + 1) 52 #[.bool false, .slice none 0 0, .bool false, .slice none 0 0]) := Lib.hid (by
    rw [← hW]
    have := Blk.new (w.alloc (.cells #[.int .i64 (v : Nat), .int .i64 (d : Nat), .slice A n c] 29)) 52 #[.bool false, .slice none 0 0, .bool false, .slice none 0 0]
    simpa using this)
  have HWW := Lib.hid hW
  have q1 : (0 : Int) ≤ (k : Int) := by omega
  have q2 : (k : Int) < (n : Int) := by omega
  obtain ⟨x0, x1, x2, _, _, _⟩ := HB1.out.three
  clear hW hQ hn hc hM hm hk hkr hr
  go_enter Tryz.func61, Tryz.ntmps61
  go_upto_region 1 with (fail)
  rw [HWW.out]
  clear HWW
  go_upto_region 2 with (go_at_call 99; refine (HIX.out _ HBW.out).mono ?_; rintro e w3 ⟨rfl, hb3⟩; have HB3 := Lib.hid hb3; clear hb3)
  have HC3 := Lib.hid (below_all HBW.out HB3.out)
  obtain ⟨x0, x1, x2, _, _, _⟩ := (HB1.out.keep HB3.out HB1.out.lt).three
  obtain ⟨ad, hAD, c0, c1, c2, c3⟩ := HCC.out _ HC3.out
  subst hAD
  have hZ := HB2.out.keep HB3.out HB2.out.lt
  have hok : r.Ok w3 := HRO.out.keep HC3.out
  have HRES : Hid (∃ r1 : RVal, rs[k]? = some r1 ∧ (Ending.returned r.val) = .returned (.agg #[.bool (decide (r1.q.num < 0)), .slice r1.N (dg r1.q.num.natAbs).length r1.cn, .bool false, .slice r1.D (dg (dnz r1.q.den)).length r1.cd]) ∧ r1.Ok ((((w3.setCell ⟨w.heap.size + 1, 0, none⟩ (.bool (decide (r.q.num < 0)))).setCell ⟨w.heap.size + 1, 1, none⟩ (.slice r.N (dg r.q.num.natAbs).length r.cn)).setCell ⟨w.heap.size + 1, 2, none⟩ (.bool false)).setCell ⟨w.heap.size + 1, 3, none⟩ (.slice r.D (dg (dnz r.q.den)).length r.cd)) ∧
      Below w.heap.size w ((((w3.setCell ⟨w.heap.size + 1, 0, none⟩ (.bool (decide (r.q.num < 0)))).setCell ⟨w.heap.size + 1, 1, none⟩ (.slice r.N (dg r.q.num.natAbs).length r.cn)).setCell ⟨w.heap.size + 1, 2, none⟩ (.bool false)).setCell ⟨w.heap.size + 1, 3, none⟩ (.slice r.D (dg (dnz r.q.den)).length r.cd))) := Lib.hid
    ⟨r, HRK.out, rfl, (RBlk.put hZ hok).ok, Below.four HC3.out (by omega)⟩
  have HPUT : Hid (RBlk ((((w3.setCell ⟨w.heap.size + 1, 0, none⟩ (.bool (decide (r.q.num < 0)))).setCell ⟨w.heap.size + 1, 1, none⟩ (.slice r.N (dg r.q.num.natAbs).length r.cn)).setCell ⟨w.heap.size + 1, 2, none⟩ (.bool false)).setCell ⟨w.heap.size + 1, 3, none⟩ (.slice r.D (dg (dnz r.q.den)).length r.cd)) (w.heap.size + 1) r) := Lib.hid (RBlk.put hZ hok)
  obtain ⟨z0, z1, z2, z3, g0, g1, g2, g3⟩ := hZ.four
  clear hZ hok
  unfold RVal.val at HRES
  have HP := HPUT.out.b
  generalize decide (r.q.num < 0) = s1 at HRES HP c0
  generalize (dg r.q.num.natAbs).length = n1 at HRES HP c1
  generalize (dg (dnz r.q.den)).length = n2 at HRES HP c3
  obtain ⟨t0, t1, t2, t3, _⟩ := HP.four
  clear HP HPUT
  go_wp2
  exact bodyPost_ret (v := .agg #[.bool s1, .slice r.N n1 r.cn, .bool false, .slice r.D n2 r.cd]) (by simp [results, Tryz.results61, go_sem, t0, t1, t2, t3]) rfl HRES.out
/-- The reference's degree. -/
theorem rdeg6_any (v d tn : Nat) (T : Option Addr) (c : Nat) (out : List TQ) (w : World) (hQ : TQs w T out) (htn : out.length = tn) (hm : ∀ t ∈ out, t.el ∈ mons v d) (hv : v ≤ 6) (hd : d ≤ 24) :
    Calls Tryz.prog 31 #[.agg #[.int .i64 (v : Nat), .slice T tn c]] w fun e w' => e = .returned (.int .i64 (topd (out.map TQ.qe))) ∧ Below w.heap.size w w' := by
  obtain ⟨W, hW⟩ : ∃ W, w.alloc (.cells #[.int .i64 (v : Nat), .slice T tn c] 65) = W := ⟨_, rfl⟩
  have hbW : Below w.heap.size w W := by rw [← hW]; exact (Below.refl _ _).alloc (Nat.le_refl _) _
  have HB1 : Hid (Blk W w.heap.size 65 #[.int .i64 (v : Nat), .slice T tn c]) := Lib.hid (by rw [← hW]; exact Blk.new _ _ _)
  have HWW := Lib.hid hW
  have HBW := Lib.hid hbW
  obtain ⟨x0, x1, _, _⟩ := HB1.out.two
  by_cases h0 : tn = 0
  · subst h0
    have hl : out = [] := List.length_eq_zero_iff.1 htn
    subst hl
    clear hQ hm hW hbW htn
    go_enter Tryz.func31, Tryz.ntmps31
    go_upto_region 1 with (fail)
    rw [HWW.out]
    clear HWW
    go_wp2
    go_ret
    exact ⟨rfl, HBW.out⟩
  · have htv : 0 < out.length := by omega
    have htop : topd (out.map TQ.qe) = out[0].el.sum := by
      match out, htv with
      | t :: _, _ => rfl
    have hmem := hm _ (List.getElem_mem htv)
    have HEL : Hid (out[0].el.length = v ∧ ∀ x ∈ out[0].el, 0 ≤ x ∧ x ≤ 24) := Lib.hid ⟨(mons_mem hmem).1, fun x hx => by have := (mons_mem hmem).2 x hx; omega⟩
    have HTE : Hid (∀ V, Below w.heap.size w V → ∃ ad, T = some ad ∧ V.cell? ⟨ad.block, ad.off + 4, none⟩ = some (.slice out[0].E v out[0].ce)) := Lib.hid (fun V hb => by
      obtain ⟨ad, e, _, _, _, _, h2⟩ := (hQ.keep hb).at (k := 0) htv
      rw [(mons_mem hmem).1] at h2
      refine ⟨ad, e, ?_⟩
      simpa [Addr.add] using h2)
    have HIN : Hid (Ints w out[0].E out[0].el) := Lib.hid (hQ.ok _ (List.getElem_mem htv)).e
    have HTP := Lib.hid htop
    have e1 : decide ((tn : Int) = 0) = false := decide_eq_false (by omega)
    have e1' : ((tn : Int) == 0) = false := beq_eq_false_iff_ne.2 (by omega)
    have e2 : (0 : Int) < (tn : Int) := by omega
    generalize topd (out.map TQ.qe) = z at *
    generalize out[0] = t at *
    obtain ⟨rt, E, ce, el⟩ := t
    simp only at HEL HTE HIN HTP
    clear hQ hm hW hbW htn htv htop hmem h0
    go_enter Tryz.func31, Tryz.ntmps31
    go_upto_region 1 with (fail)
    rw [HWW.out]
    clear HWW
    go_wp2
    go_loopw [3, 4] (fun s3 s4 wr => ∃ (y k : Nat), s3 = .int .i64 (y : Nat) ∧ s4 = .int .i64 (k : Nat) ∧ k ≤ v ∧ y ≤ 24 * k ∧ Hid ((el.take k).sum = (y : Int)) ∧ Hid (Below W.heap.size W wr)) (fun _ s4 _ => v - (intOf s4).toNat)
    case atStart => exact ⟨0, 0, rfl, rfl, Nat.zero_le _, by omega, Lib.hid rfl, Lib.hid (Below.refl _ _)⟩
    case round =>
      clear x0 x1
      obtain ⟨wo, rfl⟩ : ∃ wo : World, wo = wr := ⟨_, rfl⟩
      obtain ⟨y, k, rfl, rfl, hk, hy, HS, HB⟩ := hrel
      obtain ⟨x0, x1, _, _⟩ := (HB1.out.keep HB.out HB1.out.lt).two
      by_cases hkv : k < v
      · have f1 : decide ((k : Int) < (v : Int)) = true := decide_eq_true (by omega)
        have f1' : decide (k < v) = true := decide_eq_true hkv
        have hbo := below_all HBW.out HB.out
        obtain ⟨ad, hAD, hc⟩ := HTE.out _ hbo
        subst hAD
        have hke : k < el.length := by have := HEL.out.1; omega
        obtain ⟨bd, hBD, hcb⟩ := Ints.at (HIN.out.keep hbo) hke
        subst hBD
        have hx := HEL.out.2 el[k] (List.getElem_mem _)
        have hsum := sum_take_succ el k hke
        obtain ⟨x, hxe⟩ : ∃ x : Nat, el[k] = (x : Int) := ⟨el[k].toNat, by omega⟩
        have HN : Hid ((el.take (k + 1)).sum = ((y + x : Nat) : Int)) := Lib.hid (by rw [hsum, HS.out, hxe]; omega)
        have hx24 : x ≤ 24 := by omega
        rw [hxe] at hcb
        have wy : IntKind.i64.wrap ((y : Int) + (x : Int)) = (y : Int) + (x : Int) := IntWalk.i64_in _ (by omega)
        have q1 : (0 : Int) ≤ (k : Int) := by omega
        have q2 : (k : Int) < (v : Int) := by omega
        clear hx hsum hxe hbo
        go_wp2
        go_roundw
        case rel => exact ⟨y + x, k + 1, by go_num, by go_num, by omega, by omega, HN, HB⟩
        case measure => simp [intOf]; omega
      · obtain rfl : k = v := by omega
        have f1 : decide ((k : Int) < (k : Int)) = false := decide_eq_false (by omega)
        have HZ : Hid (z = (y : Int)) := Lib.hid (by rw [HTP.out, ← HS.out, List.take_of_length_le (by rw [HEL.out.1]; exact Nat.le_refl _)])
        clear HS
        go_wp2
        go_ret
        exact ⟨by rw [HZ.out]; rfl, below_all HBW.out HB.out⟩
end Go.Proofs.Tg
end
