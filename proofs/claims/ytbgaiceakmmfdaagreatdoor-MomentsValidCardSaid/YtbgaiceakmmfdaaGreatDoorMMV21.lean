/- Parts of the proof: IL3, IL4. -/
import Derived.Test.YtbgaiceakmmfdaaGreatDoorMMV20
section
/- Walks: the program's words: several steps of the Euclidean algorithm applied at once (printed by wip/tools/mk_il3.py). -/
namespace Go.Bw
theorem lin_app {Z X Y P U V cp cq bo p q cp' cq' d bo' x y : Nat} (hs : Z + (U * X + P * cq) = V * Y + P * (cp + bo)) (hp : p + B * cp' = x * U + cp) (hq : q + B * cq' = y * V + cq) (hd : d + (p + bo) = q + B * bo') :
    Z + P * d + (U * (X + P * x) + P * B * cq') = V * (Y + P * y) + P * B * (cp' + bo') := by
  have h1 := congrArg (P * ·) hp
  have h2 := congrArg (P * ·) hq
  have h3 := congrArg (P * ·) hd
  simp only [Nat.mul_add] at h1 h2 h3 hs ⊢
  have e1 : P * (B * cp') = P * B * cp' := (Nat.mul_assoc _ _ _).symm
  have e2 : P * (B * cq') = P * B * cq' := (Nat.mul_assoc _ _ _).symm
  have e3 : P * (B * bo') = P * B * bo' := (Nat.mul_assoc _ _ _).symm
  have e4 : U * (P * x) = P * (x * U) := by rw [Nat.mul_left_comm, Nat.mul_comm U x]
  have e5 : V * (P * y) = P * (y * V) := by rw [Nat.mul_left_comm, Nat.mul_comm V y]
  rw [e4, e5]
  omega
theorem eq_of_low {Z P K c c' : Nat} (h : Z + K * c = P + K * c') (hZ : Z < K) (hP : P < K) : Z = P := by
 have h1 := congrArg (· % K) h
 simp only [Nat.add_mul_mod_self_left] at h1
 rwa [Nat.mod_eq_of_lt hZ, Nat.mod_eq_of_lt hP] at h1
theorem ma_split {x y k : Nat} : (x * y + k) % B + B * ((x * y + k) / B) = x * y + k := Nat.mod_add_div _ _
end Go.Bw
namespace Go.Proofs.Tg.Iw
open Go.RowKit Go.Bw Go.Gr Go.Proofs.Tg
set_option maxHeartbeats 8000000
set_option maxRecDepth 100000
theorem ma_any (x y k : Nat) (hx : x < B) (hy : y < B) (hk : k < B) (w : World) : Calls Tryz.prog 112 #[.int .u64 (x : Nat), .int .u64 (y : Nat), .int .u64 (k : Nat)] w fun e w' => e = .returned (.tuple #[.int .u64 ((x * y + k) % B : Nat), .int .u64 ((x * y + k) / B : Nat)]) ∧ w = w' := by
 obtain ⟨f1, f2⟩ := ma_fit hx hy hk
 have hM := mul64 x y hx hy
 obtain ⟨hi2, hhi⟩ : ∃ z, x * y / B = z := ⟨_, rfl⟩
 obtain ⟨lo, hlo⟩ : ∃ z, x * y % B = z := ⟨_, rfl⟩
 rw [hhi, hlo] at hM
 have HM := Lib.hid hM
 have hA1 : ∀ V, (callFunc 122 #[.int .u64 (lo : Nat), .int .u64 (k : Nat), .int .u64 0]).run Tryz.prog V = _ := fun V => add64 lo k 0 (by omega) V
 obtain ⟨s, hs⟩ : ∃ z, (lo + k + 0) % B = z := ⟨_, rfl⟩
 obtain ⟨c1, hc1⟩ : ∃ z, (lo + k + 0) / B = z := ⟨_, rfl⟩
 rw [hs, hc1] at hA1
 have e1 : s = (x * y + k) % B := by rw [← hs, ← hlo, Nat.add_zero, ma_lo]
 have e2 : hi2 + c1 = (x * y + k) / B := by rw [← hhi, ← hc1, ← hlo, Nat.add_zero, ma_hi]
 obtain ⟨h2, hh2⟩ : ∃ z, hi2 + c1 = z := ⟨_, rfl⟩
 rw [hh2] at e2
 have w1 : IntKind.u64.wrap ((hi2 : Int) + (c1 : Int)) = (h2 : Int) := by
  rw [Go.Proofs.Mul64.addN, hh2]; exact Go.Proofs.Mul64.wrapN _ (by rw [e2]; exact f2)
 have w2 : (hi2 : Int) + (c1 : Int) = (h2 : Int) := by omega
 have w3 : IntKind.u64.wrap (h2 : Int) = (h2 : Int) := Go.Proofs.Mul64.wrapN _ (by rw [e2]; exact f2)
 have HR : Hid (∀ e, e = Ending.returned (.tuple #[.int .u64 (s : Nat), .int .u64 (h2 : Nat)]) → e = .returned (.tuple #[.int .u64 ((x * y + k) % B : Nat), .int .u64 ((x * y + k) / B : Nat)])) := Lib.hid (fun e h => by rw [h, e1, e2])
 clear hhi hlo hs hc1 e1 e2 f1 f2 hh2 hM
 obtain ⟨T, hT⟩ : ∃ T, Ending.returned (.tuple #[.int .u64 ((x * y + k) % B : Nat), .int .u64 ((x * y + k) / B : Nat)]) = T := ⟨_, rfl⟩
 rw [hT] at HR ⊢
 clear hT
 go_enter Tryz.func112, Tryz.ntmps112
 go_wp2_with (go_at_call 121; refine (HM.out _).mono ?_; rintro e w1 ⟨rfl, rfl⟩)
 go_ret2
 exact ⟨HR.out _ rfl, rfl⟩
def ApEq (u0 u1 v0 v1 : Nat) (odd : Bool) (X Y Z W P cp cq cr ct bo lo : Nat) : Prop :=
  (odd = false ∧ Z + (u0 * X + P * cq) = v0 * Y + P * (cp + bo) ∧ W + (v1 * Y + P * ct) = u1 * X + P * (cr + lo)) ∨
  (odd = true ∧ Z + (v0 * Y + P * cp) = u0 * X + P * (cq + bo) ∧ W + (u1 * X + P * cr) = v1 * Y + P * (ct + lo))
/-- What the loop of apply holds: i digits are done. -/
structure ApL (w : World) (base ga gb gs u0 u1 v0 v1 : Nat) (odd : Bool) (xs ys ra rb : List Nat) (wr : World) (i cp cq cr ct bo lo : Nat) (zs ws : List Nat) : Prop where
  zl : zs.length = i
  wl : ws.length = i
  zd : Dig zs
  wd : Dig ws
  cps : cp < B ∧ cq < B ∧ cr < B ∧ ct < B ∧ bo ≤ 1 ∧ lo ≤ 1
  eq : ApEq u0 u1 v0 v1 odd (val (xs.take i)) (val (ys.take i)) (val zs) (val ws) (B ^ i) cp cq cr ct bo lo
  ba : Blk wr ga 118 (warr (zs ++ (xs.drop i ++ ra)))
  bb : Blk wr gb 118 (warr (ws ++ (ys.drop i ++ rb)))
  bs : Blk wr gs 133 (stp u0 u1 v0 v1 odd)
  below : Below base w wr
theorem front_get {zs xs ra : List Nat} {i : Nat} (hz : zs.length = i) (hi : i < xs.length) : (zs ++ (xs.drop i ++ ra))[i]? = some xs[i] := by
 rw [List.getElem?_append_right (by omega), hz, Nat.sub_self, List.drop_eq_getElem_cons hi]; rfl
theorem front_set {zs xs ra : List Nat} {i d : Nat} (hz : zs.length = i) (hi : i < xs.length) : (zs ++ (xs.drop i ++ ra)).set i d = (zs ++ [d]) ++ (xs.drop (i + 1) ++ ra) := by
 rw [List.set_append_right _ _ (by omega), hz, Nat.sub_self, List.drop_eq_getElem_cons hi, List.cons_append, List.set_cons_zero]
 simp
theorem ApL.next {w wr : World} {base ga gb gs u0 u1 v0 v1 : Nat} {odd : Bool} {xs ys ra rb zs ws : List Nat} {i cp cq cr ct bo lo cp' cq' cr' ct' bo' lo' d d2 p q r t x y : Nat} (s : ApL w base ga gb gs u0 u1 v0 v1 odd xs ys ra rb wr i cp cq cr ct bo lo zs ws) (hx : i < xs.length) (hy : i < ys.length) (ex : xs[i] = x) (ey : ys[i] = y)
    (hp : p + B * cp' = x * u0 + cp) (hq : q + B * cq' = y * v0 + cq) (hr : r + B * cr' = y * v1 + cr) (ht : t + B * ct' = x * u1 + ct)
    (hd : (odd = false ∧ d + (p + bo) = q + B * bo' ∧ d2 + (r + lo) = t + B * lo') ∨ (odd = true ∧ d + (q + bo) = p + B * bo' ∧ d2 + (t + lo) = r + B * lo')) (hdB : d < B) (hd2B : d2 < B) (hc : cp' < B ∧ cq' < B ∧ cr' < B ∧ ct' < B ∧ bo' ≤ 1 ∧ lo' ≤ 1)
    (hab : ga ≠ gb) (has : ga ≠ gs) (hbs : gb ≠ gs) (h1 : base ≤ ga) (h2 : base ≤ gb) :
    ApL w base ga gb gs u0 u1 v0 v1 odd xs ys ra rb ((wr.setCell ⟨ga, i, none⟩ (.int .u64 (d : Nat))).setCell ⟨gb, i, none⟩ (.int .u64 (d2 : Nat))) (i + 1) cp' cq' cr' ct' bo' lo' (zs ++ [d]) (ws ++ [d2]) := by
  have hA := s.ba.set i (.int .u64 (d : Nat))
  rw [warr_set, front_set s.zl hx] at hA
  have hB := (s.bb.far (p := ⟨ga, i, none⟩) (fun e => hab e.symm) (.int .u64 (d : Nat))).set i (.int .u64 (d2 : Nat))
  rw [warr_set, front_set s.wl hy] at hB
  refine ⟨by rw [List.length_append, s.zl]; rfl, by rw [List.length_append, s.wl]; rfl, dig_snoc s.zd hdB, dig_snoc s.wd hd2B, hc, ?_, hA.far hab _, hB, (s.bs.far (fun e => has e.symm) _).far (fun e => hbs e.symm) _, below_far (below_far s.below h1 _ _) h2 _ _⟩
  rw [val_snoc, s.zl, val_snoc, s.wl, val_snoc_take hx, val_snoc_take hy, pow_snoc, ex, ey]
  rcases s.eq with ⟨h, g1, g2⟩ | ⟨h, g1, g2⟩
  ·rcases hd with ⟨_, k1, k2⟩ | ⟨h', _⟩
   ·exact .inl ⟨h, lin_app g1 hp hq k1, lin_app g2 hr ht k2⟩
   ·rw [h] at h'; cases h'
  ·rcases hd with ⟨h', _⟩ | ⟨_, k1, k2⟩
   ·rw [h] at h'; cases h'
   ·exact .inr ⟨h, lin_app g1 hq hp k1, lin_app g2 ht hr k2⟩
theorem apply_even (base ga gb ca cb n u0 u1 v0 v1 a b P R : Nat) (xs ys ra rb : List Nat) (w : World) (hA : Blk w ga 118 (warr (xs ++ ra))) (hB : Blk w gb 118 (warr (ys ++ rb))) (hxl : xs.length = n) (hyl : ys.length = n) (hxd : Dig xs) (hyd : Dig ys) (hxv : val xs = a) (hyv : val ys = b) (hn : n ≤ 500000)
    (hu0 : u0 < B) (hu1 : u1 < B) (hv0 : v0 < B) (hv1 : v1 < B) (hR : LmRet a b u0 u1 v0 v1 false P R) (hab : ga ≠ gb) (h1 : base ≤ ga) (h2 : base ≤ gb) :
    Calls Tryz.prog 87 #[.agg #[.int .u64 (u0 : Nat), .int .u64 (u1 : Nat), .int .u64 (v0 : Nat), .int .u64 (v1 : Nat), .bool false], .slice (some ⟨ga, 0, none⟩) n ca, .slice (some ⟨gb, 0, none⟩) n cb] w fun e w' => e = .returned (.tuple #[]) ∧ ∃ zs ws, zs.length = n ∧ ws.length = n ∧ Dig zs ∧ Dig ws ∧ val zs = P ∧ val ws = R ∧ Blk w' ga 118 (warr (zs ++ ra)) ∧ Blk w' gb 118 (warr (ws ++ rb)) ∧ Below base w w' := by
  have hla := hA.lt
  have hlb := hB.lt
  obtain ⟨W0, hW0⟩ : ∃ W, w.alloc (.cells #[.int .u64 (u0 : Nat), .int .u64 (u1 : Nat), .int .u64 (v0 : Nat), .int .u64 (v1 : Nat), .bool false] 133) = W := ⟨_, rfl⟩
  have H0 : Hid (ApL w base ga gb w.heap.size u0 u1 v0 v1 false xs ys ra rb W0 0 0 0 0 0 0 0 [] []) := Lib.hid (by
   refine ⟨rfl, rfl, fun _ hx => absurd hx (by simp), fun _ hx => absurd hx (by simp), by decide, ?_, ?_, ?_, ?_, ?_⟩
   ·left; simp [val]
   ·rw [← hW0]; exact hA.alloc _
   ·rw [← hW0]; exact hB.alloc _
   ·rw [← hW0]; exact Blk.new w 133 (stp u0 u1 v0 v1 false)
   ·rw [← hW0]; exact (Below.refl _ _).alloc (by omega) _)
  have HFIN : Hid (∀ wr cp cq cr ct bo lo zs ws, ApL w base ga gb w.heap.size u0 u1 v0 v1 false xs ys ra rb wr n cp cq cr ct bo lo zs ws → zs.length = n ∧ ws.length = n ∧ Dig zs ∧ Dig ws ∧ val zs = P ∧ val ws = R ∧ Blk wr ga 118 (warr (zs ++ ra)) ∧ Blk wr gb 118 (warr (ws ++ rb)) ∧ Below base w wr) := Lib.hid (fun wr cp cq cr ct bo lo zs ws s => by
   have e := s.eq
   rw [take_all (ys := xs) (by omega), take_all (ys := ys) (by omega), hxv, hyv] at e
   have hz := val_lt s.zd
   rw [s.zl] at hz
   have hw := val_lt s.wd
   rw [s.wl] at hw
   have hbB : b < B ^ n := by rw [← hyv, ← hyl]; exact val_lt hyd
   have hPB : P < B ^ n := Nat.lt_of_le_of_lt hR.le hbB
   have hRB : R < B ^ n := Nat.lt_trans hR.lt hPB
   have hba := s.ba
   have hbb := s.bb
   rw [List.drop_of_length_le (by omega), List.nil_append] at hba hbb
   rcases e with ⟨h, g1, g2⟩ | ⟨h, g1, g2⟩
   ·rcases hR.lin with ⟨h', _⟩ | ⟨_, l1, l2, _⟩
    ·cases h'
    ·refine ⟨s.zl, s.wl, s.zd, s.wd, eq_of_low (c := cq) (c' := cp + bo) (by omega) hz hPB, eq_of_low (c := ct) (c' := cr + lo) (by omega) hw hRB, hba, hbb, s.below⟩
   ·cases h)
  have HXL := Lib.hid hxl
  have HYL := Lib.hid hyl
  have HXD := Lib.hid hxd
  have HYD := Lib.hid hyd
  have HWW := Lib.hid hW0
  have HU0 := Lib.hid hu0
  have HU1 := Lib.hid hu1
  have HV0 := Lib.hid hv0
  have HV1 := Lib.hid hv1
  have has : ga ≠ w.heap.size := by omega
  have hbs : gb ≠ w.heap.size := by omega
  obtain ⟨gs, hgs⟩ : ∃ g, w.heap.size = g := ⟨_, rfl⟩
  rw [hgs] at H0 HFIN has hbs
  have HGS := Lib.hid hgs
  clear hA hB hxl hyl hxd hyd hxv hyv hu0 hu1 hv0 hv1 hR hW0 hla hlb hgs
  go_enter Tryz.func87, Tryz.ntmps87
  go_upto_region 1 with (fail)
  rw [HWW.out, HGS.out]
  go_wp2
  go_loopw [6, 7, 8, 9, 10, 11, 21] (fun s6 s7 s8 s9 s10 s11 s21 wr => ∃ (i cp cq cr ct bo lo : Nat) (zs ws : List Nat), s21 = .int .i64 i ∧ i ≤ n ∧ s6 = .int .u64 (cp : Nat) ∧ s7 = .int .u64 (cq : Nat) ∧ s8 = .int .u64 (cr : Nat) ∧ s9 = .int .u64 (ct : Nat) ∧ s10 = .int .u64 (bo : Nat) ∧ s11 = .int .u64 (lo : Nat) ∧ Hid (ApL w base ga gb gs u0 u1 v0 v1 false xs ys ra rb wr i cp cq cr ct bo lo zs ws)) (fun _ _ _ _ _ _ s21 _ => n - (intOf s21).toNat)
  case atStart => exact ⟨0, 0, 0, 0, 0, 0, 0, [], [], rfl, Nat.zero_le _, rfl, rfl, rfl, rfl, rfl, rfl, H0⟩
  case round =>
   clear H0
   obtain ⟨wo, rfl⟩ : ∃ wo : World, wo = wr := ⟨_, rfl⟩
   obtain ⟨i, cp, cq, cr, ct, bo, lo, zs, ws, rfl, hi, rfl, rfl, rfl, rfl, rfl, rfl, HS⟩ := hrel
   by_cases hin : i < n
   ·have hix : i < xs.length := by rw [HXL.out]; exact hin
    have hiy : i < ys.length := by rw [HYL.out]; exact hin
    have hca := HS.out.ba.cell i
    rw [warr_at (front_get HS.out.zl hix)] at hca
    have hfa := HS.out.ba.frozen i
    have hcb := HS.out.bb.cell i
    rw [warr_at (front_get HS.out.wl hiy)] at hcb
    have hfb := HS.out.bb.frozen i
    obtain ⟨c0, c1, c2, c3, c4, _⟩ := stp_cells HS.out.bs
    obtain ⟨kp, kq, kr, kt, kb, kl⟩ := HS.out.cps
    have hxB := HXD.out xs[i] (List.getElem_mem _)
    have hyB := HYD.out ys[i] (List.getElem_mem _)
    obtain ⟨x, hx⟩ : ∃ x, xs[i] = x := ⟨_, rfl⟩
    obtain ⟨y, hy⟩ : ∃ y, ys[i] = y := ⟨_, rfl⟩
    rw [hx] at hca hxB
    rw [hy] at hcb hyB
    have hp := ma_any x u0 cp hxB HU0.out kp
    have hq := ma_any y v0 cq hyB HV0.out kq
    have hr := ma_any y v1 cr hyB HV1.out kr
    have ht := ma_any x u1 ct hxB HU1.out kt
    have ep := ma_split (x := x) (y := u0) (k := cp)
    have eq := ma_split (x := y) (y := v0) (k := cq)
    have er := ma_split (x := y) (y := v1) (k := cr)
    have et := ma_split (x := x) (y := u1) (k := ct)
    have fp := (ma_fit hxB HU0.out kp).2
    have fq := (ma_fit hyB HV0.out kq).2
    have fr := (ma_fit hyB HV1.out kr).2
    have ft := (ma_fit hxB HU1.out kt).2
    obtain ⟨p, hp1⟩ : ∃ z, (x * u0 + cp) % B = z := ⟨_, rfl⟩
    obtain ⟨cp', hp2⟩ : ∃ z, (x * u0 + cp) / B = z := ⟨_, rfl⟩
    obtain ⟨q, hq1⟩ : ∃ z, (y * v0 + cq) % B = z := ⟨_, rfl⟩
    obtain ⟨cq', hq2⟩ : ∃ z, (y * v0 + cq) / B = z := ⟨_, rfl⟩
    obtain ⟨r, hr1⟩ : ∃ z, (y * v1 + cr) % B = z := ⟨_, rfl⟩
    obtain ⟨cr', hr2⟩ : ∃ z, (y * v1 + cr) / B = z := ⟨_, rfl⟩
    obtain ⟨t, ht1⟩ : ∃ z, (x * u1 + ct) % B = z := ⟨_, rfl⟩
    obtain ⟨ct', ht2⟩ : ∃ z, (x * u1 + ct) / B = z := ⟨_, rfl⟩
    have hpB : p < B := by rw [← hp1]; exact Nat.mod_lt _ (by decide)
    have hqB : q < B := by rw [← hq1]; exact Nat.mod_lt _ (by decide)
    have hrB : r < B := by rw [← hr1]; exact Nat.mod_lt _ (by decide)
    have htB : t < B := by rw [← ht1]; exact Nat.mod_lt _ (by decide)
    rw [hp1, hp2] at hp ep
    rw [hq1, hq2] at hq eq
    rw [hr1, hr2] at hr er
    rw [ht1, ht2] at ht et
    rw [hp2] at fp
    rw [hq2] at fq
    rw [hr2] at fr
    rw [ht2] at ft
    have HP := Lib.hid hp
    have HQ := Lib.hid hq
    have HR := Lib.hid hr
    have HT := Lib.hid ht
    clear hp hq hr ht hp1 hp2 hq1 hq2 hr1 hr2 ht1 ht2
    have hA1 : ∀ V, (callFunc 113 #[.int .u64 (q : Nat), .int .u64 (p : Nat), .int .u64 (bo : Nat)]).run Tryz.prog V = _ := fun V => sub64 q p bo kb V
    obtain ⟨d, hd⟩ : ∃ z, (q + B - p - bo) % B = z := ⟨_, rfl⟩
    obtain ⟨bo', hbo⟩ : ∃ z : Nat, (if q < p + bo then 1 else 0) = z := ⟨_, rfl⟩
    rw [hd, hbo] at hA1
    have hA2 : ∀ V, (callFunc 113 #[.int .u64 (t : Nat), .int .u64 (r : Nat), .int .u64 (lo : Nat)]).run Tryz.prog V = _ := fun V => sub64 t r lo kl V
    obtain ⟨d2, hd2⟩ : ∃ z, (t + B - r - lo) % B = z := ⟨_, rfl⟩
    obtain ⟨lo', hlo⟩ : ∃ z : Nat, (if t < r + lo then 1 else 0) = z := ⟨_, rfl⟩
    rw [hd2, hlo] at hA2
    have g1 := sub_dig (x := q) (y := p) (c := bo) hqB hpB kb
    rw [hd, hbo] at g1
    have g2 := sub_dig (x := t) (y := r) (c := lo) htB hrB kl
    rw [hd2, hlo] at g2
    have HNX := Lib.hid (HS.out.next hix hiy hx hy ep eq er et (.inl ⟨rfl, g1, g2⟩) (by rw [← hd]; exact Nat.mod_lt _ (by decide)) (by rw [← hd2]; exact Nat.mod_lt _ (by decide)) ⟨fp, fq, fr, ft, by rw [← hbo]; exact sub_car, by rw [← hlo]; exact sub_car⟩ hab has hbs h1 h2)
    clear hd hbo hd2 hlo g1 g2 ep eq er et fp fq fr ft hx hy hxB hyB hpB hqB hrB htB kp kq kr kt
    have q0 : (0 : Int) ≤ (i : Int) := by omega
    have q1 : (i : Int) < (n : Int) := by omega
    have q3 : ((i : Int)).toNat = i := by omega
    have d1 : decide ((i : Int) < (n : Int)) = true := decide_eq_true q1
    have d2' : decide (i < n) = true := decide_eq_true hin
    have hne1 : (gb = ga) = False := eq_false (fun e => hab e.symm)
    have hne2 : (ga = gb) = False := eq_false hab
    go_upto_region 8 with (go_at_call 112; with_reducible refine Calls.mono (HP.out _) ?_; rintro e w1 ⟨rfl, rfl⟩)
    go_upto_region 9 with (go_at_call 112; with_reducible refine Calls.mono (HQ.out _) ?_; rintro e w1 ⟨rfl, rfl⟩)
    go_upto_region 10 with (go_at_call 112; with_reducible refine Calls.mono (HR.out _) ?_; rintro e w1 ⟨rfl, rfl⟩)
    go_upto_region 11 with (go_at_call 112; with_reducible refine Calls.mono (HT.out _) ?_; rintro e w1 ⟨rfl, rfl⟩)
    go_wp2
    go_roundw
    case rel => exact ⟨i + 1, cp', cq', cr', ct', bo', lo', _, _, by go_num, by omega, rfl, rfl, rfl, rfl, rfl, rfl, HNX⟩
    case measure => simp [intOf]; omega
   ·obtain rfl : i = n := by omega
    have d1 : decide ((i : Int) < (i : Int)) = false := by simp
    have HF := Lib.hid (HFIN.out wo cp cq cr ct bo lo zs ws HS.out)
    clear HS HFIN
    go_wp2
    go_end0
    exact ⟨rfl, zs, ws, HF.out⟩
theorem apply_odd (base ga gb ca cb n u0 u1 v0 v1 a b P R : Nat) (xs ys ra rb : List Nat) (w : World) (hA : Blk w ga 118 (warr (xs ++ ra))) (hB : Blk w gb 118 (warr (ys ++ rb))) (hxl : xs.length = n) (hyl : ys.length = n) (hxd : Dig xs) (hyd : Dig ys) (hxv : val xs = a) (hyv : val ys = b) (hn : n ≤ 500000)
    (hu0 : u0 < B) (hu1 : u1 < B) (hv0 : v0 < B) (hv1 : v1 < B) (hR : LmRet a b u0 u1 v0 v1 true P R) (hab : ga ≠ gb) (h1 : base ≤ ga) (h2 : base ≤ gb) :
    Calls Tryz.prog 87 #[.agg #[.int .u64 (u0 : Nat), .int .u64 (u1 : Nat), .int .u64 (v0 : Nat), .int .u64 (v1 : Nat), .bool true], .slice (some ⟨ga, 0, none⟩) n ca, .slice (some ⟨gb, 0, none⟩) n cb] w fun e w' => e = .returned (.tuple #[]) ∧ ∃ zs ws, zs.length = n ∧ ws.length = n ∧ Dig zs ∧ Dig ws ∧ val zs = P ∧ val ws = R ∧ Blk w' ga 118 (warr (zs ++ ra)) ∧ Blk w' gb 118 (warr (ws ++ rb)) ∧ Below base w w' := by
  have hla := hA.lt
  have hlb := hB.lt
  obtain ⟨W0, hW0⟩ : ∃ W, w.alloc (.cells #[.int .u64 (u0 : Nat), .int .u64 (u1 : Nat), .int .u64 (v0 : Nat), .int .u64 (v1 : Nat), .bool true] 133) = W := ⟨_, rfl⟩
  have H0 : Hid (ApL w base ga gb w.heap.size u0 u1 v0 v1 true xs ys ra rb W0 0 0 0 0 0 0 0 [] []) := Lib.hid (by
   refine ⟨rfl, rfl, fun _ hx => absurd hx (by simp), fun _ hx => absurd hx (by simp), by decide, ?_, ?_, ?_, ?_, ?_⟩
   ·right; simp [val]
   ·rw [← hW0]; exact hA.alloc _
   ·rw [← hW0]; exact hB.alloc _
   ·rw [← hW0]; exact Blk.new w 133 (stp u0 u1 v0 v1 true)
   ·rw [← hW0]; exact (Below.refl _ _).alloc (by omega) _)
  have HFIN : Hid (∀ wr cp cq cr ct bo lo zs ws, ApL w base ga gb w.heap.size u0 u1 v0 v1 true xs ys ra rb wr n cp cq cr ct bo lo zs ws → zs.length = n ∧ ws.length = n ∧ Dig zs ∧ Dig ws ∧ val zs = P ∧ val ws = R ∧ Blk wr ga 118 (warr (zs ++ ra)) ∧ Blk wr gb 118 (warr (ws ++ rb)) ∧ Below base w wr) := Lib.hid (fun wr cp cq cr ct bo lo zs ws s => by
   have e := s.eq
   rw [take_all (ys := xs) (by omega), take_all (ys := ys) (by omega), hxv, hyv] at e
   have hz := val_lt s.zd
   rw [s.zl] at hz
   have hw := val_lt s.wd
   rw [s.wl] at hw
   have hbB : b < B ^ n := by rw [← hyv, ← hyl]; exact val_lt hyd
   have hPB : P < B ^ n := Nat.lt_of_le_of_lt hR.le hbB
   have hRB : R < B ^ n := Nat.lt_trans hR.lt hPB
   have hba := s.ba
   have hbb := s.bb
   rw [List.drop_of_length_le (by omega), List.nil_append] at hba hbb
   rcases e with ⟨h, g1, g2⟩ | ⟨h, g1, g2⟩
   ·cases h
   ·rcases hR.lin with ⟨_, l1, l2, _⟩ | ⟨h', _⟩
    ·refine ⟨s.zl, s.wl, s.zd, s.wd, eq_of_low (c := cp) (c' := cq + bo) (by omega) hz hPB, eq_of_low (c := cr) (c' := ct + lo) (by omega) hw hRB, hba, hbb, s.below⟩
    ·cases h')
  have HXL := Lib.hid hxl
  have HYL := Lib.hid hyl
  have HXD := Lib.hid hxd
  have HYD := Lib.hid hyd
  have HWW := Lib.hid hW0
  have HU0 := Lib.hid hu0
  have HU1 := Lib.hid hu1
  have HV0 := Lib.hid hv0
  have HV1 := Lib.hid hv1
  have has : ga ≠ w.heap.size := by omega
  have hbs : gb ≠ w.heap.size := by omega
  obtain ⟨gs, hgs⟩ : ∃ g, w.heap.size = g := ⟨_, rfl⟩
  rw [hgs] at H0 HFIN has hbs
  have HGS := Lib.hid hgs
  clear hA hB hxl hyl hxd hyd hxv hyv hu0 hu1 hv0 hv1 hR hW0 hla hlb hgs
  go_enter Tryz.func87, Tryz.ntmps87
  go_upto_region 1 with (fail)
  rw [HWW.out, HGS.out]
  go_wp2
  go_loopw [6, 7, 8, 9, 10, 11, 21] (fun s6 s7 s8 s9 s10 s11 s21 wr => ∃ (i cp cq cr ct bo lo : Nat) (zs ws : List Nat), s21 = .int .i64 i ∧ i ≤ n ∧ s6 = .int .u64 (cp : Nat) ∧ s7 = .int .u64 (cq : Nat) ∧ s8 = .int .u64 (cr : Nat) ∧ s9 = .int .u64 (ct : Nat) ∧ s10 = .int .u64 (bo : Nat) ∧ s11 = .int .u64 (lo : Nat) ∧ Hid (ApL w base ga gb gs u0 u1 v0 v1 true xs ys ra rb wr i cp cq cr ct bo lo zs ws)) (fun _ _ _ _ _ _ s21 _ => n - (intOf s21).toNat)
  case atStart => exact ⟨0, 0, 0, 0, 0, 0, 0, [], [], rfl, Nat.zero_le _, rfl, rfl, rfl, rfl, rfl, rfl, H0⟩
  case round =>
   clear H0
   obtain ⟨wo, rfl⟩ : ∃ wo : World, wo = wr := ⟨_, rfl⟩
   obtain ⟨i, cp, cq, cr, ct, bo, lo, zs, ws, rfl, hi, rfl, rfl, rfl, rfl, rfl, rfl, HS⟩ := hrel
   by_cases hin : i < n
   ·have hix : i < xs.length := by rw [HXL.out]; exact hin
    have hiy : i < ys.length := by rw [HYL.out]; exact hin
    have hca := HS.out.ba.cell i
    rw [warr_at (front_get HS.out.zl hix)] at hca
    have hfa := HS.out.ba.frozen i
    have hcb := HS.out.bb.cell i
    rw [warr_at (front_get HS.out.wl hiy)] at hcb
    have hfb := HS.out.bb.frozen i
    obtain ⟨c0, c1, c2, c3, c4, _⟩ := stp_cells HS.out.bs
    obtain ⟨kp, kq, kr, kt, kb, kl⟩ := HS.out.cps
    have hxB := HXD.out xs[i] (List.getElem_mem _)
    have hyB := HYD.out ys[i] (List.getElem_mem _)
    obtain ⟨x, hx⟩ : ∃ x, xs[i] = x := ⟨_, rfl⟩
    obtain ⟨y, hy⟩ : ∃ y, ys[i] = y := ⟨_, rfl⟩
    rw [hx] at hca hxB
    rw [hy] at hcb hyB
    have hp := ma_any x u0 cp hxB HU0.out kp
    have hq := ma_any y v0 cq hyB HV0.out kq
    have hr := ma_any y v1 cr hyB HV1.out kr
    have ht := ma_any x u1 ct hxB HU1.out kt
    have ep := ma_split (x := x) (y := u0) (k := cp)
    have eq := ma_split (x := y) (y := v0) (k := cq)
    have er := ma_split (x := y) (y := v1) (k := cr)
    have et := ma_split (x := x) (y := u1) (k := ct)
    have fp := (ma_fit hxB HU0.out kp).2
    have fq := (ma_fit hyB HV0.out kq).2
    have fr := (ma_fit hyB HV1.out kr).2
    have ft := (ma_fit hxB HU1.out kt).2
    obtain ⟨p, hp1⟩ : ∃ z, (x * u0 + cp) % B = z := ⟨_, rfl⟩
    obtain ⟨cp', hp2⟩ : ∃ z, (x * u0 + cp) / B = z := ⟨_, rfl⟩
    obtain ⟨q, hq1⟩ : ∃ z, (y * v0 + cq) % B = z := ⟨_, rfl⟩
    obtain ⟨cq', hq2⟩ : ∃ z, (y * v0 + cq) / B = z := ⟨_, rfl⟩
    obtain ⟨r, hr1⟩ : ∃ z, (y * v1 + cr) % B = z := ⟨_, rfl⟩
    obtain ⟨cr', hr2⟩ : ∃ z, (y * v1 + cr) / B = z := ⟨_, rfl⟩
    obtain ⟨t, ht1⟩ : ∃ z, (x * u1 + ct) % B = z := ⟨_, rfl⟩
    obtain ⟨ct', ht2⟩ : ∃ z, (x * u1 + ct) / B = z := ⟨_, rfl⟩
    have hpB : p < B := by rw [← hp1]; exact Nat.mod_lt _ (by decide)
    have hqB : q < B := by rw [← hq1]; exact Nat.mod_lt _ (by decide)
    have hrB : r < B := by rw [← hr1]; exact Nat.mod_lt _ (by decide)
    have htB : t < B := by rw [← ht1]; exact Nat.mod_lt _ (by decide)
    rw [hp1, hp2] at hp ep
    rw [hq1, hq2] at hq eq
    rw [hr1, hr2] at hr er
    rw [ht1, ht2] at ht et
    rw [hp2] at fp
    rw [hq2] at fq
    rw [hr2] at fr
    rw [ht2] at ft
    have HP := Lib.hid hp
    have HQ := Lib.hid hq
    have HR := Lib.hid hr
    have HT := Lib.hid ht
    clear hp hq hr ht hp1 hp2 hq1 hq2 hr1 hr2 ht1 ht2
    have hA1 : ∀ V, (callFunc 113 #[.int .u64 (p : Nat), .int .u64 (q : Nat), .int .u64 (bo : Nat)]).run Tryz.prog V = _ := fun V => sub64 p q bo kb V
    obtain ⟨d, hd⟩ : ∃ z, (p + B - q - bo) % B = z := ⟨_, rfl⟩
    obtain ⟨bo', hbo⟩ : ∃ z : Nat, (if p < q + bo then 1 else 0) = z := ⟨_, rfl⟩
    rw [hd, hbo] at hA1
    have hA2 : ∀ V, (callFunc 113 #[.int .u64 (r : Nat), .int .u64 (t : Nat), .int .u64 (lo : Nat)]).run Tryz.prog V = _ := fun V => sub64 r t lo kl V
    obtain ⟨d2, hd2⟩ : ∃ z, (r + B - t - lo) % B = z := ⟨_, rfl⟩
    obtain ⟨lo', hlo⟩ : ∃ z : Nat, (if r < t + lo then 1 else 0) = z := ⟨_, rfl⟩
    rw [hd2, hlo] at hA2
    have g1 := sub_dig (x := p) (y := q) (c := bo) hpB hqB kb
    rw [hd, hbo] at g1
    have g2 := sub_dig (x := r) (y := t) (c := lo) hrB htB kl
    rw [hd2, hlo] at g2
    have HNX := Lib.hid (HS.out.next hix hiy hx hy ep eq er et (.inr ⟨rfl, g1, g2⟩) (by rw [← hd]; exact Nat.mod_lt _ (by decide)) (by rw [← hd2]; exact Nat.mod_lt _ (by decide)) ⟨fp, fq, fr, ft, by rw [← hbo]; exact sub_car, by rw [← hlo]; exact sub_car⟩ hab has hbs h1 h2)
    clear hd hbo hd2 hlo g1 g2 ep eq er et fp fq fr ft hx hy hxB hyB hpB hqB hrB htB kp kq kr kt
    have q0 : (0 : Int) ≤ (i : Int) := by omega
    have q1 : (i : Int) < (n : Int) := by omega
    have q3 : ((i : Int)).toNat = i := by omega
    have d1 : decide ((i : Int) < (n : Int)) = true := decide_eq_true q1
    have d2' : decide (i < n) = true := decide_eq_true hin
    have hne1 : (gb = ga) = False := eq_false (fun e => hab e.symm)
    have hne2 : (ga = gb) = False := eq_false hab
    go_upto_region 8 with (go_at_call 112; with_reducible refine Calls.mono (HP.out _) ?_; rintro e w1 ⟨rfl, rfl⟩)
    go_upto_region 9 with (go_at_call 112; with_reducible refine Calls.mono (HQ.out _) ?_; rintro e w1 ⟨rfl, rfl⟩)
    go_upto_region 10 with (go_at_call 112; with_reducible refine Calls.mono (HR.out _) ?_; rintro e w1 ⟨rfl, rfl⟩)
    go_upto_region 11 with (go_at_call 112; with_reducible refine Calls.mono (HT.out _) ?_; rintro e w1 ⟨rfl, rfl⟩)
    go_wp2
    go_roundw
    case rel => exact ⟨i + 1, cp', cq', cr', ct', bo', lo', _, _, by go_num, by omega, rfl, rfl, rfl, rfl, rfl, rfl, HNX⟩
    case measure => simp [intOf]; omega
   ·obtain rfl : i = n := by omega
    have d1 : decide ((i : Int) < (i : Int)) = false := by simp
    have HF := Lib.hid (HFIN.out wo cp cq cr ct bo lo zs ws HS.out)
    clear HS HFIN
    go_wp2
    go_end0
    exact ⟨rfl, zs, ws, HF.out⟩
end Go.Proofs.Tg.Iw
end
section
/- The greatest common divisor of the program's numbers: what its loop holds; a zero word appended; a copy of nothing. -/
namespace Go.Proofs.Tg.Iw
open Go.RowKit Go.Bw Go.Gr Go.Proofs.Tg
set_option maxHeartbeats 4000000
set_option maxRecDepth 100000
/-- Words in a block of the call's own, with room behind. -/
structure PadW (w : World) (g c : Nat) (ys : List Nat) : Prop where
  ex : ∃ rs : List Nat, Blk w g 118 (warr (ys ++ rs)) ∧ ys.length + rs.length = c
  le : c ≤ maxLen
theorem PadW.keep {w w' : World} {g c : Nat} {ys : List Nat} (h : PadW w g c ys) (hb : Below w.heap.size w w') : PadW w' g c ys := by
 obtain ⟨rs, h1, h2⟩ := h.ex
 exact ⟨⟨rs, h1.keep hb h1.lt, h2⟩, h.le⟩
theorem PadW.lt {w : World} {g c : Nat} {ys : List Nat} (h : PadW w g c ys) : g < w.heap.size := by
 obtain ⟨rs, h1, _⟩ := h.ex
 exact h1.lt
theorem PadW.sets {w : World} {g c : Nat} {ys : List Nat} (h : PadW w g c ys) : Sets w (some ⟨g, 0, none⟩) ys := by
 obtain ⟨rs, h1, _⟩ := h.ex
 exact sets_pre h1 rfl
theorem PadW.grown {w w' : World} {g c : Nat} {ys : List Nat} {r : Option Nat} (h : PadW w g c ys) (hg : w.grownBy w' r) (hne : some g ≠ r) : PadW w' g c ys := by
 obtain ⟨rs, h1, h2⟩ := h.ex
 exact ⟨⟨rs, (hg.block g h1.lt hne).trans h1, h2⟩, h.le⟩
theorem PadW.of_cl {w : World} {g ex : Nat} {xs : List Nat} (h : Blk w g 118 (warr (xs ++ List.replicate ex 0))) (hm : xs.length + ex ≤ maxLen) : PadW w g (xs.length + ex) xs := ⟨⟨_, h, by simp⟩, hm⟩
/-- A zero word appended. -/
theorem pad_append (w : World) (g c d k : Nat) (ys : List Nat) (hP : PadW w g c ys) (hk : w.cell? ⟨k, 0, none⟩ = some (.int .u64 0)) (hn : ys.length ≤ 1000000) :
    ∃ g' c' w', (Builtin.append_ #[66, 66] 66 #[.slice (some ⟨g, 0, none⟩) ys.length c, .slice (some ⟨k, 0, none⟩) 1 d]).run Tryz.prog w = .ok (.slice (some ⟨g', 0, none⟩) (ys.length + 1) c') w' ∧ PadW w' g' c' (ys ++ [0]) ∧ w.grownBy w' (some g) ∧ (g' = g ∨ g' = w.heap.size) := by
  obtain ⟨i0, hi0, hz0, hz1, hz2⟩ := info_parts u64_info
  obtain ⟨rs, hB, hl⟩ := hP.ex
  have hsrc : Src Tryz.prog i0.size 66 (.slice (some ⟨k, 0, none⟩) 1 d) 1 [.int .u64 0] w := by
   rw [hz1]
   refine Src.ofSlice w Tryz.underlying66 ⟨k, 0, none⟩ 1 d [.int .u64 0] rfl (fun j u hu => ?_) (by simp [Value.oneCell'])
   cases j with
   | zero => simp at hu; subst hu; simpa [Addr.add] using hk
   | succ j => simp at hu
  by_cases hroom : ys.length + 1 ≤ c
  ·have hr := run_append_room_src (P := Tryz.prog) w 66 66 66 118 i0 Tryz.underlying66 hi0 g 0 ys.length c _ 1 [.int .u64 0] hsrc hroom (fun j hj => by
    rw [hz1, hB.cell]
    have : j = 0 := by simpa using hj
    subst this
    have hs := warr_size (ys ++ rs)
    simp at hs
    simp [hs]
    omega) (fun j _ => hB.frozen _)
   rw [hz1] at hr
   have e : w.setCells g (0 + ys.length * 1) [.int .u64 0] = w.setCell ⟨g, ys.length, none⟩ (.int .u64 ((0 : Nat) : Int)) := by
    rw [Nat.zero_add, Nat.mul_one]; rfl
   rw [e] at hr
   obtain ⟨r0, rs', hrs⟩ : ∃ r0 rs', rs = r0 :: rs' := by
    cases rs with
    | nil => simp at hl; omega
    | cons a l => exact ⟨a, l, rfl⟩
   subst hrs
   have hB2 := hB.set ys.length (.int .u64 ((0 : Nat) : Int))
   rw [warr_set, List.set_append_right _ _ (Nat.le_refl _), Nat.sub_self, List.set_cons_zero] at hB2
   refine ⟨g, c, _, hr, ⟨⟨rs', by rw [List.append_assoc]; exact hB2, by simp at hl ⊢; omega⟩, hP.le⟩, ?_, .inl rfl⟩
   exact ⟨rfl, rfl, rfl, by simp [World.setCell], fun k' _ hne => Below.heap_setCell w ⟨g, ys.length, none⟩ _ k' (fun e => hne (by rw [e]))⟩
  ·have hr := run_append_grow_src (P := Tryz.prog) w 66 66 66 118 i0 (.int .u64 0) Tryz.underlying66 hi0 hz0 (some ⟨g, 0, none⟩) ys.length c (ys.map vs)
     (by
      rw [hz1]
      refine run_firstCells_some _ 1 ys.length ⟨g, 0, none⟩ ys.length c (ys.map vs) (by simp) (fun j x hx => ?_)
      rw [add_lit, Nat.zero_add, World.cell?_drew, hB.cell]
      unfold warr
      rw [List.getElem?_toArray, List.map_append, List.getElem?_append_left (List.getElem?_eq_some_iff.1 hx).1]
      exact hx) _ 1 [.int .u64 0] hsrc (by omega) (by omega) (growslice_fits (by omega) (by rw [hz2]; omega))
   have hge := grownCap_ge w (ys.length + 1) c 118
   have hcm : grownCap w (ys.length + 1) c 118 ≤ maxLen := grownCap_le_maxLen w (ys.length + 1) c 118 (by simp only [maxLen]; omega)
   generalize grownCap w (ys.length + 1) c 118 = cap at *
   refine ⟨w.heap.size, cap, _, hr, ⟨⟨List.replicate (cap - (ys.length + 1)) 0, ?_, by simp; omega⟩, hcm⟩, ⟨rfl, rfl, rfl, by simp, fun k hk _ => heap_alloc_old w.drew _ hk⟩, .inr rfl⟩
   rw [zero_words]
   have := Blk.new w.drew 118 ((ys.map vs ++ [Value.int .u64 0]).toArray ++ warr (List.replicate (cap - (ys.length + 1)) 0))
   have e : (ys.map vs ++ [Value.int .u64 0]).toArray = warr (ys ++ [0]) := by simp [warr, vs]
   rw [e, warr_app] at this
   rw [e, warr_app]
   exact this
/-- A copy of nothing. -/
theorem wclone_nil (X : Option Addr) (c : Nat) (w : World) : Calls Tryz.prog 84 #[.slice X 0 c] w fun e w' => ∃ R c', e = .returned (.slice R 0 c') ∧ Below w.heap.size w w' := by
 cases X with
 | none =>
   have hnn : ∀ W : World, (binOp BinOp.eql 66 (.slice none 0 c) (.slice none 0 0)).run Tryz.prog W = .ok (.bool true) W := fun W => Lib.run_eql_slice_nil W _ _ none _ _ _ _ Tryz.underlying66
   go_enter Tryz.func84, Tryz.ntmps84
   go_wp2
   go_ret
   exact ⟨none, 0, rfl, Below.refl _ _⟩
 | some ad =>
   obtain ⟨i0, hi0, hz0, hz1, hz2⟩ := info_parts u64_info
   have hnn : ∀ W : World, (binOp BinOp.eql 66 (.slice (some ad) 0 c) (.slice none 0 0)).run Tryz.prog W = .ok (.bool false) W := fun W => Lib.run_eql_slice_nil W _ _ _ _ _ _ _ Tryz.underlying66
   have hsrc : Src Tryz.prog i0.size 66 (.slice (some ad) 0 c) 0 [] (w.alloc (.cells #[] 118)) := by
    rw [hz1]
    exact Src.ofSlice _ Tryz.underlying66 ad 0 c [] rfl (fun j u hu => by simp at hu) (by simp)
   have hr := run_append_room_src (P := Tryz.prog) (w.alloc (.cells #[] 118)) 66 66 66 118 i0 Tryz.underlying66 hi0 w.heap.size 0 0 0 _ 0 [] hsrc (Nat.le_refl _) (fun j hj => by simp at hj) (fun j hj => by simp at hj)
   have HB := Lib.hid ((Below.refl w.heap.size w).alloc (Nat.le_refl _) (.cells #[] 118))
   have e : (w.alloc (.cells #[] 118)).setCells w.heap.size (0 + 0 * i0.size) [] = w.alloc (.cells #[] 118) := rfl
   rw [e] at hr
   clear hsrc e
   go_enter Tryz.func84, Tryz.ntmps84
   go_upto_region 3 with (fail)
   refine wp_region_list ?_
   refine wpList_plain rfl (fun K hK => ?_)
   go_simp
   refine hK _ _ ?_
   clear hK K
   refine wpList_plain rfl (fun K hK => ?_)
   go_simp
   refine hK _ _ ?_
   clear hK K
   refine wpList_append_run _ rfl _ _ 66 rfl (.slice (some ⟨w.heap.size, 0, none⟩) 0 0) (.slice (some ad) 0 c) rfl rfl hr ?_
   clear hr
   go_wp2
   go_ret
   exact ⟨_, _, rfl, HB.out⟩
/-- The number that a slice of words holds. -/
def rdw (w : World) : Value → Nat
  | .slice (some ad) n _ => val ((List.range n).map fun i => match w.cell? (ad.add i) with | some (.int _ z) => z.toNat | _ => 0)
  | _ => 0
theorem rdw_eq {w : World} {A : Option Addr} {c : Nat} {xs : List Nat} (h : 0 < xs.length → Sets w A xs) : rdw w (.slice A xs.length c) = val xs := by
 cases xs with
 | nil => cases A <;> simp [rdw, val]
 | cons x l =>
   obtain ⟨ad, rfl, _, hc⟩ := Sl.lies (h (by simp)) (by simp)
   show val _ = val _
   congr 1
   refine List.ext_getElem (by rw [List.length_map, List.length_range]) fun i h1 h2 => ?_
   have := hc i (.int .u64 ((x :: l)[i] : Nat)) (by rw [List.getElem?_map, List.getElem?_eq_getElem h2]; rfl)
   rw [List.getElem_map, List.getElem_range, this]
   simp
/-- What the loop of gcdWords holds. -/
structure GcM (base G N : Nat) (w0 wr : World) (ga ca : Nat) (Bd : Option Addr) (cb x y : Nat) : Prop where
  below : Below base w0 wr
  oa : PadW wr ga ca (dg x)
  la : base ≤ ga
  ob : 0 < y → ∃ gb, Bd = some ⟨gb, 0, none⟩ ∧ PadW wr gb cb (dg y) ∧ base ≤ gb ∧ ga ≠ gb
  le : y ≤ x
  pos : 0 < x
  gcd : Nat.gcd x y = G
  small : x ≤ N
  tiny : (dg y).length < 80
theorem GcM.rd {base G N ga ca cb x y : Nat} {w0 wr : World} {Bd : Option Addr} (h : GcM base G N w0 wr ga ca Bd cb x y) : rdw wr (.slice Bd (dg y).length cb) = y := by
 rw [rdw_eq (fun hp => ?_), val_dg]
 have hy : 0 < y := by
  rcases Nat.eq_zero_or_pos y with h | h
  ·rw [h, dg_zero] at hp; simp at hp
  ·exact h
 obtain ⟨gb, rfl, hP, _⟩ := h.ob hy
 exact hP.sets
theorem pad_trim {w : World} {g c : Nat} {zs ra : List Nat} (hB : Blk w g 118 (warr (zs ++ ra))) (hd : Dig zs) (hl : zs.length + ra.length = c) (hc : c ≤ maxLen) : PadW w g c (dg (val zs)) := by
 obtain ⟨h1, h2⟩ := Go.Bw.tzl_dg hd
 have e : dg (val zs) ++ (zs.drop (dg (val zs)).length ++ ra) = zs ++ ra := by
  rw [← List.append_assoc]
  congr 1
  rw [h2] at h1
  conv => lhs; lhs; rw [← h1]
  exact List.take_append_drop _ _
 refine ⟨⟨zs.drop (dg (val zs)).length ++ ra, by rw [e]; exact hB, ?_⟩, hc⟩
 have := congrArg List.length e
 simp only [List.length_append] at this ⊢
 omega
end Go.Proofs.Tg.Iw
end
