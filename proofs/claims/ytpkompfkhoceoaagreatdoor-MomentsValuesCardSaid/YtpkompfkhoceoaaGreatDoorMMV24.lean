/- Parts of the proof: TX1, TX2, PW1, XD2. -/
import Derived.Test.YtpkompfkhoceoaaGreatDoorMMV2
import Derived.Test.YtpkompfkhoceoaaGreatDoorMMV15
import Derived.Test.YtpkompfkhoceoaaGreatDoorMMV23
section
/- Lists of texts of numbers: numbers (the program), Texts (the harness). -/
namespace Go.Proofs.Tg.Fi
open Go.RowKit Go.Rq Go.Qn Go.Proofs.Tg
set_option maxHeartbeats 6400000
set_option maxRecDepth 100000
def vq (q : Rat) : Value := .string (qtx q)
/-- A slice of texts of numbers. -/
abbrev Txts (w : World) (A : Option Addr) (qs : List Rat) : Prop := Sl w A qs.length 1 (qs.map vq)
theorem Txts.at {w : World} {A : Option Addr} {qs : List Rat} (h : Txts w A qs) {k : Nat} (hk : k < qs.length) : ∃ ad, A = some ad ∧ w.cell? (ad.add k) = some (.string (qtx qs[k])) := by
  obtain ⟨ad, rfl, hc⟩ := Sl.at1 h hk
  exact ⟨ad, rfl, by simpa [vq] using hc⟩
theorem numbers_q (A : Option Addr) (c : Nat) (qs : List Rat) (w : World) (hA : Txts w A qs) (hs : ∀ q ∈ qs, Sh q) (hn : qs.length ≤ 1000000) :
    Calls Tryz.prog 37 #[.slice A qs.length c] w fun e w' => e = .returned (.bool true) ∧ Below w.heap.size w w' := by
  have HV := Lib.hid (fun q (h : q ∈ qs) W => valid_q q (hs q h) W)
  obtain ⟨n, hn'⟩ : ∃ n, qs.length = n := ⟨_, rfl⟩
  have HA := Lib.hid hA
  rw [hn'] at hn ⊢
  have HN := Lib.hid hn'
  clear hs hA hn'
  go_enter Tryz.func37, Tryz.ntmps37
  go_wp2
  go_loopw [7] (fun s7 wr => ∃ k : Nat, s7 = .int .i64 (k : Nat) ∧ k ≤ n ∧ Hid (Below w.heap.size w wr)) (fun s7 _ => n - (intOf s7).toNat)
  case atStart => exact ⟨0, rfl, Nat.zero_le _, Lib.hid (Below.refl _ _)⟩
  case round =>
    obtain ⟨wo, rfl⟩ : ∃ wo : World, wo = wr := ⟨_, rfl⟩
    obtain ⟨k, rfl, hk, HB⟩ := hrel
    by_cases hkn : k = n
    · have e1 : decide ((k : Int) < (n : Int)) = false := decide_eq_false (by omega)
      have e1' : decide (k < n) = false := decide_eq_false (by omega)
      clear hkn
      go_wp2
      go_ret
      exact ⟨rfl, HB.out⟩
    · have hkl : k < n := by omega
      have e1 : decide ((k : Int) < (n : Int)) = true := decide_eq_true (by omega)
      have e1' : decide (k < n) = true := decide_eq_true hkl
      obtain ⟨ad, rfl, hc⟩ := Txts.at (HA.out.keep HB.out) (k := k) (by rw [HN.out]; exact hkl)
      have HC := Lib.hid (HV.out (qs[k]'(by rw [HN.out]; exact hkl)) (List.getElem_mem _) wo)
      generalize qtx (qs[k]'(by rw [HN.out]; exact hkl)) = S at *
      clear hkn
      go_wp2_with (fail)
      refine HC.out.mono ?_
      rintro e w2 ⟨rfl, hb2⟩
      go_wp2
      go_roundw
      case rel => exact ⟨k + 1, by go_num, by omega, Lib.hid (below_all HB.out hb2)⟩
      case measure => simp [intOf]; omega
end Go.Proofs.Tg.Fi
end
section
/- Lists of texts that are being filled; Texts of the harness. -/
namespace Go.Proofs.Tg.Fi
open Go.RowKit Go.Rq Go.Qn Go.Bn Go.Proofs.Tg
set_option maxHeartbeats 6400000
set_option maxRecDepth 100000
/-- The first k of n texts are there. -/
def tpart (qs : List Rat) (n k : Nat) : Array Value := ((qs.take k).map vq ++ List.replicate (n - k) (Value.string ⟨#[]⟩)).toArray
theorem tpart_zero (qs : List Rat) (n : Nat) : madeCells #[.string ⟨#[]⟩] n = tpart qs n 0 := by
  apply Array.ext
  · simp [tpart, size_madeCells]
  · intro i h1 h2
    simp [madeCells, tpart, Nat.mod_one]
theorem tpart_all {qs : List Rat} {n : Nat} (h : qs.length = n) : tpart qs n n = (qs.map vq).toArray := by
  subst h
  simp [tpart]
theorem tpart_set {qs : List Rat} {n k : Nat} (h : qs.length = n) (hk : k < n) : (tpart qs n k).setIfInBounds k (.string (qtx (qs[k]'(by omega)))) = tpart qs n (k + 1) := by
  unfold tpart
  rw [List.take_succ_eq_append_getElem (by omega), show n - k = (n - (k + 1)) + 1 by omega, List.replicate_succ]
  have e : ((qs.take k).map vq).length = k := by simp; omega
  simp only [List.setIfInBounds_toArray, List.map_append]
  congr 1
  rw [List.set_append_right _ _ (by omega), e, Nat.sub_self, List.set_cons_zero]
  simp [vq]
theorem tpart_at {qs : List Rat} {n k : Nat} (h : qs.length = n) (hk : k < n) : ∃ u, (tpart qs n k)[k]? = some u := by
  refine ⟨_, Array.getElem?_eq_getElem ?_⟩
  simp [tpart]; omega
theorem txts_of {w : World} {g : Nat} {qs : List Rat} (h : Blk w g 9 (qs.map vq).toArray) : Txts w (some ⟨g, 0, none⟩) qs :=
  ⟨by simp, fun _ => ⟨_, rfl, h.lt, fun j u hu => by rw [add_lit, Nat.zero_add, h.cell j]; simpa using hu⟩⟩
theorem text_info : (Tryz.prog.info? 9).map (fun i => (i.zero, i.size, i.bytes)) = some (some (.string ⟨#[]⟩), 1, 16) := by kernel_rfl
theorem make_txts (n : Nat) (hn : n ≤ 1000000) (w : World) : (Instr.makeSlice 22 (.int .i64 (n : Int)) (.int .i64 (n : Int))).run Tryz.prog w = .ok (.slice (some ⟨w.heap.size, 0, none⟩) n n) (w.alloc (.cells (madeCells #[.string ⟨#[]⟩] n) 9)) := by
  obtain ⟨i0, hi, hz0, hz1, hz2⟩ := info_parts text_info
  have hr := run_make (P := Tryz.prog) w 22 9 i0 (.string ⟨#[]⟩) Tryz.underlying22 hi hz0 .i64 .i64 n n (by omega) (by omega) (by rw [hz2]; omega) (by omega)
  rw [hz1, Nat.mul_one, Int.toNat_natCast] at hr
  exact hr
/-- A slice of rational numbers that can be read. -/
structure QsAt (w : World) (A : Option Addr) (rs : List RVal) : Prop where
  sl : Sl w A rs.length 4 (rs.flatMap RVal.cells)
  ok : ∀ r ∈ rs, r.Ok w
theorem QsAt.keep {w w' : World} {A : Option Addr} {rs : List RVal} (h : QsAt w A rs) (hb : Below w.heap.size w w') : QsAt w' A rs := ⟨h.sl.keep hb, fun r hr => (h.ok r hr).keep hb⟩
theorem OwnQ.qs {base : Nat} {w : World} {A : Option Addr} {c : Nat} {rs : List RVal} (h : OwnQ base w A c rs) : QsAt w A rs := ⟨Sl.own h.own, h.ok⟩
theorem flat4 {rs : List RVal} {k j : Nat} (hk : k < rs.length) {u : Value} (hu : rs[k].cells[j]? = some u) : (rs.flatMap RVal.cells)[k * 4 + j]? = some u := by
  have hj : j < 4 := (List.getElem?_eq_some_iff.1 hu).1
  induction rs generalizing k with
  | nil => exact absurd hk (by simp)
  | cons r rs ih =>
    cases k with
    | zero =>
      rw [List.flatMap_cons, List.getElem?_append_left (by rw [RVal.cells_len]; omega)]
      simpa using hu
    | succ k =>
      rw [List.flatMap_cons, List.getElem?_append_right (by rw [RVal.cells_len]; omega), RVal.cells_len]
      have : (k + 1) * 4 + j - 4 = k * 4 + j := by omega
      rw [this]
      exact ih (by simpa using hk) (by simpa using hu)
/-- The four cells of an element. -/
theorem QsAt.at {w : World} {A : Option Addr} {rs : List RVal} (h : QsAt w A rs) {k : Nat} (hk : k < rs.length) : ∃ ad, A = some ad ∧
    w.cell? (ad.add (k * 4)) = some (.bool (decide (rs[k].q.num < 0))) ∧ w.cell? ⟨(ad.add (k * 4)).block, (ad.add (k * 4)).off + 1, none⟩ = some (.slice rs[k].N (dg rs[k].q.num.natAbs).length rs[k].cn) ∧
    w.cell? ⟨(ad.add (k * 4)).block, (ad.add (k * 4)).off + 2, none⟩ = some (.bool false) ∧ w.cell? ⟨(ad.add (k * 4)).block, (ad.add (k * 4)).off + 3, none⟩ = some (.slice rs[k].D (dg (dnz rs[k].q.den)).length rs[k].cd) := by
  obtain ⟨ad, e, hlt, ha⟩ := h.sl.lies (by omega)
  have off : ∀ j, (⟨(ad.add (k * 4)).block, (ad.add (k * 4)).off + (j + 1), none⟩ : Addr) = ad.add (k * 4 + (j + 1)) := fun j => by
    rw [← add_add]; simp [Addr.add]
  refine ⟨ad, e, ha _ _ (flat4 (j := 0) hk rfl), (congrArg w.cell? (off 0)).trans (ha _ _ (flat4 (j := 1) hk rfl)), (congrArg w.cell? (off 1)).trans (ha _ _ (flat4 (j := 2) hk rfl)), (congrArg w.cell? (off 2)).trans (ha _ _ (flat4 (j := 3) hk rfl))⟩
/-- A list of texts in a block of its own. -/
def RetTxts (qs : List Rat) (w : World) (e : Ending) (w' : World) : Prop := ∃ A, e = .returned (.slice A qs.length qs.length) ∧ Txts w' A qs ∧ Below w.heap.size w w'
/-- The same, with the block named. -/
def RetTB (qs : List Rat) (w : World) (e : Ending) (w' : World) : Prop := ∃ g, e = .returned (.slice (some ⟨g, 0, none⟩) qs.length qs.length) ∧ Blk w' g 9 (qs.map vq).toArray ∧ w.heap.size ≤ g ∧ Below w.heap.size w w'
theorem texts_b (A : Option Addr) (c : Nat) (rs : List RVal) (w : World) (h : QsAt w A rs) (hs : ∀ r ∈ rs, Sh r.q) (hn : rs.length ≤ 1000000) :
    Calls Tryz.prog 19 #[.slice A rs.length c] w (RetTB (rs.map RVal.q) w) := by
  obtain ⟨n, hn'⟩ : ∃ n, rs.length = n := ⟨_, rfl⟩
  have HT := Lib.hid (fun r (hr : r ∈ rs) V (hb : Below w.heap.size w V) => text_q r.q r.val V ((h.ok r hr).keep hb).at (hs r hr))
  have HA := Lib.hid h
  rw [hn'] at hn ⊢
  have HN := Lib.hid hn'
  have hmk := make_txts n hn
  have hql : (rs.map RVal.q).length = n := by rw [List.length_map, hn']
  unfold RetTB
  rw [hql]
  have HQL := Lib.hid hql
  have HFI : Hid ((tpart (rs.map RVal.q) n n) = ((rs.map RVal.q).map vq).toArray) := Lib.hid (tpart_all hql)
  obtain ⟨W, hW⟩ : ∃ W, w.alloc (.cells (madeCells #[.string ⟨#[]⟩] n) 9) = W := ⟨_, rfl⟩
  have HST : Hid (Blk W w.heap.size 9 (tpart (rs.map RVal.q) n 0) ∧ Below w.heap.size w W) := Lib.hid (by
    rw [← hW, tpart_zero (rs.map RVal.q) n]
    exact ⟨Blk.new _ _ _, (Below.refl _ _).alloc (Nat.le_refl _) _⟩)
  have HWW := Lib.hid hW
  clear hs h hn' hql hW
  go_enter Tryz.func19, Tryz.ntmps19
  go_upto_region 2 with (fail)
  rw [HWW.out]
  go_wp2
  go_loopw [4] (fun s4 wr => ∃ k : Nat, s4 = .int .i64 (k : Nat) ∧ k ≤ n ∧ Hid (Blk wr w.heap.size 9 (tpart (rs.map RVal.q) n k) ∧ Below w.heap.size w wr)) (fun s4 _ => n - (intOf s4).toNat)
  case atStart => exact ⟨0, rfl, Nat.zero_le _, HST⟩
  case round =>
    clear HST
    obtain ⟨wo, rfl⟩ : ∃ wo : World, wo = wr := ⟨_, rfl⟩
    obtain ⟨k, rfl, hk, HST⟩ := hrel
    by_cases hkn : k = n
    · have e1 : decide ((k : Int) < (n : Int)) = false := decide_eq_false (by omega)
      have e1' : decide (k < n) = false := decide_eq_false (by omega)
      have HK := Lib.hid hkn
      clear hkn
      go_wp2
      go_ret
      have hB := HST.out.1
      rw [HK.out, HFI.out] at hB
      exact ⟨w.heap.size, rfl, hB, Nat.le_refl _, HST.out.2⟩
    · have hkl : k < n := by omega
      have e1 : decide ((k : Int) < (n : Int)) = true := decide_eq_true (by omega)
      have e1' : decide (k < n) = true := decide_eq_true hkl
      have q0 : (0 : Int) ≤ (k : Int) := by omega
      have q1 : (k : Int) < (n : Int) := by omega
      have hkr : k < rs.length := by rw [HN.out]; exact hkl
      obtain ⟨ad, rfl, h0, h1, h2, h3⟩ := (HA.out.keep HST.out.2).at hkr
      have HC := Lib.hid (HT.out (rs[k]'hkr) (List.getElem_mem _) wo HST.out.2)
      have HSET : Hid ((tpart (rs.map RVal.q) n k).setIfInBounds k (.string (qtx (rs[k]'hkr).q)) = tpart (rs.map RVal.q) n (k + 1)) := Lib.hid (by
        have := tpart_set HQL.out hkl
        simpa using this)
      unfold RVal.val at HC
      generalize rs[k]'hkr = r at *
      generalize decide (r.q.num < 0) = s1 at *
      generalize (dg r.q.num.natAbs).length = n1 at *
      generalize (dg (dnz r.q.den)).length = n2 at *
      generalize qtx r.q = S at *
      generalize r.N = rN at *
      generalize r.D = rD at *
      generalize r.cn = rcn at *
      generalize r.cd = rcd at *
      clear hkn
      go_wp2_with (fail)
      refine HC.out.mono ?_
      rintro e w2 ⟨rfl, hb2⟩
      have hB2 := HST.out.1.keep hb2 HST.out.1.lt
      obtain ⟨u, hu⟩ := tpart_at HQL.out hkl
      have c0 : w2.cell? ⟨w.heap.size, k, none⟩ = some u := by rw [hB2.cell k]; exact hu
      have f0 := hB2.frozen k
      have HB2 := Lib.hid hB2
      clear hu hB2 h0 h1 h2 h3
      go_wp2
      go_roundw
      case rel =>
        refine ⟨k + 1, by go_num, by omega, Lib.hid ⟨?_, below_far (below_all HST.out.2 hb2) (Nat.le_refl _) _ _⟩⟩
        rw [← HSET.out]
        exact HB2.out.set _ _
      case measure => simp [intOf]; omega
theorem texts_q (A : Option Addr) (c : Nat) (rs : List RVal) (w : World) (h : QsAt w A rs) (hs : ∀ r ∈ rs, Sh r.q) (hn : rs.length ≤ 1000000) :
    Calls Tryz.prog 19 #[.slice A rs.length c] w (RetTxts (rs.map RVal.q) w) := by
  refine (texts_b A c rs w h hs hn).mono ?_
  rintro e w' ⟨g, e1, hB, _, hb⟩
  exact ⟨some ⟨g, 0, none⟩, e1, txts_of hB, hb⟩
end Go.Proofs.Tg.Fi
end
section
/- The reference's powers of integers. -/
namespace Go.Proofs.Tg
open Go.RowKit Go.Gr Go.Bn Go.Rq
set_option maxHeartbeats 8000000
set_option maxRecDepth 100000
/-- A block that holds a rational number. -/
structure RBlk (w : World) (g : Nat) (r : RVal) : Prop where
  b : Blk w g 52 #[.bool (decide (r.q.num < 0)), .slice r.N (dg r.q.num.natAbs).length r.cn, .bool false, .slice r.D (dg (dnz r.q.den)).length r.cd]
  ok : r.Ok w
theorem RBlk.keep {w w' : World} {g : Nat} {r : RVal} (h : RBlk w g r) (hb : Below w.heap.size w w') : RBlk w' g r := ⟨h.b.keep hb h.b.lt, h.ok.keep hb⟩
theorem int_bound {z : Int} {s : Nat} (hz : z.natAbs ≤ 16) (hs : s ≤ 128) : QS ((z : Rat) ^ s) := by
  have e : (z : Rat) ^ s = ((z ^ s : Int) : Rat) := by rw [Rat.intCast_pow]
  rw [e]
  refine ⟨?_, (by show 1 < 65536; decide)⟩
  show (z ^ s).natAbs < B ^ 40
  rw [Int.natAbs_pow]
  refine Nat.lt_of_le_of_lt (Nat.pow_le_pow_left hz s) ?_
  exact Nat.lt_of_le_of_lt (Nat.pow_le_pow_right (by omega) hs) (by decide)
theorem RetQ.rval {q : Rat} {w : World} {e : Ending} {w' : World} (h : RetQ q w e w') : ∃ r : RVal, r.q = q ∧ e = .returned r.val ∧ r.Ok w' ∧ Below w.heap.size w w' := by
  obtain ⟨v, rfl, hv, hb⟩ := h
  obtain ⟨r, h1, rfl, h3⟩ := hv.rval
  exact ⟨r, h1, rfl, h3, hb⟩
theorem rat_pow_add (q : Rat) (a : Nat) : ∀ b, q ^ (a + b) = q ^ a * q ^ b
  | 0 => by rw [Nat.add_zero, Rat.pow_zero, Rat.mul_one]
  | b + 1 => by rw [← Nat.add_assoc, Rat.pow_succ, rat_pow_add q a b, Rat.pow_succ, Rat.mul_assoc]
theorem RVal.Ok.four {V : World} {g : Nat} {r : RVal} {cs : Array Value} {a' b' c' d' : Value} {t : TypeId} (h : r.Ok V) (B : Blk V g t cs) (hne : t ≠ 137) : r.Ok ((((V.setCell ⟨g, 0, none⟩ a').setCell ⟨g, 1, none⟩ b').setCell ⟨g, 2, none⟩ c').setCell ⟨g, 3, none⟩ d') := ⟨h.num.four B hne, h.den.four B hne⟩
theorem RBlk.put {V : World} {g : Nat} {r : RVal} {a b c d : Value} (B : Blk V g 52 #[a, b, c, d]) (ok : r.Ok V) : RBlk ((((V.setCell ⟨g, 0, none⟩ (.bool (decide (r.q.num < 0)))).setCell ⟨g, 1, none⟩ (.slice r.N (dg r.q.num.natAbs).length r.cn)).setCell ⟨g, 2, none⟩ (.bool false)).setCell ⟨g, 3, none⟩ (.slice r.D (dg (dnz r.q.den)).length r.cd)) g r :=
  ⟨blk_four B, ok.four B (by decide)⟩
theorem RBlk.oth {V : World} {g g' : Nat} {r : RVal} {cs : Array Value} {a' b' c' d' : Value} (h : RBlk V g' r) (B : Blk V g 52 cs) (hne : g' ≠ g) : RBlk ((((V.setCell ⟨g, 0, none⟩ a').setCell ⟨g, 1, none⟩ b').setCell ⟨g, 2, none⟩ c').setCell ⟨g, 3, none⟩ d') g' r :=
  ⟨(((h.b.far (by simpa using hne) _).far (by simpa using hne) _).far (by simpa using hne) _).far (by simpa using hne) _, h.ok.four B (by decide)⟩
/-- What the loop of Power holds. -/
structure PwrSt (w : World) (z : Int) (n g5 : Nat) (wr : World) (e s r : Nat) (rx ry : RVal) : Prop where
  below : Below w.heap.size w wr
  bx : RBlk wr w.heap.size rx
  by_ : RBlk wr g5 ry
  bz : Blk wr (w.heap.size + 1) 52 #[.bool false, .slice none 0 0, .bool false, .slice none 0 0]
  qx : rx.q = (z : Rat) ^ s
  qy : ry.q = (z : Rat) ^ r
  sum : r + s * e = n
  sle : s ≤ 2 * n + 1
  slt : 0 < e → s ≤ n
theorem power_q (z : Int) (n : Nat) (v : Value) (w : World) (hv : QAt w v (z : Rat)) (hz : z.natAbs ≤ 16) (hn : n ≤ 60) :
    Calls Tryz.prog 90 #[v, .int .i64 (n : Nat)] w (RetQ ((z : Rat) ^ n) w) := by
  obtain ⟨r0, hr0, rfl, hok0⟩ := hv.rval
  have HMU := Lib.hid (fun (p q : RVal) V (hp : p.Ok V) (hq : q.Ok V) (h1 : QS p.q) (h2 : QS q.q) => (rmul_q p.q q.q p.val q.val V hp.at hq.at h1 h2).mono fun _ _ h => h.rval)
  have HIB := Lib.hid (fun s (h : s ≤ 128) => int_bound hz h)
  obtain ⟨W, hW⟩ : ∃ W, (w.alloc (.cells #[.bool (decide (r0.q.num < 0)), .slice r0.N (dg r0.q.num.natAbs).length r0.cn, .bool false, .slice r0.D (dg (dnz r0.q.den)).length r0.cd] 52)).alloc (.cells #[.bool false, .slice none 0 0, .bool false, .slice none 0 0] 52) = W := ⟨_, rfl⟩
  have hbW : Below w.heap.size w W := by rw [← hW]; exact ((Below.refl _ _).alloc (Nat.le_refl _) _).alloc (by simp) _
  have hX : RBlk W w.heap.size r0 := ⟨by rw [← hW]; exact (Blk.new _ _ _).alloc _, hok0.keep hbW⟩
  have hZ : Blk W (w.heap.size + 1) 52 #[.bool false, .slice none 0 0, .bool false, .slice none 0 0] := by
    rw [← hW]
    have := Blk.new (w.alloc (.cells #[.bool (decide (r0.q.num < 0)), .slice r0.N (dg r0.q.num.natAbs).length r0.cn, .bool false, .slice r0.D (dg (dnz r0.q.den)).length r0.cd] 52)) 52 #[.bool false, .slice none 0 0, .bool false, .slice none 0 0]
    simpa using this
  have HR1 := Lib.hid (fun V => (r_q 1 (by decide) (by decide) V).mono fun _ _ h => h.rval)
  have HX := Lib.hid hX
  have HZ := Lib.hid hZ
  have HBW := Lib.hid hbW
  have HWW := Lib.hid hW
  have HR0 := Lib.hid hr0
  clear hW hX hZ hok0 hr0 hv
  try unfold RVal.val
  generalize hs1 : decide (r0.q.num < 0) = s1 at *
  generalize hn1 : (dg r0.q.num.natAbs).length = n1 at *
  generalize hn2 : (dg (dnz r0.q.den)).length = n2 at *
  clear hs1 hn1 hn2
  go_enter Tryz.func90, Tryz.ntmps90
  go_upto_region 1 with (fail)
  rw [HWW.out]
  go_wp2_with (fail)
  refine (HR1.out W).mono ?_
  rintro e w1 ⟨r1, hq1, rfl, hok1, hb1⟩
  have HST : Hid (∀ W1, W1 = w1.alloc (.cells #[.bool (decide (r1.q.num < 0)), .slice r1.N (dg r1.q.num.natAbs).length r1.cn, .bool false, .slice r1.D (dg (dnz r1.q.den)).length r1.cd] 52) → PwrSt w z n w1.heap.size W1 n 1 0 r0 r1) := Lib.hid (fun W1 e => by
    subst e
    have hal := Below.alloc (Below.refl w1.heap.size w1) (Nat.le_refl _) (.cells #[.bool (decide (r1.q.num < 0)), .slice r1.N (dg r1.q.num.natAbs).length r1.cn, .bool false, .slice r1.D (dg (dnz r1.q.den)).length r1.cd] 52)
    refine ⟨below_all (below_all HBW.out hb1) hal, (HX.out.keep hb1).keep hal, ⟨Blk.new _ _ _, hok1.keep hal⟩, (HZ.out.keep hb1 HZ.out.lt).alloc _, ?_, ?_, by omega, by omega, fun h => h⟩
    · rw [HR0.out, Rat.pow_one]
    · rw [hq1, Rat.pow_zero]; rfl)
  have hg5 : w.heap.size + 1 < w1.heap.size := by have := HZ.out.lt; have := hb1.size; omega
  have hwz : w.heap.size < w1.heap.size := by omega
  clear hok1 hb1 hq1 HX HZ HR1
  try unfold RVal.val
  generalize decide (r1.q.num < 0) = s2 at *
  generalize (dg r1.q.num.natAbs).length = m1 at *
  generalize (dg (dnz r1.q.den)).length = m2 at *
  generalize r1.N = rN1 at *
  generalize r1.D = rD1 at *
  generalize r1.cn = rcn1 at *
  generalize r1.cd = rcd1 at *
  go_wp2
  obtain ⟨g5, hg5e⟩ : ∃ g, w1.heap.size = g := ⟨_, rfl⟩
  rw [hg5e] at HST hg5 hwz ⊢
  go_loopw [1] (fun st wr => ∃ (e0 s0 k0 : Nat) (rx ry : RVal), st = .int .i64 (e0 : Nat) ∧ e0 ≤ n ∧ Hid (PwrSt w z n g5 wr e0 s0 k0 rx ry)) (fun st _ => (intOf st).toNat)
  case atStart => exact ⟨n, 1, 0, r0, r1, rfl, Nat.le_refl _, Lib.hid (HST.out _ rfl)⟩
  case round =>
    clear HST hg5e
    obtain ⟨wo, rfl⟩ : ∃ wo : World, wo = wr := ⟨_, rfl⟩
    obtain ⟨e0, s0, k0, rx, ry, rfl, he, HST⟩ := hrel
    by_cases h0 : e0 = 0
    · subst h0
      have hk : k0 = n := by have := HST.out.sum; simpa using this
      have hY := HST.out.by_
      have hZ := HST.out.bz
      obtain ⟨u0, u1, u2, u3, f0, f1, f2, f3⟩ := hY.b.four
      obtain ⟨z0, z1, z2, z3, g0, g1, g2, g3⟩ := hZ.four
      have HZB := Lib.hid hZ
      have HRES : Hid (RetQ ((z : Rat) ^ n) w (.returned ry.val) ((((wo.setCell ⟨w.heap.size + 1, 0, none⟩ (.bool (decide (ry.q.num < 0)))).setCell ⟨w.heap.size + 1, 1, none⟩ (.slice ry.N (dg ry.q.num.natAbs).length ry.cn)).setCell ⟨w.heap.size + 1, 2, none⟩ (.bool false)).setCell ⟨w.heap.size + 1, 3, none⟩ (.slice ry.D (dg (dnz ry.q.den)).length ry.cd))) := Lib.hid (by
        have hp := RBlk.put hZ hY.ok
        refine ⟨_, rfl, ?_, Below.four HST.out.below (by omega)⟩
        have h3 := hp.ok.at
        have e1 : (z : Rat) ^ n = ry.q := by rw [HST.out.qy, hk]
        rw [e1]
        exact h3)
      unfold RVal.val at HRES
      clear hY hZ hk
      generalize decide (ry.q.num < 0) = sy at *
      generalize (dg ry.q.num.natAbs).length = ny at *
      generalize (dg (dnz ry.q.den)).length = my at *
      generalize ry.N = Ny at *
      generalize ry.D = Dy at *
      generalize ry.cn = cny at *
      generalize ry.cd = cdy at *
      go_wp2
      obtain ⟨p0, p1, p2, p3, _⟩ := (blk_four (a' := .bool sy) (b' := .slice Ny ny cny) (c' := .bool false) (d' := .slice Dy my cdy) HZB.out).four
      exact bodyPost_ret (v := .agg #[.bool sy, .slice Ny ny cny, .bool false, .slice Dy my cdy]) (by simp [results, Tryz.results90, go_sem, p0, p1, p2, p3]) rfl HRES.out
    · have he0 : 0 < e0 := by omega
      have hsl := HST.out.slt he0
      have d0 : decide ((0 : Int) < (e0 : Int)) = true := decide_eq_true (by omega)
      have d0' : decide (0 < e0) = true := decide_eq_true he0
      have hkn : k0 ≤ n := by have := HST.out.sum; omega
      have hqx : QS rx.q := by rw [HST.out.qx]; exact HIB.out _ (by omega)
      have hqy : QS ry.q := by rw [HST.out.qy]; exact HIB.out _ (by omega)
      have hmod : Int.tmod (e0 : Int) 2 = ((e0 % 2 : Nat) : Int) := by rw [show (2 : Int) = ((2 : Nat) : Int) from rfl, Int.ofNat_tmod]
      have hdiv : Int.tdiv (e0 : Int) 2 = ((e0 / 2 : Nat) : Int) := by rw [show (2 : Int) = ((2 : Nat) : Int) from rfl, ← Int.ofNat_tdiv]
      have hw1 : IntKind.i64.wrap ((e0 / 2 : Nat) : Int) = ((e0 / 2 : Nat) : Int) := IntWalk.i64_in _ (by omega)
      have hw2 : IntKind.i64.wrap ((e0 % 2 : Nat) : Int) = ((e0 % 2 : Nat) : Int) := IntWalk.i64_in _ (by omega)
      obtain ⟨eh, heh⟩ : ∃ x, e0 / 2 = x := ⟨_, rfl⟩
      rw [heh] at hdiv hw1
      have hel : eh < e0 := by omega
      have HX := Lib.hid HST.out.bx
      have HY := Lib.hid HST.out.by_
      obtain ⟨x0, x1, x2, x3, h0', h1', h2', h3'⟩ := HST.out.bx.b.four
      have hgx : w.heap.size ≠ g5 := by omega
      have hgz : w.heap.size + 1 ≠ g5 := by omega
      by_cases hpar : e0 % 2 = 1
      · have hm1 : e0 % 2 = 1 := by omega
        rw [hm1] at hmod hw2
        have h1b : ((1 : Int) == 1) = true := rfl
        obtain ⟨y0, y1, y2, y3, k0', k1', k2', k3'⟩ := HST.out.by_.b.four
        have HYX := Lib.hid (HMU.out ry rx wo HST.out.by_.ok HST.out.bx.ok hqy hqx)
        have HXX := Lib.hid (fun V (h : rx.Ok V) => HMU.out rx rx V h h hqx hqx)
        have HA : Hid (∀ (w3 : World) (r3 : RVal), r3.q = ry.q * rx.q → r3.Ok w3 → Below wo.heap.size wo w3 → ∀ W3, W3 = ((((w3.setCell ⟨g5, 0, none⟩ (.bool (decide (r3.q.num < 0)))).setCell ⟨g5, 1, none⟩ (.slice r3.N (dg r3.q.num.natAbs).length r3.cn)).setCell ⟨g5, 2, none⟩ (.bool false)).setCell ⟨g5, 3, none⟩ (.slice r3.D (dg (dnz r3.q.den)).length r3.cd)) → RBlk W3 w.heap.size rx ∧ RBlk W3 g5 r3 ∧ Below w.heap.size w W3 ∧ Blk W3 (w.heap.size + 1) 52 #[.bool false, .slice none 0 0, .bool false, .slice none 0 0] ∧ r3.q = (z : Rat) ^ (k0 + s0)) := Lib.hid (fun w3 r3 hq3 hok3 hb3 W3 e3 => by
          subst e3
          have hY3 := HST.out.by_.keep hb3
          have hX3 := HST.out.bx.keep hb3
          have hZ3 := HST.out.bz.keep hb3 HST.out.bz.lt
          refine ⟨hX3.oth hY3.b hgx, RBlk.put hY3.b hok3, Below.four (below_all HST.out.below hb3) (by omega), ?_, ?_⟩
          · exact (((hZ3.far (by simpa using hgz) _).far (by simpa using hgz) _).far (by simpa using hgz) _).far (by simpa using hgz) _
          · rw [hq3, HST.out.qy, HST.out.qx, ← rat_pow_add])
        have HB : Hid (∀ (W3 w5 : World) (r3 r5 : RVal), RBlk W3 w.heap.size rx → RBlk W3 g5 r3 → Below w.heap.size w W3 → Blk W3 (w.heap.size + 1) 52 #[.bool false, .slice none 0 0, .bool false, .slice none 0 0] → r3.q = (z : Rat) ^ (k0 + s0) → r5.q = rx.q * rx.q → r5.Ok w5 → Below W3.heap.size W3 w5 → PwrSt w z n g5 ((((w5.setCell ⟨w.heap.size, 0, none⟩ (.bool (decide (r5.q.num < 0)))).setCell ⟨w.heap.size, 1, none⟩ (.slice r5.N (dg r5.q.num.natAbs).length r5.cn)).setCell ⟨w.heap.size, 2, none⟩ (.bool false)).setCell ⟨w.heap.size, 3, none⟩ (.slice r5.D (dg (dnz r5.q.den)).length r5.cd)) eh (s0 + s0) (k0 + s0) r5 r3) := Lib.hid (fun W3 w5 r3 r5 a1 a2 a3 a4 a5 a6 a7 hb5 => by
          have hX5 := a1.keep hb5
          have hY5 := a2.keep hb5
          refine ⟨Below.four (below_all a3 hb5) (Nat.le_refl _), RBlk.put hX5.b a7, hY5.oth hX5.b (by omega), ?_, ?_, a5, ?_, by omega, ?_⟩
          · have hz := a4.keep hb5 a4.lt
            exact (((hz.far (by simp) _).far (by simp) _).far (by simp) _).far (by simp) _
          · rw [a6, HST.out.qx, ← rat_pow_add]
          · have h1 := HST.out.sum
            have h2 : e0 = 2 * eh + 1 := by omega
            rw [h2, Nat.mul_add, ← Nat.mul_assoc] at h1
            rw [← h1, Nat.add_mul, Nat.mul_comm s0 2, Nat.mul_assoc 2 s0 eh, Nat.mul_one]
            omega
          · intro h
            have h1 := HST.out.sum
            have h2 : s0 * 2 ≤ s0 * e0 := Nat.mul_le_mul_left _ (by omega)
            omega)
        have HXO := Lib.hid HST.out.bx.ok
        clear hqx hqy h0
        unfold RVal.val at HYX HXX
        generalize decide (ry.q.num < 0) = sy at *
        generalize (dg ry.q.num.natAbs).length = ny at *
        generalize (dg (dnz ry.q.den)).length = my at *
        generalize ry.N = Ny at *
        generalize ry.D = Dy at *
        generalize ry.cn = cny at *
        generalize ry.cd = cdy at *
        generalize hsx : decide (rx.q.num < 0) = sx at *
        generalize hnx : (dg rx.q.num.natAbs).length = nx at *
        generalize hmx : (dg (dnz rx.q.den)).length = mx at *
        generalize hNx : rx.N = Nx at *
        generalize hDx : rx.D = Dx at *
        generalize hcnx : rx.cn = cnx at *
        generalize hcdx : rx.cd = cdx at *
        have HSX := Lib.hid (And.intro hsx (And.intro hnx (And.intro hmx (And.intro hNx (And.intro hDx (And.intro hcnx hcdx))))))
        clear hsx hnx hmx hNx hDx hcnx hcdx
        go_wp2_with (fail)
        refine HYX.out.mono ?_
        rintro e w3 ⟨r3, hq3, rfl, hok3, hb3⟩
        have hA := Lib.hid (HA.out w3 r3 hq3 hok3 hb3)
        have hY3 := HY.out.keep hb3
        clear hq3
        clear x0 x1 x2 x3 h0' h1' h2' h3' y0 y1 y2 y3 k0' k1' k2' k3' HYX
        have hC := hY3.b
        obtain ⟨y0, y1, y2, y3, k0', k1', k2', k3'⟩ := hC.four
        clear hC
        try unfold RVal.val
        go_upto_region 5 with (fail)
        obtain ⟨W3, hW3⟩ : ∃ W3, ((((w3.setCell ⟨g5, 0, none⟩ (.bool (decide (r3.q.num < 0)))).setCell ⟨g5, 1, none⟩ (.slice r3.N (dg r3.q.num.natAbs).length r3.cn)).setCell ⟨g5, 2, none⟩ (.bool false)).setCell ⟨g5, 3, none⟩ (.slice r3.D (dg (dnz r3.q.den)).length r3.cd)) = W3 := ⟨_, rfl⟩
        have hA2 := hA.out W3 hW3.symm
        rw [hW3]
        obtain ⟨a1, a2, a3, a4, a5⟩ := hA2
        have HPX := Lib.hid (HXX.out W3 a1.ok)
        have HBB := Lib.hid (fun w5 r5 e6 e7 e8 => HB.out W3 w5 r3 r5 a1 a2 a3 a4 a5 e6 e7 e8)
        obtain ⟨x0, x1, x2, x3, h0', h1', h2', h3'⟩ := a1.b.four
        rw [HSX.out.1] at x0
        rw [HSX.out.2.1, HSX.out.2.2.2.1, HSX.out.2.2.2.2.2.1] at x1
        rw [HSX.out.2.2.1, HSX.out.2.2.2.2.1, HSX.out.2.2.2.2.2.2] at x3
        have HA1 := Lib.hid a1
        clear hW3 hA HA a2 a3 a4 a5 hY3 y0 y1 y2 y3 k0' k1' k2' k3' a1 HXX HB hok3 hb3
        go_wp2_with (fail)
        refine HPX.out.mono ?_
        rintro e w5 ⟨r5, hq5, rfl, hok5, hb5⟩
        have hD := HA1.out.b.keep hb5 HA1.out.b.lt
        obtain ⟨x0, x1, x2, x3, h0', h1', h2', h3'⟩ := hD.four
        have HFIN := Lib.hid (HBB.out w5 r5 hq5 hok5 hb5)
        try unfold RVal.val
        clear hD HBB HPX hq5
        go_wp2
        go_roundw
        case rel => exact ⟨eh, s0 + s0, k0 + s0, r5, r3, rfl, by omega, HFIN⟩
        case measure => simp [intOf]; omega
      · have hm1 : e0 % 2 = 0 := by omega
        rw [hm1] at hmod hw2
        have h1b : ((0 : Int) == 1) = false := rfl
        have HXX := Lib.hid (fun V (h : rx.Ok V) => HMU.out rx rx V h h hqx hqx)
        have HB : Hid (∀ (W3 w5 : World) (r3 r5 : RVal), RBlk W3 w.heap.size rx → RBlk W3 g5 r3 → Below w.heap.size w W3 → Blk W3 (w.heap.size + 1) 52 #[.bool false, .slice none 0 0, .bool false, .slice none 0 0] → r3.q = (z : Rat) ^ k0 → r5.q = rx.q * rx.q → r5.Ok w5 → Below W3.heap.size W3 w5 → PwrSt w z n g5 ((((w5.setCell ⟨w.heap.size, 0, none⟩ (.bool (decide (r5.q.num < 0)))).setCell ⟨w.heap.size, 1, none⟩ (.slice r5.N (dg r5.q.num.natAbs).length r5.cn)).setCell ⟨w.heap.size, 2, none⟩ (.bool false)).setCell ⟨w.heap.size, 3, none⟩ (.slice r5.D (dg (dnz r5.q.den)).length r5.cd)) eh (s0 + s0) k0 r5 r3) := Lib.hid (fun W3 w5 r3 r5 a1 a2 a3 a4 a5 a6 a7 hb5 => by
          have hX5 := a1.keep hb5
          have hY5 := a2.keep hb5
          refine ⟨Below.four (below_all a3 hb5) (Nat.le_refl _), RBlk.put hX5.b a7, hY5.oth hX5.b (by omega), ?_, ?_, a5, ?_, by omega, ?_⟩
          · have hz := a4.keep hb5 a4.lt
            exact (((hz.far (by simp) _).far (by simp) _).far (by simp) _).far (by simp) _
          · rw [a6, HST.out.qx, ← rat_pow_add]
          · have h1 := HST.out.sum
            have h2 : e0 = 2 * eh := by omega
            rw [h2] at h1
            rw [← h1, ← Nat.two_mul, Nat.mul_comm 2 s0, Nat.mul_assoc]
          · intro h
            have h1 := HST.out.sum
            have h2 : s0 * 2 ≤ s0 * e0 := Nat.mul_le_mul_left _ (by omega)
            omega)
        have HXO := Lib.hid HST.out.bx.ok
        clear hqx hqy h0
        have HPX := Lib.hid (HXX.out wo HST.out.bx.ok)
        have HBB := Lib.hid (fun w5 r5 e6 e7 e8 => HB.out wo w5 ry r5 HST.out.bx HST.out.by_ HST.out.below HST.out.bz HST.out.qy e6 e7 e8)
        have HA1 := Lib.hid HST.out.bx
        clear HXX HB
        unfold RVal.val at HPX
        generalize decide (rx.q.num < 0) = sx at *
        generalize (dg rx.q.num.natAbs).length = nx at *
        generalize (dg (dnz rx.q.den)).length = mx at *
        generalize rx.N = Nx at *
        generalize rx.D = Dx at *
        generalize rx.cn = cnx at *
        generalize rx.cd = cdx at *
        go_wp2_with (fail)
        refine HPX.out.mono ?_
        rintro e w5 ⟨r5, hq5, rfl, hok5, hb5⟩
        have hD := HA1.out.b.keep hb5 HA1.out.b.lt
        obtain ⟨x0, x1, x2, x3, h0', h1', h2', h3'⟩ := hD.four
        have HFIN := Lib.hid (HBB.out w5 r5 hq5 hok5 hb5)
        try unfold RVal.val
        clear hD HBB HPX hq5
        go_wp2
        go_roundw
        case rel => exact ⟨eh, s0 + s0, k0, r5, ry, rfl, by omega, HFIN⟩
        case measure => simp [intOf]; omega
end Go.Proofs.Tg
end
section
/- Memory of the reference's classes: keys that stay and classes that grow, all apart. -/
namespace Go.Proofs.Tg
open Go.RowKit
structure KInv (base : Nat) (KA : Option Addr) (kc : Nat) (K : List (List Int)) (kval : Nat → Value) (C : Option Addr) (cc : Nat) (Cl : List (List Nat)) (val : Nat → Value) (w : World) : Prop where
  fam : Fam base C cc Cl val w
  krow : w.ownsRow base 41 1 (.slice KA K.length kc) K.length ((List.range K.length).map kval)
  kown : ∀ j, j < K.length → w.ownsRow base 3 1 (kval j) (K.getD j []).length ((K.getD j []).map vi)
  ksep : ∀ i j, i < K.length → j < Cl.length → (kval i).ownBlock = none ∨ (kval i).ownBlock ≠ (val j).ownBlock
  rsep : (Value.slice KA K.length kc).ownBlock = none ∨ (Value.slice KA K.length kc).ownBlock ≠ (Value.slice C Cl.length cc).ownBlock
theorem KInv.nil (base : Nat) (w : World) : KInv base none 0 [] (fun _ => .slice none 0 0) none 0 [] (fun _ => .slice none 0 0) w :=
  ⟨Fam.nil _ _, World.ownsRow_nil _ _ _ _, fun j h => absurd h (by simp), fun i j h => absurd h (by simp), .inl rfl⟩
theorem KInv.keep {base : Nat} {KA : Option Addr} {kc : Nat} {K : List (List Int)} {kval : Nat → Value} {C : Option Addr} {cc : Nat} {Cl : List (List Nat)} {val : Nat → Value} {w w' : World} (h : KInv base KA kc K kval C cc Cl val w) (hb : Below w.heap.size w w') : KInv base KA kc K kval C cc Cl val w' :=
  ⟨h.fam.keep hb, own_below h.krow hb (Nat.le_refl _), fun j hj => own_below (h.kown j hj) hb (Nat.le_refl _), h.ksep, h.rsep⟩
theorem KInv.alloc {base : Nat} {KA : Option Addr} {kc : Nat} {K : List (List Int)} {kval : Nat → Value} {C : Option Addr} {cc : Nat} {Cl : List (List Nat)} {val : Nat → Value} {w : World} (h : KInv base KA kc K kval C cc Cl val w) (o : Obj) : KInv base KA kc K kval C cc Cl val (w.alloc o) :=
  h.keep ((Below.refl _ _).alloc (Nat.le_refl _) o)
theorem KInv.add {base : Nat} {KA : Option Addr} {kc : Nat} {K : List (List Int)} {kval : Nat → Value} {g : Nat} {cc : Nat} {Cl : List (List Nat)} {val : Nat → Value} {w w' : World} {k i : Nat} {v' : Value} (h : KInv base KA kc K kval (some ⟨g, 0, none⟩) cc Cl val w) (hk : k < Cl.length)
    (hr : w'.ownsRow base 3 1 v' ((Cl.getD k []).length + 1) ((Cl.getD k []).map vn ++ [vn i])) (hg : w.grownBy w' (val k).ownBlock) (hat : v'.ownBlock = (val k).ownBlock ∨ v'.ownBlock = some w.heap.size) :
    KInv base KA kc K kval (some ⟨g, 0, none⟩) cc (Cl.set k (Cl.getD k [] ++ [i])) (fun j => if j = k then v' else val j) (w'.setCell ⟨g, k, none⟩ v') := by
  have hlen : (Cl.set k (Cl.getD k [] ++ [i])).length = Cl.length := by simp
  have hrow' := h.fam.row.kept hg (own_ne h.fam.row (h.fam.own k hk) (by decide))
  have hst := hrow'.stored k v'
  have hkr := h.krow.kept hg (own_ne h.krow (h.fam.own k hk) (by decide))
  refine ⟨h.fam.add hk hr hg hat, ?_, fun j hj => ?_, fun a b ha hb => ?_, ?_⟩
  · exact hkr.kept hst.2 (by
      rcases h.rsep with e | e
      · exact .inl e
      · exact .inr (by simpa [Value.ownBlock] using e))
  · have h1 := (h.kown j hj).kept hg (h.ksep j k hj hk)
    exact h1.kept hst.2 (own_ne h1 hrow' (by decide))
  · rw [hlen] at hb
    by_cases e : b = k
    · rw [if_pos e]
      rcases hat with hx | hx
      · rw [hx]; exact h.ksep a k ha hk
      · cases hbk : (kval a).ownBlock with
        | none => exact .inl rfl
        | some z =>
          right
          rw [hx]
          intro e2
          injection e2 with e2
          have := ((h.kown a ha).lt z hbk).2
          omega
    · rw [if_neg e]; exact h.ksep a b ha hb
  · rw [hlen]; exact h.rsep
end Go.Proofs.Tg
end
