/- Parts of the proof: JH1, JH2, Fr38, JH3. -/
import Derived.Deep.Slices
import Derived.Test.YtbgaiceakmmfdaaGreatDoorMMR0
import Derived.Test.YtbgaiceakmmfdaaGreatDoorMMR2
import Derived.Test.YtbgaiceakmmfdaaGreatDoorMMR31
import Derived.Test.YtbgaiceakmmfdaaGreatDoorMMR33
set_option maxHeartbeats 64000000
set_option maxRecDepth 100000
section
namespace Go.Rq
open Go.Mm
def Pb (i j : Nat) (q : Rat) : Prop := q.num.natAbs ≤ 10 ^ i ∧ q.den ≤ 10 ^ j
theorem Pb.mul {i j k l : Nat} {p q : Rat} (h : Pb i j p) (g : Pb k l q) : Pb (i + k) (j + l) (p * q) := by
 rw [Rat.mul_def' p q]
 obtain ⟨h1, h2, _⟩ := mk_num (p.num * q.num) (p.den * q.den) (Nat.mul_ne_zero p.den_nz q.den_nz)
 refine ⟨?_, ?_⟩
 ·rw [h1, Int.natAbs_mul, Nat.pow_add]
  exact Nat.le_trans (Nat.div_le_self _ _) (Nat.mul_le_mul h.1 g.1)
 ·rw [h2, Nat.pow_add]
  exact Nat.le_trans (Nat.div_le_self _ _) (Nat.mul_le_mul h.2 g.2)
theorem Pb.one : Pb 0 0 1 := ⟨by decide, by decide⟩
theorem Pb.pow {i j : Nat} {q : Rat} (h : Pb i j q) : ∀ e, Pb (i * e) (j * e) (q ^ e)
  | 0 => by rw [Rat.pow_zero]; exact Pb.one
  | e + 1 => by rw [Rat.pow_succ, Nat.mul_succ, Nat.mul_succ]; exact (h.pow e).mul h
theorem Pb.mono {i j k l : Nat} {q : Rat} (h : Pb i j q) (hi : i ≤ k) (hj : j ≤ l) : Pb k l q :=
  ⟨Nat.le_trans h.1 (Nat.pow_le_pow_right (by decide) hi), Nat.le_trans h.2 (Nat.pow_le_pow_right (by decide) hj)⟩
theorem Pb.zero (i j : Nat) : Pb i j 0 := ⟨Nat.zero_le _, Nat.one_le_pow _ _ (by decide)⟩
theorem len_ten {n i k : Nat} (h : n ≤ 10 ^ i) (hi : i < 19 * k) : (Go.Bw.dg n).length ≤ k := by
 refine Go.Bw.dg_len_lt ?_
 have h1 : 10 ^ i < 10 ^ (19 * k) := Nat.pow_lt_pow_right (by decide) hi
 have h2 : (10 ^ 19) ^ k ≤ Go.Bw.B ^ k := Nat.pow_le_pow_left (by decide) k
 rw [← Nat.pow_mul] at h2
 exact Nat.lt_of_le_of_lt h (Nat.lt_of_lt_of_le h1 h2)
def Mw (q : Rat) : Prop := (Go.Bw.dg q.num.natAbs).length < 40 ∧ (Go.Bw.dg q.den).length < 40
def Aw (q : Rat) : Prop := (Go.Bw.dg q.num.natAbs).length ≤ 79 ∧ (Go.Bw.dg q.den).length ≤ 79
def Vw (q : Rat) : Prop := Mw q ∧ (qtx q).size ≤ 64
theorem Pb.mw {i j : Nat} {q : Rat} (h : Pb i j q) (hi : i ≤ 100) (hj : j ≤ 100) : Mw q :=
  ⟨Nat.lt_of_le_of_lt (len_ten (k := 6) h.1 (by omega)) (by decide), Nat.lt_of_le_of_lt (len_ten (k := 6) h.2 (by omega)) (by decide)⟩
def es (m : List Int) : Nat → Nat
  | 0 => 0
  | k + 1 => es m k + (m.getD k 0).toNat
theorem es_cons (a : Int) (m : List Int) : ∀ k, es (a :: m) (k + 1) = a.toNat + es m k
  | 0 => by simp [es]
  | k + 1 => by
    have ih := es_cons a m k; unfold es; rw [ih]; simp; omega
theorem es_le : ∀ (m : List Int) (k : Nat), (∀ e ∈ m, 0 ≤ e) → (es m k : Int) ≤ m.sum
  | [], k, _ => by
    have : ∀ k, es [] k = 0 := by intro k; induction k with | zero => rfl | succ k ih => simp [es, ih]
    rw [this]; simp
  | a :: m, 0, h => by
    have h1 := es_le m 0 fun e he => h e (by simp [he])
    have h2 := h a (by simp); rw [List.sum_cons]; simp only [es] at *; omega
  | a :: m, k + 1, h => by
    have h1 := es_le m k fun e he => h e (by simp [he])
    have h2 := h a (by simp); rw [List.sum_cons, es_cons]; omega
theorem es_mons {n d : Nat} {m : List Int} (h : m ∈ mons n d) (k : Nat) : es m k ≤ d := by
 obtain ⟨j, hj, hm⟩ := List.mem_flatMap.1 h
 obtain ⟨_, h1, h2⟩ := exact_mem n j m hm
 have h3 := es_le m k fun e he => (h1 e he).1
 have h4 := List.mem_range.1 hj
 omega
theorem pb_tm {w : Rat} {x : List Rat} {m : List Int} (hw : Pb 20 18 w) (hx : ∀ q ∈ x, Pb 20 18 q) : ∀ k, Pb (20 * (1 + es m k)) (18 * (1 + es m k)) (tmTo w x m k)
  | 0 => hw
  | k + 1 => by
    have h2 : Pb 20 18 (x.getD k 0) := by
     rw [List.getD_eq_getElem?_getD]
     rcases Nat.lt_or_ge k x.length with hk | hk
     ·rw [List.getElem?_eq_getElem hk]; exact hx _ (List.getElem_mem hk)
     ·rw [List.getElem?_eq_none hk]; exact Pb.zero _ _
    have h3 := (pb_tm (m := m) hw hx k).mul (h2.pow (m.getD k 0).toNat); refine h3.mono ?_ ?_
    ·show _ ≤ 20 * (1 + (es m k + (m.getD k 0).toNat)); omega
    ·show _ ≤ 18 * (1 + (es m k + (m.getD k 0).toNat)); omega
theorem pb_sum {ws : List Rat} {xs : List (List Rat)} {m : List Int} (h : ∀ k, Pb 100 90 (tm (ws.getD k 0) (xs.getD k []) m)) : ∀ k, (sumTo ws xs k m).num.natAbs * 10 ^ 90 ≤ k * 10 ^ (100 + 90 * k) ∧ (sumTo ws xs k m).den ≤ 10 ^ (90 * k)
  | 0 => ⟨by simp [sumTo], by simp [sumTo]⟩
  | k + 1 => by
    obtain ⟨a1, a2⟩ := pb_sum h k; obtain ⟨b1, b2⟩ := h k
    show ((sumTo ws xs k m + tm (ws.getD k 0) (xs.getD k []) m).num.natAbs) * 10 ^ 90 ≤ _ ∧ _
    have e : sumTo ws xs (k + 1) m = sumTo ws xs k m + tm (ws.getD k 0) (xs.getD k []) m := rfl; rw [e]; generalize sumTo ws xs k m = p at *; generalize tm (ws.getD k 0) (xs.getD k []) m = q at *; rw [Rat.add_def' p q]; obtain ⟨h1, h2, _⟩ := mk_num (p.num * (q.den : Int) + q.num * (p.den : Int)) (p.den * q.den) (Nat.mul_ne_zero p.den_nz q.den_nz)
    have hd : p.den * q.den ≤ 10 ^ (90 * (k + 1)) := by
     rw [Nat.mul_succ, Nat.pow_add]; exact Nat.mul_le_mul a2 b2
    refine ⟨?_, by rw [h2]; exact Nat.le_trans (Nat.div_le_self _ _) hd⟩; rw [h1]; refine Nat.le_trans (Nat.mul_le_mul_right _ (Nat.div_le_self _ _)) ?_
    have h3 : (p.num * (q.den : Int) + q.num * (p.den : Int)).natAbs ≤ p.num.natAbs * q.den + q.num.natAbs * p.den := by
     refine Nat.le_trans (Int.natAbs_add_le _ _) ?_; rw [Int.natAbs_mul, Int.natAbs_mul, Int.natAbs_natCast, Int.natAbs_natCast]; exact Nat.le_refl _
    refine Nat.le_trans (Nat.mul_le_mul_right _ h3) ?_
    have e1 : 10 ^ (100 + 90 * (k + 1)) = 10 ^ (100 + 90 * k) * 10 ^ 90 := by rw [← Nat.pow_add]; congr 1
    have e2 : 10 ^ (100 + 90 * k) = 10 ^ 100 * 10 ^ (90 * k) := Nat.pow_add ..; rw [e1]
    have t1 : p.num.natAbs * q.den * 10 ^ 90 ≤ k * 10 ^ (100 + 90 * k) * 10 ^ 90 := by
     rw [Nat.mul_right_comm]; exact Nat.mul_le_mul a1 b2
    have t2 : q.num.natAbs * p.den * 10 ^ 90 ≤ 10 ^ (100 + 90 * k) * 10 ^ 90 := by
     refine Nat.mul_le_mul_right _ ?_; rw [e2]; exact Nat.mul_le_mul b1 a2
    generalize 10 ^ 90 = P at *; generalize 10 ^ (100 + 90 * k) = Q at *; rw [Nat.add_mul, Nat.succ_mul, ← Nat.mul_assoc]
    first | omega | (have := Nat.add_le_add t1 t2; grind)
theorem aw_sum {ws : List Rat} {xs : List (List Rat)} {m : List Int} (h : ∀ k, Pb 100 90 (tm (ws.getD k 0) (xs.getD k []) m)) (k : Nat) (hk : k ≤ 16) : Aw (sumTo ws xs k m) := by
 obtain ⟨a1, a2⟩ := pb_sum h k
 obtain ⟨i, hi⟩ : ∃ i, i = 1452 := ⟨_, rfl⟩
 refine ⟨Nat.le_trans (len_ten (i := i) (k := 77) ?_ (by omega)) (by decide), len_ten (i := 90 * k) a2 (by omega)⟩
 refine Nat.le_of_mul_le_mul_right (c := 10 ^ 90) ?_ (Nat.pow_pos (by decide))
 refine Nat.le_trans a1 ?_
 rw [← Nat.pow_add]
 have h1 : k ≤ 10 ^ 2 := by omega
 refine Nat.le_trans (Nat.mul_le_mul_right _ h1) ?_
 rw [← Nat.pow_add]
 exact Nat.pow_le_pow_right (by decide) (by omega)
end Go.Rq
namespace Go.Proofs.Tg.Fi
open Go.RowKit Go.Rq Go.Qn Go.Mm Go.Proofs.Tg
theorem okT_q (q : Rat) : okT (qtx q) = true := by
 unfold okT
 have e : (qtx q).data.toList = Go.Qn.text (decide (q.num < 0)) q.num.natAbs q.den := by unfold qtx; rw [bs_data]
 rw [e, Go.Qn.rd_text (canon q)]
 rfl
theorem arith_w : Arith Aw Mw Vw (fun w => PT w ∧ Tab w) where
  vm := fun _ h => h.1
  keep := fun _ _ h hb => ⟨h.1.keep hb, h.2.below hb h.2.1⟩
  mul := fun p q hp hq w h => Iw.mul_t p q w hp.1 hp.2 hq.1 hq.2 h.1 h.2
  add := fun p q hp hq hr w h => Iw.add_t p q w hp.1 hp.2 hq.1 hq.2 hr.1 hr.2 h.1 h.2
  numbers := fun A c qs w h1 h2 h3 h4 => by
   have e : (qs.map vq) = (qs.map qtx).map Value.string := by rw [List.map_map]; rfl
   have H := numbers_w A c (qs.map qtx) w (by rw [List.length_map, ← e]; exact h1) (fun s hs => by
    obtain ⟨q, hq, rfl⟩ := List.mem_map.1 hs
    exact (h2 q hq).2) (by rw [List.length_map]; exact h3) h4.2
   rw [List.length_map] at H
   have e2 : (qs.map qtx).all okT = true := by
    rw [List.all_eq_true]; intro s hs; obtain ⟨q, _, rfl⟩ := List.mem_map.1 hs; exact okT_q q
   rw [e2] at H; exact H
theorem okT_some {s : ByteArray} (h : okT s = true) (hs : s.size ≤ 20) : ∃ q, s = qtx q ∧ Pb 20 18 q := by
 unfold okT at h
 obtain ⟨⟨b, n, d⟩, hr⟩ := Option.isSome_iff_exists.1 h
 obtain ⟨hc, ht⟩ := Go.Qn.rd_some hr
 have hl : (Go.Qn.text b n d).length ≤ 20 := by
  rw [← ht]
  have : s.data.toList.length = s.size := by rw [Array.length_toList]; rfl
  omega
 have hz : (if b = true then -(n : Int) else (n : Int)).natAbs = n := by cases b <;> simp
 have hb : decide ((if b = true then -(n : Int) else (n : Int)) < 0) = b := by
  cases b with
  | false => exact dF (by simp)
  | true =>
    refine dT ?_
    have : n ≠ 0 := fun h0 => by have := hc.2.2 h0; cases this
    simp; omega
 refine ⟨⟨if b = true then -(n : Int) else (n : Int), d, by have := hc.1; omega, by rw [hz]; exact hc.2.1⟩, ?_, ?_⟩
 ·unfold qtx
  simp only [hz, hb]; rw [← ht]; apply ByteArray.ext; apply Array.ext'; rw [bs_data]
 ·have h1 := Go.Qn.val_lt (Lib.decDigits n) (Go.Qn.dec_allD n)
  have h2 := Go.Qn.val_lt (Lib.decDigits d) (Go.Qn.dec_allD d); rw [Go.Qn.val_dec] at h1 h2; have h3 : 0 < (Lib.decDigits n).length := List.length_pos_iff.2 (Go.Qn.dec_ne n); unfold Go.Qn.text at hl; rw [List.length_append, List.length_append] at hl; refine ⟨?_, ?_⟩
  ·show (if b = true then -(n : Int) else (n : Int)).natAbs ≤ 10 ^ 20
   rw [hz]; exact Nat.le_trans (Nat.le_of_lt h1) (Nat.pow_le_pow_right (by decide) (by omega))
  ·show d ≤ 10 ^ 18
   by_cases h4 : d = 1
   ·rw [h4]; decide
   ·rw [if_neg h4, List.length_cons] at hl; exact Nat.le_trans (Nat.le_of_lt h2) (Nat.pow_le_pow_right (by decide) (by omega))
end Go.Proofs.Tg.Fi
end
namespace Go.Proofs.Tg.Fi
section
open Go.RowKit Go.Rq Go.Qn Go.Mm Go.Proofs.Tg
structure SRow where
  A : Option Addr
  c : Nat
  ss : List ByteArray
def SRow.cell (r : SRow) : Value := .slice r.A r.ss.length r.c
structure SRowsAt (w : World) (X : Option Addr) (rows : List SRow) : Prop where
  hd : Sl w X rows.length 1 (rows.map SRow.cell)
  row : ∀ r ∈ rows, Sl w r.A r.ss.length 1 (r.ss.map Value.string)
theorem SRowsAt.keep {w w' : World} {X : Option Addr} {rows : List SRow} (h : SRowsAt w X rows) (hb : Below w.heap.size w w') : SRowsAt w' X rows :=
  ⟨h.hd.keep hb, fun r hr => (h.row r hr).keep hb⟩
theorem SRowsAt.at {w : World} {X : Option Addr} {rows : List SRow} (h : SRowsAt w X rows) {k : Nat} (hk : k < rows.length) : ∃ ad, X = some ad ∧ w.cell? (ad.add k) = some (.slice rows[k].A rows[k].ss.length rows[k].c) := by
 obtain ⟨ad, e, hc⟩ := Sl.at1 h.hd (k := k) (by simpa using hk)
 exact ⟨ad, e, by simpa [SRow.cell] using hc⟩
def SRow.ok (r : SRow) : Bool := r.ss.all okT
def lenZ (rows : List SRow) : Nat := (rows.map fun r => r.ss.length).getD 0 0
def okAll (rows : List SRow) (ws : List ByteArray) : Bool := ws.all okT && rows.all SRow.ok
def shpBad (rows : List SRow) (ws : List ByteArray) : Prop := rows.length < 1 ∨ 16 < rows.length ∨ ws.length ≠ rows.length ∨ lenZ rows < 1 ∨ 6 < lenZ rows
instance (rows : List SRow) (ws : List ByteArray) : Decidable (shpBad rows ws) := by unfold shpBad; infer_instance
def wantE (rows : List SRow) (ws : List ByteArray) (d : Int) : Int :=
  if okAll rows ws = false then 1 else if shpBad rows ws then 4 else if ∃ r ∈ rows, r.ss.length ≠ lenZ rows then 4 else if d < 0 ∨ 24 < d then 3 else 0
def RetErr (n : Int) (w : World) (e : Ending) (w' : World) : Prop := e = .returned (.tuple #[.agg #[.int .i64 0, .int .i64 0, .slice none 0 0], .int .i64 n]) ∧ Below w.heap.size w w'
theorem of_err (X Y : Option Addr) (cx cy : Nat) (d : Int) (rows : List SRow) (ws : List ByteArray) (w : World) (hX : SRowsAt w X rows) (hY : Sl w Y ws.length 1 (ws.map Value.string)) (hs : ∀ s ∈ ws, s.size ≤ 64) (hr : ∀ r ∈ rows, (∀ s ∈ r.ss, s.size ≤ 64) ∧ r.ss.length ≤ 1000) (hn : rows.length ≤ 1000) (hwn : ws.length ≤ 1000) (hT : Tab w) (h0 : wantE rows ws d ≠ 0) :
    Calls Tryz.prog 9 #[.slice X rows.length cx, .slice Y ws.length cy, .int .i64 d] w (RetErr (wantE rows ws d) w) := by
  obtain ⟨W, hW⟩ := eqx (w.alloc (.cells #[.int .i64 0, .int .i64 0, .slice none 0 0] 24))
  have hbW : Below w.heap.size w W := by rw [← hW]; exact bal
  have HB6 : Hid (Blk W w.heap.size 24 #[.int .i64 0, .int .i64 0, .slice none 0 0]) := zh (by rw [← hW]; exact Blk.new _ _ _); have HBW := zh hbW; obtain ⟨bw, hbw⟩ := eqx (ws.all okT)
  have HNU : Hid (Calls Tryz.prog 14 #[.slice Y ws.length cy] W fun e w' => e = .returned (.bool bw) ∧ Below W.heap.size W w') := zh (by
   rw [← hbw]
   exact numbers_w Y cy ws W (hY.keep hbW) hs (by omega) (hT.below hbW hT.1))
  have HNR : Hid (∀ r ∈ rows, ∀ V, Below W.heap.size W V → Calls Tryz.prog 14 #[.slice r.A r.ss.length r.c] V fun e w' => e = .returned (.bool r.ok) ∧ Below V.heap.size V w') := zh (fun r h V hV => by
   have hb := below_all hbW hV
   exact numbers_w r.A r.c r.ss V ((hX.row r h).keep hb) (hr r h).1 (by have := (hr r h).2; omega) (hT.below hb hT.1))
  obtain ⟨wE, hwE⟩ := eqx (wantE rows ws d); rw [hwE] at h0 ⊢; have HWE : Hid (wantE rows ws d = wE) := zh hwE; have H0 := zh h0; obtain ⟨n, hn'⟩ := eqx (rows.length); obtain ⟨m, hm'⟩ := eqx (ws.length); have HX : Hid (SRowsAt W X rows) := zh (hX.keep hbW)
  have HRL : Hid (∀ r ∈ rows, r.ss.length ≤ 1000) := zh fun r h => (hr r h).2
  have HBWL := zh hbw; have HEND : Hid (∀ V, Below W.heap.size W V → RetErr wE w (.returned (.tuple #[.agg #[.int .i64 0, .int .i64 0, .slice none 0 0], .int .i64 wE])) (((V.setCell ⟨w.heap.size, 0, none⟩ (.int .i64 0)).setCell ⟨w.heap.size, 1, none⟩ (.int .i64 0)).setCell ⟨w.heap.size, 2, none⟩ (.slice none 0 0))) := zh (fun V hV => ⟨rfl, below_far (below_far (below_far (below_all hbW hV) (by omega) _ _) (by omega) _ _) (by omega) _ _⟩); obtain ⟨Q, hQ⟩ := eqx (RetErr wE w); rw [hQ] at HEND ⊢; rw [hn'] at hn ⊢; rw [hm'] at hwn HNU ⊢; have HN := zh hn'; have HM := zh hm'; have HWW := zh hW; clear hX hY hs hr hT hW hbW hbw hwE h0 hn' hm' hQ
  have hE1 : okAll rows ws = false → wE = 1 := fun h => by rw [← HWE.out]; unfold wantE; rw [if_pos h]
  have HE1 := zh hE1; clear hE1; go_enter Tryz.func9, Tryz.ntmps9; go_upto_region 1 with (fail); rw [HWW.out]; go_wp2_with (fail); refine HNU.out.mono ?_; rintro e w1 ⟨rfl, hb1⟩; have HB1 : Hid (Below W.heap.size W w1) := zh hb1; clear HNU hb1
  cases bw with
  | false =>
    obtain rfl : wE = 1 := HE1.out (by unfold okAll; rw [HBWL.out]; rfl); have Y0 := HB6.out.keep HB1.out HB6.out.lt; have YT := blk_three' Y0 (a' := .int .i64 0) (b' := .int .i64 0) (c' := .slice none 0 0); have HEN := zh (HEND.out _ HB1.out); obtain ⟨y0, y1, y2, _, _, _⟩ := Y0.three; obtain ⟨x0, x1, x2, _, _, _⟩ := YT.three; go_wp2; exact bodyPost_ret (v := .tuple #[.agg #[.int .i64 0, .int .i64 0, .slice none 0 0], .int .i64 1]) (by simp [results, Tryz.results9, go_sem, x0, x1, x2]) rfl HEN.out
  | true =>
    go_wp2
    go_loopw [33] (fun s33 wr => ∃ k : Nat, s33 = .int .i64 (k : Nat) ∧ k ≤ n ∧ Hid (Below W.heap.size W wr) ∧ Hid (∀ r ∈ rows.take k, r.ok = true)) (fun s33 _ => n - (intOf s33).toNat)
    case atStart => exact ⟨0, rfl, Nat.zero_le _, HB1, zh (by simp)⟩
    case round =>
     clear HB1; obtain ⟨wo, rfl⟩ : ∃ wo : World, wo = wr := ⟨_, rfl⟩; obtain ⟨k, rfl, hk, HB, HOKS⟩ := hrel
     by_cases hkn : k = n
     ·have e1 : decide ((k : Int) < (n : Int)) = false := dF (by omega); have e1' : decide (k < n) = false := dF (by omega)
      have hall : okAll rows ws = true := by
       unfold okAll; rw [HBWL.out, Bool.true_and, List.all_eq_true]; have := HOKS.out
       rwa [List.take_of_length_le (by rw [HN.out]; omega)] at this
      have HSH : Hid (shpBad rows ws → wE = 4) := zh (fun h => by rw [← HWE.out]; unfold wantE; rw [if_neg (by simp [hall]), if_pos h]); clear hkn HE1
      by_cases h1 : n < 1
      ·have f1 : decide ((n : Int) < 1) = true := dT (by omega); have f1' : decide (n < 1) = true := dT h1; obtain rfl : wE = 4 := HSH.out (by unfold shpBad; rw [HN.out]; omega); have HALL := zh hall; clear hall h1; have Y0 := HB6.out.keep HB.out HB6.out.lt; have YT := blk_three' Y0 (a' := .int .i64 0) (b' := .int .i64 0) (c' := .slice none 0 0); have HEN := zh (HEND.out _ HB.out); obtain ⟨y0, y1, y2, _, _, _⟩ := Y0.three; obtain ⟨x0, x1, x2, _, _, _⟩ := YT.three; go_wp2; exact bodyPost_ret (v := .tuple #[.agg #[.int .i64 0, .int .i64 0, .slice none 0 0], .int .i64 4]) (by simp [results, Tryz.results9, go_sem, x0, x1, x2]) rfl HEN.out
      ·have f1 : decide ((n : Int) < 1) = false := dF (by omega); have f1' : decide (n < 1) = false := dF h1
       by_cases h2 : 16 < n
       ·have f2 : decide ((16 : Int) < (n : Int)) = true := dT (by omega); have f2' : decide (16 < n) = true := dT h2; obtain rfl : wE = 4 := HSH.out (by unfold shpBad; rw [HN.out]; omega); have HALL := zh hall; clear hall h1 h2; have Y0 := HB6.out.keep HB.out HB6.out.lt; have YT := blk_three' Y0 (a' := .int .i64 0) (b' := .int .i64 0) (c' := .slice none 0 0); have HEN := zh (HEND.out _ HB.out); obtain ⟨y0, y1, y2, _, _, _⟩ := Y0.three; obtain ⟨x0, x1, x2, _, _, _⟩ := YT.three; go_wp2; exact bodyPost_ret (v := .tuple #[.agg #[.int .i64 0, .int .i64 0, .slice none 0 0], .int .i64 4]) (by simp [results, Tryz.results9, go_sem, x0, x1, x2]) rfl HEN.out
       ·have f2 : decide ((16 : Int) < (n : Int)) = false := dF (by omega); have f2' : decide (16 < n) = false := dF h2
        by_cases h3 : m = n
        ·have HALL := zh hall; obtain rfl : n = m := h3.symm; clear hall h3
         have hkx : 0 < rows.length := by rw [HN.out]; omega
         obtain ⟨ad, hXe, hc⟩ := (HX.out.keep HB.out).at hkx; obtain ⟨v, hv⟩ := eqx ((rows[0]'hkx).ss.length); rw [hv] at hc; subst hXe
         have hc' : wo.cell? ad = some (.slice (rows[0]'hkx).A v (rows[0]'hkx).c) := by simpa [Addr.add] using hc
         have HLZ : Hid (lenZ rows = v) := zh (by rw [← hv]; unfold lenZ; simp [hkx]); have HLV : Hid (v ≤ 1000) := zh (by rw [← hv]; exact HRL.out _ (List.getElem_mem hkx))
         have HW5 : Hid ((∃ r ∈ rows, r.ss.length ≠ v) → wE = 4) := zh (fun h => by
          by_cases hs : shpBad rows ws
          ·exact HSH.out hs
          ·rw [← HWE.out]; unfold wantE; rw [if_neg (by simp [HALL.out]), if_neg hs, if_pos (by rw [HLZ.out]; exact h)])
         have HW4 : Hid (¬ (1 ≤ v ∧ v ≤ 6) → wE = 4) := zh (fun h => HSH.out (by unfold shpBad; rw [HLZ.out]; omega))
         have HW3 : Hid ((1 ≤ v ∧ v ≤ 6) → (∀ r ∈ rows, r.ss.length = v) → (d < 0 ∨ 24 < d) ∧ wE = 3) := zh (fun h1' h2' => by
          have hz := H0.out; have he := HWE.out
          have hs : ¬ shpBad rows ws := by unfold shpBad; rw [HLZ.out, HN.out, HM.out]; omega
          have hex : ¬ ∃ r ∈ rows, r.ss.length ≠ lenZ rows := by rw [HLZ.out]; rintro ⟨r, hr, h⟩; exact h (h2' r hr)
          unfold wantE at he; rw [if_neg (by simp [HALL.out]), if_neg hs, if_neg hex] at he
          by_cases hd : d < 0 ∨ 24 < d
          ·rw [if_pos hd] at he; exact ⟨hd, he.symm⟩
          ·rw [if_neg hd] at he; exact absurd he.symm hz)
         generalize (rows[0]'hkx).A = A0 at *; generalize (rows[0]'hkx).c = C0 at *; clear hv hc; have HB2 : Hid (Below W.heap.size W wo) := HB; go_wp2
         go_loopw [64] (fun s64 wr => ∃ k : Nat, s64 = .int .i64 (k : Nat) ∧ k ≤ n ∧ Hid (Below W.heap.size W wr) ∧ Hid (∀ r ∈ rows.take k, r.ss.length = v) ∧ Hid (0 < k → 1 ≤ v ∧ v ≤ 6)) (fun s64 _ => n - (intOf s64).toNat)
         case atStart => exact ⟨0, rfl, Nat.zero_le _, HB2, zh (by simp), zh (by omega)⟩
         case round =>
          clear HB2 HB hc' e1 e1' HOKS hk; obtain ⟨wi, rfl⟩ : ∃ wi : World, wi = wr := ⟨_, rfl⟩; obtain ⟨k, rfl, hk, HB, HLS, HKV⟩ := hrel
          by_cases hkn : k = n
          ·have e1 : decide ((k : Int) < (n : Int)) = false := dF (by omega); have e1' : decide (k < n) = false := dF (by omega)
           obtain ⟨hd, rfl⟩ := HW3.out (HKV.out (by omega)) (by
            have := HLS.out
            rwa [List.take_of_length_le (by rw [HN.out]; omega)] at this)
           clear hkn
           by_cases hd0 : d < 0
           ·have g1 : decide (d < 0) = true := dT hd0; clear hd; have Y0 := HB6.out.keep HB.out HB6.out.lt; have YT := blk_three' Y0 (a' := .int .i64 0) (b' := .int .i64 0) (c' := .slice none 0 0); have HEN := zh (HEND.out _ HB.out); obtain ⟨y0, y1, y2, _, _, _⟩ := Y0.three; obtain ⟨x0, x1, x2, _, _, _⟩ := YT.three; go_wp2; exact bodyPost_ret (v := .tuple #[.agg #[.int .i64 0, .int .i64 0, .slice none 0 0], .int .i64 3]) (by simp [results, Tryz.results9, go_sem, x0, x1, x2]) rfl HEN.out
           ·have g1 : decide (d < 0) = false := dF hd0; have g2 : decide (24 < d) = true := dT (by omega); clear hd; have Y0 := HB6.out.keep HB.out HB6.out.lt; have YT := blk_three' Y0 (a' := .int .i64 0) (b' := .int .i64 0) (c' := .slice none 0 0); have HEN := zh (HEND.out _ HB.out); obtain ⟨y0, y1, y2, _, _, _⟩ := Y0.three; obtain ⟨x0, x1, x2, _, _, _⟩ := YT.three; go_wp2; exact bodyPost_ret (v := .tuple #[.agg #[.int .i64 0, .int .i64 0, .slice none 0 0], .int .i64 3]) (by simp [results, Tryz.results9, go_sem, x0, x1, x2]) rfl HEN.out
          ·have hkl : k < n := by omega
           have e1 : decide ((k : Int) < (n : Int)) = true := dT (by omega); have e1' : decide (k < n) = true := dT hkl
           have hkx : k < rows.length := by rw [HN.out]; exact hkl
           have q0 : (0 : Int) ≤ (k : Int) := by omega
           have q1 : (k : Int) < (n : Int) := by omega
           obtain ⟨R, hR⟩ := eqx (rows[k])
           have hRm : R ∈ rows := by rw [← hR]; exact List.getElem_mem hkx
           obtain ⟨ad, hXe, hc⟩ := (HX.out.keep HB.out).at hkx
           injection hXe with hXe
           subst hXe; rw [hR] at hc; have HTK : Hid (rows.take (k + 1) = rows.take k ++ [R]) := zh (by rw [List.take_succ_eq_append_getElem hkx, hR]); have HRM := zh hRm; clear hkn hR hRm; obtain ⟨len, hlen⟩ := eqx (R.ss.length); rw [hlen] at hc; have HLEN := zh hlen; clear hlen; generalize R.A = RA at *; generalize R.c = Rc at *
           by_cases hlv : len = v
           ·obtain rfl : v = len := hlv.symm; clear hlv
            by_cases hv1 : v < 1
            ·have g1 : decide ((v : Int) < 1) = true := dT (by omega); have g1' : decide (v < 1) = true := dT hv1; obtain rfl : wE = 4 := HW4.out (by omega); clear hv1; have Y0 := HB6.out.keep HB.out HB6.out.lt; have YT := blk_three' Y0 (a' := .int .i64 0) (b' := .int .i64 0) (c' := .slice none 0 0); have HEN := zh (HEND.out _ HB.out); obtain ⟨y0, y1, y2, _, _, _⟩ := Y0.three; obtain ⟨x0, x1, x2, _, _, _⟩ := YT.three; go_wp2; exact bodyPost_ret (v := .tuple #[.agg #[.int .i64 0, .int .i64 0, .slice none 0 0], .int .i64 4]) (by simp [results, Tryz.results9, go_sem, x0, x1, x2]) rfl HEN.out
            ·have g1 : decide ((v : Int) < 1) = false := dF (by omega); have g1' : decide (v < 1) = false := dF hv1
             by_cases hv6 : 6 < v
             ·have g2 : decide ((6 : Int) < (v : Int)) = true := dT (by omega); have g2' : decide (6 < v) = true := dT hv6; obtain rfl : wE = 4 := HW4.out (by omega); clear hv1 hv6; have Y0 := HB6.out.keep HB.out HB6.out.lt; have YT := blk_three' Y0 (a' := .int .i64 0) (b' := .int .i64 0) (c' := .slice none 0 0); have HEN := zh (HEND.out _ HB.out); obtain ⟨y0, y1, y2, _, _, _⟩ := Y0.three; obtain ⟨x0, x1, x2, _, _, _⟩ := YT.three; go_wp2; exact bodyPost_ret (v := .tuple #[.agg #[.int .i64 0, .int .i64 0, .slice none 0 0], .int .i64 4]) (by simp [results, Tryz.results9, go_sem, x0, x1, x2]) rfl HEN.out
             ·have g2 : decide ((6 : Int) < (v : Int)) = false := dF (by omega); have g2' : decide (6 < v) = false := dF hv6; have HV16 : Hid (1 ≤ v ∧ v ≤ 6) := zh (by omega); clear hv1 hv6; go_wp2; go_roundw
              case rel =>
               refine ⟨k + 1, by go_num, by omega, HB, zh ?_, zh fun _ => HV16.out⟩; rw [HTK.out]; intro r h
               rcases List.mem_append.1 h with h | h
               ·exact HLS.out r h
               ·simp at h; subst h; exact HLEN.out
              case measure => simp [intOf]; omega
           ·have d1 : decide ((len : Int) = (v : Int)) = false := dF (by omega); have d1' : decide (len = v) = false := dF hlv; obtain rfl : wE = 4 := HW5.out ⟨R, HRM.out, by rw [HLEN.out]; exact hlv⟩
            have hlv' : ¬ ((len : Int) = (v : Int)) := by omega
            have Y0 := HB6.out.keep HB.out HB6.out.lt; have YT := blk_three' Y0 (a' := .int .i64 0) (b' := .int .i64 0) (c' := .slice none 0 0); have HEN := zh (HEND.out _ HB.out); obtain ⟨y0, y1, y2, _, _, _⟩ := Y0.three; obtain ⟨x0, x1, x2, _, _, _⟩ := YT.three; go_wp2; exact bodyPost_ret (v := .tuple #[.agg #[.int .i64 0, .int .i64 0, .slice none 0 0], .int .i64 4]) (by simp [results, Tryz.results9, go_sem, x0, x1, x2]) rfl HEN.out
        ·have f3 : decide ((m : Int) = (n : Int)) = false := dF (by omega); have f3' : decide (m = n) = false := dF h3; obtain rfl : wE = 4 := HSH.out (by unfold shpBad; rw [HN.out, HM.out]; omega); have HALL := zh hall; clear hall h1 h2; have Y0 := HB6.out.keep HB.out HB6.out.lt; have YT := blk_three' Y0 (a' := .int .i64 0) (b' := .int .i64 0) (c' := .slice none 0 0); have HEN := zh (HEND.out _ HB.out); obtain ⟨y0, y1, y2, _, _, _⟩ := Y0.three; obtain ⟨x0, x1, x2, _, _, _⟩ := YT.three; go_wp2; exact bodyPost_ret (v := .tuple #[.agg #[.int .i64 0, .int .i64 0, .slice none 0 0], .int .i64 4]) (by simp [results, Tryz.results9, go_sem, x0, x1, x2]) rfl HEN.out
     ·have hkl : k < n := by omega
      have e1 : decide ((k : Int) < (n : Int)) = true := dT (by omega); have e1' : decide (k < n) = true := dT hkl
      have hkx : k < rows.length := by rw [HN.out]; exact hkl
      have q0 : (0 : Int) ≤ (k : Int) := by omega
      have q1 : (k : Int) < (n : Int) := by omega
      obtain ⟨R, hR⟩ := eqx (rows[k])
      have hRm : R ∈ rows := by rw [← hR]; exact List.getElem_mem hkx
      obtain ⟨ad, rfl, hc⟩ := (HX.out.keep HB.out).at hkx; rw [hR] at hc; have HTK : Hid (rows.take (k + 1) = rows.take k ++ [R]) := zh (by rw [List.take_succ_eq_append_getElem hkx, hR]); have HC := zh (HNR.out R hRm wo HB.out); have HRM := zh hRm; clear hkn hR hRm; obtain ⟨b, hb⟩ := eqx (R.ok); rw [hb] at HC; have HRB := zh hb; clear hb; generalize R.ss.length = len at *; generalize R.A = RA at *; generalize R.c = Rc at *
      cases b with
      | false =>
        obtain rfl : wE = 1 := HE1.out (by
         unfold okAll; rw [HBWL.out, Bool.true_and]
         exact List.all_eq_false.2 ⟨R, HRM.out, by rw [HRB.out]; simp⟩)
        clear HE1; go_wp2_with (fail); refine HC.out.mono ?_; rintro e w2 ⟨rfl, hb2⟩; have HB2 := zh (below_all HB.out hb2); clear hb2; have Y0 := HB6.out.keep HB2.out HB6.out.lt; have YT := blk_three' Y0 (a' := .int .i64 0) (b' := .int .i64 0) (c' := .slice none 0 0); have HEN := zh (HEND.out _ HB2.out); obtain ⟨y0, y1, y2, _, _, _⟩ := Y0.three; obtain ⟨x0, x1, x2, _, _, _⟩ := YT.three; go_wp2; exact bodyPost_ret (v := .tuple #[.agg #[.int .i64 0, .int .i64 0, .slice none 0 0], .int .i64 1]) (by simp [results, Tryz.results9, go_sem, x0, x1, x2]) rfl HEN.out
      | true =>
        go_wp2_with (fail); refine HC.out.mono ?_; rintro e w2 ⟨rfl, hb2⟩; go_wp2; go_roundw
        case rel =>
         refine ⟨k + 1, by go_num, by omega, zh (below_all HB.out hb2), zh ?_⟩; rw [HTK.out]; intro r h
         rcases List.mem_append.1 h with h | h
         ·exact HOKS.out r h
         ·simp at h; subst h; exact HRB.out
        case measure => simp [intOf]; omega
end
end Go.Proofs.Tg.Fi
section
namespace Go.Proofs.YtbgaiceakmmfdaaGreatDoor.Fr
open Go.ChangeShapes Go.WideShapes Go.ChangeAt Go.RowKit Go.Deep Go.Proofs.Tg Go.Proofs.Tg.Fi Go.Gr
section
variable {H : Type} {enc : TypeId × Value → H} {W : World}
instance : Inhabited SRow := ⟨⟨none, 0, []⟩⟩
theorem open_texts {v : Value} {d : DataW H} {ps : List MemPlace} {b0 : Nat} (hval : Value.okWide Tryz.prog W .any b0 22 v) (h : DataW.Trod enc Tryz.prog W 0 (fun _ => true) true 22 v d ps) :
    ∃ A ss c, v = .slice A (List.length ss) c ∧ Sl W A (List.length ss) 1 (ss.map Value.string) := by
  obtain ⟨V, len, cap, rfl⟩ := okWide_slice Tryz.underlying22 hval; obtain ⟨fuel, h⟩ := h
  have hcs : (Value.slice V len cap).cells.toList = [.slice V len cap] := by simp [Value.cells]
  rw [hcs] at h; obtain ⟨A, ss, c, e, hS, _, _⟩ := texts_of h; exact ⟨A, ss, c, e, hS⟩
theorem open_trows {v : Value} {d : DataW H} {ps : List MemPlace} {b0 : Nat} (hval : Value.okWide Tryz.prog W .any b0 33 v) (h : DataW.Trod enc Tryz.prog W 0 (fun _ => true) true 33 v d ps) :
    ∃ X rows c, v = .slice X (List.length rows) c ∧ SRowsAt W X rows := by
  obtain ⟨V, len, cap, rfl⟩ := okWide_slice Tryz.underlying33 hval; obtain ⟨fuel, h⟩ := h
  have hcs : (Value.slice V len cap).cells.toList = [.slice V len cap] := by simp [Value.cells]
  rw [hcs] at h
  rcases open_slice1 Tryz.underlying33 cellsStrs h with ⟨h1, _⟩ | ⟨a, l, c, m, n, V0, D0, P0, h1, _, hl, _, hm, _, hx⟩
  ·injection h1 with h1
   exact ⟨none, [], 0, h1, Sl.nil _ _ _, fun r hr => by cases hr⟩
  ·injection h1 with h1
   simp only [if_true] at hm
   obtain ⟨q, hq⟩ := choose_lt (n := l) (p := fun i (r : SRow) => V0 i = r.cell ∧ Sl W r.A r.ss.length 1 (r.ss.map Value.string)) (fun i hi => by
    obtain ⟨_, g0⟩ := hx i (by omega); obtain ⟨A, ss, d, e1, hA, _, _⟩ := texts_of g0
    exact ⟨⟨A, d, ss⟩, e1, hA⟩)
   refine ⟨some a, (List.range l).map q, c, by simp [h1], ⟨⟨by simp, fun hn => ⟨a, rfl, ?_, ?_⟩⟩, fun r hr => ?_⟩⟩
   ·have hn' : 0 < l := by simpa using hn
    exact World.block_lt_of_cell? W _ (hx 0 (by omega)).1
   ·intro j u hu
    have hj : j < l := by
     have := (List.getElem?_eq_some_iff.1 hu).1; simpa using this
    have e : u = V0 j := by
     rw [List.getElem?_map, List.getElem?_map, List.getElem?_range hj] at hu; simp only [Option.map_some] at hu
     injection hu with hu
     rw [← hu, (hq j hj).1]
    rw [e]; exact (hx j (by omega)).1
   ·obtain ⟨i, hi, rfl⟩ := List.mem_map.1 hr; exact (hq i (List.mem_range.1 hi)).2
end
end Go.Proofs.YtbgaiceakmmfdaaGreatDoor.Fr
end
namespace Go.Proofs.Tg.Fi
section
open Go.RowKit Go.Rq Go.Qn Go.Mm Go.Proofs.Tg
def Rd (ss : List ByteArray) (qs : List Rat) : Prop := ss = qs.map qtx ∧ ∀ q ∈ qs, Pb 20 18 q ∧ (qtx q).size ≤ 20
theorem rd_list : ∀ (ss : List ByteArray), ss.all okT = true → (∀ s ∈ ss, s.size ≤ 20) → ∃ qs, Rd ss qs
  | [], _, _ => ⟨[], rfl, by simp⟩
  | s :: ss, h, hs => by
    rw [List.all_cons, Bool.and_eq_true] at h
    obtain ⟨qs, h1, h2⟩ := rd_list ss h.2 fun x hx => hs x (by simp [hx])
    obtain ⟨q, h3, h4⟩ := okT_some h.1 (hs s (by simp)); refine ⟨q :: qs, by rw [List.map_cons, ← h1, ← h3], fun x hx => ?_⟩
    rcases List.mem_cons.1 hx with rfl | hx
    ·exact ⟨h4, by rw [← h3]; exact hs s (by simp)⟩
    ·exact h2 x hx
theorem rd_rows : ∀ (rows : List SRow), (∀ r ∈ rows, r.ok = true ∧ ∀ s ∈ r.ss, s.size ≤ 20) → ∃ ts : List TRow, ts.map TRow.cell = rows.map SRow.cell ∧ (∀ t ∈ ts, ∃ r ∈ rows, t.A = r.A ∧ Rd r.ss t.qs) ∧ ts.map (fun t => t.qs.length) = rows.map fun r => r.ss.length
  | [], _ => ⟨[], rfl, by simp, rfl⟩
  | r :: rows, h => by
    obtain ⟨ts, h1, h2, h3⟩ := rd_rows rows fun x hx => h x (by simp [hx])
    obtain ⟨qs, h4⟩ := rd_list r.ss (h r (by simp)).1 (h r (by simp)).2
    have hl : qs.length = r.ss.length := by rw [h4.1, List.length_map]
    refine ⟨⟨r.A, r.c, qs⟩ :: ts, ?_, fun t ht => ?_, ?_⟩
    ·rw [List.map_cons, List.map_cons, h1]
     congr 1
     unfold TRow.cell SRow.cell; rw [hl]
    ·rcases List.mem_cons.1 ht with rfl | ht
     ·exact ⟨r, by simp, rfl, h4⟩
     ·obtain ⟨x, hx, e⟩ := h2 t ht; exact ⟨x, by simp [hx], e⟩
    ·rw [List.map_cons, List.map_cons, h3, ← hl]
theorem cnt_few : ∀ v, v ≤ 6 → ∀ d, d ≤ 4 → cnt v d ≤ 1024 := by
 have h : ∀ v, v < 7 → ∀ d, d < 5 → cnt v d ≤ 1024 := by decide +kernel
 intro v hv d hd
 exact h v (by omega) d (by omega)
theorem vw_of {q : Rat} (h : Pb 20 18 q ∧ (qtx q).size ≤ 20) : Vw q := ⟨h.1.mw (by omega) (by omega), by omega⟩
theorem ofOk_w {v d : Nat} {ws : List Rat} {xs : List (List Rat)} (n1 : 1 ≤ xs.length) (n2 : xs.length ≤ 16) (lw : ws.length = xs.length) (dim : ∀ x ∈ xs, x.length = v) (v1 : 1 ≤ v) (v6 : v ≤ 6) (d4 : d ≤ 4)
    (hw : ∀ q ∈ ws, Pb 20 18 q ∧ (qtx q).size ≤ 20) (hx : ∀ x ∈ xs, ∀ q ∈ x, Pb 20 18 q ∧ (qtx q).size ≤ 20) : OfOkG Aw Mw Vw v d ws xs := by
  have hwk : ∀ k, Pb 20 18 (ws.getD k 0) := fun k => by
   rw [List.getD_eq_getElem?_getD]
   rcases Nat.lt_or_ge k ws.length with hk | hk
   ·rw [List.getElem?_eq_getElem hk]; exact (hw _ (List.getElem_mem hk)).1
   ·rw [List.getElem?_eq_none hk]; exact Pb.zero _ _
  have hxk : ∀ k, ∀ q ∈ xs.getD k [], Pb 20 18 q := fun k => by
   rw [List.getD_eq_getElem?_getD]
   rcases Nat.lt_or_ge k xs.length with hk | hk
   ·rw [List.getElem?_eq_getElem hk]; exact fun q hq => (hx _ (List.getElem_mem hk) q hq).1
   ·rw [List.getElem?_eq_none hk]; exact fun q hq => absurd hq (by simp)
  have htm : ∀ (m : List Int), m ∈ mons v d → ∀ k j, Pb 100 90 (tmTo (ws.getD k 0) (xs.getD k []) m j) := fun m hm k j => by
   have he := es_mons hm j; exact (pb_tm (hwk k) (hxk k) j).mono (by omega) (by omega)
  exact {
    n1 := n1, n2 := n2, lw := lw, dim := dim, v1 := v1, v6 := v6, d24 := by omega
    few := cnt_few v v6 d d4
    shw := fun q hq => vw_of (hw q hq)
    shx := fun x h q hq => ⟨vw_of (hx x h q hq), fun e he => ((hx x h q hq).1.pow e).mw (by omega) (by omega)⟩
    sht := fun k _ m hm j _ => (htm m hm k j).mw (by omega) (by omega)
    shs := fun k hk m hm => aw_sum (fun j => htm m hm j _) k (by omega) }
def RetOf (n : Int) (w : World) (e : Ending) (w' : World) : Prop := ∃ (v d : Int) (A : Option Addr) (m : Nat), e = .returned (.tuple #[.agg #[.int .i64 v, .int .i64 d, .slice A m m], .int .i64 n]) ∧ (n ≠ 0 → v = 0 ∧ d = 0 ∧ A = none ∧ m = 0) ∧ Below w.heap.size w w'
theorem of_w (X Y : Option Addr) (cx cy : Nat) (d : Int) (rows : List SRow) (ws : List ByteArray) (w : World) (hX : SRowsAt w X rows) (hY : Sl w Y ws.length 1 (ws.map Value.string)) (hs : ∀ s ∈ ws, s.size ≤ 20) (hr : ∀ r ∈ rows, (∀ s ∈ r.ss, s.size ≤ 20) ∧ r.ss.length ≤ 1000) (hn : rows.length ≤ 1000) (hwn : ws.length ≤ 1000) (hd : d ≤ 4 ∨ 24 < d) (ht : PT w) (hT : Tab w) :
    Calls Tryz.prog 9 #[.slice X rows.length cx, .slice Y ws.length cy, .int .i64 d] w (RetOf (wantE rows ws d) w) := by
  by_cases h0 : wantE rows ws d = 0
  ·rw [h0]; unfold wantE at h0
   split at h0
   ·cases h0
   rename_i ha
   split at h0
   ·cases h0
   rename_i hsb
   split at h0
   ·cases h0
   rename_i hex
   split at h0
   ·cases h0
   rename_i hdr
   obtain ⟨D, rfl⟩ : ∃ D : Nat, d = D := ⟨d.toNat, by omega⟩
   have ha' : okAll rows ws = true := by simpa using ha
   unfold okAll at ha'; rw [Bool.and_eq_true, List.all_eq_true (l := rows)] at ha'; unfold shpBad at hsb; obtain ⟨qs, hq1, hq2⟩ := rd_list ws ha'.1 hs
   obtain ⟨ts, t1, t2, t3⟩ := rd_rows rows fun r h => ⟨ha'.2 r h, (hr r h).1⟩
   have tl : ts.length = rows.length := by have := congrArg List.length t1; simpa using this
   have hlen : ∀ r ∈ rows, r.ss.length = lenZ rows := fun r h => Classical.byContradiction fun h2 => hex ⟨r, h, h2⟩
   have hwl : ws.length = qs.length := by rw [hq1, List.length_map]
   have ok : OfOkG Aw Mw Vw (lenZ rows) D qs (ts.map TRow.qs) := by
    refine ofOk_w ?_ ?_ ?_ ?_ (by omega) (by omega) (by omega) hq2 ?_
    ·rw [List.length_map]; omega
    ·rw [List.length_map]; omega
    ·rw [List.length_map]; omega
    ·intro x hx; obtain ⟨t, ht, rfl⟩ := List.mem_map.1 hx; obtain ⟨r, hr', _, hrd⟩ := t2 t ht; rw [← hlen r hr', hrd.1, List.length_map]
    ·intro x hx; obtain ⟨t, ht, rfl⟩ := List.mem_map.1 hx; obtain ⟨r, hr', _, hrd⟩ := t2 t ht; exact hrd.2
   have hXt : TRowsAt w X (ts.map TRow.qs) := ⟨ts, by rw [tl, t1]; exact hX.hd, rfl, fun t ht => by
    obtain ⟨r, hr', e, hrd⟩ := t2 t ht; have h1 := hX.row r hr'; rw [hrd.1, List.length_map, List.map_map, ← e] at h1
    exact h1⟩
   have hYt : Txts w Y qs := by
    rw [hq1, List.length_map, List.map_map] at hY; exact hY
   have H := of_gen arith_w X Y cx cy (lenZ rows) D (ts.map TRow.qs) qs w hXt hYt ok ⟨ht, hT⟩; rw [List.length_map, tl, ← hwl] at H; refine H.mono ?_; rintro e w' ⟨A, rfl, _, hb⟩; exact ⟨_, _, A, _, rfl, fun h => absurd rfl h, hb⟩
  ·refine (of_err X Y cx cy d rows ws w hX hY (fun s h => by have := hs s h; omega) (fun r h => ⟨fun s h2 => by have := (hr r h).1 s h2; omega, (hr r h).2⟩) hn hwn hT h0).mono ?_; rintro e w' ⟨rfl, hb⟩; exact ⟨0, 0, none, 0, rfl, fun _ => ⟨rfl, rfl, rfl, rfl⟩, hb⟩
end
end Go.Proofs.Tg.Fi
