/- Parts of the proof: BN21, XR2, XK6, BN25, BN26, BN27. -/
import Derived.Deep.CutBlock
import Derived.Deep.AppendLies
import Derived.Deep.RegionHeld3
import Derived.Test.YtpkompfkhoceoaaGreatDoorMMV1
import Derived.Test.YtpkompfkhoceoaaGreatDoorMMV2
import Derived.Test.YtpkompfkhoceoaaGreatDoorMMV3
import Derived.Test.YtpkompfkhoceoaaGreatDoorMMV4
import Derived.Test.YtpkompfkhoceoaaGreatDoorMMV5
import Derived.Test.YtpkompfkhoceoaaGreatDoorMMV6
import Derived.Test.YtpkompfkhoceoaaGreatDoorMMV8
import Derived.Test.YtpkompfkhoceoaaGreatDoorMMV11
import Derived.Test.YtpkompfkhoceoaaGreatDoorMMV12
section
/- The harness's Mul of numbers of any size. -/
namespace Go.Proofs.Tg
open Go.RowKit Go.Gr Go.Bn
set_option maxHeartbeats 4000000
set_option maxRecDepth 100000
theorem nMul_any (p q : Bool) (X Y : Option Addr) (cx cy a b : Nat) (w : World) (hX : ND w X cx a) (hY : ND w Y cy b) (ha : (dg a).length ≤ 200000) (hb : (dg b).length ≤ 200000) (hr : (dg (a * b)).length ≤ 1000000) :
    Calls Tryz.prog 55 #[.agg #[.bool p, .slice X (dg a).length cx], .agg #[.bool q, .slice Y (dg b).length cy]] w (RetSg ((p != q) && decide (0 < (dg (a * b)).length)) (a * b) w) := by
  obtain ⟨na, hna⟩ : ∃ na, (dg a).length = na := ⟨_, rfl⟩
  obtain ⟨nb, hnb⟩ : ∃ nb, (dg b).length = nb := ⟨_, rfl⟩
  obtain ⟨W, hW⟩ : ∃ W, ((w.alloc (.cells #[.bool p, .slice X na cx] 50)).alloc (.cells #[.bool q, .slice Y nb cy] 50)).alloc (.cells #[.bool false, .slice none 0 0] 50) = W := ⟨_, rfl⟩
  have B0 : Blk W w.heap.size 50 #[.bool p, .slice X na cx] := by rw [← hW]; exact ((Blk.new _ _ _).alloc _).alloc _
  have B1 : Blk W (w.heap.size + 1) 50 #[.bool q, .slice Y nb cy] := by
    rw [← hW]; have := (Blk.new (w.alloc (.cells #[.bool p, .slice X na cx] 50)) 50 #[.bool q, .slice Y nb cy]).alloc (.cells #[.bool false, .slice none 0 0] 50)
    simpa using this
  have B2 : Blk W (w.heap.size + 1 + 1) 50 #[.bool false, .slice none 0 0] := by
    rw [← hW]; have := Blk.new ((w.alloc (.cells #[.bool p, .slice X na cx] 50)).alloc (.cells #[.bool q, .slice Y nb cy] 50)) 50 #[.bool false, .slice none 0 0]
    simpa using this
  have hbW : Below w.heap.size w W := by rw [← hW]; exact (((Below.refl _ _).alloc (Nat.le_refl _) _).alloc (by simp) _).alloc (by simp; omega) _
  have HF : Hid (∀ V, Below W.heap.size W V → Calls Tryz.prog 94 #[.slice X na cx, .slice Y nb cy] V (RetDg (a * b) V)) := Lib.hid (fun V h => by rw [← hna, ← hnb]; exact nmul_any X Y cx cy a b V ((hX.keep hbW).keep h).digs ((hY.keep hbW).keep h).digs ha hb)
  obtain ⟨m, hm⟩ : ∃ m, a * b = m := ⟨_, rfl⟩
  rw [hm] at HF hr ⊢
  unfold RetDg at HF
  obtain ⟨nm, hnm⟩ : ∃ nm, (dg m).length = nm := ⟨_, rfl⟩
  have HLST : Hid (∀ (V : World) (R : Option Addr) (c : Nat) (v : Bool), Below W.heap.size W V → ND V R c m → Blk V (w.heap.size + 1 + 1) 50 #[.bool false, .slice none 0 0] → RetSg v m w (.returned (.agg #[.bool v, .slice R nm c])) ((V.setCell ⟨w.heap.size + 1 + 1, 0, none⟩ (.bool v)).setCell ⟨w.heap.size + 1 + 1, 1, none⟩ (.slice R nm c))) := Lib.hid (fun V R c v h1 h2 h3 => by rw [← hnm]; exact retSg_last hbW h1 h2 (by omega) h3)
  obtain ⟨v, hv⟩ : ∃ v, ((p != q) && decide (0 < nm)) = v := ⟨_, rfl⟩
  have HM : Hid (∀ V R c, Calls Tryz.prog 73 #[.bool (!(p == q)), .slice R nm c] V fun e w' => e = .returned (.agg #[.bool v, .slice R nm c]) ∧ Below V.heap.size V w') := Lib.hid (fun V R c => make1_any (!(p == q)) R nm c V v hv (by omega))
  rw [hnm] at HF ⊢
  rw [hna, hnb]
  rw [hv]
  have HW := Lib.hid hW
  have HB2 := Lib.hid B2
  have hl2 := B2.lt
  have n1 : (w.heap.size = w.heap.size + 1 + 1) = False := eq_false (by omega)
  have n2 : (w.heap.size + 1 + 1 = w.heap.size) = False := eq_false (by omega)
  obtain ⟨a0, a1, _, _⟩ := B0.two
  obtain ⟨b0, b1, _, _⟩ := B1.two
  obtain ⟨d0, d1, d2, d3⟩ := B2.two
  have hbe : Below W.heap.size W W.drew := (Below.refl _ _).drew
  clear hX hY hna hnb hm hnm hv hW B0 B1 B2 ha hb hr
  go_enter Tryz.func55, Tryz.ntmps55
  go_upto_region 1 with (fail)
  rw [HW.out]
  go_region_held3 (fun w' => w'.cell? ⟨w.heap.size, 0, none⟩ = some (.bool p) ∧ w'.cell? ⟨w.heap.size, 1, none⟩ = some (.slice X na cx) ∧ w'.cell? ⟨w.heap.size + 1, 0, none⟩ = some (.bool q) ∧ w'.cell? ⟨w.heap.size + 1, 1, none⟩ = some (.slice Y nb cy))
    (first | exact ⟨keep_cell hbe a0, keep_cell hbe a1, keep_cell hbe b0, keep_cell hbe b1⟩ | go_keep | (dsimp only; refine ⟨?_, ?_, ?_, ?_⟩ <;> go_keep) | (refine ⟨?_, ?_, ?_, ?_⟩ <;> (rw [World.cell?_setCell_ne, World.cell?_setCell_ne] <;> first | exact keep_cell hbe a0 | exact keep_cell hbe a1 | exact keep_cell hbe b0 | exact keep_cell hbe b1 | (simp; omega) | simp)))
    (first
      | (go_at_call 94; with_reducible refine Calls.mono (HF.out _ (by assumption)) ?_; rintro e w2 ⟨R, c, rfl, hD, hb2⟩
         have hbe := below_all hbe hb2)
      | (go_at_call 73; with_reducible refine Calls.mono (HM.out _ _ _) ?_; rintro e w3 ⟨rfl, hb3⟩
         have hD := hD.keep hb3
         have hbe := below_all hbe hb3
         have Y2 := HB2.out.keep hbe hl2
         obtain ⟨d0, d1, d2, d3⟩ := Y2.two))
  all_goals
    go_wp2
    exact bodyPost_ret (v := .agg #[.bool v, .slice R nm c]) (by simp [results, Tryz.results55, go_sem, d0, d1]) rfl (HLST.out w3 R c v hbe hD Y2)
/-- The product of two numbers. -/
theorem imul_any (x y : Int) (X Y : Option Addr) (cx cy : Nat) (w : World) (hX : ND w X cx x.natAbs) (hY : ND w Y cy y.natAbs) (ha : (dg x.natAbs).length ≤ 200000) (hb : (dg y.natAbs).length ≤ 200000) (hr : (dg (x.natAbs * y.natAbs)).length ≤ 1000000) :
    Calls Tryz.prog 55 #[.agg #[.bool (decide (x < 0)), .slice X (dg x.natAbs).length cx], .agg #[.bool (decide (y < 0)), .slice Y (dg y.natAbs).length cy]] w (RetZ (x * y) w) :=
  (nMul_any _ _ X Y cx cy _ _ w hX hY ha hb hr).mono fun _ _ h => retSg_int h (Int.natAbs_mul x y) (by
    by_cases h0 : x.natAbs * y.natAbs = 0
    · have e : x * y = 0 := by rw [← Int.natAbs_eq_zero, Int.natAbs_mul]; exact h0
      rw [h0, e, dg_zero]; simp
    · have hp := dg_len_pos.2 h0
      have hx : x ≠ 0 := fun e => h0 (by rw [e]; simp)
      have hy : y ≠ 0 := fun e => h0 (by rw [e]; simp)
      rw [decide_eq_true hp, Bool.and_true]
      rcases Int.lt_or_gt_of_ne hx with h1 | h1 <;> rcases Int.lt_or_gt_of_ne hy with h2 | h2
      · have := Int.mul_pos_of_neg_of_neg h1 h2
        simp [h1, h2]; omega
      · have := Int.mul_neg_of_neg_of_pos h1 h2
        have h3 : ¬ y < 0 := by omega
        simp [h1, h3]; omega
      · have := Int.mul_neg_of_pos_of_neg h1 h2
        have h3 : ¬ x < 0 := by omega
        simp [h2, h3]; omega
      · have := Int.mul_pos h1 h2
        have h3 : ¬ x < 0 := by omega
        have h4 : ¬ y < 0 := by omega
        simp [h3, h4]; omega)
end Go.Proofs.Tg
end
section
/- The reference's reading of a polynomial: well-formed or not. -/
namespace Go.Proofs.Tg
open Go.RowKit Go.Gr Go.Mo Go.Qn
set_option maxHeartbeats 4000000
set_option maxRecDepth 100000
/-- The same, where a condition on the world is held. -/
theorem wpAnyH_get {P : Program} {md : Region.Mode} {ops : Array Oper} {Q : Exit → Act → World → Prop} {S : World → Prop} (i : Nat) (d : Option Tmp) (v : Value) {oi : Oper} {fuel : Nat} {listed : Array Bool} {a : Act} {w : World} (hi : ops[i]? = some oi) (hd : oi.dst = d)
    (hs : Region.noSelect ops = true) (hf : Region.free md ops listed i = true) (hr : (Region.ready md ops listed).contains i = true) (hQ : ∀ c a w, Q (.panic c) (a.put d v) w → Q (.panic c) a w)
    (hw : Region.wanted oi (yielded ops a.tmps) = true) (hS : S w) (hy : ∀ w, S w → (execOp a.eval oi).run P w = .ok (.value v) w) (h : wpAnyH P md ops Q S fuel (listed.setIfInBounds i true) (a.put d v) w) : wpAnyH P md ops Q S (fuel + 1) listed a w := by
  subst hd
  exact wpAnyH_take hi hs hf hr hQ (.inl ⟨hw, hy⟩) hS h
/-- The coefficient's cells hold the number that the text says. -/
def RCo (w : World) (t : RT) (s : ByteArray) : Prop := ∃ b n m N cn D cd, rd s.data.toList = some (b, n, m) ∧ n < 1000000000 ∧ m < 1000000000 ∧ m ≠ 0 ∧ t.c0 = .bool b ∧ t.c1 = .slice N (mg n).length cn ∧ t.c2 = .bool false ∧ t.c3 = .slice D (dl m).length cd ∧ Digs w N (mg n) ∧ Digs w D (dl m)
theorem RCo.keep {w w' : World} {t : RT} {s : ByteArray} (h : RCo w t s) (hb : Below w.heap.size w w') : RCo w' t s := by
  obtain ⟨b, n, m, N, cn, D, cd, h1, h2, h3, h4, h5, h6, h7, h8, h9, h10⟩ := h
  exact ⟨b, n, m, N, cn, D, cd, h1, h2, h3, h4, h5, h6, h7, h8, h9.keep hb, h10.keep hb⟩
theorem RCo.grown {w w' : World} {t : RT} {s : ByteArray} {ys : List Value} {b sz n : Nat} {ty : TypeId} {v : Value} (h : RCo w t s) (ho : w.ownsRow b ty sz v n ys) (hg : w.grownBy w' v.ownBlock) (hne : ty ≠ 137) : RCo w' t s := by
  obtain ⟨b, n, m, N, cn, D, cd, h1, h2, h3, h4, h5, h6, h7, h8, h9, h10⟩ := h
  exact ⟨b, n, m, N, cn, D, cd, h1, h2, h3, h4, h5, h6, h7, h8, h9.grown ho hg hne, h10.grown ho hg hne⟩
theorem RCo.far {w : World} {t : RT} {s : ByteArray} {g : Nat} {ty : TypeId} {cs : Array Value} (h : RCo w t s) (B : Blk w g ty cs) (hne : ty ≠ 137) (i : Nat) (u : Value) : RCo (w.setCell ⟨g, i, none⟩ u) t s := by
  obtain ⟨b, n, m, N, cn, D, cd, h1, h2, h3, h4, h5, h6, h7, h8, h9, h10⟩ := h
  exact ⟨b, n, m, N, cn, D, cd, h1, h2, h3, h4, h5, h6, h7, h8, h9.far (h9.off_ty B hne) i u, h10.far (h10.off_ty B hne) i u⟩
end Go.Proofs.Tg
end
section
/- The reference's Signs, over what its ReadAll gives. -/
namespace Go.Proofs.Tg
open Go.RowKit Go.Gr Go.Ev Go.Mo
set_option maxHeartbeats 4000000
set_option maxRecDepth 100000
def PVal.key (p : PVal) : Int × List (List Int) := (p.vars, p.tv.map TV.exps)
def RP.key (p : RP) : Int × List (List Int) := (p.vars, p.ts.map RT.exps)
end Go.Proofs.Tg
end
section
/- The harness's numbers: sums with signs; rational numbers as values. -/
namespace Go.Proofs.Tg
open Go.RowKit Go.Gr Go.Bn Go.Rq
set_option maxHeartbeats 4000000
set_option maxRecDepth 100000
theorem iadd_any (x y : Int) (X Y : Option Addr) (cx cy : Nat) (w : World) (hX : ND w X cx x.natAbs) (hY : ND w Y cy y.natAbs) (ha : (dg x.natAbs).length ≤ 400000) (hb : (dg y.natAbs).length ≤ 400000) (hr : (dg (x.natAbs + y.natAbs)).length ≤ 1000000) :
    Calls Tryz.prog 54 #[.agg #[.bool (decide (x < 0)), .slice X (dg x.natAbs).length cx], .agg #[.bool (decide (y < 0)), .slice Y (dg y.natAbs).length cy]] w (RetZ (x + y) w) := by
  by_cases hs : (decide (x < 0)) = (decide (y < 0))
  · have h := nAdd_same (decide (x < 0)) X Y cx cy x.natAbs y.natAbs w hX hY ha hb hr
    rw [hs] at h ⊢
    refine h.mono fun _ _ h => retSg_int h ?_ ?_
    · have := decide_eq_decide.1 hs; omega
    · have hi := decide_eq_decide.1 hs
      by_cases hy : y < 0
      · have hx : x < 0 := hi.2 hy
        have h0 : x.natAbs + y.natAbs ≠ 0 := by omega
        rw [decide_eq_true (dg_len_pos.2 h0), decide_eq_true hy, decide_eq_true (show x + y < 0 by omega)]; rfl
      · have hx : ¬ x < 0 := fun h => hy (hi.1 h)
        rw [decide_eq_false hy, decide_eq_false (show ¬ x + y < 0 by omega)]; rfl
  · have hpq : ((decide (x < 0)) == (decide (y < 0))) = false := beq_eq_false_iff_ne.2 hs
    rcases Nat.lt_or_ge x.natAbs y.natAbs with hlt | hge
    · have h := nAdd_lt (decide (x < 0)) (decide (y < 0)) hpq X Y cx cy x.natAbs y.natAbs w hX hY hlt ha hb (Nat.le_trans (dg_len_mono (by omega)) hr)
      refine h.mono fun _ _ h => retSg_int h ?_ ?_
      · by_cases hx : x < 0 <;> by_cases hy : y < 0 <;> simp [hx, hy] at hs <;> omega
      · have h0 : y.natAbs - x.natAbs ≠ 0 := by omega
        rw [decide_eq_true (dg_len_pos.2 h0), Bool.and_true]
        apply decide_eq_decide.2
        by_cases hx : x < 0 <;> by_cases hy : y < 0 <;> simp [hx, hy] at hs ⊢ <;> omega
    · have h := nAdd_ge (decide (x < 0)) (decide (y < 0)) hpq X Y cx cy x.natAbs y.natAbs w hX hY hge ha hb (Nat.le_trans (dg_len_mono (by omega)) hr)
      refine h.mono fun _ _ h => retSg_int h ?_ ?_
      · by_cases hx : x < 0 <;> by_cases hy : y < 0 <;> simp [hx, hy] at hs <;> omega
      · by_cases h0 : x.natAbs - y.natAbs = 0
        · rw [h0, dg_zero]
          have : ¬ x + y < 0 := by
            by_cases hx : x < 0 <;> by_cases hy : y < 0 <;> simp [hx, hy] at hs <;> omega
          rw [decide_eq_false this]; simp
        · rw [decide_eq_true (dg_len_pos.2 h0), Bool.and_true]
          apply decide_eq_decide.2
          by_cases hx : x < 0 <;> by_cases hy : y < 0 <;> simp [hx, hy] at hs ⊢ <;> omega
theorem dg_lo {n k : Nat} (h : n < B ^ k) : (dg n).length ≤ k := dg_len_lt h
/-- A rational number in memory. -/
def QAt (w : World) (v : Value) (q : Rat) : Prop :=
  ∃ N cn D cd, v = .agg #[.bool (decide (q.num < 0)), .slice N (dg q.num.natAbs).length cn, .bool false, .slice D (dg (dnz q.den)).length cd] ∧ ND w N cn q.num.natAbs ∧ ND w D cd (dnz q.den)
theorem QAt.keep {w w' : World} {v : Value} {q : Rat} (h : QAt w v q) (hb : Below w.heap.size w w') : QAt w' v q := by
  obtain ⟨N, cn, D, cd, e, h1, h2⟩ := h
  exact ⟨N, cn, D, cd, e, h1.keep hb, h2.keep hb⟩
def RetQ (q : Rat) (w : World) (e : Ending) (w' : World) : Prop := ∃ v, e = .returned v ∧ QAt w' v q ∧ Below w.heap.size w w'
/-- Numbers whose denominators are short. -/
def QS (q : Rat) : Prop := q.num.natAbs < B ^ 40 ∧ q.den < 65536
theorem Bd.qs {D K : Nat} {q : Rat} (h : Bd D K q) (hD : 0 < D) (hD2 : D < 65536) (hK : K < B ^ 40) : QS q :=
  ⟨Nat.lt_of_le_of_lt h.num hK, Nat.lt_of_le_of_lt (h.denle hD) hD2⟩
theorem frac_q (z : Int) (m : Nat) (A D : Option Addr) (c d : Nat) (w : World) (hA : ND w A c z.natAbs) (hB : ND w D d m) (ha : (dg z.natAbs).length ≤ 200000) (hd : DvOk m) (hm : m ≠ 0) :
    Calls Tryz.prog 46 #[.agg #[.bool (decide (z < 0)), .slice A (dg z.natAbs).length c], .agg #[.bool false, .slice D (dg m).length d]] w (RetQ (mkRat z m) w) := by
  refine (frac_num (decide (z < 0)) A D c d z.natAbs m w hA hB ha hd hm (fun h => by have := of_decide_eq_true h; omega)).mono ?_
  rintro e w' ⟨N, cn, D', cd, rfl, h1, h2, hb⟩
  obtain ⟨e1, e2, e3⟩ := mk_num z m hm
  refine ⟨_, rfl, ⟨N, cn, D', cd, ?_, ?_, ?_⟩, hb⟩
  · rw [e1, e2, decide_eq_decide.2 e3]
  · rw [e1]; exact h1
  · rw [e2]; exact h2
end Go.Proofs.Tg
end
section
/- The harness's numbers: denominators. -/
namespace Go.Proofs.Tg
open Go.RowKit Go.Gr Go.Bn Go.Rq
set_option maxHeartbeats 4000000
set_option maxRecDepth 100000
/-- A number that is not negative. -/
def RetN (n : Nat) (w : World) (e : Ending) (w' : World) : Prop := ∃ R c, e = .returned (.agg #[.bool false, .slice R (dg n).length c]) ∧ ND w' R c n ∧ Below w.heap.size w w'
theorem den_any (p : Bool) (N D : Option Addr) (nn cn cd m : Nat) (w : World) (hD : ND w D cd (dnz m)) (hm : m ≠ 0) (hl : (dg m).length ≤ 200000) :
    Calls Tryz.prog 56 #[.agg #[.bool p, .slice N nn cn, .bool false, .slice D (dg (dnz m)).length cd]] w (RetN m w) := by
  obtain ⟨W, hW⟩ : ∃ W, (w.alloc (.cells #[.bool p, .slice N nn cn, .bool false, .slice D (dg (dnz m)).length cd] 52)).alloc (.cells #[.bool false, .slice none 0 0] 50) = W := ⟨_, rfl⟩
  have B1 : Blk W w.heap.size 52 #[.bool p, .slice N nn cn, .bool false, .slice D (dg (dnz m)).length cd] := by rw [← hW]; exact (Blk.new _ _ _).alloc _
  have B2 : Blk W (w.heap.size + 1) 50 #[.bool false, .slice none 0 0] := by
    rw [← hW]; have := Blk.new (w.alloc (.cells #[.bool p, .slice N nn cn, .bool false, .slice D (dg (dnz m)).length cd] 52)) 50 #[.bool false, .slice none 0 0]
    simpa using this
  have hbW : Below w.heap.size w W := by rw [← hW]; exact ((Below.refl _ _).alloc (Nat.le_refl _) _).alloc (by simp) _
  have hDW := hD.keep hbW
  have HF := Lib.hid (fun V => fromint_num 1 (by decide) (by decide) V)
  have hwz : w.heap.size ≤ w.heap.size + 1 := by omega
  by_cases h1 : m = 1
  · subst h1
    rw [dnz_one, dg_zero, List.length_nil] at hW B1 ⊢
    have HWW := Lib.hid hW
    clear hW hD hDW hm hl
    obtain ⟨a0, a1, a2, a3, _, _, _, _⟩ := B1.four
    obtain ⟨d0, d1, d2, d3⟩ := B2.two
    go_enter Tryz.func56, Tryz.ntmps56
    go_upto_region 1 with (fail)
    rw [HWW.out]
    go_wp2_with (fail)
    refine (HF.out _).mono ?_
    rintro e w2 ⟨R, c, rfl, hR, hb2⟩
    have C2 := B2.keep hb2 B2.lt
    obtain ⟨d0, d1, d2, d3⟩ := C2.two
    have hbC := below_all hbW hb2
    rw [show decide ((1 : Int) < 0) = false from rfl, show (1 : Int).natAbs = 1 from rfl] at *
    obtain ⟨n1, hn1⟩ : ∃ n1, (dg 1).length = n1 := ⟨_, rfl⟩
    rw [hn1]
    have HN1 := Lib.hid hn1
    clear hn1
    go_wp2
    refine bodyPost_ret (v := .agg #[.bool false, .slice R n1 c]) (by simp [results, Tryz.results56, go_sem, d0, d1]) rfl ⟨R, c, by rw [HN1.out], ?_, ?_⟩
    · exact (hR.far C2 (by decide) _ _).far (C2.set _ _) (by decide) _ _
    · exact below_far (below_far hbC hwz _ _) hwz _ _
  · rw [dnz_pos h1] at hW B1 hDW ⊢
    obtain ⟨n1, hn1⟩ : ∃ n1, (dg m).length = n1 := ⟨_, rfl⟩
    have hn0 : 0 < n1 := by rw [← hn1]; exact dg_len_pos.2 hm
    have hne : ((n1 : Int) == 0) = false := beq_eq_false_iff_ne.2 (by omega)
    have hne' : (n1 == 0) = false := beq_eq_false_iff_ne.2 (by omega)
    rw [hn1] at hW B1 hl ⊢
    have HN1 := Lib.hid hn1
    have HWW := Lib.hid hW
    clear hW hn1 hD hm
    obtain ⟨a0, a1, a2, a3, _, _, _, _⟩ := B1.four
    obtain ⟨d0, d1, d2, d3⟩ := B2.two
    go_enter Tryz.func56, Tryz.ntmps56
    go_upto_region 1 with (fail)
    rw [HWW.out]
    go_wp2
    refine bodyPost_ret (v := .agg #[.bool false, .slice D n1 cd]) (by simp [results, Tryz.results56, go_sem, d0, d1]) rfl ⟨D, cd, by rw [HN1.out], ?_, ?_⟩
    · exact (hDW.far B2 (by decide) _ _).far (B2.set _ _) (by decide) _ _
    · exact below_far (below_far hbW hwz _ _) hwz _ _
end Go.Proofs.Tg
end
section
/- The harness's numbers: the product of rational numbers. -/
namespace Go.Proofs.Tg
open Go.RowKit Go.Gr Go.Bn Go.Rq
set_option maxHeartbeats 8000000
set_option maxRecDepth 100000
theorem cell_four {V : World} {g : Nat} {a b c d u : Value} {ad : Addr} (h : V.cell? ad = some u) (hne : ad.block ≠ g) : ((((V.setCell ⟨g, 0, none⟩ a).setCell ⟨g, 1, none⟩ b).setCell ⟨g, 2, none⟩ c).setCell ⟨g, 3, none⟩ d).cell? ad = some u := by
  have e : ∀ k : Nat, (⟨g, k, none⟩ : Addr) ≠ ad := fun k e => hne (by rw [← e])
  rw [World.cell?_setCell_other _ _ _ _ (e 3), World.cell?_setCell_other _ _ _ _ (e 2), World.cell?_setCell_other _ _ _ _ (e 1), World.cell?_setCell_other _ _ _ _ (e 0)]
  exact h
theorem blk_four {V : World} {g : Nat} {a b c d a' b' c' d' : Value} {t : TypeId} (h : Blk V g t #[a, b, c, d]) : Blk ((((V.setCell ⟨g, 0, none⟩ a').setCell ⟨g, 1, none⟩ b').setCell ⟨g, 2, none⟩ c').setCell ⟨g, 3, none⟩ d') g t #[a', b', c', d'] := by
  have := (((h.set 0 a').set 1 b').set 2 c').set 3 d'
  simpa using this
theorem ND.four {V : World} {g : Nat} {A : Option Addr} {k n : Nat} {cs : Array Value} {a' b' c' d' : Value} {t : TypeId} (h : ND V A k n) (B : Blk V g t cs) (hne : t ≠ 137) : ND ((((V.setCell ⟨g, 0, none⟩ a').setCell ⟨g, 1, none⟩ b').setCell ⟨g, 2, none⟩ c').setCell ⟨g, 3, none⟩ d') A k n :=
  (((h.far B hne 0 a').far (B.set 0 a') hne 1 b').far ((B.set 0 a').set 1 b') hne 2 c').far (((B.set 0 a').set 1 b').set 2 c') hne 3 d'
theorem Below.four {w V : World} {g : Nat} {a' b' c' d' : Value} (h : Below w.heap.size w V) (hg : w.heap.size ≤ g) : Below w.heap.size w ((((V.setCell ⟨g, 0, none⟩ a').setCell ⟨g, 1, none⟩ b').setCell ⟨g, 2, none⟩ c').setCell ⟨g, 3, none⟩ d') :=
  below_far (below_far (below_far (below_far h hg _ _) hg _ _) hg _ _) hg _ _
theorem QS.num {q : Rat} (h : QS q) : (dg q.num.natAbs).length ≤ 40 := dg_lo h.1
theorem QS.den {q : Rat} (h : QS q) : (dg q.den).length ≤ 1 := dg_lo (Nat.lt_of_lt_of_le h.2 (by decide))
theorem QS.prod {p q : Rat} (h : QS p) (g : QS q) : (p.num.natAbs * q.num.natAbs) < B ^ 80 := by
  have := Nat.mul_lt_mul'' h.1 g.1
  rwa [← Nat.pow_add] at this
theorem QS.dens {p q : Rat} (h : QS p) (g : QS q) : p.den * q.den < B := Nat.lt_of_lt_of_le (Nat.mul_lt_mul'' h.2 g.2) (by decide)
theorem QS.cross {p q : Rat} (h : QS p) (g : QS q) : p.num.natAbs * q.den < B ^ 41 := by
  have := Nat.mul_lt_mul'' h.1 (Nat.lt_of_lt_of_le g.2 (show 65536 ≤ B ^ 1 by decide))
  rwa [← Nat.pow_add] at this
theorem dnz_mul {a b : Nat} (h : dnz a = 0) (g : dnz b = 0) (ha : a ≠ 0) (hb : b ≠ 0) : a = 1 ∧ b = 1 := by
  unfold dnz at h g
  constructor
  · split at h <;> omega
  · split at g <;> omega
theorem rat_whole {q : Rat} (h : q.den = 1) : q = (q.num : Rat) := Rat.ext rfl h
theorem rmul_q (p q : Rat) (va vb : Value) (w : World) (ha : QAt w va p) (hb : QAt w vb q) (hp : QS p) (hq : QS q) :
    Calls Tryz.prog 26 #[va, vb] w (RetQ (p * q) w) := by
  obtain ⟨NA, ca, DA, cda, rfl, hNA, hDA⟩ := ha
  obtain ⟨NB, cb, DB, cdb, rfl, hNB, hDB⟩ := hb
  obtain ⟨na, hna⟩ : ∃ na, (dg p.num.natAbs).length = na := ⟨_, rfl⟩
  obtain ⟨nb, hnb⟩ : ∃ nb, (dg q.num.natAbs).length = nb := ⟨_, rfl⟩
  obtain ⟨ea, hea⟩ : ∃ ea, (dg (dnz p.den)).length = ea := ⟨_, rfl⟩
  obtain ⟨eb, heb⟩ : ∃ eb, (dg (dnz q.den)).length = eb := ⟨_, rfl⟩
  obtain ⟨sa, hsa⟩ : ∃ sa, decide (p.num < 0) = sa := ⟨_, rfl⟩
  obtain ⟨sb, hsb⟩ : ∃ sb, decide (q.num < 0) = sb := ⟨_, rfl⟩
  rw [hna, hnb, hea, heb, hsa, hsb]
  obtain ⟨W, hW⟩ : ∃ W, ((w.alloc (.cells #[.bool sa, .slice NA na ca, .bool false, .slice DA ea cda] 52)).alloc (.cells #[.bool sb, .slice NB nb cb, .bool false, .slice DB eb cdb] 52)).alloc (.cells #[.bool false, .slice none 0 0, .bool false, .slice none 0 0] 52) = W := ⟨_, rfl⟩
  have B0 : Blk W w.heap.size 52 #[.bool sa, .slice NA na ca, .bool false, .slice DA ea cda] := by rw [← hW]; exact ((Blk.new _ _ _).alloc _).alloc _
  have B1 : Blk W (w.heap.size + 1) 52 #[.bool sb, .slice NB nb cb, .bool false, .slice DB eb cdb] := by
    rw [← hW]; have := (Blk.new (w.alloc (.cells #[.bool sa, .slice NA na ca, .bool false, .slice DA ea cda] 52)) 52 #[.bool sb, .slice NB nb cb, .bool false, .slice DB eb cdb]).alloc (.cells #[.bool false, .slice none 0 0, .bool false, .slice none 0 0] 52)
    simpa using this
  have B2 : Blk W (w.heap.size + 1 + 1) 52 #[.bool false, .slice none 0 0, .bool false, .slice none 0 0] := by
    rw [← hW]; have := Blk.new ((w.alloc (.cells #[.bool sa, .slice NA na ca, .bool false, .slice DA ea cda] 52)).alloc (.cells #[.bool sb, .slice NB nb cb, .bool false, .slice DB eb cdb] 52)) 52 #[.bool false, .slice none 0 0, .bool false, .slice none 0 0]
    simpa using this
  have hbW : Below w.heap.size w W := by rw [← hW]; exact (((Below.refl _ _).alloc (Nat.le_refl _) _).alloc (by simp) _).alloc (by simp; omega) _
  have hX := hNA.keep hbW
  have hY := hNB.keep hbW
  have hDX := hDA.keep hbW
  have hDY := hDB.keep hbW
  obtain ⟨x1, hx1⟩ : ∃ x1, p.num * q.num = x1 := ⟨_, rfl⟩
  obtain ⟨m1, hm1⟩ : ∃ m1, (dg x1.natAbs).length = m1 := ⟨_, rfl⟩
  obtain ⟨s1, hs1⟩ : ∃ s1, decide (x1 < 0) = s1 := ⟨_, rfl⟩
  have hpl := hp.num
  have hql := hq.num
  have hx1l : (dg x1.natAbs).length ≤ 80 := by rw [← hx1, Int.natAbs_mul]; exact dg_lo (hp.prod hq)
  have HM1 : Hid (∀ V, Below W.heap.size W V → Calls Tryz.prog 55 #[.agg #[.bool sa, .slice NA na ca], .agg #[.bool sb, .slice NB nb cb]] V fun e w' => ∃ M c, e = .returned (.agg #[.bool s1, .slice M m1 c]) ∧ ND w' M c x1.natAbs ∧ Below V.heap.size V w') := Lib.hid (fun V h => by
    have := imul_any p.num q.num NA NB ca cb V (hX.keep h) (hY.keep h) (by omega) (by omega) (by rw [← Int.natAbs_mul, hx1]; omega)
    rw [hx1, hsa, hsb, hna, hnb] at this
    unfold RetZ at this
    rw [hs1, hm1] at this
    exact this)
  have HW := Lib.hid hW
  have HB2 := Lib.hid B2
  have hl2 := B2.lt
  have n1 : (w.heap.size = w.heap.size + 1 + 1) = False := eq_false (by omega)
  have n2 : (w.heap.size + 1 + 1 = w.heap.size) = False := eq_false (by omega)
  obtain ⟨a0, a1, a2, a3, _, _, _, _⟩ := B0.four
  obtain ⟨b0, b1, b2, b3, _, _, _, _⟩ := B1.four
  obtain ⟨d0, d1, d2, d3, f0, f1, f2, f3⟩ := B2.four
  have hbe : Below W.heap.size W W.drew := (Below.refl _ _).drew
  have hwz : w.heap.size ≤ w.heap.size + 1 + 1 := by omega
  by_cases hboth : ea = 0 ∧ eb = 0
  · obtain ⟨h1, h2⟩ := hboth
    obtain ⟨k1, k2⟩ := dnz_mul (a := p.den) (b := q.den) (dg_len0 (hea.trans h1)) (dg_len0 (heb.trans h2)) p.den_nz q.den_nz
    have hPQ : p * q = ((x1 : Int) : Rat) := by
      rw [rat_whole k1, rat_whole k2, ← Rat.intCast_mul, ← hx1]
    have HPQ := Lib.hid hPQ
    have HS1 := Lib.hid hs1
    have HMM1 := Lib.hid hm1
    subst h1 h2
    clear hW hea heb hsa hsb hna hnb hs1 hm1 hX hY hDX hDY hNA hNB hDA hDB B0 B1 B2 hp hq hx1 hpl hql hx1l k1 k2 hPQ
    go_enter Tryz.func26, Tryz.ntmps26
    go_upto_region 1 with (fail)
    rw [HW.out]
    go_wp2_with (go_at_call 55; refine (HM1.out _ (by first | exact Below.refl _ _ | exact (Below.refl _ _).drew | exact below_drewN (Below.refl _ _) _)).mono ?_; rintro e w2 ⟨M, c, rfl, hM, hb2⟩; have C2 := HB2.out.keep hb2 hl2; obtain ⟨d0, d1, d2, d3, f0, f1, f2, f3⟩ := C2.four)
    obtain ⟨g0, g1, g2, g3, _⟩ := (blk_four (a' := .bool s1) (b' := .slice M m1 c) (c' := .bool false) (d' := .slice none 0 0) C2).four
    refine bodyPost_ret (v := .agg #[.bool s1, .slice M m1 c, .bool false, .slice none 0 0]) (by simp [results, Tryz.results26, go_sem, g0, g1, g2, g3]) rfl ⟨_, rfl, ⟨M, c, none, 0, ?_, ?_, ?_⟩, ?_⟩
    · rw [HPQ.out]
      change _ = Value.agg #[.bool (decide (x1 < 0)), .slice M (dg x1.natAbs).length c, .bool false, .slice none (dg (dnz 1)).length 0]
      rw [HS1.out, HMM1.out, dnz_one, dg_zero]; try rfl
    · rw [HPQ.out]; exact hM.four C2 (by decide)
    · rw [HPQ.out]
      change ND _ none 0 (dnz 1)
      rw [dnz_one]; exact ND.zero _
    · exact Below.four (below_all hbW hb2) hwz
  · obtain ⟨x2, hx2⟩ : ∃ x2, p.den * q.den = x2 := ⟨_, rfl⟩
    obtain ⟨m2, hm2⟩ : ∃ m2, (dg x2).length = m2 := ⟨_, rfl⟩
    obtain ⟨fa, hfa⟩ : ∃ fa, (dg p.den).length = fa := ⟨_, rfl⟩
    obtain ⟨fb, hfb⟩ : ∃ fb, (dg q.den).length = fb := ⟨_, rfl⟩
    have hx2B : x2 < B := by rw [← hx2]; exact hp.dens hq
    have hx20 : x2 ≠ 0 := by rw [← hx2]; exact Nat.mul_ne_zero p.den_nz q.den_nz
    have HDA : Hid (∀ V, Below W.heap.size W V → Calls Tryz.prog 56 #[.agg #[.bool sa, .slice NA na ca, .bool false, .slice DA ea cda]] V fun e w' => ∃ R c, e = .returned (.agg #[.bool false, .slice R fa c]) ∧ ND w' R c p.den ∧ Below V.heap.size V w') := Lib.hid (fun V h => by
      have := den_any sa NA DA na ca cda p.den V (hDX.keep h) p.den_nz (by have := hp.den; omega)
      rw [hea] at this
      unfold RetN at this
      rw [hfa] at this
      exact this)
    have HDB : Hid (∀ V, Below W.heap.size W V → Calls Tryz.prog 56 #[.agg #[.bool sb, .slice NB nb cb, .bool false, .slice DB eb cdb]] V fun e w' => ∃ R c, e = .returned (.agg #[.bool false, .slice R fb c]) ∧ ND w' R c q.den ∧ Below V.heap.size V w') := Lib.hid (fun V h => by
      have := den_any sb NB DB nb cb cdb q.den V (hDY.keep h) q.den_nz (by have := hq.den; omega)
      rw [heb] at this
      unfold RetN at this
      rw [hfb] at this
      exact this)
    have HM2 : Hid (∀ V R c R' c', ND V R c p.den → ND V R' c' q.den → Calls Tryz.prog 55 #[.agg #[.bool false, .slice R fa c], .agg #[.bool false, .slice R' fb c']] V fun e w' => ∃ M c, e = .returned (.agg #[.bool false, .slice M m2 c]) ∧ ND w' M c x2 ∧ Below V.heap.size V w') := Lib.hid (fun V R c R' c' h h' => by
      have := nMul_any false false R R' c c' p.den q.den V h h' (by have := hp.den; omega) (by have := hq.den; omega) (by rw [hx2]; have := dg_lo (k := 1) (show x2 < B ^ 1 by simpa using hx2B); omega)
      rw [hx2, hfa, hfb] at this
      unfold RetSg at this
      rw [hm2] at this
      exact this)
    obtain ⟨r, hr⟩ : ∃ r, mkRat x1 x2 = r := ⟨_, rfl⟩
    obtain ⟨sr, hsr⟩ : ∃ s, decide (r.num < 0) = s := ⟨_, rfl⟩
    obtain ⟨nr, hnr⟩ : ∃ s, (dg r.num.natAbs).length = s := ⟨_, rfl⟩
    obtain ⟨er, her⟩ : ∃ s, (dg (dnz r.den)).length = s := ⟨_, rfl⟩
    have HF : Hid (∀ V R c R' c', ND V R c x1.natAbs → ND V R' c' x2 → Calls Tryz.prog 46 #[.agg #[.bool s1, .slice R m1 c], .agg #[.bool false, .slice R' m2 c']] V fun e w' => ∃ N cn D cd, e = .returned (.agg #[.bool sr, .slice N nr cn, .bool false, .slice D er cd]) ∧ ND w' N cn r.num.natAbs ∧ ND w' D cd (dnz r.den) ∧ Below V.heap.size V w') := Lib.hid (fun V R c R' c' h h' => by
      have := frac_q x1 x2 R R' c c' V h h' (by omega) hx2B hx20
      rw [hs1, hm1, hm2, hr] at this
      refine this.mono ?_
      rintro e w' ⟨v, rfl, ⟨N, cn, D, cd, rfl, k1, k2⟩, hb⟩
      exact ⟨N, cn, D, cd, by rw [hsr, hnr, her], k1, k2, hb⟩)
    have HR : Hid (p * q = r) := Lib.hid (by rw [Rat.mul_def', hx1, ← hr, hx2])
    have HSR := Lib.hid hsr
    have HNR := Lib.hid hnr
    have HER := Lib.hid her
    have c1 : ((ea : Int) == 0) = decide (ea = 0) := by by_cases h : ea = 0 <;> simp [h]
    have c2 : ((eb : Int) == 0) = decide (eb = 0) := by by_cases h : eb = 0 <;> simp [h]
    have HRES : Hid (∀ (V : World) N cn D cd, Below W.heap.size W V → ND V N cn r.num.natAbs → ND V D cd (dnz r.den) → Blk V (w.heap.size + 1 + 1) 52 #[.bool false, .slice none 0 0, .bool false, .slice none 0 0] → RetQ (p * q) w (.returned (.agg #[.bool sr, .slice N nr cn, .bool false, .slice D er cd])) ((((V.setCell ⟨w.heap.size + 1 + 1, 0, none⟩ (.bool sr)).setCell ⟨w.heap.size + 1 + 1, 1, none⟩ (.slice N nr cn)).setCell ⟨w.heap.size + 1 + 1, 2, none⟩ (.bool false)).setCell ⟨w.heap.size + 1 + 1, 3, none⟩ (.slice D er cd))) := Lib.hid (fun V N cn D cd hb h1 h2 C => by
      refine ⟨_, rfl, ⟨N, cn, D, cd, ?_, ?_, ?_⟩, Below.four (below_all hbW hb) hwz⟩
      · rw [HR.out, HSR.out, HNR.out, HER.out]
      · rw [HR.out]; exact h1.four C (by decide)
      · rw [HR.out]; exact h2.four C (by decide))
    clear hW hea heb hsa hsb hna hnb hs1 hm1 hX hY hDX hDY hNA hNB hDA hDB B0 B1 B2 hp hq hx1 hpl hql hx1l hx2 hm2 hfa hfb hx2B hx20 hr hsr hnr her HR
    by_cases h1 : ea = 0
    · have h2 : ¬ eb = 0 := fun h => hboth ⟨h1, h⟩
      rw [decide_eq_true h1] at c1
      rw [decide_eq_false h2] at c2
      have c1' : (ea == 0) = true := by simp [h1]
      have c2' : (eb == 0) = false := by simp [h2]
      clear hboth h1 h2
      go_enter Tryz.func26, Tryz.ntmps26
      go_upto_region 1 with (fail)
      rw [HW.out]
      go_upto_region 3 with (fail)
      go_region_held3 (fun w' => w'.cell? ⟨w.heap.size, 0, none⟩ = some (.bool sa) ∧ w'.cell? ⟨w.heap.size, 1, none⟩ = some (.slice NA na ca) ∧ w'.cell? ⟨w.heap.size, 2, none⟩ = some (.bool false) ∧ w'.cell? ⟨w.heap.size, 3, none⟩ = some (.slice DA ea cda) ∧ w'.cell? ⟨w.heap.size + 1, 0, none⟩ = some (.bool sb) ∧ w'.cell? ⟨w.heap.size + 1, 1, none⟩ = some (.slice NB nb cb) ∧ w'.cell? ⟨w.heap.size + 1, 2, none⟩ = some (.bool false) ∧ w'.cell? ⟨w.heap.size + 1, 3, none⟩ = some (.slice DB eb cdb))
        (first | exact ⟨keep_cell hbe a0, keep_cell hbe a1, keep_cell hbe a2, keep_cell hbe a3, keep_cell hbe b0, keep_cell hbe b1, keep_cell hbe b2, keep_cell hbe b3⟩ | exact ⟨cell_four (keep_cell hbe a0) (by simp; omega), cell_four (keep_cell hbe a1) (by simp; omega), cell_four (keep_cell hbe a2) (by simp; omega), cell_four (keep_cell hbe a3) (by simp; omega), cell_four (keep_cell hbe b0) (by simp), cell_four (keep_cell hbe b1) (by simp), cell_four (keep_cell hbe b2) (by simp), cell_four (keep_cell hbe b3) (by simp)⟩ | go_keep)
        (first
          | (go_at_call 55; with_reducible refine Calls.mono (HM1.out _ (by assumption)) ?_; rintro e w2 ⟨M1, k1, rfl, hM1, hb2⟩; have hbe := below_all hbe hb2; have Y2 := HB2.out.keep hbe hl2; obtain ⟨d0, d1, d2, d3, f0, f1, f2, f3⟩ := Y2.four)
          | (go_at_call 56; with_reducible refine Calls.mono (HDA.out _ (by assumption)) ?_; rintro e w2 ⟨R1, k2, rfl, hR1, hb2⟩; (try have hM1 := hM1.keep hb2); have hbe := below_all hbe hb2; have Y2 := HB2.out.keep hbe hl2; obtain ⟨d0, d1, d2, d3, f0, f1, f2, f3⟩ := Y2.four)
          | (go_at_call 56; with_reducible refine Calls.mono (HDB.out _ (by assumption)) ?_; rintro e w2 ⟨R2, k3, rfl, hR2, hb2⟩; (try have hM1 := hM1.keep hb2); (try have hR1 := hR1.keep hb2); have hbe := below_all hbe hb2; have Y2 := HB2.out.keep hbe hl2; obtain ⟨d0, d1, d2, d3, f0, f1, f2, f3⟩ := Y2.four)
          | (go_at_call 55; with_reducible refine Calls.mono (HM2.out _ _ _ _ _ hR1 hR2) ?_; rintro e w2 ⟨M2, k4, rfl, hM2, hb2⟩; (try have hM1 := hM1.keep hb2); have hbe := below_all hbe hb2; have Y2 := HB2.out.keep hbe hl2; obtain ⟨d0, d1, d2, d3, f0, f1, f2, f3⟩ := Y2.four)
          | (go_at_call 46; with_reducible refine Calls.mono (HF.out _ _ _ _ _ hM1 hM2) ?_; rintro e w2 ⟨N, cn, D, cd, rfl, hN, hD, hb2⟩; have hbe := below_all hbe hb2; have Y2 := HB2.out.keep hbe hl2; obtain ⟨d0, d1, d2, d3, f0, f1, f2, f3⟩ := Y2.four))
      all_goals
        go_wp2
        obtain ⟨g0, g1, g2, g3, _⟩ := (blk_four (a' := .bool sr) (b' := .slice N nr cn) (c' := .bool false) (d' := .slice D er cd) Y2).four
        exact bodyPost_ret (v := .agg #[.bool sr, .slice N nr cn, .bool false, .slice D er cd]) (by simp [results, Tryz.results26, go_sem, g0, g1, g2, g3]) rfl (HRES.out _ N cn D cd hbe hN hD Y2)
    · rw [decide_eq_false h1] at c1
      have c1' : (ea == 0) = false := by simp [h1]
      clear hboth h1 c2
      go_enter Tryz.func26, Tryz.ntmps26
      go_upto_region 1 with (fail)
      rw [HW.out]
      go_upto_region 3 with (fail)
      go_region_held3 (fun w' => w'.cell? ⟨w.heap.size, 0, none⟩ = some (.bool sa) ∧ w'.cell? ⟨w.heap.size, 1, none⟩ = some (.slice NA na ca) ∧ w'.cell? ⟨w.heap.size, 2, none⟩ = some (.bool false) ∧ w'.cell? ⟨w.heap.size, 3, none⟩ = some (.slice DA ea cda) ∧ w'.cell? ⟨w.heap.size + 1, 0, none⟩ = some (.bool sb) ∧ w'.cell? ⟨w.heap.size + 1, 1, none⟩ = some (.slice NB nb cb) ∧ w'.cell? ⟨w.heap.size + 1, 2, none⟩ = some (.bool false) ∧ w'.cell? ⟨w.heap.size + 1, 3, none⟩ = some (.slice DB eb cdb))
        (first | exact ⟨keep_cell hbe a0, keep_cell hbe a1, keep_cell hbe a2, keep_cell hbe a3, keep_cell hbe b0, keep_cell hbe b1, keep_cell hbe b2, keep_cell hbe b3⟩ | exact ⟨cell_four (keep_cell hbe a0) (by simp; omega), cell_four (keep_cell hbe a1) (by simp; omega), cell_four (keep_cell hbe a2) (by simp; omega), cell_four (keep_cell hbe a3) (by simp; omega), cell_four (keep_cell hbe b0) (by simp), cell_four (keep_cell hbe b1) (by simp), cell_four (keep_cell hbe b2) (by simp), cell_four (keep_cell hbe b3) (by simp)⟩ | go_keep)
        (first
          | (go_at_call 55; with_reducible refine Calls.mono (HM1.out _ (by assumption)) ?_; rintro e w2 ⟨M1, k1, rfl, hM1, hb2⟩; have hbe := below_all hbe hb2; have Y2 := HB2.out.keep hbe hl2; obtain ⟨d0, d1, d2, d3, f0, f1, f2, f3⟩ := Y2.four)
          | (go_at_call 56; with_reducible refine Calls.mono (HDA.out _ (by assumption)) ?_; rintro e w2 ⟨R1, k2, rfl, hR1, hb2⟩; (try have hM1 := hM1.keep hb2); have hbe := below_all hbe hb2; have Y2 := HB2.out.keep hbe hl2; obtain ⟨d0, d1, d2, d3, f0, f1, f2, f3⟩ := Y2.four)
          | (go_at_call 56; with_reducible refine Calls.mono (HDB.out _ (by assumption)) ?_; rintro e w2 ⟨R2, k3, rfl, hR2, hb2⟩; (try have hM1 := hM1.keep hb2); (try have hR1 := hR1.keep hb2); have hbe := below_all hbe hb2; have Y2 := HB2.out.keep hbe hl2; obtain ⟨d0, d1, d2, d3, f0, f1, f2, f3⟩ := Y2.four)
          | (go_at_call 55; with_reducible refine Calls.mono (HM2.out _ _ _ _ _ hR1 hR2) ?_; rintro e w2 ⟨M2, k4, rfl, hM2, hb2⟩; (try have hM1 := hM1.keep hb2); have hbe := below_all hbe hb2; have Y2 := HB2.out.keep hbe hl2; obtain ⟨d0, d1, d2, d3, f0, f1, f2, f3⟩ := Y2.four)
          | (go_at_call 46; with_reducible refine Calls.mono (HF.out _ _ _ _ _ hM1 hM2) ?_; rintro e w2 ⟨N, cn, D, cd, rfl, hN, hD, hb2⟩; have hbe := below_all hbe hb2; have Y2 := HB2.out.keep hbe hl2; obtain ⟨d0, d1, d2, d3, f0, f1, f2, f3⟩ := Y2.four))
      all_goals
        go_wp2
        obtain ⟨g0, g1, g2, g3, _⟩ := (blk_four (a' := .bool sr) (b' := .slice N nr cn) (c' := .bool false) (d' := .slice D er cd) Y2).four
        exact bodyPost_ret (v := .agg #[.bool sr, .slice N nr cn, .bool false, .slice D er cd]) (by simp [results, Tryz.results26, go_sem, g0, g1, g2, g3]) rfl (HRES.out _ N cn D cd hbe hN hD Y2)
end Go.Proofs.Tg
end
