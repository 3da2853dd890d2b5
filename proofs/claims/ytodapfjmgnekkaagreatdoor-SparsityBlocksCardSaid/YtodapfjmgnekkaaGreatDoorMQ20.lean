/- Parts of the proof: XK3, XK4, E5, XK6, XR3, SP5, SP6, SP7, SP8, WK4, SP9. -/
import Derived.Deep.RegionHeld3
import Derived.Test.YtodapfjmgnekkaaGreatDoorMQ1
import Derived.Test.YtodapfjmgnekkaaGreatDoorMQ2
import Derived.Test.YtodapfjmgnekkaaGreatDoorMQ3
import Derived.Test.YtodapfjmgnekkaaGreatDoorMQ10
import Derived.Test.YtodapfjmgnekkaaGreatDoorMQ13
import Derived.Test.YtodapfjmgnekkaaGreatDoorMQ16
import Derived.Test.YtodapfjmgnekkaaGreatDoorMQ19
section
/- The reference's reducedWith. -/
namespace Go.Ev
/-- The vector of a number, the greatest bit first. -/
def ov (n t : Nat) : List Int := unp (rev n t) n
theorem ov_len (n t : Nat) : (ov n t).length = n := unp_len _ _
def badT (rs : List (List Int)) (n : Nat) (v : List Int) (t : Nat) : Bool := decide (v.findIdx (· == 1) < (ov n t).findIdx (· == 1)) && (v.getD ((ov n t).findIdx (· == 1)) 0 == 1) && orth rs (ov n t)
def redR (rs : List (List Int)) (n : Nat) (v : List Int) : Bool := (List.range (2 ^ n)).all fun t => t == 0 || !badT rs n v t
theorem ov_hit {n t : Nat} (h0 : 0 < t) (hn : t < 2 ^ n) : (ov n t).findIdx (· == 1) < n := by
  have hr : rev n t ≠ 0 := fun h => by have := (rev_zero hn).1 h; omega
  obtain ⟨k, hk⟩ := lead_exists hr
  have hkn := lead_lt (rev_lt n t) hk
  have : (ov n t).findIdx (· == 1) < (ov n t).length := by
    rw [List.findIdx_lt_length]
    refine ⟨(ov n t)[k]'(by rw [ov_len]; exact hkn), List.getElem_mem _, ?_⟩
    have e := unp_getD (rev n t) n k hkn
    rw [if_pos hk.1] at e
    have e2 : (ov n t).getD k 0 = (ov n t)[k]'(by rw [ov_len]; exact hkn) := by simp [ov_len, hkn]
    rw [← e2]
    unfold ov
    rw [e]; rfl
  rwa [ov_len] at this
end Go.Ev
namespace Go.Proofs.Tg
open Go.RowKit Go.Gr Go.Ev Go.Mo
set_option maxHeartbeats 4000000
set_option maxRecDepth 100000
end Go.Proofs.Tg
end
section
/- The reference's Kernel. -/
namespace Go.Ev
def keepR (rs : List (List Int)) (n x : Nat) : Bool := orth rs (unp x n) && redR rs n (unp x n)
theorem kern_len (keep : Nat → Bool) (n k : Nat) : (kern keep n k).length ≤ k := by
  unfold kern
  exact Nat.le_trans (List.length_filter_le _ _) (by simp)
end Go.Ev
namespace Go.Proofs.Tg
open Go.RowKit Go.Gr Go.Ev Go.Mo
set_option maxHeartbeats 4000000
set_option maxRecDepth 100000
end Go.Proofs.Tg
end
section
/- What the reference's search keeps is what the plain search keeps. Plain numbers. -/
namespace Go.Ev
theorem orth_Vb {rs : List (List Int)} {n x : Nat} (hx : x < 2 ^ n) (ha : ∀ r ∈ rs, ∀ y ∈ r, 0 ≤ y) : orth rs (unp x n) = Vb rs n x := by
  unfold orth Vb
  rw [decide_eq_true hx, Bool.true_and]
  rw [Bool.eq_iff_iff, List.all_eq_true, List.all_eq_true]
  have key : ∀ r ∈ rs, dotN r (unp x n) (unp x n).length = (pr r x n : Nat) := by
    intro r hr
    have := dotN_pr r (unp x n) n (unp_bit x n) (unp_len x n).symm (ha r hr) n (Nat.le_refl _)
    rw [pk_unp hx] at this
    rw [unp_len]; exact this
  constructor
  · intro h r hr
    have := h r hr
    rw [key r hr, beq_iff_eq] at this
    rw [beq_iff_eq]; omega
  · intro h r hr
    have := h r hr
    rw [beq_iff_eq] at this
    rw [key r hr, beq_iff_eq]; omega
theorem fidx_lead {x n l : Nat} (hx : x < 2 ^ n) (h : Lead x l) : (unp x n).findIdx (· == 1) = l := by
  have hl := lead_lt hx h
  have hlen := unp_len x n
  have hg : ∀ i (hi : i < n), (unp x n)[i]'(by rw [hlen]; exact hi) = if x.testBit i = true then 1 else 0 := by
    intro i hi
    have := unp_getD x n i hi
    rw [← this]; simp [hlen, hi]
  have h1 : ¬ l < (unp x n).findIdx (· == 1) := by
    intro hlt
    have := List.not_of_lt_findIdx hlt
    rw [hg l hl, if_pos h.1] at this
    cases this
  by_cases e : (unp x n).findIdx (· == 1) = l
  · exact e
  · exfalso
    have hlt : (unp x n).findIdx (· == 1) < l := by omega
    have hin : (unp x n).findIdx (· == 1) < (unp x n).length := by omega
    have := List.findIdx_getElem (w := hin)
    rw [hg _ (by omega), h.2 _ hlt] at this
    cases this
theorem fidx_zero (n : Nat) : (unp 0 n).findIdx (· == 1) = n := by
  have hlen := unp_len 0 n
  by_cases e : (unp 0 n).findIdx (· == 1) < (unp 0 n).length
  · exfalso
    have h := List.findIdx_getElem (w := e)
    have hg : ∀ i (hi : i < n), (unp 0 n)[i]'(by rw [hlen]; exact hi) = 0 := by
      intro i hi
      have := unp_getD 0 n i hi
      simp at this
      simp [unp]
    rw [hg _ (by omega)] at h
    cases h
  · have := List.findIdx_le_length (xs := unp 0 n) (p := (· == 1))
    omega
theorem redR_redB {rs : List (List Int)} {n x : Nat} (hx : x < 2 ^ n) (ha : ∀ r ∈ rs, ∀ y ∈ r, 0 ≤ y) : redR rs n (unp x n) = redB rs n x := by
  rw [Bool.eq_iff_iff, redB_iff hx]
  unfold redR
  rw [List.all_eq_true]
  constructor
  · intro h t k l ht hk hl hlk
    have htn : t < 2 ^ n := ht.1
    have ht0 : t ≠ 0 := by
      intro e
      subst e
      have := hk.1
      simp at this
    have hkn := lead_lt htn hk
    have h0 := h (rev n t) (List.mem_range.2 (rev_lt n t))
    have hr0 : rev n t ≠ 0 := fun e => ht0 ((rev_zero htn).1 e)
    have e1 : ov n (rev n t) = unp t n := by unfold ov; rw [rev_rev htn]
    unfold badT at h0
    rw [e1, fidx_lead htn hk, fidx_lead hx hl, orth_Vb htn ha, Vb_iff.2 ht, unp_getD x n k hkn] at h0
    cases hb : x.testBit k with
    | false => rfl
    | true => rw [hb] at h0; simp [hr0, hlk] at h0
  · intro h t htm
    have htn := List.mem_range.1 htm
    by_cases ht0 : t = 0
    · simp [ht0]
    · have hr0 : rev n t ≠ 0 := fun e => ht0 ((rev_zero htn).1 e)
      obtain ⟨k, hk⟩ := lead_exists hr0
      have hkn := lead_lt (rev_lt n t) hk
      unfold badT
      have e1 : ov n t = unp (rev n t) n := rfl
      rw [e1, fidx_lead (rev_lt n t) hk, orth_Vb (rev_lt n t) ha, unp_getD x n k hkn]
      by_cases hx0 : x = 0
      · subst hx0
        rw [fidx_zero, decide_eq_false (by omega)]; simp
      · obtain ⟨l, hl⟩ := lead_exists hx0
        rw [fidx_lead hx hl]
        by_cases hlk : l < k
        · by_cases hV : V rs n (rev n t)
          · rw [h (rev n t) k l hV hk hl hlk]; simp
          · have : Vb rs n (rev n t) = false := by
              cases hv : Vb rs n (rev n t) with
              | false => rfl
              | true => exact absurd (Vb_iff.1 hv) hV
            rw [this]; simp
        · rw [decide_eq_false hlk]; simp
/-- The reference's kernel is the plain one. -/
theorem kern_same {rs : List (List Int)} {n k : Nat} (ha : ∀ r ∈ rs, ∀ y ∈ r, 0 ≤ y) : kern (keepR rs n) n k = kern (keepB rs n) n k := by
  unfold kern
  apply List.filter_congr
  intro x hx
  obtain ⟨t, _, rfl⟩ := List.mem_map.1 hx
  unfold keepR keepB
  rw [orth_Vb (rev_lt _ _) ha, redR_redB (rev_lt _ _) ha]
end Go.Ev
end
section
/- The reference's Signs, over what its ReadAll gives. -/
namespace Go.Proofs.Tg
open Go.RowKit Go.Gr Go.Ev Go.Mo
set_option maxHeartbeats 4000000
set_option maxRecDepth 100000
def PVal.key (p : PVal) : Int × List (List Int) := (p.vars, p.tv.map TV.exps)
def RP.key (p : RP) : Int × List (List Int) := (p.vars, p.ts.map RT.exps)
/-- What the reference's reading of all polynomials returns. -/
def RetAll (ps : List PVal) (w : World) (e : Ending) (w' : World) : Prop :=
  Below w.heap.size w w' ∧ ((¬ (∀ p ∈ ps, p.ok) ∧ e = .returned (.tuple #[.slice none 0 0, .bool false])) ∨
    ((∀ p ∈ ps, p.ok) ∧ ∃ L c rp, e = .returned (.tuple #[.slice L rp.length c, .bool true]) ∧ RPolysAt w' L rp ∧ rp.map RP.key = ps.map PVal.key))
/-- What the reference's search returns. -/
def RetRSigns (ps : List PVal) (w : World) (e : Ending) (w' : World) : Prop :=
  Below w.heap.size w w' ∧
  ((¬ (∀ p ∈ ps, p.ok) ∧ e = .returned (.tuple #[.slice none 0 0, .int .i64 1])) ∨
   ((∀ p ∈ ps, p.ok) ∧ (ps = [] ∨ ∃ p ∈ ps, p.vars ≠ (ps.getD 0 ⟨0, none, 0, []⟩).vars) ∧ e = .returned (.tuple #[.slice none 0 0, .int .i64 4])) ∨
   ((∀ p ∈ ps, p.ok) ∧ ∃ n : Nat, n ≤ 6 ∧ ps ≠ [] ∧ (∀ p ∈ ps, p.vars = n) ∧ ∃ A c, e = .returned (.tuple #[.slice A ((kern (keepB (rowsOf ps) n) n (2 ^ n - 1)).map (unp · n)).length c, .int .i64 0]) ∧ Lists w' A ((kern (keepB (rowsOf ps) n) n (2 ^ n - 1)).map (unp · n))))
theorem rows_key {rp : List RP} {ps : List PVal} (h : rp.map RP.key = ps.map PVal.key) : (rterms rp).map RT.exps = rowsOf ps := by
  have e1 : (rterms rp).map RT.exps = (rp.map RP.key).flatMap Prod.snd := by
    unfold rterms
    rw [List.map_flatMap, List.flatMap_map]; rfl
  have e2 : rowsOf ps = (ps.map PVal.key).flatMap Prod.snd := by
    unfold rowsOf
    rw [List.flatMap_map]; rfl
  rw [e1, e2, h]
theorem vars_key {rp : List RP} {ps : List PVal} (h : rp.map RP.key = ps.map PVal.key) {i : Nat} (hi : i < rp.length) (hj : i < ps.length) : rp[i].vars = ps[i].vars := by
  have h1 : (rp.map RP.key)[i]? = (ps.map PVal.key)[i]? := by rw [h]
  rw [List.getElem?_map, List.getElem?_map, List.getElem?_eq_getElem hi, List.getElem?_eq_getElem hj] at h1
  simp only [Option.map_some] at h1
  injection h1 with h1
  exact congrArg Prod.fst h1
theorem len_key {rp : List RP} {ps : List PVal} (h : rp.map RP.key = ps.map PVal.key) : rp.length = ps.length := by
  have := congrArg List.length h
  simpa using this
end Go.Proofs.Tg
end
section
/- The reference's reading of one polynomial and of all. -/
namespace Go.Proofs.Tg
open Go.RowKit Go.Gr Go.Mo Go.Qn
set_option maxHeartbeats 4000000
set_option maxRecDepth 100000
def RetReadP (v : Int) (tv : List TV) (w : World) (e : Ending) (w' : World) : Prop :=
  Below w.heap.size w w' ∧ ((¬ VldP v (tv.map TV.pl) ∧ e = .returned (.tuple #[.agg #[.int .i64 0, .slice none 0 0], .bool false])) ∨
    (VldP v (tv.map TV.pl) ∧ ∃ (O : Option Addr) (co : Nat) (ts : List RT), e = .returned (.tuple #[.agg #[.int .i64 v, .slice O ts.length co], .bool true]) ∧ w'.ownsRow w.heap.size 58 5 (.slice O ts.length co) ts.length (ts.flatMap RT.cells) ∧ ts.map RT.core = tv.map TV.core ∧ ∀ (j : Nat) (h1 : j < ts.length) (h2 : j < tv.length), RCo w' ts[j] tv[j].coef))
theorem core_get {ts : List RT} {tv : List TV} (h : ts.map RT.core = tv.map TV.core) {i : Nat} (hi : i < ts.length) (hj : i < tv.length) : ts[i].adr = tv[i].adr ∧ ts[i].cap = tv[i].cap ∧ ts[i].exps = tv[i].exps := by
  have h1 : (ts.map RT.core)[i]? = (tv.map TV.core)[i]? := by rw [h]
  rw [List.getElem?_map, List.getElem?_map, List.getElem?_eq_getElem hi, List.getElem?_eq_getElem hj] at h1
  simp only [Option.map_some, RT.core, TV.core, Option.some.injEq, Prod.mk.injEq] at h1
  exact h1
theorem core_len {ts : List RT} {tv : List TV} (h : ts.map RT.core = tv.map TV.core) : ts.length = tv.length := by
  have := congrArg List.length h
  simpa using this
theorem core_ints {w : World} {ts : List RT} {tv : List TV} (h : ts.map RT.core = tv.map TV.core) (hA : ∀ t ∈ tv, Ints w t.adr t.exps) : ∀ t ∈ ts, Ints w t.adr t.exps := by
  intro t ht
  obtain ⟨i, hi, rfl⟩ := List.getElem_of_mem ht
  have hj : i < tv.length := by rw [← core_len h]; exact hi
  obtain ⟨h1, _, h2⟩ := core_get h hi hj
  rw [h1, h2]
  exact hA _ (List.getElem_mem _)
theorem readP_any (v : Int) (T : Option Addr) (cT : Nat) (tv : List TV) (w : World) (hA : TermsAt w T tv) (hn : tv.length ≤ 4096) (hs : ∀ t ∈ tv, t.coef.size ≤ 8 ∧ t.exps.length ≤ 64) :
    Calls Tryz.prog 22 #[.agg #[.int .i64 v, .slice T tv.length cT]] w (RetReadP v tv w) := by
  have HR : Hid (∀ W, Below w.heap.size w W → Calls Tryz.prog 49 #[.agg #[.int .i64 v, .slice T tv.length cT]] W (RetRead6 v tv W)) := Lib.hid (fun W h => read6_any v T cT tv W (hA.keep h) hn hs)
  have HS := Lib.hid hs
  have HA := Lib.hid hA
  clear hs hA
  obtain ⟨W, hW⟩ : ∃ W, (w.alloc (.cells #[.int .i64 v, .slice T tv.length cT] 24)).alloc (.cells #[.int .i64 0, .slice none 0 0] 47) = W := ⟨_, rfl⟩
  have B1 : Blk W w.heap.size 24 #[.int .i64 v, .slice T tv.length cT] := by rw [← hW]; exact (Blk.new _ _ _).alloc _
  have B2 : Blk W (w.heap.size + 1) 47 #[.int .i64 0, .slice none 0 0] := by
    rw [← hW]; have := Blk.new (w.alloc (.cells #[.int .i64 v, .slice T tv.length cT] 24)) 47 #[.int .i64 0, .slice none 0 0]
    simpa using this
  have hbW : Below w.heap.size w W := by rw [← hW]; exact ((Below.refl _ _).alloc (Nat.le_refl _) _).alloc (by simp) _
  have hWs : W.heap.size = w.heap.size + 2 := by rw [← hW]; simp
  have HWW := Lib.hid hW
  clear hW
  obtain ⟨a0, a1, _, _⟩ := B1.two
  have hd : decide ((4096 : Int) < (tv.length : Int)) = false := decide_eq_false (by omega)
  go_enter Tryz.func22, Tryz.ntmps22
  go_upto_region 1 with (fail)
  rw [HWW.out]
  go_wp2_with (fail)
  refine (HR.out _ hbW).mono ?_
  rintro e w1 ⟨hb1, ⟨hno, rfl⟩ | ⟨hwf, O, co, ts, rfl, hown, hcore, hnum⟩⟩
  · have HNO : Hid (¬ VldP v (tv.map TV.pl)) := Lib.hid (fun h => hno h.2.1)
    clear hno
    have C2 := B2.keep hb1 B2.lt
    have hz := hb1.size
    go_upto_region 4 with (fail)
    obtain ⟨W1, hW1⟩ : ∃ W1, w1.alloc (.cells #[.int .i64 0, .slice none 0 0] 47) = W1 := ⟨_, rfl⟩
    have D2 : Blk W1 (w.heap.size + 1) 47 #[.int .i64 0, .slice none 0 0] := by rw [← hW1]; exact C2.alloc _
    have hbD : Below w.heap.size w W1 := by rw [← hW1]; exact (below_all hbW hb1).alloc (by omega) _
    try rw [hW1]
    clear hW1 C2
    obtain ⟨d0, d1, d2, d3⟩ := D2.two
    go_wp2
    refine bodyPost_ret (v := .tuple #[.agg #[.int .i64 0, .slice none 0 0], .bool false]) (by simp [results, Tryz.results22, go_sem, d0, d1]) rfl ⟨?_, .inl ⟨HNO.out, rfl⟩⟩
    exact below_far (below_far hbD (by omega) _ _) (by omega) _ _
  · have HWF := Lib.hid hwf
    have HC := Lib.hid hcore
    have htl : ts.length ≤ 4096 := by rw [core_len hcore]; exact hn
    clear hwf hcore
    have C2 := B2.keep hb1 B2.lt
    have hz := hb1.size
    go_upto_region 4 with (fail)
    obtain ⟨W1, hW1⟩ : ∃ W1, w1.alloc (.cells #[.int .i64 v, .slice O ts.length co] 47) = W1 := ⟨_, rfl⟩
    have D2 : Blk W1 (w.heap.size + 1) 47 #[.int .i64 0, .slice none 0 0] := by rw [← hW1]; exact C2.alloc _
    have D4 : Blk W1 w1.heap.size 47 #[.int .i64 v, .slice O ts.length co] := by rw [← hW1]; exact Blk.new _ _ _
    have hownD : W1.ownsRow w.heap.size 58 5 (.slice O ts.length co) ts.length (ts.flatMap RT.cells) := by rw [← hW1]; exact own_base (hown.alloc _) (by omega)
    have hbD : Below w.heap.size w W1 := by rw [← hW1]; exact (below_all hbW hb1).alloc (by omega) _
    have HN : Hid (∀ (j : Nat) (h1 : j < ts.length) (h2 : j < tv.length), RCo W1 ts[j] tv[j].coef) := Lib.hid (fun j h1 h2 => by rw [← hW1]; exact (hnum j h1 h2).keep ((Below.refl _ _).alloc (Nat.le_refl _) _))
    try rw [hW1]
    clear hW1 C2 hown hnum
    obtain ⟨d0, d1, d2, d3⟩ := D2.two
    obtain ⟨b0, b1, b2, b3⟩ := D4.two
    have o2 : some (w.heap.size + 1) ≠ (Value.slice O ts.length co).ownBlock := own_blk_ne hownD D2 (by decide)
    by_cases h0 : ts.length = 0
    · have hd0 : decide ((0 : Int) < (ts.length : Int)) = false := by simp [h0]
      have hd0' : decide (0 < ts.length) = false := by simp [h0]
      have HOK : Hid (VldP v (tv.map TV.pl)) := Lib.hid ⟨by simpa using hn, HWF.out, fun h => by
        rw [List.length_map, ← core_len HC.out] at h
        omega⟩
      clear h0
      go_wp2
      refine bodyPost_ret (v := .tuple #[.agg #[.int .i64 v, .slice O ts.length co], .bool true]) (by simp [results, Tryz.results22, go_sem, d0, d1]) rfl ⟨?_, .inr ⟨HOK.out, O, co, ts, rfl, ?_, HC.out, fun j h1 h2 => RCo.far (RCo.far (HN.out j h1 h2) D2 (by decide) _ _) (D2.set 0 _) (by decide) _ _⟩⟩
      · exact below_far (below_far hbD (by omega) _ _) (by omega) _ _
      · exact own_far (own_far hownD o2 _) o2 _
    · have hd0 : decide ((0 : Int) < (ts.length : Int)) = true := by simp; omega
      have hd0' : decide (0 < ts.length) = true := by simp; omega
      have hp : 0 < ts.length := by omega
      have hq : 0 < tv.length := by rw [← core_len HC.out]; exact hp
      have hRT : RTermsAt W1 O ts := ⟨Sl.own hownD, core_ints HC.out (HA.out.keep hbD).ints⟩
      obtain ⟨ad, rfl, hc4, hI⟩ := RTermsAt.at hRT hp
      have hex := (core_get HC.out hp hq).2.2
      have hl64 : ts[0].exps.length ≤ 64 := by rw [hex]; exact (HS.out _ (List.getElem_mem _)).2
      have HVI : Hid (VldP v (tv.map TV.pl) ↔ vldM ts[0].exps = true) := Lib.hid (by
        rw [hex]
        constructor
        · intro h
          have := h.2.2 (by simpa using hq)
          simpa [TV.pl] using this
        · intro h
          exact ⟨by simpa using hn, HWF.out, fun _ => by simpa [TV.pl] using h⟩)
      have hc4' : W1.cell? ⟨ad.block, ad.off + 4, none⟩ = some (.slice ts[0].adr ts[0].exps.length ts[0].cap) := by simpa [Addr.add] using hc4
      have HV := Lib.hid (fun (V : World) (h : Below W1.heap.size W1 V) => rvalid_any ts[0].adr ts[0].cap ts[0].exps V (hI.keep h) (by omega))
      clear hRT hc4 hI hex h0
      generalize ts[0].exps = el at *
      generalize ts[0].adr = E at *
      generalize ts[0].cap = ce at *
      cases hvm : vldM el with
      | true =>
        have HOK : Hid (VldP v (tv.map TV.pl)) := Lib.hid (HVI.out.2 hvm)
        rw [hvm] at HV
        clear hvm HVI
        go_wp2_with (go_at_call 50; refine (HV.out _ (Below.refl _ _)).mono ?_; rintro e w' ⟨rfl, rfl⟩)
        refine bodyPost_ret (v := .tuple #[.agg #[.int .i64 v, .slice (some ad) ts.length co], .bool true]) (by simp [results, Tryz.results22, go_sem, d0, d1]) rfl ⟨?_, .inr ⟨HOK.out, some ad, co, ts, rfl, ?_, HC.out, fun j h1 h2 => RCo.far (RCo.far (HN.out j h1 h2) D2 (by decide) _ _) (D2.set 0 _) (by decide) _ _⟩⟩
        · exact below_far (below_far hbD (by omega) _ _) (by omega) _ _
        · exact own_far (own_far hownD o2 _) o2 _
      | false =>
        have HNO : Hid (¬ VldP v (tv.map TV.pl)) := Lib.hid (fun h => by have := HVI.out.1 h; rw [hvm] at this; cases this)
        rw [hvm] at HV
        clear hvm HVI
        go_wp2_with (go_at_call 50; refine (HV.out _ (Below.refl _ _)).mono ?_; rintro e w' ⟨rfl, rfl⟩)
        refine bodyPost_ret (v := .tuple #[.agg #[.int .i64 0, .slice none 0 0], .bool false]) (by simp [results, Tryz.results22, go_sem, d0, d1]) rfl ⟨?_, .inl ⟨HNO.out, rfl⟩⟩
        exact below_far (below_far hbD (by omega) _ _) (by omega) _ _
end Go.Proofs.Tg
end
section
/- The reference's table of a set of monomials: plain. -/
namespace Go.Sp
open Go.Gr Go.Ev Go.Jt
/-- Row i and the rows ahead of it, row i up to column k: who is joined. -/
def tP (b s : List (List Int)) (i k x y : Nat) : Bool := decide (min x y < max x y ∧ (max x y < i ∨ (max x y = i ∧ min x y < k)) ∧ addL (b.getD x []) (b.getD y []) ∈ s)
theorem tP_zero (b s : List (List Int)) : tP b s 0 0 = fun _ _ => false := by
  funext x y
  unfold tP
  exact decide_eq_false (fun h => by rcases h.2.1 with h | h <;> omega)
theorem tP_row (b s : List (List Int)) (i : Nat) : tP b s i i = tP b s (i + 1) 0 := by
  funext x y
  unfold tP
  rw [decide_eq_decide]
  constructor
  · rintro ⟨h1, h2, h3⟩; exact ⟨h1, .inl (by omega), h3⟩
  · rintro ⟨h1, h2, h3⟩; exact ⟨h1, by omega, h3⟩
theorem tP_no {b s : List (List Int)} {i k : Nat} (hk : k < i) (h : addL (b.getD i []) (b.getD k []) ∉ s) : tP b s i (k + 1) = tP b s i k := by
  funext x y
  unfold tP
  rw [decide_eq_decide]
  constructor
  · rintro ⟨h1, h2, h3⟩
    refine ⟨h1, ?_, h3⟩
    rcases h2 with h2 | ⟨h2, h4⟩
    · exact .inl h2
    · by_cases hm : min x y = k
      · exfalso
        have : (x = i ∧ y = k) ∨ (x = k ∧ y = i) := by omega
        rcases this with ⟨rfl, rfl⟩ | ⟨rfl, rfl⟩
        · exact h h3
        · rw [addL_comm] at h3; exact h h3
      · exact .inr ⟨h2, by omega⟩
  · rintro ⟨h1, h2, h3⟩; exact ⟨h1, by omega, h3⟩
theorem tP_yes {b s : List (List Int)} {i k : Nat} (hk : k < i) (h : addL (b.getD i []) (b.getD k []) ∈ s) : tP b s i (k + 1) = setT (setT (tP b s i k) i k) k i := by
  funext x y
  unfold setT
  by_cases h1 : x = k ∧ y = i
  · rw [if_pos h1]
    obtain ⟨rfl, rfl⟩ := h1
    unfold tP
    exact decide_eq_true ⟨by omega, .inr ⟨by omega, by omega⟩, by rw [addL_comm]; exact h⟩
  · rw [if_neg h1]
    by_cases h2 : x = i ∧ y = k
    · rw [if_pos h2]
      obtain ⟨rfl, rfl⟩ := h2
      unfold tP
      exact decide_eq_true ⟨by omega, .inr ⟨by omega, by omega⟩, h⟩
    · rw [if_neg h2]
      unfold tP
      rw [decide_eq_decide]
      constructor
      · rintro ⟨h3, h4, h5⟩; exact ⟨h3, by omega, h5⟩
      · rintro ⟨h3, h4, h5⟩; exact ⟨h3, by omega, h5⟩
theorem tP_full {b s : List (List Int)} {x y : Nat} (hx : x < b.length) (hy : y < b.length) : tP b s b.length 0 x y = decide (x ≠ y ∧ addL (b.getD x []) (b.getD y []) ∈ s) := by
  unfold tP
  rw [decide_eq_decide]
  constructor
  · rintro ⟨h1, h2, h3⟩; exact ⟨by omega, h3⟩
  · rintro ⟨h1, h3⟩; exact ⟨by omega, .inl (by omega), h3⟩
theorem tP_read {b s : List (List Int)} {x y : Nat} (hx : x < b.length) (hy : y < b.length) : tP b s b.length 0 x y = readT (edTo b s b.length) x y := by
  rw [tP_full hx hy, Bool.eq_iff_iff, decide_eq_true_eq, readT_iff]
  constructor
  · rintro ⟨h1, h2⟩
    by_cases hlt : x < y
    · exact ⟨_, edTo_mem.2 ⟨x, y, rfl, hlt, hy, h2⟩, .inl ⟨rfl, rfl⟩⟩
    · exact ⟨_, edTo_mem.2 ⟨y, x, rfl, by omega, hx, by rw [addL_comm]; exact h2⟩, .inr ⟨rfl, rfl⟩⟩
  · rintro ⟨e, he, h⟩
    obtain ⟨i, j, rfl, h1, h2, h3⟩ := edTo_mem.1 he
    simp only [Int.toNat_natCast] at h
    rcases h with ⟨rfl, rfl⟩ | ⟨rfl, rfl⟩
    · exact ⟨by omega, h3⟩
    · exact ⟨by omega, by rw [addL_comm]; exact h3⟩
theorem tP_edges (b s : List (List Int)) : tableEdges (tP b s b.length 0) b.length b.length = edTo b s b.length := by
  unfold tableEdges edTo
  have : ∀ i ∈ List.range b.length, rowT (tP b s b.length 0) i b.length = edRow b s i := by
    intro i hi
    have hi := List.mem_range.1 hi
    unfold rowT edRow
    have hf : ((List.range b.length).filter fun k => decide (i < k) && tP b s b.length 0 i k) = (List.range b.length).filter fun j => decide (i < j) && decide (addL (b.getD i []) (b.getD j []) ∈ s) := by
      refine List.filter_congr (fun j hj => ?_)
      have hj := List.mem_range.1 hj
      by_cases hij : i < j
      · rw [tP_full hi hj, decide_eq_true hij]
        simp only [Bool.true_and]
        rw [decide_eq_decide]
        exact ⟨fun h => h.2, fun h => ⟨by omega, h⟩⟩
      · rw [decide_eq_false hij]; rfl
    rw [hf]
  rw [List.flatMap_def, List.flatMap_def, List.map_congr_left this]
end Go.Sp
end
section
/- The products within blocks, as the reference and the program add them: plain. -/
namespace Go.Sp
open Go.Gr Go.Ev Go.Jt
def Blks (b ls : List (List Int)) (v : List Int) : Prop := ∃ l ∈ ls, ∃ x ∈ l, ∃ y ∈ l, v = addL (b.getD x.toNat []) (b.getD y.toNat [])
theorem blks_nil {b : List (List Int)} {v : List Int} : ¬ Blks b [] v := fun ⟨_, h, _⟩ => by cases h
theorem blks_take_zero {b ls : List (List Int)} {v : List Int} : ¬ Blks b (ls.take 0) v := fun ⟨_, h, _⟩ => by simp at h
theorem blks_succ {b ls : List (List Int)} {v : List Int} {i : Nat} (h : i < ls.length) : Blks b (ls.take (i + 1)) v ↔ Blks b (ls.take i) v ∨ InB b ls[i] ls[i].length v := by
  rw [inB_full, List.take_succ_eq_append_getElem h]
  unfold Blks
  constructor
  · rintro ⟨l, hl, r⟩
    rcases List.mem_append.1 hl with hl | hl
    · exact .inl ⟨l, hl, r⟩
    · rw [List.mem_singleton.1 hl] at r; exact .inr r
  · rintro (⟨l, hl, r⟩ | r)
    · exact ⟨l, List.mem_append_left _ hl, r⟩
    · exact ⟨ls[i], List.mem_append_right _ (by simp), r⟩
theorem setAt_blks {b S : List (List Int)} {t : Nat} {v : List Int} : v ∈ setAt b S (t + 1) ↔ v ∈ setAt b S t ∨ Blks b (comps b (setAt b S t)) v := setAt_mem
/-- The pairs of a block that the reference has met: rows ahead of a, row a up to c. -/
def RB (b : List (List Int)) (l : List Int) (a c : Nat) (v : List Int) : Prop := ∃ x y : Nat, y < x ∧ (x < a ∨ (x = a ∧ y < c)) ∧ x < l.length ∧ v = addL (b.getD (l.getD x 0).toNat []) (b.getD (l.getD y 0).toNat [])
theorem rb_zero {b : List (List Int)} {l v : List Int} : ¬ RB b l 0 0 v := fun ⟨x, y, h1, h2, _⟩ => by omega
theorem rb_row {b : List (List Int)} {l v : List Int} {a : Nat} : RB b l a a v ↔ RB b l (a + 1) 0 v := by
  constructor
  · rintro ⟨x, y, h1, h2, h3⟩; exact ⟨x, y, h1, .inl (by omega), h3⟩
  · rintro ⟨x, y, h1, h2, h3⟩; exact ⟨x, y, h1, by omega, h3⟩
theorem rb_succ {b : List (List Int)} {l v : List Int} {a c : Nat} (hc : c < a) (ha : a < l.length) : RB b l a (c + 1) v ↔ RB b l a c v ∨ v = addL (b.getD (l.getD a 0).toNat []) (b.getD (l.getD c 0).toNat []) := by
  constructor
  · rintro ⟨x, y, h1, h2, h3, h4⟩
    by_cases h : x = a ∧ y = c
    · obtain ⟨rfl, rfl⟩ := h; exact .inr h4
    · exact .inl ⟨x, y, h1, by omega, h3, h4⟩
  · rintro (⟨x, y, h1, h2, h3, h4⟩ | h4)
    · exact ⟨x, y, h1, by omega, h3, h4⟩
    · exact ⟨a, c, hc, .inr ⟨rfl, by omega⟩, ha, h4⟩
theorem rb_full {b : List (List Int)} {l v : List Int} : RB b l l.length 0 v ↔ ∃ x y : Nat, y < x ∧ x < l.length ∧ v = addL (b.getD (l.getD x 0).toNat []) (b.getD (l.getD y 0).toNat []) := by
  constructor
  · rintro ⟨x, y, h1, h2, h3, h4⟩; exact ⟨x, y, h1, h3, h4⟩
  · rintro ⟨x, y, h1, h3, h4⟩; exact ⟨x, y, h1, .inl h3, h3, h4⟩
def RBlks (b ls : List (List Int)) (v : List Int) : Prop := ∃ l ∈ ls, RB b l l.length 0 v
theorem rblks_zero {b ls : List (List Int)} {v : List Int} : ¬ RBlks b (ls.take 0) v := fun ⟨_, h, _⟩ => by simp at h
theorem rblks_succ {b ls : List (List Int)} {v : List Int} {i : Nat} (h : i < ls.length) : RBlks b (ls.take (i + 1)) v ↔ RBlks b (ls.take i) v ∨ RB b ls[i] ls[i].length 0 v := by
  rw [List.take_succ_eq_append_getElem h]
  unfold RBlks
  constructor
  · rintro ⟨l, hl, r⟩
    rcases List.mem_append.1 hl with hl | hl
    · exact .inl ⟨l, hl, r⟩
    · rw [List.mem_singleton.1 hl] at r; exact .inr r
  · rintro (⟨l, hl, r⟩ | r)
    · exact ⟨l, List.mem_append_left _ hl, r⟩
    · exact ⟨ls[i], List.mem_append_right _ (by simp), r⟩
theorem comps_lt {b S : List (List Int)} (hv : valid b.length (edTo b S b.length)) : ∀ l ∈ comps b S, ∀ x ∈ l, ∃ v : Nat, x = (v : Int) ∧ v < b.length := by
  intro l hl x hx
  obtain ⟨r, hr, h⟩ := (made_r (comps_made hv)).each l hl
  obtain ⟨v, rfl, hc⟩ := (h x).1 hx
  exact ⟨v, rfl, conn_lt hv hr hc⟩
theorem rblks_full {b ls S : List (List Int)} (hl : ∀ l ∈ ls, ∀ x ∈ l, ∃ v : Nat, x = (v : Int) ∧ v < b.length) (hsq : ∀ m ∈ b, addL m m ∈ S) {v : List Int} : (v ∈ S ∨ RBlks b ls v) ↔ (v ∈ S ∨ Blks b ls v) := by
  have hg : ∀ (l : List Int) (i : Nat), i < l.length → l.getD i 0 ∈ l := fun l i h => by rw [List.getD_eq_getElem?_getD, List.getElem?_eq_getElem h, Option.getD_some]; exact List.getElem_mem h
  constructor
  · rintro (h | ⟨l, h1, h2⟩)
    · exact .inl h
    · obtain ⟨x, y, hxy, hx, e⟩ := rb_full.1 h2
      exact .inr ⟨l, h1, _, hg l x hx, _, hg l y (by omega), e⟩
  · rintro (h | ⟨l, h1, x, hx, y, hy, rfl⟩)
    · exact .inl h
    · by_cases hxy : x = y
      · subst hxy
        left
        obtain ⟨v, rfl, hv⟩ := hl l h1 x hx
        rw [Int.toNat_natCast, List.getD_eq_getElem?_getD, List.getElem?_eq_getElem hv, Option.getD_some]
        exact hsq _ (List.getElem_mem _)
      · right
        refine ⟨l, h1, rb_full.2 ?_⟩
        obtain ⟨i, hi, rfl⟩ := List.getElem_of_mem hx
        obtain ⟨j, hj, rfl⟩ := List.getElem_of_mem hy
        have e1 : l.getD i 0 = l[i] := by simp [hi]
        have e2 : l.getD j 0 = l[j] := by simp [hj]
        rcases Nat.lt_trichotomy i j with h | h | h
        · exact ⟨j, i, h, hj, by rw [e1, e2, addL_comm]⟩
        · subst h; exact absurd rfl hxy
        · exact ⟨i, j, h, hi, by rw [e1, e2]⟩
theorem s0_sq {es b : List (List Int)} : ∀ m ∈ b, addL m m ∈ S0 es b := fun m hm => List.mem_append_right _ (List.mem_map.2 ⟨m, hm, rfl⟩)
/-- Only what is known decides the blocks. -/
theorem edTo_set {b S S' : List (List Int)} (h : ∀ v, v ∈ S ↔ v ∈ S') : edTo b S b.length = edTo b S' b.length := edTo_congr (fun _ _ _ _ => h _)
theorem comps_set {b S S' : List (List Int)} (h : ∀ v, v ∈ S ↔ v ∈ S') : comps b S = comps b S' := by
  unfold comps
  rw [edTo_set h]
end Go.Sp
end
section
/- Blocks told by a table of classes; the example of the sanity check: plain. -/
namespace Go.Sp
open Go.Gr Go.Ev Go.Jt
section
variable {n : Nat} {es : List (Int × Int)} {cls : Nat → Nat}
theorem cls_conn (h1 : ∀ e ∈ es, cls e.1.toNat = cls e.2.toNat) {a b : Nat} (hc : Conn (Rel es) a b) : cls a = cls b :=
  hc (fun x => cls a = cls x) rfl (fun x y hx hxy => by
    obtain ⟨e, he, h⟩ := (readT_iff _ _ _).1 hxy
    have := h1 e he
    rcases h with ⟨rfl, rfl⟩ | ⟨rfl, rfl⟩
    · exact hx.trans this
    · exact hx.trans this.symm)
theorem conn_cls (hv : valid n es) (h2 : ∀ v, v < n → cls v = v ∨ ((cls v : Int), (v : Int)) ∈ es) {a b : Nat} (ha : a < n) (hb : b < n) (h : cls a = cls b) : Conn (Rel es) a b := by
  have key : ∀ v, v < n → Conn (Rel es) (cls v) v := fun v hvn => by
    rcases h2 v hvn with e | e
    · rw [e]; exact Conn.refl v
    · exact Conn.step ((readT_iff _ _ _).2 ⟨_, e, .inl ⟨by simp, by simp⟩⟩)
  have h3 := key b hb
  rw [← h] at h3
  exact (Conn.symm (rel_sym hv) (key a ha)).trans h3
def clsTo (n : Nat) (cls : Nat → Nat) (k : Nat) : List (List Int) := ((List.range k).filter fun j => decide (cls j = j)).map fun j => ((List.range n).filter fun v => decide (cls v = j)).map fun v : Nat => (v : Int)
theorem made_cls (hv : valid n es) (h1 : ∀ e ∈ es, cls e.1.toNat = cls e.2.toNat) (h2 : ∀ v, v < n → cls v = v ∨ ((cls v : Int), (v : Int)) ∈ es) : ∀ k, k ≤ n → MadeL es k (clsTo n cls k)
  | 0, _ => .zero
  | k + 1, hk => by
    have ih := made_cls hv h1 h2 k (by omega)
    by_cases hc : cls k = k
    · have e : clsTo n cls (k + 1) = clsTo n cls k ++ [((List.range n).filter fun v => decide (cls v = k)).map fun v : Nat => (v : Int)] := by
        unfold clsTo
        rw [List.range_succ, List.filter_append, List.map_append, List.filter_cons_of_pos (by simpa using hc)]
        rfl
      rw [e]
      refine .add ih ?_ ?_ ?_
      · intro m hm hkm
        unfold clsTo at hm
        obtain ⟨j, hj, rfl⟩ := List.mem_map.1 hm
        obtain ⟨v, hv1, hv2⟩ := List.mem_map.1 hkm
        have hv3 := (List.mem_filter.1 hv1).2
        have hj1 := List.mem_range.1 (List.mem_filter.1 hj).1
        obtain rfl : v = k := by omega
        have hv4 : cls v = j := by simpa using hv3
        omega
      · rw [List.pairwise_map]
        exact ((List.pairwise_lt_range (n := n)).filter _).imp (fun hab => by omega)
      · intro x
        rw [List.mem_map]
        constructor
        · rintro ⟨v, hv1, rfl⟩
          obtain ⟨hv2, hv3⟩ := List.mem_filter.1 hv1
          have hv3 : cls v = k := by simpa using hv3
          exact ⟨v, rfl, conn_cls hv h2 (by omega) (List.mem_range.1 hv2) (by rw [hc, hv3])⟩
        · rintro ⟨v, rfl, hc2⟩
          refine ⟨v, List.mem_filter.2 ⟨List.mem_range.2 (conn_lt hv (by omega) hc2), ?_⟩, rfl⟩
          have := cls_conn h1 hc2
          simp; omega
    · have e : clsTo n cls (k + 1) = clsTo n cls k := by
        unfold clsTo
        rw [List.range_succ, List.filter_append, List.filter_cons_of_neg (by simpa using hc)]
        simp
      rw [e]
      refine .skip ih ?_
      rcases h2 k (by omega) with h | h
      · exact absurd h hc
      · have hlt : cls k < k := by
          obtain ⟨i, hi, he⟩ := List.getElem_of_mem h
          have := (hv.2.2 i hi (by omega)).1
          rw [he] at this
          have := this.2.1
          simp only at this
          omega
        have hcc : cls (cls k) = cls k := by have := h1 _ h; simpa using this
        refine ⟨((List.range n).filter fun v => decide (cls v = cls k)).map fun v : Nat => (v : Int), ?_, ?_⟩
        · unfold clsTo
          exact List.mem_map.2 ⟨cls k, List.mem_filter.2 ⟨List.mem_range.2 hlt, by simpa using hcc⟩, rfl⟩
        · exact List.mem_map.2 ⟨k, List.mem_filter.2 ⟨List.mem_range.2 (by omega), by simp⟩, rfl⟩
end
/-- The components, told by a table. -/
theorem comps_cls {b S : List (List Int)} (cls : Nat → Nat) (hb : b.length ≤ 64) (h1 : ∀ e ∈ edTo b S b.length, cls e.1.toNat = cls e.2.toNat) (h2 : ∀ v, v < b.length → cls v = v ∨ ((cls v : Int), (v : Int)) ∈ edTo b S b.length) :
    comps b S = clsTo b.length cls b.length := by
  have hv := ed_valid b S hb
  exact MadeR.same (fun _ _ _ => Iff.rfl) (made_r (comps_made hv)) (made_r (made_cls hv h1 h2 _ (Nat.le_refl _)))
def awB : List (List Int) := [[0, 0], [0, 1], [1, 0], [0, 2], [1, 1], [2, 0]]
def awE : List (List Int) := [[4, 0], [0, 4], [0, 0]]
def awC (v : Nat) : Nat := if v = 3 ∨ v = 5 then 0 else v
theorem aw_ed0 : edTo awB (S0 awE awB) awB.length = [(0, 3), (0, 5), (3, 5)] := by decide +kernel
theorem aw_c0 : comps awB (S0 awE awB) = [[0, 3, 5], [1], [2], [4]] := by
  rw [comps_cls awC (by decide) (by rw [aw_ed0]; decide) (by rw [aw_ed0]; decide)]
  decide +kernel
theorem aw_ed1 : edTo awB (setAt awB (S0 awE awB) 1) awB.length = [(0, 3), (0, 5), (3, 5)] := by
  show edTo awB (S0 awE awB ++ blockAll awB (comps awB (S0 awE awB))) awB.length = _
  rw [aw_c0]
  decide +kernel
theorem aw_c1 : comps awB (setAt awB (S0 awE awB) 1) = [[0, 3, 5], [1], [2], [4]] := by
  rw [comps_cls awC (by decide) (by rw [aw_ed1]; decide) (by rw [aw_ed1]; decide)]
  decide +kernel
end Go.Sp
end
section
/- The monomials of a valid polynomial are valid: plain. -/
namespace Go.Sp
open Go.Gr Go.Ev Go.Mo
theorem ord_pos {a b : List Int} (h : 0 < Mo.ord a b) : b.sum ≤ a.sum := by
  unfold Mo.ord at h
  split at h
  · omega
  · split at h
    · omega
    · omega
theorem vldP_all {v : Int} {ts : List Term} (h : VldP v ts) : ∀ i (hi : i < ts.length), vldM ts[i].2 = true ∧ (ts[i].2.length : Int) = v := by
  obtain ⟨_, ⟨h0, h6, hw⟩, hv⟩ := h
  have hsum : ∀ i (hi : i < ts.length), ts[i].2.sum ≤ 24 := by
    intro i
    induction i with
    | zero => intro hi; exact (vldM_iff.1 (hv hi)).2.2
    | succ i ih =>
      intro hi
      have h1 := (hw (i + 1) hi hi).2 (by omega)
      have h2 := ord_pos h1
      have h3 := ih (by omega)
      rw [show i + 1 - 1 = i by omega, List.getD_eq_getElem?_getD, List.getElem?_eq_getElem (by omega), Option.getD_some] at h2
      omega
  intro i hi
  have h1 := termOk_iff.1 (hw i hi hi).1
  refine ⟨vldM_iff.2 ⟨by have := h1.2.1; omega, fun e he => (low20_iff.1 h1.2.2 e he).1, hsum i hi⟩, h1.2.1⟩
theorem vldP_dom {n : Nat} {ts : List Term} (h : VldP (n : Int) ts) : ∀ t ∈ ts, domK n 24 t.2 := by
  intro t ht
  obtain ⟨i, hi, rfl⟩ := List.getElem_of_mem ht
  have h1 := vldP_all h i hi
  have h2 := vld_dom h1.1
  rwa [show ts[i].2.length = n by have := h1.2; omega] at h2
end Go.Sp
end
section
/- The state of the rounds, made: the known monomials in a map. -/
namespace Go.Proofs.Tg
open Go.RowKit Go.Gr Go.Sp Go.Ev Go.Mo
set_option maxHeartbeats 4000000
set_option maxRecDepth 100000
/-- The state of the rounds: block g leads to the basis and to the map in block mb, which holds the monomials of S. -/
structure ItAt (w : World) (g mb : Nat) (B : Option Addr) (cb : Nat) (b : List (List Int)) (n cnt : Nat) (S : List (List Int)) : Prop where
  blk : Blk w g 121 #[.slice B b.length cb, .map (some mb)]
  lists : Lists w B b
  set : SetM w mb cnt n S
def exsOf (tv : List TV) : List (List Int) := tv.map TV.exps
def RetStart (B : Option Addr) (cb : Nat) (b : List (List Int)) (n : Nat) (tv : List TV) (w : World) (e : Ending) (w' : World) : Prop :=
  ∃ g mb, e = .returned (.pointer (some ⟨g, 0, none⟩)) ∧ w.heap.size ≤ g ∧ w.heap.size ≤ mb ∧ ItAt w' g mb B cb b n (tv.length + b.length) (S0 (exsOf tv) b) ∧ Below w.heap.size w w'
theorem below_turn {w w1 w2 : World} {B mb : Nat} (h : Below B w w1) (hm : MapB w1 mb) (hg : w1.grownBy w2 (some mb)) (hB : B ≤ mb) : Below B w w2 :=
  h.grown hg (by have := hm.lt; omega) (fun q hq => by injection hq with hq; omega)
theorem start_any (V : Int) (T : Option Addr) (cT : Nat) (tv : List TV) (B : Option Addr) (cb : Nat) (b : List (List Int)) (n : Nat) (w : World) (hP : TermsAt w T tv) (hB : Lists w B b) (hn : n ≤ 6) (hl : tv.length ≤ 4096) (hbl : b.length ≤ 64)
    (hd : ∀ t ∈ tv, domK n 24 t.exps) (hdb : ∀ m ∈ b, domK n 24 m) :
    Calls Tryz.prog 38 #[.agg #[.int .i64 V, .slice T tv.length cT], .slice B b.length cb] w (RetStart B cb b n tv w) := by
  have HD := Lib.hid hd
  have HDB := Lib.hid hdb
  obtain ⟨W, hW⟩ : ∃ W, ((w.alloc (.cells #[.int .i64 V, .slice T tv.length cT] 24)).alloc (.map #[] 0)).alloc (.cells #[.slice B b.length cb, .map (some (w.heap.size + 1))] 121) = W := ⟨_, rfl⟩
  have hbW : Below w.heap.size w W := by rw [← hW]; exact (((Below.refl _ _).alloc (Nat.le_refl _) _).alloc (by simp) _).alloc (by simp; omega) _
  have B0 : Blk W w.heap.size 24 #[.int .i64 V, .slice T tv.length cT] := by rw [← hW]; exact ((Blk.new _ _ _).alloc _).alloc _
  have B1 : Blk W (w.heap.size + 1 + 1) 121 #[.slice B b.length cb, .map (some (w.heap.size + 1))] := by
    rw [← hW]; have := Blk.new ((w.alloc (.cells #[.int .i64 V, .slice T tv.length cT] 24)).alloc (.map #[] 0)) 121 #[.slice B b.length cb, .map (some (w.heap.size + 1))]
    simpa using this
  have M1 : SetM W (w.heap.size + 1) 0 n [] := by
    rw [← hW]
    have := SetM.made (w.alloc (.cells #[.int .i64 V, .slice T tv.length cT] 24)) n
    have h2 := this.below ((Below.refl _ _).alloc (Nat.le_refl _) (.cells #[.slice B b.length cb, .map (some (w.heap.size + 1))] 121)) (by simp)
    simpa using h2
  have hPW := hP.keep hbW
  have hBW := hB.keep hbW
  have HWW := Lib.hid hW
  have hmm := @run_makeMap Tryz.prog
  clear hd hdb hW hP hB
  obtain ⟨c0, c1, _, _⟩ := B0.two
  go_enter Tryz.func38, Tryz.ntmps38
  go_upto_region 2 with (fail)
  rw [HWW.out]
  clear HWW hmm
  go_wp2
  clear c0 c1 B0
  go_loopw [17] (fun i wr => ∃ k : Nat, i = .int .i64 k ∧ k ≤ tv.length ∧ Blk wr (w.heap.size + 1 + 1) 121 #[.slice B b.length cb, .map (some (w.heap.size + 1))] ∧ SetM wr (w.heap.size + 1) k n (exsOf (tv.take k)) ∧ Below w.heap.size w wr ∧ TermsAt wr T tv ∧ Lists wr B b) (fun i _ => tv.length - (intOf i).toNat)
  case atStart => exact ⟨0, rfl, Nat.zero_le _, B1, M1, hbW, hPW, hBW⟩
  case round =>
    clear B1 M1 hbW hPW hBW
    obtain ⟨wo, rfl⟩ : ∃ wo : World, wo = wr := ⟨_, rfl⟩
    obtain ⟨k, rfl, hk, D1, hS, hbr, hPr, hLr⟩ := hrel
    by_cases hlt : k < tv.length
    · obtain ⟨ad, rfl, e0, e1, hI⟩ := hPr.at hlt
      have hdm := HD.out tv[k] (List.getElem_mem _)
      have HTM : Hid (∀ v, v ∈ tv[k].exps :: exsOf (tv.take k) ↔ v ∈ exsOf (tv.take (k + 1))) := Lib.hid (fun v => by
        unfold exsOf
        rw [List.take_succ_eq_append_getElem hlt, List.map_append, List.mem_append, List.map_singleton, List.mem_singleton, List.mem_cons]
        exact Or.comm)
      have HPr := Lib.hid hPr
      generalize tv[k] = t at *
      obtain ⟨s, A, c, el⟩ := t
      simp only at e0 e1 hI hdm HTM
      clear hPr
      go_upto_region 5 with (fail)
      have q0 := cell_alloc (D1.cell 1) (.cells #[.string s, .slice A el.length c] 69)
      have q1 := (Blk.new wo 69 #[.string s, .slice A el.length c]).cell 1
      have hal : Below wo.heap.size wo (wo.alloc (.cells #[.string s, .slice A el.length c] 69)) := (Below.refl _ _).alloc (Nat.le_refl _) _
      have hX1 := D1.alloc (.cells #[.string s, .slice A el.length c] 69)
      have hXS := hS.below hal hS.mapB.lt
      have hXb := hbr.alloc hbr.size (.cells #[.string s, .slice A el.length c] 69)
      have hXP := HPr.out.keep hal
      have hXL := hLr.keep hal
      have hXI := hI.keep hal
      have hgl : w.heap.size + 1 < wo.heap.size := hS.mapB.lt
      have hGX : wo.heap.size < (wo.alloc (.cells #[.string s, .slice A el.length c] 69)).heap.size := by simp
      generalize wo.alloc (.cells #[.string s, .slice A el.length c] 69) = X at *
      clear D1 hS hbr HPr hLr hI e0 e1
      have q0 : X.cell? ⟨w.heap.size + 1 + 1, 1, none⟩ = some (.map (some (w.heap.size + 1))) := q0
      have q1 : X.cell? ⟨wo.heap.size, 1, none⟩ = some (.slice A el.length c) := q1
      have hbe : Below X.heap.size X X.drew := (Below.refl _ _).drew
      have hmx : w.heap.size + 1 < X.heap.size := by omega
      have HKO : Hid (∀ W, Below X.heap.size X W → Calls Tryz.prog 56 #[.slice A el.length c] W fun e w' => e = .returned (keyV el) ∧ Below X.heap.size X w') := Lib.hid (fun W h => (keyOf_any A c el W (hXI.keep h) (by rw [hdm.1]; exact hn)).mono fun e w' h2 => ⟨h2.1, below_all h h2.2⟩)
      have hdm' : domK n 48 el := hdm.mono (by omega)
      go_region_held3 (fun w' => w'.cell? ⟨w.heap.size + 1 + 1, 1, none⟩ = some (.map (some (w.heap.size + 1))) ∧ w'.cell? ⟨wo.heap.size, 1, none⟩ = some (.slice A el.length c))
        (first | exact ⟨r0, r1⟩ | exact ⟨keep_cell hbe q0, keep_cell hbe q1⟩)
        (first
          | (go_at_call 56; with_reducible refine Calls.mono (HKO.out _ (by assumption)) ?_; rintro e w2 ⟨rfl, hb2⟩
             have hbe := hb2
             have hm2 := (hXS.below hb2 hmx).mapB
             obtain ⟨w3, hrun, hS3, hg3⟩ := (hXS.below hb2 hmx).put hn (by omega) hdm'
             have r0 := cell_turn hm2 hg3 (keep_cell hb2 q0)
             have r1 := cell_turn hm2 hg3 (keep_cell hb2 q1)))
      all_goals
        go_wp2_with (fail)
        go_roundw
        case rel =>
          exact ⟨k + 1, by go_num, by omega, (hX1.keep hb2 hX1.lt).turn hm2 hg3, hS3.congr HTM.out, below_turn (below_all hXb hb2) hm2 hg3 (by omega), (hXP.keep hb2).turn hm2 hg3, (hXL.keep hb2).turn hm2 hg3⟩
        case measure => simp [intOf]; omega
    · obtain rfl : k = tv.length := by omega
      rw [List.take_length] at hS
      have dk : decide ((tv.length : Int) < (tv.length : Int)) = false := by simp
      have hS : SetM wo (w.heap.size + 1) (tv.length + 0) n (S0 (exsOf tv) (b.take 0)) := hS.congr (fun v => by unfold S0; simp)
      clear hPr
      go_wp2
      go_loopw [31] (fun i wr => ∃ j : Nat, i = .int .i64 j ∧ j ≤ b.length ∧ Blk wr (w.heap.size + 1 + 1) 121 #[.slice B b.length cb, .map (some (w.heap.size + 1))] ∧ SetM wr (w.heap.size + 1) (tv.length + j) n (S0 (exsOf tv) (b.take j)) ∧ Below w.heap.size w wr ∧ Lists wr B b) (fun i _ => b.length - (intOf i).toNat)
      case atStart => exact ⟨0, rfl, Nat.zero_le _, D1, hS, hbr, hLr⟩
      case round =>
        clear D1 hS hbr hLr
        obtain ⟨wp, rfl⟩ : ∃ wp : World, wp = wr := ⟨_, rfl⟩
        obtain ⟨j, rfl, hj, D1, hS, hbr, hLr⟩ := hrel
        by_cases hlt : j < b.length
        · obtain ⟨ad, A, c, rfl, hc, hI⟩ := hLr.at hlt
          have hdm := HDB.out b[j] (List.getElem_mem _)
          have HTM : Hid (∀ v, v ∈ addL b[j] b[j] :: S0 (exsOf tv) (b.take j) ↔ v ∈ S0 (exsOf tv) (b.take (j + 1))) := Lib.hid (fun v => by
            unfold S0
            rw [List.take_succ_eq_append_getElem hlt, List.map_append, List.map_singleton]
            simp only [List.mem_cons, List.mem_append, List.not_mem_nil, or_false]
            constructor
            · rintro (h | h | h)
              · exact .inr (.inr h)
              · exact .inl h
              · exact .inr (.inl h)
            · rintro (h | h | h)
              · exact .inr (.inl h)
              · exact .inr (.inr h)
              · exact .inl h)
          have HLr := Lib.hid hLr
          generalize b[j] = m at *
          clear hLr
          have q0 : wp.cell? ⟨w.heap.size + 1 + 1, 1, none⟩ = some (.map (some (w.heap.size + 1))) := D1.cell 1
          have hmx : w.heap.size + 1 < wp.heap.size := hS.mapB.lt
          have hbe : Below wp.heap.size wp wp.drew := (Below.refl _ _).drew
          have HKO : Hid (∀ W, Below wp.heap.size wp W → Calls Tryz.prog 68 #[.slice A m.length c, .slice A m.length c] W fun e w' => e = .returned (keyV (addL m m)) ∧ Below wp.heap.size wp w') := Lib.hid (fun W h => (product_any A A c c n m m W (hI.keep h) (hI.keep h) hdm hdm hn).mono fun e w' h2 => ⟨h2.1, below_all h h2.2⟩)
          have hdm' : domK n 48 (addL m m) := addL_dom hdm hdm
          generalize addL m m = mm at *
          go_upto_region 10 with (fail)
          go_region_held3 (fun w' => w'.cell? ⟨w.heap.size + 1 + 1, 1, none⟩ = some (.map (some (w.heap.size + 1))))
            (first | exact r0 | exact keep_cell hbe q0)
            (first
              | (go_at_call 68; with_reducible refine Calls.mono (HKO.out _ (by assumption)) ?_; rintro e w2 ⟨rfl, hb2⟩
                 have hbe := hb2
                 have hm2 := (hS.below hb2 hmx).mapB
                 obtain ⟨w3, hrun, hS3, hg3⟩ := (hS.below hb2 hmx).put hn (by omega) hdm'
                 have r0 := cell_turn hm2 hg3 (keep_cell hb2 q0)))
          all_goals
            go_wp2_with (fail)
            go_roundw
            case rel =>
              exact ⟨j + 1, by go_num, by omega, (D1.keep hb2 D1.lt).turn hm2 hg3, hS3.congr HTM.out, below_turn (below_all hbr hb2) hm2 hg3 (by omega), ((HLr.out).keep hb2).turn hm2 hg3⟩
            case measure => simp [intOf]; omega
        · obtain rfl : j = b.length := by omega
          rw [List.take_length] at hS
          have dj : decide ((b.length : Int) < (b.length : Int)) = false := by simp
          go_wp2
          go_ret
          exact ⟨w.heap.size + 1 + 1, w.heap.size + 1, rfl, by omega, by omega, ⟨D1, hLr, hS⟩, hbr⟩
end Go.Proofs.Tg
end
section
/- The graph made from the edges of a set of monomials has just these edges: plain. -/
namespace Go.Sp
open Go.Gr Go.Ev Go.Jt
theorem tableEdges_congr {t t' : Nat → Nat → Bool} {n : Nat} (h : ∀ i k, i < n → k < n → i < k → t i k = t' i k) : tableEdges t n n = tableEdges t' n n := by
  unfold tableEdges
  have : ∀ i ∈ List.range n, rowT t i n = rowT t' i n := by
    intro i hi
    unfold rowT
    have hf : ((List.range n).filter fun k => decide (i < k) && t i k) = (List.range n).filter fun k => decide (i < k) && t' i k := by
      refine List.filter_congr (fun k hk => ?_)
      by_cases hik : i < k
      · rw [h i k (List.mem_range.1 hi) (List.mem_range.1 hk) hik]
      · rw [decide_eq_false hik]; rfl
    rw [hf]
  rw [List.flatMap_def, List.flatMap_def, List.map_congr_left this]
theorem ed_range {b S : List (List Int)} (h : b.length ≤ 64) : rangeOk (b.length : Int) (edTo b S b.length) ∧ ∀ e ∈ edTo b S b.length, e.1 ≠ e.2 := by
  refine ⟨⟨⟨by omega, by omega⟩, fun e he => ?_⟩, fun e he => ?_⟩
  · obtain ⟨i, j, rfl, h1, h2, _⟩ := edTo_mem.1 he
    unfold inR
    simp only
    omega
  · obtain ⟨i, j, rfl, h1, h2, _⟩ := edTo_mem.1 he
    simp only
    omega
theorem ed_make {b S : List (List Int)} (h : b.length ≤ 64) : writeEdges (readAll (edTo b S b.length)) b.length = edTo b S b.length := by
  have h1 := ed_range (S := S) h
  have h2 := make_edges h1.1 h1.2
  rw [Int.toNat_natCast] at h2
  rw [h2, ← tableEdges_congr (t := tP b S b.length 0) (fun i k hi hk _ => tP_read hi hk), tP_edges]
theorem edPart_len (b S : List (List Int)) (i m : Nat) : (edPart b S i m).length ≤ m := by
  unfold edPart
  rw [List.length_map]
  have := List.length_filter_le (fun j => decide (i < j) && decide (addL (b.getD i []) (b.getD j []) ∈ S)) (List.range m)
  rwa [List.length_range] at this
end Go.Sp
end
