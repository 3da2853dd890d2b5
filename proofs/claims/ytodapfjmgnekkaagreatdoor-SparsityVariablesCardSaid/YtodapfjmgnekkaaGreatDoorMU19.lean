/- Parts of the proof: XK6, XR3, WK4, WK5, GWY, WK6. -/
import Derived.Deep.RegionHeld3
import Derived.Test.YtodapfjmgnekkaaGreatDoorMU3
import Derived.Test.YtodapfjmgnekkaaGreatDoorMU11
import Derived.Test.YtodapfjmgnekkaaGreatDoorMU14
import Derived.Test.YtodapfjmgnekkaaGreatDoorMU15
import Derived.Test.YtodapfjmgnekkaaGreatDoorMU16
import Derived.Test.YtodapfjmgnekkaaGreatDoorMU18
section
/- The reference's Signs, over what its ReadAll gives. -/
namespace Go.Proofs.Tg
open Go.RowKit Go.Gr Go.Ev Go.Mo
set_option maxHeartbeats 4000000
set_option maxRecDepth 100000
def PVal.key (p : PVal) : Int × List (List Int) := (p.vars, p.tv.map TV.exps)
def RP.key (p : RP) : Int × List (List Int) := (p.vars, p.ts.map RT.exps)
/-- What the reference's reading of all polynomials returns. -/
def RetAll (ps : List PVal) (w : World) (e : Ending) (w' : World) : Prop :=
  Below w.heap.size w w' ∧ ((¬ (∀ p ∈ ps, p.ok) ∧ e = .returned (.tuple #[.slice none 0 0, .bool false])) ∨
    ((∀ p ∈ ps, p.ok) ∧ ∃ L c rp, e = .returned (.tuple #[.slice L rp.length c, .bool true]) ∧ RPolysAt w' L rp ∧ rp.map RP.key = ps.map PVal.key))
/-- What the reference's search returns. -/
def RetRSigns (ps : List PVal) (w : World) (e : Ending) (w' : World) : Prop :=
  Below w.heap.size w w' ∧
  ((¬ (∀ p ∈ ps, p.ok) ∧ e = .returned (.tuple #[.slice none 0 0, .int .i64 1])) ∨
   ((∀ p ∈ ps, p.ok) ∧ (ps = [] ∨ ∃ p ∈ ps, p.vars ≠ (ps.getD 0 ⟨0, none, 0, []⟩).vars) ∧ e = .returned (.tuple #[.slice none 0 0, .int .i64 4])) ∨
   ((∀ p ∈ ps, p.ok) ∧ ∃ n : Nat, n ≤ 6 ∧ ps ≠ [] ∧ (∀ p ∈ ps, p.vars = n) ∧ ∃ A c, e = .returned (.tuple #[.slice A ((kern (keepB (rowsOf ps) n) n (2 ^ n - 1)).map (unp · n)).length c, .int .i64 0]) ∧ Lists w' A ((kern (keepB (rowsOf ps) n) n (2 ^ n - 1)).map (unp · n))))
theorem rows_key {rp : List RP} {ps : List PVal} (h : rp.map RP.key = ps.map PVal.key) : (rterms rp).map RT.exps = rowsOf ps := by
  have e1 : (rterms rp).map RT.exps = (rp.map RP.key).flatMap Prod.snd := by
    unfold rterms
    rw [List.map_flatMap, List.flatMap_map]; rfl
  have e2 : rowsOf ps = (ps.map PVal.key).flatMap Prod.snd := by
    unfold rowsOf
    rw [List.flatMap_map]; rfl
  rw [e1, e2, h]
theorem vars_key {rp : List RP} {ps : List PVal} (h : rp.map RP.key = ps.map PVal.key) {i : Nat} (hi : i < rp.length) (hj : i < ps.length) : rp[i].vars = ps[i].vars := by
  have h1 : (rp.map RP.key)[i]? = (ps.map PVal.key)[i]? := by rw [h]
  rw [List.getElem?_map, List.getElem?_map, List.getElem?_eq_getElem hi, List.getElem?_eq_getElem hj] at h1
  simp only [Option.map_some] at h1
  injection h1 with h1
  exact congrArg Prod.fst h1
theorem len_key {rp : List RP} {ps : List PVal} (h : rp.map RP.key = ps.map PVal.key) : rp.length = ps.length := by
  have := congrArg List.length h
  simpa using this
end Go.Proofs.Tg
end
section
/- The reference's reading of one polynomial and of all. -/
namespace Go.Proofs.Tg
open Go.RowKit Go.Gr Go.Mo Go.Qn
set_option maxHeartbeats 4000000
set_option maxRecDepth 100000
def RetReadP (v : Int) (tv : List TV) (w : World) (e : Ending) (w' : World) : Prop :=
  Below w.heap.size w w' ∧ ((¬ VldP v (tv.map TV.pl) ∧ e = .returned (.tuple #[.agg #[.int .i64 0, .slice none 0 0], .bool false])) ∨
    (VldP v (tv.map TV.pl) ∧ ∃ (O : Option Addr) (co : Nat) (ts : List RT), e = .returned (.tuple #[.agg #[.int .i64 v, .slice O ts.length co], .bool true]) ∧ w'.ownsRow w.heap.size 58 5 (.slice O ts.length co) ts.length (ts.flatMap RT.cells) ∧ ts.map RT.core = tv.map TV.core ∧ ∀ (j : Nat) (h1 : j < ts.length) (h2 : j < tv.length), RCo w' ts[j] tv[j].coef))
theorem core_get {ts : List RT} {tv : List TV} (h : ts.map RT.core = tv.map TV.core) {i : Nat} (hi : i < ts.length) (hj : i < tv.length) : ts[i].adr = tv[i].adr ∧ ts[i].cap = tv[i].cap ∧ ts[i].exps = tv[i].exps := by
  have h1 : (ts.map RT.core)[i]? = (tv.map TV.core)[i]? := by rw [h]
  rw [List.getElem?_map, List.getElem?_map, List.getElem?_eq_getElem hi, List.getElem?_eq_getElem hj] at h1
  simp only [Option.map_some, RT.core, TV.core, Option.some.injEq, Prod.mk.injEq] at h1
  exact h1
theorem core_len {ts : List RT} {tv : List TV} (h : ts.map RT.core = tv.map TV.core) : ts.length = tv.length := by
  have := congrArg List.length h
  simpa using this
theorem core_ints {w : World} {ts : List RT} {tv : List TV} (h : ts.map RT.core = tv.map TV.core) (hA : ∀ t ∈ tv, Ints w t.adr t.exps) : ∀ t ∈ ts, Ints w t.adr t.exps := by
  intro t ht
  obtain ⟨i, hi, rfl⟩ := List.getElem_of_mem ht
  have hj : i < tv.length := by rw [← core_len h]; exact hi
  obtain ⟨h1, _, h2⟩ := core_get h hi hj
  rw [h1, h2]
  exact hA _ (List.getElem_mem _)
theorem readP_any (v : Int) (T : Option Addr) (cT : Nat) (tv : List TV) (w : World) (hA : TermsAt w T tv) (hn : tv.length ≤ 4096) (hs : ∀ t ∈ tv, t.coef.size ≤ 8 ∧ t.exps.length ≤ 64) :
    Calls Tryz.prog 22 #[.agg #[.int .i64 v, .slice T tv.length cT]] w (RetReadP v tv w) := by
  have HR : Hid (∀ W, Below w.heap.size w W → Calls Tryz.prog 49 #[.agg #[.int .i64 v, .slice T tv.length cT]] W (RetRead6 v tv W)) := Lib.hid (fun W h => read6_any v T cT tv W (hA.keep h) hn hs)
  have HS := Lib.hid hs
  have HA := Lib.hid hA
  clear hs hA
  obtain ⟨W, hW⟩ : ∃ W, (w.alloc (.cells #[.int .i64 v, .slice T tv.length cT] 24)).alloc (.cells #[.int .i64 0, .slice none 0 0] 47) = W := ⟨_, rfl⟩
  have B1 : Blk W w.heap.size 24 #[.int .i64 v, .slice T tv.length cT] := by rw [← hW]; exact (Blk.new _ _ _).alloc _
  have B2 : Blk W (w.heap.size + 1) 47 #[.int .i64 0, .slice none 0 0] := by
    rw [← hW]; have := Blk.new (w.alloc (.cells #[.int .i64 v, .slice T tv.length cT] 24)) 47 #[.int .i64 0, .slice none 0 0]
    simpa using this
  have hbW : Below w.heap.size w W := by rw [← hW]; exact ((Below.refl _ _).alloc (Nat.le_refl _) _).alloc (by simp) _
  have hWs : W.heap.size = w.heap.size + 2 := by rw [← hW]; simp
  have HWW := Lib.hid hW
  clear hW
  obtain ⟨a0, a1, _, _⟩ := B1.two
  have hd : decide ((4096 : Int) < (tv.length : Int)) = false := decide_eq_false (by omega)
  go_enter Tryz.func22, Tryz.ntmps22
  go_upto_region 1 with (fail)
  rw [HWW.out]
  go_wp2_with (fail)
  refine (HR.out _ hbW).mono ?_
  rintro e w1 ⟨hb1, ⟨hno, rfl⟩ | ⟨hwf, O, co, ts, rfl, hown, hcore, hnum⟩⟩
  · have HNO : Hid (¬ VldP v (tv.map TV.pl)) := Lib.hid (fun h => hno h.2.1)
    clear hno
    have C2 := B2.keep hb1 B2.lt
    have hz := hb1.size
    go_upto_region 4 with (fail)
    obtain ⟨W1, hW1⟩ : ∃ W1, w1.alloc (.cells #[.int .i64 0, .slice none 0 0] 47) = W1 := ⟨_, rfl⟩
    have D2 : Blk W1 (w.heap.size + 1) 47 #[.int .i64 0, .slice none 0 0] := by rw [← hW1]; exact C2.alloc _
    have hbD : Below w.heap.size w W1 := by rw [← hW1]; exact (below_all hbW hb1).alloc (by omega) _
    try rw [hW1]
    clear hW1 C2
    obtain ⟨d0, d1, d2, d3⟩ := D2.two
    go_wp2
    refine bodyPost_ret (v := .tuple #[.agg #[.int .i64 0, .slice none 0 0], .bool false]) (by simp [results, Tryz.results22, go_sem, d0, d1]) rfl ⟨?_, .inl ⟨HNO.out, rfl⟩⟩
    exact below_far (below_far hbD (by omega) _ _) (by omega) _ _
  · have HWF := Lib.hid hwf
    have HC := Lib.hid hcore
    have htl : ts.length ≤ 4096 := by rw [core_len hcore]; exact hn
    clear hwf hcore
    have C2 := B2.keep hb1 B2.lt
    have hz := hb1.size
    go_upto_region 4 with (fail)
    obtain ⟨W1, hW1⟩ : ∃ W1, w1.alloc (.cells #[.int .i64 v, .slice O ts.length co] 47) = W1 := ⟨_, rfl⟩
    have D2 : Blk W1 (w.heap.size + 1) 47 #[.int .i64 0, .slice none 0 0] := by rw [← hW1]; exact C2.alloc _
    have D4 : Blk W1 w1.heap.size 47 #[.int .i64 v, .slice O ts.length co] := by rw [← hW1]; exact Blk.new _ _ _
    have hownD : W1.ownsRow w.heap.size 58 5 (.slice O ts.length co) ts.length (ts.flatMap RT.cells) := by rw [← hW1]; exact own_base (hown.alloc _) (by omega)
    have hbD : Below w.heap.size w W1 := by rw [← hW1]; exact (below_all hbW hb1).alloc (by omega) _
    have HN : Hid (∀ (j : Nat) (h1 : j < ts.length) (h2 : j < tv.length), RCo W1 ts[j] tv[j].coef) := Lib.hid (fun j h1 h2 => by rw [← hW1]; exact (hnum j h1 h2).keep ((Below.refl _ _).alloc (Nat.le_refl _) _))
    try rw [hW1]
    clear hW1 C2 hown hnum
    obtain ⟨d0, d1, d2, d3⟩ := D2.two
    obtain ⟨b0, b1, b2, b3⟩ := D4.two
    have o2 : some (w.heap.size + 1) ≠ (Value.slice O ts.length co).ownBlock := own_blk_ne hownD D2 (by decide)
    by_cases h0 : ts.length = 0
    · have hd0 : decide ((0 : Int) < (ts.length : Int)) = false := by simp [h0]
      have hd0' : decide (0 < ts.length) = false := by simp [h0]
      have HOK : Hid (VldP v (tv.map TV.pl)) := Lib.hid ⟨by simpa using hn, HWF.out, fun h => by
        rw [List.length_map, ← core_len HC.out] at h
        omega⟩
      clear h0
      go_wp2
      refine bodyPost_ret (v := .tuple #[.agg #[.int .i64 v, .slice O ts.length co], .bool true]) (by simp [results, Tryz.results22, go_sem, d0, d1]) rfl ⟨?_, .inr ⟨HOK.out, O, co, ts, rfl, ?_, HC.out, fun j h1 h2 => RCo.far (RCo.far (HN.out j h1 h2) D2 (by decide) _ _) (D2.set 0 _) (by decide) _ _⟩⟩
      · exact below_far (below_far hbD (by omega) _ _) (by omega) _ _
      · exact own_far (own_far hownD o2 _) o2 _
    · have hd0 : decide ((0 : Int) < (ts.length : Int)) = true := by simp; omega
      have hd0' : decide (0 < ts.length) = true := by simp; omega
      have hp : 0 < ts.length := by omega
      have hq : 0 < tv.length := by rw [← core_len HC.out]; exact hp
      have hRT : RTermsAt W1 O ts := ⟨Sl.own hownD, core_ints HC.out (HA.out.keep hbD).ints⟩
      obtain ⟨ad, rfl, hc4, hI⟩ := RTermsAt.at hRT hp
      have hex := (core_get HC.out hp hq).2.2
      have hl64 : ts[0].exps.length ≤ 64 := by rw [hex]; exact (HS.out _ (List.getElem_mem _)).2
      have HVI : Hid (VldP v (tv.map TV.pl) ↔ vldM ts[0].exps = true) := Lib.hid (by
        rw [hex]
        constructor
        · intro h
          have := h.2.2 (by simpa using hq)
          simpa [TV.pl] using this
        · intro h
          exact ⟨by simpa using hn, HWF.out, fun _ => by simpa [TV.pl] using h⟩)
      have hc4' : W1.cell? ⟨ad.block, ad.off + 4, none⟩ = some (.slice ts[0].adr ts[0].exps.length ts[0].cap) := by simpa [Addr.add] using hc4
      have HV := Lib.hid (fun (V : World) (h : Below W1.heap.size W1 V) => rvalid_any ts[0].adr ts[0].cap ts[0].exps V (hI.keep h) (by omega))
      clear hRT hc4 hI hex h0
      generalize ts[0].exps = el at *
      generalize ts[0].adr = E at *
      generalize ts[0].cap = ce at *
      cases hvm : vldM el with
      | true =>
        have HOK : Hid (VldP v (tv.map TV.pl)) := Lib.hid (HVI.out.2 hvm)
        rw [hvm] at HV
        clear hvm HVI
        go_wp2_with (go_at_call 50; refine (HV.out _ (Below.refl _ _)).mono ?_; rintro e w' ⟨rfl, rfl⟩)
        refine bodyPost_ret (v := .tuple #[.agg #[.int .i64 v, .slice (some ad) ts.length co], .bool true]) (by simp [results, Tryz.results22, go_sem, d0, d1]) rfl ⟨?_, .inr ⟨HOK.out, some ad, co, ts, rfl, ?_, HC.out, fun j h1 h2 => RCo.far (RCo.far (HN.out j h1 h2) D2 (by decide) _ _) (D2.set 0 _) (by decide) _ _⟩⟩
        · exact below_far (below_far hbD (by omega) _ _) (by omega) _ _
        · exact own_far (own_far hownD o2 _) o2 _
      | false =>
        have HNO : Hid (¬ VldP v (tv.map TV.pl)) := Lib.hid (fun h => by have := HVI.out.1 h; rw [hvm] at this; cases this)
        rw [hvm] at HV
        clear hvm HVI
        go_wp2_with (go_at_call 50; refine (HV.out _ (Below.refl _ _)).mono ?_; rintro e w' ⟨rfl, rfl⟩)
        refine bodyPost_ret (v := .tuple #[.agg #[.int .i64 0, .slice none 0 0], .bool false]) (by simp [results, Tryz.results22, go_sem, d0, d1]) rfl ⟨?_, .inl ⟨HNO.out, rfl⟩⟩
        exact below_far (below_far hbD (by omega) _ _) (by omega) _ _
end Go.Proofs.Tg
end
section
/- The state of the rounds, made: the known monomials in a map. -/
namespace Go.Proofs.Tg
open Go.RowKit Go.Gr Go.Sp Go.Ev Go.Mo
set_option maxHeartbeats 4000000
set_option maxRecDepth 100000
/-- The state of the rounds: block g leads to the basis and to the map in block mb, which holds the monomials of S. -/
structure ItAt (w : World) (g mb : Nat) (B : Option Addr) (cb : Nat) (b : List (List Int)) (n cnt : Nat) (S : List (List Int)) : Prop where
  blk : Blk w g 121 #[.slice B b.length cb, .map (some mb)]
  lists : Lists w B b
  set : SetM w mb cnt n S
def exsOf (tv : List TV) : List (List Int) := tv.map TV.exps
def RetStart (B : Option Addr) (cb : Nat) (b : List (List Int)) (n : Nat) (tv : List TV) (w : World) (e : Ending) (w' : World) : Prop :=
  ∃ g mb, e = .returned (.pointer (some ⟨g, 0, none⟩)) ∧ w.heap.size ≤ g ∧ w.heap.size ≤ mb ∧ ItAt w' g mb B cb b n (tv.length + b.length) (S0 (exsOf tv) b) ∧ Below w.heap.size w w'
theorem below_turn {w w1 w2 : World} {B mb : Nat} (h : Below B w w1) (hm : MapB w1 mb) (hg : w1.grownBy w2 (some mb)) (hB : B ≤ mb) : Below B w w2 :=
  h.grown hg (by have := hm.lt; omega) (fun q hq => by injection hq with hq; omega)
theorem start_any (V : Int) (T : Option Addr) (cT : Nat) (tv : List TV) (B : Option Addr) (cb : Nat) (b : List (List Int)) (n : Nat) (w : World) (hP : TermsAt w T tv) (hB : Lists w B b) (hn : n ≤ 6) (hl : tv.length ≤ 4096) (hbl : b.length ≤ 64)
    (hd : ∀ t ∈ tv, domK n 24 t.exps) (hdb : ∀ m ∈ b, domK n 24 m) :
    Calls Tryz.prog 38 #[.agg #[.int .i64 V, .slice T tv.length cT], .slice B b.length cb] w (RetStart B cb b n tv w) := by
  have HD := Lib.hid hd
  have HDB := Lib.hid hdb
  obtain ⟨W, hW⟩ : ∃ W, ((w.alloc (.cells #[.int .i64 V, .slice T tv.length cT] 24)).alloc (.map #[] 0)).alloc (.cells #[.slice B b.length cb, .map (some (w.heap.size + 1))] 121) = W := ⟨_, rfl⟩
  have hbW : Below w.heap.size w W := by rw [← hW]; exact (((Below.refl _ _).alloc (Nat.le_refl _) _).alloc (by simp) _).alloc (by simp; omega) _
  have B0 : Blk W w.heap.size 24 #[.int .i64 V, .slice T tv.length cT] := by rw [← hW]; exact ((Blk.new _ _ _).alloc _).alloc _
  have B1 : Blk W (w.heap.size + 1 + 1) 121 #[.slice B b.length cb, .map (some (w.heap.size + 1))] := by
    rw [← hW]; have := Blk.new ((w.alloc (.cells #[.int .i64 V, .slice T tv.length cT] 24)).alloc (.map #[] 0)) 121 #[.slice B b.length cb, .map (some (w.heap.size + 1))]
    simpa using this
  have M1 : SetM W (w.heap.size + 1) 0 n [] := by
    rw [← hW]
    have := SetM.made (w.alloc (.cells #[.int .i64 V, .slice T tv.length cT] 24)) n
    have h2 := this.below ((Below.refl _ _).alloc (Nat.le_refl _) (.cells #[.slice B b.length cb, .map (some (w.heap.size + 1))] 121)) (by simp)
    simpa using h2
  have hPW := hP.keep hbW
  have hBW := hB.keep hbW
  have HWW := Lib.hid hW
  have hmm := @run_makeMap Tryz.prog
  clear hd hdb hW hP hB
  obtain ⟨c0, c1, _, _⟩ := B0.two
  go_enter Tryz.func38, Tryz.ntmps38
  go_upto_region 2 with (fail)
  rw [HWW.out]
  clear HWW hmm
  go_wp2
  clear c0 c1 B0
  go_loopw [17] (fun i wr => ∃ k : Nat, i = .int .i64 k ∧ k ≤ tv.length ∧ Blk wr (w.heap.size + 1 + 1) 121 #[.slice B b.length cb, .map (some (w.heap.size + 1))] ∧ SetM wr (w.heap.size + 1) k n (exsOf (tv.take k)) ∧ Below w.heap.size w wr ∧ TermsAt wr T tv ∧ Lists wr B b) (fun i _ => tv.length - (intOf i).toNat)
  case atStart => exact ⟨0, rfl, Nat.zero_le _, B1, M1, hbW, hPW, hBW⟩
  case round =>
    clear B1 M1 hbW hPW hBW
    obtain ⟨wo, rfl⟩ : ∃ wo : World, wo = wr := ⟨_, rfl⟩
    obtain ⟨k, rfl, hk, D1, hS, hbr, hPr, hLr⟩ := hrel
    by_cases hlt : k < tv.length
    · obtain ⟨ad, rfl, e0, e1, hI⟩ := hPr.at hlt
      have hdm := HD.out tv[k] (List.getElem_mem _)
      have HTM : Hid (∀ v, v ∈ tv[k].exps :: exsOf (tv.take k) ↔ v ∈ exsOf (tv.take (k + 1))) := Lib.hid (fun v => by
        unfold exsOf
        rw [List.take_succ_eq_append_getElem hlt, List.map_append, List.mem_append, List.map_singleton, List.mem_singleton, List.mem_cons]
        exact Or.comm)
      have HPr := Lib.hid hPr
      generalize tv[k] = t at *
      obtain ⟨s, A, c, el⟩ := t
      simp only at e0 e1 hI hdm HTM
      clear hPr
      go_upto_region 5 with (fail)
      have q0 := cell_alloc (D1.cell 1) (.cells #[.string s, .slice A el.length c] 69)
      have q1 := (Blk.new wo 69 #[.string s, .slice A el.length c]).cell 1
      have hal : Below wo.heap.size wo (wo.alloc (.cells #[.string s, .slice A el.length c] 69)) := (Below.refl _ _).alloc (Nat.le_refl _) _
      have hX1 := D1.alloc (.cells #[.string s, .slice A el.length c] 69)
      have hXS := hS.below hal hS.mapB.lt
      have hXb := hbr.alloc hbr.size (.cells #[.string s, .slice A el.length c] 69)
      have hXP := HPr.out.keep hal
      have hXL := hLr.keep hal
      have hXI := hI.keep hal
      have hgl : w.heap.size + 1 < wo.heap.size := hS.mapB.lt
      have hGX : wo.heap.size < (wo.alloc (.cells #[.string s, .slice A el.length c] 69)).heap.size := by simp
      generalize wo.alloc (.cells #[.string s, .slice A el.length c] 69) = X at *
      clear D1 hS hbr HPr hLr hI e0 e1
      have q0 : X.cell? ⟨w.heap.size + 1 + 1, 1, none⟩ = some (.map (some (w.heap.size + 1))) := q0
      have q1 : X.cell? ⟨wo.heap.size, 1, none⟩ = some (.slice A el.length c) := q1
      have hbe : Below X.heap.size X X.drew := (Below.refl _ _).drew
      have hmx : w.heap.size + 1 < X.heap.size := by omega
      have HKO : Hid (∀ W, Below X.heap.size X W → Calls Tryz.prog 56 #[.slice A el.length c] W fun e w' => e = .returned (keyV el) ∧ Below X.heap.size X w') := Lib.hid (fun W h => (keyOf_any A c el W (hXI.keep h) (by rw [hdm.1]; exact hn)).mono fun e w' h2 => ⟨h2.1, below_all h h2.2⟩)
      have hdm' : domK n 48 el := hdm.mono (by omega)
      go_region_held3 (fun w' => w'.cell? ⟨w.heap.size + 1 + 1, 1, none⟩ = some (.map (some (w.heap.size + 1))) ∧ w'.cell? ⟨wo.heap.size, 1, none⟩ = some (.slice A el.length c))
        (first | exact ⟨r0, r1⟩ | exact ⟨keep_cell hbe q0, keep_cell hbe q1⟩)
        (first
          | (go_at_call 56; with_reducible refine Calls.mono (HKO.out _ (by assumption)) ?_; rintro e w2 ⟨rfl, hb2⟩
             have hbe := hb2
             have hm2 := (hXS.below hb2 hmx).mapB
             obtain ⟨w3, hrun, hS3, hg3⟩ := (hXS.below hb2 hmx).put hn (by omega) hdm'
             have r0 := cell_turn hm2 hg3 (keep_cell hb2 q0)
             have r1 := cell_turn hm2 hg3 (keep_cell hb2 q1)))
      all_goals
        go_wp2_with (fail)
        go_roundw
        case rel =>
          exact ⟨k + 1, by go_num, by omega, (hX1.keep hb2 hX1.lt).turn hm2 hg3, hS3.congr HTM.out, below_turn (below_all hXb hb2) hm2 hg3 (by omega), (hXP.keep hb2).turn hm2 hg3, (hXL.keep hb2).turn hm2 hg3⟩
        case measure => simp [intOf]; omega
    · obtain rfl : k = tv.length := by omega
      rw [List.take_length] at hS
      have dk : decide ((tv.length : Int) < (tv.length : Int)) = false := by simp
      have hS : SetM wo (w.heap.size + 1) (tv.length + 0) n (S0 (exsOf tv) (b.take 0)) := hS.congr (fun v => by unfold S0; simp)
      clear hPr
      go_wp2
      go_loopw [31] (fun i wr => ∃ j : Nat, i = .int .i64 j ∧ j ≤ b.length ∧ Blk wr (w.heap.size + 1 + 1) 121 #[.slice B b.length cb, .map (some (w.heap.size + 1))] ∧ SetM wr (w.heap.size + 1) (tv.length + j) n (S0 (exsOf tv) (b.take j)) ∧ Below w.heap.size w wr ∧ Lists wr B b) (fun i _ => b.length - (intOf i).toNat)
      case atStart => exact ⟨0, rfl, Nat.zero_le _, D1, hS, hbr, hLr⟩
      case round =>
        clear D1 hS hbr hLr
        obtain ⟨wp, rfl⟩ : ∃ wp : World, wp = wr := ⟨_, rfl⟩
        obtain ⟨j, rfl, hj, D1, hS, hbr, hLr⟩ := hrel
        by_cases hlt : j < b.length
        · obtain ⟨ad, A, c, rfl, hc, hI⟩ := hLr.at hlt
          have hdm := HDB.out b[j] (List.getElem_mem _)
          have HTM : Hid (∀ v, v ∈ addL b[j] b[j] :: S0 (exsOf tv) (b.take j) ↔ v ∈ S0 (exsOf tv) (b.take (j + 1))) := Lib.hid (fun v => by
            unfold S0
            rw [List.take_succ_eq_append_getElem hlt, List.map_append, List.map_singleton]
            simp only [List.mem_cons, List.mem_append, List.not_mem_nil, or_false]
            constructor
            · rintro (h | h | h)
              · exact .inr (.inr h)
              · exact .inl h
              · exact .inr (.inl h)
            · rintro (h | h | h)
              · exact .inr (.inl h)
              · exact .inr (.inr h)
              · exact .inl h)
          have HLr := Lib.hid hLr
          generalize b[j] = m at *
          clear hLr
          have q0 : wp.cell? ⟨w.heap.size + 1 + 1, 1, none⟩ = some (.map (some (w.heap.size + 1))) := D1.cell 1
          have hmx : w.heap.size + 1 < wp.heap.size := hS.mapB.lt
          have hbe : Below wp.heap.size wp wp.drew := (Below.refl _ _).drew
          have HKO : Hid (∀ W, Below wp.heap.size wp W → Calls Tryz.prog 68 #[.slice A m.length c, .slice A m.length c] W fun e w' => e = .returned (keyV (addL m m)) ∧ Below wp.heap.size wp w') := Lib.hid (fun W h => (product_any A A c c n m m W (hI.keep h) (hI.keep h) hdm hdm hn).mono fun e w' h2 => ⟨h2.1, below_all h h2.2⟩)
          have hdm' : domK n 48 (addL m m) := addL_dom hdm hdm
          generalize addL m m = mm at *
          go_upto_region 10 with (fail)
          go_region_held3 (fun w' => w'.cell? ⟨w.heap.size + 1 + 1, 1, none⟩ = some (.map (some (w.heap.size + 1))))
            (first | exact r0 | exact keep_cell hbe q0)
            (first
              | (go_at_call 68; with_reducible refine Calls.mono (HKO.out _ (by assumption)) ?_; rintro e w2 ⟨rfl, hb2⟩
                 have hbe := hb2
                 have hm2 := (hS.below hb2 hmx).mapB
                 obtain ⟨w3, hrun, hS3, hg3⟩ := (hS.below hb2 hmx).put hn (by omega) hdm'
                 have r0 := cell_turn hm2 hg3 (keep_cell hb2 q0)))
          all_goals
            go_wp2_with (fail)
            go_roundw
            case rel =>
              exact ⟨j + 1, by go_num, by omega, (D1.keep hb2 D1.lt).turn hm2 hg3, hS3.congr HTM.out, below_turn (below_all hbr hb2) hm2 hg3 (by omega), ((HLr.out).keep hb2).turn hm2 hg3⟩
            case measure => simp [intOf]; omega
        · obtain rfl : j = b.length := by omega
          rw [List.take_length] at hS
          have dj : decide ((b.length : Int) < (b.length : Int)) = false := by simp
          go_wp2
          go_ret
          exact ⟨w.heap.size + 1 + 1, w.heap.size + 1, rfl, by omega, by omega, ⟨D1, hLr, hS⟩, hbr⟩
end Go.Proofs.Tg
end
section
/- The graph of the next round. -/
namespace Go.Proofs.Tg
open Go.RowKit Go.Gr Go.Sp Go.Ev Go.Mo
set_option maxHeartbeats 4000000
set_option maxRecDepth 100000
theorem ItAt.keep {w w' : World} {g mb cb n cnt : Nat} {B : Option Addr} {b S : List (List Int)} (h : ItAt w g mb B cb b n cnt S) (hb : Below w.heap.size w w') : ItAt w' g mb B cb b n cnt S :=
  ⟨h.blk.keep hb h.blk.lt, h.lists.keep hb, h.set.below hb h.set.mapB.lt⟩
def RetEd (b S : List (List Int)) (w : World) (e : Ending) (w' : World) : Prop :=
  ∃ F d, e = .returned (.tuple #[.agg #[.int .i64 b.length, .slice F (edTo b S b.length).length d], .int .i64 0]) ∧ w'.ownsRow w.heap.size 83 2 (.slice F (edTo b S b.length).length d) (edTo b S b.length).length (Gx.ecells (edTo b S b.length)) ∧ Below w.heap.size w w'
theorem igraph_any (g mb : Nat) (B : Option Addr) (cb n cnt : Nat) (b S : List (List Int)) (w : World) (hI : ItAt w g mb B cb b n cnt S) (hn : n ≤ 6) (hbl : b.length ≤ 64) (hdb : ∀ m ∈ b, domK n 24 m) (hT : Tab w) :
    Calls Tryz.prog 39 #[.pointer (some ⟨g, 0, none⟩)] w (RetEd b S w) := by
  have HDB := Lib.hid hdb
  have HI := Lib.hid hI
  have HMC : Hid (∀ W E c, Gx.EdgesAt W E (edTo b S b.length) → Tab W → Calls Tryz.prog 57 #[.int .i64 b.length, .slice E (edTo b S b.length).length c] W (RetEd b S W)) := Lib.hid (fun W E c hE hTW => by
    have hr := ed_range (S := S) hbl
    have hm := ed_make (S := S) hbl
    have hlen := edTo_len b S b.length
    have : b.length * b.length ≤ 64 * 64 := Nat.mul_le_mul hbl hbl
    refine (Gx.make_any b.length E c _ W hE (by omega) hTW).mono ?_
    rintro e w' (⟨h, _⟩ | ⟨_, ⟨x, hx, h⟩, _⟩ | ⟨_, _, F, d, h1, h2, h3⟩)
    · exact absurd hr.1 h
    · exact absurd h (hr.2 x hx)
    · rw [Int.toNat_natCast, hm] at h1 h2
      exact ⟨F, d, h1, h2, h3⟩)
  have HEL := Lib.hid (fun k => edTo_len b S k)
  have HPL := Lib.hid (fun i m => edPart_len b S i m)
  obtain ⟨i0, hi, hz0, hz1, hz2⟩ := info_parts Gx.pair_info
  have c0 := hI.blk.cell 0
  have c1 := hI.blk.cell 1
  simp at c0 c1
  have hgl := hI.blk.lt
  have hmbl := hI.set.mapB.lt
  clear hdb hI
  have a0 := cell_alloc c0 (.cells #[.int .i64 0, .slice none 0 0] 40)
  go_enter Tryz.func39, Tryz.ntmps39
  go_wp2
  go_loopw [13, 4] (fun s13 s4 wr => ∃ (k : Nat) (E : Option Addr) (c : Nat) (fs : List (Int × Int)), s13 = .int .i64 k ∧ k ≤ b.length ∧ s4 = .slice E fs.length c ∧ Hid (fs = edTo b S k) ∧
    wr.ownsRow w.heap.size 83 2 (.slice E fs.length c) fs.length (Gx.ecells fs) ∧ Blk wr w.heap.size 40 #[.int .i64 0, .slice none 0 0] ∧ Below w.heap.size w wr) (fun s13 _ _ => b.length - (intOf s13).toNat)
  case atStart => exact ⟨0, none, 0, [], rfl, Nat.zero_le _, rfl, Lib.hid rfl, World.ownsRow_nil _ _ _ _, Blk.new _ _ _, (Below.refl _ _).alloc (Nat.le_refl _) _⟩
  case round =>
    clear a0
    obtain ⟨wo, rfl⟩ : ∃ wo : World, wo = wr := ⟨_, rfl⟩
    obtain ⟨k, E, c, fs, rfl, hk, rfl, HF, hown, hG, hbr⟩ := hrel
    by_cases hlt : k < b.length
    · obtain ⟨bd, A, ca, rfl, hcw, hAw⟩ := HI.out.lists.at hlt
      have hc := keep_cell hbr hcw
      have w1 : IntKind.i64.wrap ((k : Int) + 1) = (k : Int) + 1 := IntWalk.i64_in _ (by omega)
      have HGK : Hid (b.getD k [] = b[k]) := Lib.hid (by simp [hlt])
      have hdk := HDB.out b[k] (List.getElem_mem _)
      go_wp2
      go_loopw [7, 4] (fun s7 s4 wr => ∃ (m : Nat) (E2 : Option Addr) (c2 : Nat) (fs2 : List (Int × Int)), s7 = .int .i64 m ∧ k < m ∧ m ≤ b.length ∧ s4 = .slice E2 fs2.length c2 ∧ Hid (fs2 = edTo b S k ++ edPart b S k m) ∧
        wr.ownsRow w.heap.size 83 2 (.slice E2 fs2.length c2) fs2.length (Gx.ecells fs2) ∧ Blk wr w.heap.size 40 #[.int .i64 0, .slice none 0 0] ∧ Below w.heap.size w wr) (fun s7 _ _ => b.length - (intOf s7).toNat)
      case atStart => exact ⟨k + 1, E, c, fs, by go_num, by omega, by omega, rfl, Lib.hid (by rw [HF.out, edPart_low, List.append_nil]), hown, hG, hbr⟩
      case round =>
        clear hown hG hbr HF w1 hc
        obtain ⟨wp, rfl⟩ : ∃ wp : World, wp = wr := ⟨_, rfl⟩
        obtain ⟨m, E2, c2, fs2, rfl, hkm, hm, rfl, HF, hown, hG, hbr⟩ := hrel
        have d0 := keep_cell hbr c0
        have d1 := keep_cell hbr c1
        by_cases hmt : m < b.length
        · obtain ⟨bd2, A2, ca2, hbd, hcm, hAm⟩ := HI.out.lists.at hmt
          injection hbd with hbd
          subst hbd
          have d2 := keep_cell hbr hcm
          have hdm := HDB.out b[m] (List.getElem_mem _)
          have HES : Hid (edPart b S k (m + 1) = edPart b S k m ++ if addL b[k] b[m] ∈ S then [((k : Int), (m : Int))] else []) := Lib.hid (by
            have e := edPart_succ b S hkm
            rw [HGK.out, show b.getD m [] = b[m] by simp [hmt]] at e
            exact e)
          have hfl : fs2.length ≤ 64 * 64 + 64 := by
            have h1 := HEL.out k
            have h2 := HPL.out k m
            have h3 : k * b.length ≤ 64 * 64 := Nat.mul_le_mul (by omega) hbl
            rw [HF.out, List.length_append]; omega
          have hmx : mb < wp.heap.size := Nat.lt_of_lt_of_le hmbl hbr.size
          have hSp := HI.out.set.below hbr hmbl
          have hdom' : domK n 48 (addL b[k] b[m]) := addL_dom hdk hdm
          have HKO : Hid (∀ W, Below wp.heap.size wp W → Calls Tryz.prog 68 #[.slice A b[k].length ca, .slice A2 b[m].length ca2] W fun e w' => e = .returned (keyV (addL b[k] b[m])) ∧ Below wp.heap.size wp w') := Lib.hid (fun W h =>
            (product_any A A2 ca ca2 n b[k] b[m] W (hAw.keep (below_all hbr h)) (hAm.keep (below_all hbr h)) hdk hdm hn).mono fun e w' h2 => ⟨h2.1, below_all h h2.2⟩)
          have hbe : Below wp.heap.size wp wp.drew := (Below.refl _ _).drew
          have p0 : (0 : Int) ≤ (m : Int) := by omega
          have p1 : (m : Int) < (b.length : Int) := by omega
          have p3 : ((m : Int)).toNat = m := by omega
          have w1 : IntKind.i64.wrap ((m : Int) + 1) = (m : Int) + 1 := IntWalk.i64_in _ (by omega)
          clear hcw
          generalize b[m] = y at *
          generalize b[k] = x at *
          generalize addL x y = xy at *
          by_cases hin : xy ∈ S
          all_goals
            obtain ⟨q, hdec⟩ : ∃ q : Bool, decide (xy ∈ S) = q := ⟨_, rfl⟩
            have HQ := Lib.hid hdec
          · obtain rfl : q = true := by rw [← hdec]; exact decide_eq_true hin
            rw [if_pos hin] at HES
            clear hin
            go_upto_region 8 with (fail)
            go_region_held3 (fun w' => w'.cell? ⟨g, 1, none⟩ = some (.map (some mb)) ∧ w'.cell? ⟨g, 0, none⟩ = some (.slice (some bd) b.length cb) ∧ w'.cell? (bd.add m) = some (.slice A2 y.length ca2))
              (first | exact ⟨keep_cell hbe d1, keep_cell hbe d0, keep_cell hbe d2⟩)
              (first
                | (go_at_call 68; with_reducible refine Calls.mono (HKO.out _ (by assumption)) ?_; rintro e w2 ⟨rfl, hb2⟩
                   have hbe := hb2
                   have hrun := (hSp.below hb2 hmx).look hdom' hdec))
            all_goals
              have hown2 := own_below hown hb2 (Nat.le_refl _)
              have hG2 := hG.keep hb2 hG.lt
              have hb3 := below_all hbr hb2
              have hne := own_blk_ne hown2 hG2 (by decide)
              have hsz3 := hb3.size
              clear hown hG hrun hSp
              go_wp2_with (at_builtin; go_must (refine wpList_append_own_at _ rfl _ _ 38 rfl w.heap.size 83 i0 (.agg #[.int .i64 0, .int .i64 0]) 2 16 Tryz.underlying38 hi hz0 hz1 hz2 rfl (by decide) (.slice E2 fs2.length c2) _ _ rfl (hown2.alloc _) ⟨w2.heap.size, 0, none⟩ 1 1 [.int .i64 k, .int .i64 m] rfl rfl ?c1 ?c2 ?c3 ?c4 ?c5 ?_)
                           case c1 => exact Gx.cell_two_new' _ _ _ _
                           case c2 => simp [Value.oneCell']
                           case c3 => simp only [maxLen]; omega
                           case c4 => omega
                           case c5 => simp; omega
                           intro v' w4 hown4 hg4 _ _
                           obtain ⟨E3, c3, hv, hle3, _⟩ := Sl.of_own hown4
                           subst hv)
              have hlen : (fs2 ++ [((k : Int), (m : Int))]).length = fs2.length + 1 := by simp
              go_roundw
              case rel =>
                refine ⟨m + 1, E3, c3, fs2 ++ [((k : Int), (m : Int))], by go_num, by omega, by omega, by rw [hlen], Lib.hid (by rw [HES.out, HF.out, List.append_assoc]), ?_, ?_, ?_⟩
                · rw [hlen, Gx.ecells_app]; exact hown4
                · exact (hG2.alloc _).grown hg4 hne
                · exact (hb3.alloc hsz3 _).grown hg4 (by simp; omega) (fun j hj => by have := (hown2.lt j hj).1; omega)
              case measure => simp [intOf]; omega
          · obtain rfl : q = false := by rw [← hdec]; exact decide_eq_false hin
            rw [if_neg hin, List.append_nil] at HES
            clear hin
            go_upto_region 8 with (fail)
            go_region_held3 (fun w' => w'.cell? ⟨g, 1, none⟩ = some (.map (some mb)) ∧ w'.cell? ⟨g, 0, none⟩ = some (.slice (some bd) b.length cb) ∧ w'.cell? (bd.add m) = some (.slice A2 y.length ca2))
              (first | exact ⟨keep_cell hbe d1, keep_cell hbe d0, keep_cell hbe d2⟩)
              (first
                | (go_at_call 68; with_reducible refine Calls.mono (HKO.out _ (by assumption)) ?_; rintro e w2 ⟨rfl, hb2⟩
                   have hbe := hb2
                   have hrun := (hSp.below hb2 hmx).look hdom' hdec))
            all_goals
              go_wp2_with (fail)
              go_roundw
              case rel => exact ⟨m + 1, E2, c2, fs2, by go_num, by omega, by omega, rfl, Lib.hid (by rw [HES.out, HF.out]), own_below hown hb2 (Nat.le_refl _), hG.keep hb2 hG.lt, below_all hbr hb2⟩
              case measure => simp [intOf]; omega
        · obtain rfl : m = b.length := by omega
          have HF2 : Hid (fs2 = edTo b S (k + 1)) := Lib.hid (by rw [HF.out, edTo_succ, edPart_full])
          have w2 : IntKind.i64.wrap ((k : Int) + 1) = (k : Int) + 1 := IntWalk.i64_in _ (by omega)
          have dm : decide ((b.length : Int) < (b.length : Int)) = false := by simp
          go_wp2
          go_roundw
          case rel => exact ⟨k + 1, E2, c2, fs2, by go_num, by omega, rfl, HF2, hown, hG, hbr⟩
          case measure => simp [intOf]; omega
    · obtain rfl : k = b.length := by omega
      have d0 := keep_cell hbr c0
      have dk : decide ((b.length : Int) < (b.length : Int)) = false := by simp
      have hE := Sl.own hown
      obtain rfl := HF.out
      have HM2 := Lib.hid (HMC.out wo E c hE (hT.below hbr hT.1))
      have hglo := hG.lt
      clear HMC hown hE
      go_wp2_with (go_at_call 57; refine HM2.out.mono ?_; rintro e w2 ⟨F, d, rfl, hF, hb2⟩
                   have B2 := hG.keep hb2 hglo
                   have z0 := B2.cell 0
                   have z1 := B2.cell 1
                   have y0 := B2.frozen 0
                   have y1 := B2.frozen 1
                   simp at z0 z1
                   have hgl2 := B2.lt)
      refine bodyPost_ret (v := _) (Gx.results_g (p := 2) (q := 3) rfl _ _ w.heap.size _ _ rfl (Gx.blk_two B2)) rfl ?_
      have hne := own_blk_ne hF B2 (by decide)
      exact ⟨F, d, rfl, own_base (own_far (own_far hF hne _) hne _) hbr.size, below_far (below_far (below_all hbr hb2) (Nat.le_refl _) _ _) (Nat.le_refl _) _ _⟩
end Go.Proofs.Tg
end
section
/- Components once more, with the order in which the components come. -/
namespace Go.Gr
open Go.Jt
theorem mem_vertsN {s v : Nat} (hs : s < 18446744073709551616) : (v : Int) ∈ vertsI s ↔ s.testBit v = true := by
  rw [mem_vertsI]
  exact ⟨fun h => by simpa using h.2.2, fun hb => ⟨by omega, by have := bit_lt hs hb; omega, by simpa using hb⟩⟩
theorem made_skip {es : List (Int × Int)} {n k seen : Nat} {d : List Nat} (_hk : k < 64) (hM : MadeL es k (d.map vertsI)) (hO : OInv es n k seen d) (hs : seen.testBit k = true) : MadeL es (k + 1) (d.map vertsI) := by
  refine .skip hM ?_
  obtain ⟨s, h1, h2⟩ := (hO.bits k).1 hs
  exact ⟨vertsI s, List.mem_map.2 ⟨s, h1, rfl⟩, (mem_vertsN (hO.cls s h1).1).2 h2⟩
theorem made_add {es : List (Int × Int)} {n k seen comp : Nat} {d : List Nat} (_hk : k < 64) (hM : MadeL es k (d.map vertsI)) (hO : OInv es n k seen d) (hs : seen.testBit k = false) (hc : comp < 18446744073709551616) (hcc : ∀ v, comp.testBit v = true ↔ Conn (Rel es) k v) : MadeL es (k + 1) ((d ++ [comp]).map vertsI) := by
  rw [List.map_append]
  refine .add hM (fun m hm hk => ?_) (vertsZ_asc comp) (fun x => ?_)
  · obtain ⟨s, h1, rfl⟩ := List.mem_map.1 hm
    have := (hO.bits k).2 ⟨s, h1, (mem_vertsN (hO.cls s h1).1).1 hk⟩
    rw [hs] at this; cases this
  · constructor
    · intro hx
      have h1 := mem_vertsI.1 hx
      exact ⟨x.toNat, by omega, (hcc _).1 h1.2.2⟩
    · rintro ⟨v, rfl, hv⟩
      exact (mem_vertsN hc).2 ((hcc v).2 hv)
end Go.Gr
namespace Go.Proofs.Tg.Gx
open Go.RowKit Go.Gr
set_option maxHeartbeats 4000000
set_option maxRecDepth 100000
/-- Slices of numbers, none longer than its capacity. -/
def ListsC (w : World) (V : Option Addr) (ls : List (List Int)) : Prop :=
  ∃ f : Nat → Option Addr × Nat, Sl w V ls.length 1 ((List.range ls.length).map fun i => .slice (f i).1 (ls.getD i []).length (f i).2) ∧ (∀ i, i < ls.length → Ints w (f i).1 (ls.getD i [])) ∧ ∀ i, i < ls.length → (ls.getD i []).length ≤ (f i).2
theorem ListsC.lists {w : World} {V : Option Addr} {ls : List (List Int)} (h : ListsC w V ls) : Lists w V ls := by
  obtain ⟨f, h1, h2, _⟩ := h
  exact ⟨f, h1, h2⟩
theorem listsC_of_rows {w : World} {base m cr : Nat} {R : Option Addr} {F : Nat → Option Addr × Nat} {ls : Nat → List Int} (hR : w.ownsRow base 36 1 (.slice R m cr) m ((List.range m).map (enc F ls))) (hRows : RowsIn w base m F ls) : ListsC w R ((List.range m).map ls) := by
  have hg : ∀ i, i < m → ((List.range m).map ls).getD i [] = ls i := by intro i hi; simp [hi]
  refine ⟨F, ?_, fun i hi => ?_, fun i hi => ?_⟩
  · have := Sl.own hR
    have e : (List.range ((List.range m).map ls).length).map (fun i => Value.slice (F i).1 (((List.range m).map ls).getD i []).length (F i).2) = (List.range m).map (enc F ls) := by
      rw [List.length_map, List.length_range]
      apply List.map_congr_left
      intro i hi
      rw [hg i (by simpa using hi)]; rfl
    rw [e, List.length_map, List.length_range]
    exact this
  · have hi' : i < m := by simpa using hi
    rw [hg i hi']
    exact Sl.own (hRows i hi')
  · have hi' : i < m := by simpa using hi
    rw [hg i hi']
    obtain ⟨A, c, h1, h2, _⟩ := Sl.of_own (hRows i hi')
    unfold enc at h1
    injection h1 with _ _ h1
    rw [h1]; exact h2
def RetMadeC (n : Nat) (es : List (Int × Int)) (w : World) (e : Ending) (w' : World) : Prop :=
  ∃ ls V d, MadeL es n ls ∧ e = .returned (.tuple #[.slice V (List.length ls) d, .int .i64 0]) ∧ ListsC w' V ls ∧ ls.length ≤ n ∧ (∀ l ∈ ls, l.length ≤ 64) ∧ Below w.heap.size w w'
def RetMadeL (n : Nat) (es : List (Int × Int)) (w : World) (e : Ending) (w' : World) : Prop :=
  ∃ ls V d, MadeL es n ls ∧ e = .returned (.tuple #[.slice V (List.length ls) d, .int .i64 0]) ∧ Lists w' V ls ∧ ls.length ≤ n ∧ (∀ l ∈ ls, l.length ≤ 64) ∧ Below w.heap.size w w'
theorem components_caps (n : Nat) (E : Option Addr) (c : Nat) (es : List (Int × Int)) (w : World) (hE : EdgesAt w E es) (hl : es.length ≤ 1000000) (hv : valid n es) (hT : Tab w) :
    Calls Tryz.prog 21 #[.agg #[.int .i64 n, .slice E es.length c]] w (RetMadeC n es w) := by
  obtain ⟨j0, hj, hjz0, hjz1, hjz2⟩ := info_parts rows_info
  have hr := read_all n E c es true (w.alloc (.cells #[.int .i64 n, .slice E es.length c] 40)) (hE.keep ((Below.refl _ _).alloc (Nat.le_refl _) _)) hl (by simp [hv])
  have hsm := (readAll_small es n hv).1
  have hn : n ≤ 64 := by have := hv.2.1; omega
  have hbA : Below w.heap.size w (w.alloc (.cells #[.int .i64 n, .slice E es.length c] 40)) := (Below.refl _ _).alloc (Nat.le_refl _) _
  have hB := Blk.new w 40 #[.int .i64 n, .slice E es.length c]
  have HR := Lib.hid hr
  have HB := Lib.hid hB
  have HV := Lib.hid hv
  clear hr hv hB
  go_enter Tryz.func21, Tryz.ntmps21
  go_wp2_with (first
    | (go_at_call 45; refine HR.out.mono ?_; rintro e w1 ⟨A, hAs, rfl, hAe, hb1⟩; obtain rfl := hAe rfl; clear hAe)
    | (refine adj_alloc _ _ _ _ ?_)
    | (refine wpList_store_row rfl 89 (.tmp 4) (.tmp 17) rfl w1.heap.size (adjA (readAll es)) rfl rfl 89 (adjA fun _ => 0) (Blk.new w1 89 _) (size56 _) (by simp only [adjA_size]) (adj_one _) ?_
       have hz1 : w.heap.size + 1 ≤ w1.heap.size := by have := hb1.size; simp at this; omega
       have hA1 := blk_setRow (Blk.new w1 89 (adjA fun _ => 0)) (adjA (readAll es))
       have hB1 := blk_setRow_far (Blk.alloc (HB.out.keep hb1 (Blk.lt HB.out)) (.cells (adjA fun _ => 0) 89)) (g' := w1.heap.size) (by omega) (adjA (readAll es))
       have hbw := below_setRow ((hbA.trans (hb1.mono (by simp))).alloc (by omega) (.cells (adjA fun _ => 0) 89)) (g := w1.heap.size) (by omega) (adjA (readAll es))
       have c0 := hB1.cell 0
       simp at c0
       generalize (w1.alloc (.cells (adjA fun _ => 0) 89)).setRow w1.heap.size (adjA (readAll es)) = W at hA1 hB1 hbw c0 ⊢
       generalize w1.heap.size = g at hA1 hz1 ⊢
       clear hb1))
  clear HR HB hbA c0 hB1
  have HA : Hid (∀ i, readAll es i < 18446744073709551616) := Lib.hid hsm
  go_loopw [23, 7, 6] (fun i t v wr => ∃ (k seen m : Nat) (R : Option Addr) (cr : Nat) (F : Nat → Option Addr × Nat) (ls : Nat → List Int) (d : List Nat), i = .int .i64 k ∧ k ≤ n ∧ t = .int .u64 seen ∧ seen < 18446744073709551616 ∧ v = .slice R m cr ∧ m ≤ cr ∧ m ≤ k ∧
      wr.ownsRow W.heap.size 36 1 (.slice R m cr) m ((List.range m).map (enc F ls)) ∧ RowsIn wr W.heap.size m F ls ∧ Hid (OInv es n k seen d) ∧ Hid ((List.range m).map ls = d.map vertsI) ∧ Hid (MadeL es k (d.map vertsI)) ∧ Below W.heap.size W wr) (fun i _ _ _ => n - (intOf i).toNat)
  case atStart => exact ⟨0, 0, 0, none, 0, fun _ => (none, 0), fun _ => [], [], rfl, Nat.zero_le _, rfl, by omega, rfl, Nat.le_refl _, Nat.le_refl _, World.ownsRow_nil _ _ _ _, fun i hi => by omega, Lib.hid ⟨by simp, by simp, by simp, fun v hv => by omega⟩, Lib.hid rfl, Lib.hid MadeL.zero, Below.refl _ _⟩
  case round =>
    obtain ⟨wo, rfl⟩ : ∃ wo : World, wo = wr := ⟨_, rfl⟩
    obtain ⟨k, seen, m, R, cr, F, ls, d, rfl, hk, rfl, hsl, rfl, hmc, hmk, hR, hRows, HO, HL, HM, hb⟩ := hrel
    by_cases hkn : k < n
    · have hkb : decide ((k : Int) < (n : Int)) = true := by simp; omega
      cases hsk : seen.testBit k
      · have HSK := Lib.hid hsk
        have hgW := Blk.lt hA1
        have hA2 := hA1.keep hb hgW
        clear hsk
        go_wp2_with (first
          | (go_at_call 46; refine (has_any _ _ _ hsl (by omega)).mono ?_; rintro e w' ⟨he, rfl⟩; rw [HSK.out] at he; subst he)
          | (go_at_call 47; refine (with_zero _ _ (by omega)).mono ?_; rintro e w' ⟨rfl, rfl⟩))
        have hb0 : bset 0 k < 18446744073709551616 := bset_lt (by omega) (by omega)
        have HI0 := Lib.hid (cinv_start es k)
        generalize bset 0 k = b0 at hb0 HI0 ⊢
        go_loopw [10, 9] (fun f s wr => ∃ fresh comp : Nat, f = .int .u64 fresh ∧ s = .int .u64 comp ∧ fresh < 18446744073709551616 ∧ comp < 18446744073709551616 ∧ Hid (CInv es k comp fresh) ∧ Below wo.heap.size wo wr) (fun f s _ => 2 * (64 - size (intOf s).toNat) + (if (intOf f).toNat = 0 then 0 else 1))
        case atStart => exact ⟨b0, b0, rfl, rfl, hb0, hb0, HI0, Below.refl _ _⟩
        case round =>
          clear HI0 hb0
          obtain ⟨fresh, comp, rfl, rfl, hfl, hcl, HI, hb2⟩ := hrel
          by_cases hf0 : fresh = 0
          · subst hf0
            have hbe : (((0 : Nat) : Int) != 0) = false := rfl
            have HE := Lib.hid (cinv_end HI.out)
            have hor := u64_or_nat seen comp hsl hcl
            have hsz := hb.size
            have hsz2 := hb2.size
            clear HI
            go_wp2_with (first
              | (go_at_call 48; refine (verts_any _ _ hcl (hT.below (below_all (below_all hbw hb) hb2) hT.1)).mono ?_; rintro e w6 ⟨V3, c3, rfl, hVc3, hV3, hb6⟩
                 have hR6 := own_below (own_below hR hb2 (Nat.le_refl _)) hb6 (Nat.le_refl _)
                 have hz6 : W.heap.size ≤ w6.heap.size := by have := hb6.size; omega
                 clear hVc3)
              | (at_builtin; refine wpList_append_own _ rfl _ _ 25 rfl W.heap.size 36 j0 (.slice none 0 0) 1 24 Tryz.underlying25 hj hjz0 hjz1 hjz2 rfl (by decide) (.slice R m cr) m _ rfl (hR6.alloc _) ⟨w6.heap.size, 0, none⟩ 1 1 [.slice V3 (verts comp).length c3] rfl rfl ?c1 ?c2 ?c3 ?c4 ?c5 ?_
                 case c1 => exact cell_one_new _ _ _
                 case c2 => simp [Value.oneCell']
                 case c3 => simp only [maxLen]; omega
                 case c4 => omega
                 case c5 => simp; omega
                 intro v' w7 hR7 hg7 _
                 obtain ⟨R2, cr2, hv2, hle2, _⟩ := Sl.of_own hR7
                 subst hv2))
            go_roundw
            case rel =>
              have hVI : ((verts comp).map vn) = (vertsI comp).map vi := by simp [vertsI, vn, vi]
              have hvl : (verts comp).length = (vertsI comp).length := by simp [vertsI]
              have hV7 : w7.ownsRow W.heap.size 3 1 (.slice V3 (vertsI comp).length c3) (vertsI comp).length ((vertsI comp).map vi) := by
                rw [← hvl, ← hVI]
                exact own_base ((hV3.alloc (.cells #[.slice V3 (verts comp).length c3] 36)).kept hg7 (own_ne hV3 hR6 (by decide))) (by omega)
              have hRw0 : RowsIn w6 W.heap.size m F ls := (hRows.below hb2 (Nat.le_refl _)).below hb6 (Nat.le_refl _)
              have hRw : RowsIn w7 W.heap.size m F ls := (hRw0.alloc (.cells #[.slice V3 (verts comp).length c3] 36)).kept hg7 (fun i hi => own_ne (hRw0 i hi) hR6 (by decide))
              refine ⟨k + 1, seen ||| comp, m + 1, R2, cr2, snocF F m (V3, c3), snocF ls m (vertsI comp), d ++ [comp], by go_num, by omega, rfl, or_lt hsl hcl, rfl, hle2, by omega, ?_, RowsIn.snoc (x := (V3, c3)) hRw hV7, Lib.hid (oinv_add HV.out HO.out hkn HSK.out hcl HE.out), Lib.hid ?_, Lib.hid (made_add (by omega) HM.out HO.out HSK.out hcl HE.out), ?_⟩
              · rw [map_snoc, ← hvl]; exact hR7
              · rw [List.range_succ, List.map_append, List.map_append, ← HL.out]
                congr 1
                · apply List.map_congr_left
                  intro i hi
                  have : i < m := by simpa using hi
                  simp [snocF]; omega
                · simp [snocF]
              · exact ((below_all (below_all hb hb2) hb6).alloc (by have := hb6.size; omega) _).grown hg7 (by simp; omega) (fun q hq => by have := (hR6.lt q hq).1; omega)
            case measure => simp [intOf]; omega
          · have hbe : ((fresh : Int) != 0) = true := by simp; exact hf0
            have hA3 := hA2.keep hb2 (Nat.lt_of_lt_of_le hgW hb.size)
            have hsz := hb.size
            have hsz2 := hb2.size
            have HF0 := Lib.hid hf0
            clear hf0
            go_wp2_with (go_at_call 48; refine (verts_any _ _ hfl (hT.below (below_all (below_all hbw hb) hb2) hT.1)).mono ?_; rintro e w6 ⟨V3, c3, rfl, hVc3, hV3, hb6⟩)
            have hA6 := hA3.keep hb6 (by omega)
            have hV6 := Sl.own hV3
            have HVM : Hid (∀ x ∈ verts fresh, x < 64) := Lib.hid (fun x hx => (mem_verts.1 hx).1)
            have HVL : Hid ((verts fresh).length ≤ 64) := Lib.hid (size_le fresh)
            obtain ⟨vl, hvl⟩ : ∃ vl, verts fresh = vl := ⟨_, rfl⟩
            rw [hvl] at hV6 HVM HVL
            have HVE := Lib.hid hvl
            rw [hvl]
            clear hvl hV3 hA3 hVc3
            have hvl64 := HVL.out
            go_loop [38, 11] (fun i x => ∃ q : Nat, i = .int .i64 q ∧ q ≤ vl.length ∧ x = .int .u64 (orAll (readAll es) (vl.take q) : Nat)) (fun i _ => vl.length - (intOf i).toNat)
            case atStart => exact ⟨0, rfl, Nat.zero_le _, rfl⟩
            case round =>
              obtain ⟨q, rfl, hq, rfl⟩ := hrel
              by_cases hql : q < vl.length
              · obtain ⟨ad, rfl, hcx⟩ := Nats.at hV6 hql
                have HT : Hid (orAll (readAll es) (vl.take (q + 1)) = orAll (readAll es) (vl.take q) ||| readAll es vl[q]) := Lib.hid (by rw [List.take_succ_eq_append_getElem hql, orAll_snoc])
                have hx64 := HVM.out vl[q] (List.getElem_mem _)
                have hol := orAll_lt HA.out (vl.take q)
                generalize vl[q] = x at hcx HT hx64
                have hcA := AdjAt.cell hA6 hx64
                have hox := u64_or_nat _ _ hol (HA.out x)
                generalize orAll (readAll es) (vl.take q) = o at HT hol hox ⊢
                generalize readAll es x = ax at HT hcA hox
                go_wp2
                go_round
                case rel => exact ⟨q + 1, by go_num, by omega, by rw [HT.out]⟩
                case measure => simp [intOf]; omega
              · obtain rfl : q = vl.length := by omega
                rw [List.take_length]
                have HI2 := cinv_step HV.out hcl hfl HI.out
                rw [HVE.out] at HI2
                have hol := orAll_lt HA.out vl
                have HI2 := Lib.hid HI2
                generalize orAll (readAll es) vl = o at HI2 hol ⊢
                have hor := u64_or_nat comp o hcl hol
                have han := u64_andNot_nat o comp hol hcl
                have hanl : andn o comp < 18446744073709551616 := by unfold andn; exact and_lt _ hol
                have hoc := or_lt hcl hol
                have HME : Hid (2 * (64 - size (comp ||| o)) + (if andn o comp = 0 then 0 else 1) < 2 * (64 - size comp) + 1) := Lib.hid (by
                  by_cases e : andn o comp = 0
                  · rw [if_pos e]
                    have : size comp ≤ size (comp ||| o) := by
                      unfold size verts
                      exact Go.Jt.len_mono (fun x _ h => by rw [Nat.testBit_or, h]; rfl)
                    omega
                  · rw [if_neg e]
                    have := size_grows (a := comp) (b := andn o comp) (c := comp ||| o) e hanl (fun j h => ((fresh_bit hol hcl).1 h).2) (fun j => by
                      rw [Nat.testBit_or, Bool.or_eq_true, fresh_bit hol hcl]
                      constructor
                      · rintro (h | h)
                        · exact .inl h
                        · by_cases h2 : comp.testBit j = true
                          · exact .inl h2
                          · exact .inr ⟨h, by simpa using h2⟩
                      · rintro (h | h)
                        · exact .inl h
                        · exact .inr h.1)
                    have h3 := size_le (comp ||| o)
                    omega)
                clear HI
                go_wp2
                go_roundw
                case rel => exact ⟨andn o comp, comp ||| o, rfl, rfl, hanl, hoc, HI2, below_all hb2 hb6⟩
                case measure =>
                  have h1 := HME.out
                  have h2 := HF0.out
                  unfold andn at h1
                  simp only [intOf] at *
                  simp [h2]
                  exact h1
      · have HSK := Lib.hid hsk
        clear hsk
        go_wp2_with (go_at_call 46; refine (has_any _ _ _ hsl (by omega)).mono ?_; rintro e w' ⟨he, rfl⟩; rw [HSK.out] at he; subst he)
        go_roundw
        case rel => exact ⟨k + 1, seen, m, R, cr, F, ls, d, by go_num, by omega, rfl, hsl, rfl, hmc, by omega, hR, hRows, Lib.hid (oinv_skip HO.out HSK.out), HL, Lib.hid (made_skip (by omega) HM.out HO.out HSK.out), hb⟩
        case measure => simp [intOf]; omega
    · obtain rfl : k = n := by omega
      have hkb : decide ((k : Int) < (k : Int)) = false := by simp
      go_wp2
      go_ret2
      have hLs := listsC_of_rows hR hRows
      refine ⟨(List.range m).map ls, R, cr, by rw [HL.out]; exact HM.out, ?_, hLs, by simpa using hmk, ?_, below_all hbw hb⟩
      · rw [List.length_map, List.length_range]
        rfl
      · intro l hl
        rw [HL.out] at hl
        obtain ⟨s, _, rfl⟩ := List.mem_map.1 hl
        show ((verts s).map _).length ≤ 64
        rw [List.length_map]
        exact size_le s
theorem components_made (n : Nat) (E : Option Addr) (c : Nat) (es : List (Int × Int)) (w : World) (hE : EdgesAt w E es) (hl : es.length ≤ 1000000) (hv : valid n es) (hT : Tab w) :
    Calls Tryz.prog 21 #[.agg #[.int .i64 n, .slice E es.length c]] w (RetMadeL n es w) := by
  refine (components_caps n E c es w hE hl hv hT).mono ?_
  rintro e w' ⟨ls, V, d, h1, h2, h3, h4, h5, h6⟩
  exact ⟨ls, V, d, h1, h2, h3.lists, h4, h5, h6⟩
end Go.Proofs.Tg.Gx
end
section
/- A round: the blocks; the products within them are known from then on. -/
namespace Go.Proofs.Tg
open Go.RowKit Go.Gr Go.Sp Go.Ev Go.Mo Go.Jt
set_option maxHeartbeats 4000000
set_option maxRecDepth 100000
theorem grown_of_below {w w' : World} (h : Below w.heap.size w w') (r : Option Nat) : w.grownBy w' r := ⟨h.os, h.tape, h.output, h.size, fun k hk _ => h.block k hk⟩
theorem Tab.turn {w w' : World} {mb : Nat} (h : Tab w) (hm : MapB w mb) (hg : w.grownBy w' (some mb)) : Tab w' := ⟨Nat.lt_of_lt_of_le h.1 hg.size, fun j hj => cell_turn hm hg (h.2 j hj)⟩
theorem listsC_keep {w w' : World} {V : Option Addr} {ls : List (List Int)} (h : Gx.ListsC w V ls) (hb : Below w.heap.size w w') : Gx.ListsC w' V ls := by
  obtain ⟨f, hs, hr, hc⟩ := h
  exact ⟨f, hs.keep hb, fun i hi => (hr i hi).keep hb, hc⟩
theorem listsC_turn {w w' : World} {b : Nat} {V : Option Addr} {ls : List (List Int)} (h : Gx.ListsC w V ls) (hm : MapB w b) (hg : w.grownBy w' (some b)) : Gx.ListsC w' V ls := by
  obtain ⟨f, hs, hr, hc⟩ := h
  exact ⟨f, hs.turn hm hg, fun i hi => (hr i hi).turn hm hg, hc⟩
theorem listsC_at {w : World} {V : Option Addr} {ls : List (List Int)} (h : Gx.ListsC w V ls) {k : Nat} (hk : k < ls.length) : ∃ ad A c, V = some ad ∧ w.cell? (ad.add k) = some (.slice A ls[k].length c) ∧ Ints w A ls[k] ∧ ls[k].length ≤ c := by
  obtain ⟨f, hs, hr, hc⟩ := h
  obtain ⟨ad, rfl, hcell⟩ := Sl.at1 hs hk
  have e : ls.getD k [] = ls[k] := by simp [hk]
  have hi := hr k hk
  have hcp := hc k hk
  rw [e] at hi hcp
  refine ⟨ad, (f k).1, (f k).2, rfl, ?_, hi, hcp⟩
  rw [hcell]
  simp [hk]
theorem comps_len {b S : List (List Int)} (hb : b.length ≤ 64) : (comps b S).length ≤ 64 := by
  have hv := ed_valid b S hb
  have h := (made_r (comps_made hv)).length (conn_eqv hv)
  rw [h]
  have := (reps_nodup (Conn (Rel (edTo b S b.length))) b.length).length_le_of_subset (l₂ := List.range b.length) (fun x hx => (List.mem_filter.1 hx).1)
  rw [List.length_range] at this
  omega
def RetRound (g mb : Nat) (B : Option Addr) (cb n cnt : Nat) (b S : List (List Int)) (w : World) (e : Ending) (w' : World) : Prop :=
  ∃ R c, e = .returned (.tuple #[.slice R (comps b S).length c, .int .i64 0]) ∧ Gx.ListsC w' R (comps b S) ∧ (∃ S', ItAt w' g mb B cb b n (cnt + 270000) S' ∧ ∀ v, v ∈ S' ↔ v ∈ S ∨ Blks b (comps b S) v) ∧ w.grownBy w' (some mb)
/-- Where the adding stands: the blocks' memory and the state; the set holds just what P says. -/
structure Add (g mb : Nat) (B : Option Addr) (cb n : Nat) (b : List (List Int)) (R : Option Addr) (ls : List (List Int)) (w : World) (wr : World) (cnt : Nat) (P : List Int → Prop) : Prop where
  blk : Blk wr g 121 #[.slice B b.length cb, .map (some mb)]
  lists : Lists wr B b
  blocks : Gx.ListsC wr R ls
  set : ∃ S', SetM wr mb cnt n S' ∧ ∀ v, v ∈ S' ↔ P v
  grown : w.grownBy wr (some mb)
theorem Add.iff {g mb : Nat} {B : Option Addr} {cb n : Nat} {b : List (List Int)} {R : Option Addr} {ls : List (List Int)} {w wr : World} {cnt cnt' : Nat} {P Q : List Int → Prop} (h : Add g mb B cb n b R ls w wr cnt P) (hc : cnt ≤ cnt') (hp : ∀ v, P v ↔ Q v) : Add g mb B cb n b R ls w wr cnt' Q := by
  obtain ⟨S', h1, h2⟩ := h.set
  exact ⟨h.blk, h.lists, h.blocks, ⟨S', h1.mono hc, fun v => (h2 v).trans (hp v)⟩, h.grown⟩
theorem Add.put {g mb : Nat} {B : Option Addr} {cb n : Nat} {b : List (List Int)} {R : Option Addr} {ls : List (List Int)} {w wr : World} {cnt : Nat} {P : List Int → Prop} (h : Add g mb B cb n b R ls w wr cnt P) {w2 w3 : World} (hb : Below wr.heap.size wr w2)
    {v : List Int} {S' S3 : List (List Int)} (hS : SetM w2 mb cnt n S') (hP : ∀ v, v ∈ S' ↔ P v) (hS3 : SetM w3 mb (cnt + 1) n S3) (h3 : ∀ u, u ∈ S3 ↔ u = v ∨ u ∈ S') (hg : w2.grownBy w3 (some mb)) : Add g mb B cb n b R ls w w3 (cnt + 1) (fun u => P u ∨ u = v) :=
  ⟨(h.blk.keep hb h.blk.lt).turn hS.mapB hg, (h.lists.keep hb).turn hS.mapB hg, listsC_turn (listsC_keep h.blocks hb) hS.mapB hg, ⟨S3, hS3, fun u => by rw [h3, hP]; exact Or.comm⟩, h.grown.trans ((grown_of_below hb _).trans hg)⟩
theorem round_any (g mb : Nat) (B : Option Addr) (cb n cnt : Nat) (b S : List (List Int)) (w : World) (hI : ItAt w g mb B cb b n cnt S) (hn : n ≤ 6) (hbl : b.length ≤ 64) (hdb : ∀ m ∈ b, domK n 24 m) (hcnt : cnt ≤ 100000000) (hT : Tab w) :
    Calls Tryz.prog 67 #[.pointer (some ⟨g, 0, none⟩)] w (RetRound g mb B cb n cnt b S w) := by
  have HGR : Hid (Calls Tryz.prog 39 #[.pointer (some ⟨g, 0, none⟩)] w fun e w' => ∃ F d, e = .returned (.tuple #[.agg #[.int .i64 b.length, .slice F (edTo b S b.length).length d], .int .i64 0]) ∧ Gx.EdgesAt w' F (edTo b S b.length) ∧ Below w.heap.size w w') :=
    Lib.hid ((igraph_any g mb B cb n cnt b S w hI hn hbl hdb hT).mono fun e w' ⟨F, d, h1, h2, h3⟩ => ⟨F, d, h1, Sl.own h2, h3⟩)
  have hv := ed_valid b S hbl
  have HCM : Hid (∀ W F d, Gx.EdgesAt W F (edTo b S b.length) → Tab W → Calls Tryz.prog 21 #[.agg #[.int .i64 b.length, .slice F (edTo b S b.length).length d]] W fun e w' => ∃ V c, e = .returned (.tuple #[.slice V (comps b S).length c, .int .i64 0]) ∧ Gx.ListsC w' V (comps b S) ∧ (∀ l ∈ comps b S, l.length ≤ 64) ∧ Below W.heap.size W w') := Lib.hid (fun W F d hF hTW => by
    have hlen := edTo_len b S b.length
    have : b.length * b.length ≤ 64 * 64 := Nat.mul_le_mul hbl hbl
    refine (Gx.components_caps b.length F d _ W hF (by omega) hv hTW).mono ?_
    rintro e w' ⟨ls, V, c, h1, h2, h3, h4, h5, h6⟩
    obtain rfl := MadeL.same h1 (comps_made hv)
    exact ⟨V, c, h2, h3, h5, h6⟩)
  have HLT := Lib.hid (comps_lt hv)
  have HLN := Lib.hid (comps_len (S := S) hbl)
  have HDB := Lib.hid hdb
  have HI := Lib.hid hI
  have HEL : Hid ((edTo b S b.length).length ≤ 4096) := Lib.hid (by
    have hlen := edTo_len b S b.length
    have : b.length * b.length ≤ 64 * 64 := Nat.mul_le_mul hbl hbl
    omega)
  clear hdb hI hv
  unfold RetRound
  generalize comps b S = ls at *
  generalize edTo b S b.length = es at *
  go_enter Tryz.func67, Tryz.ntmps67
  go_upto_region 2 with (go_at_call 39; refine HGR.out.mono ?_; rintro e w1 ⟨F, d, rfl, hF, hb1⟩)
  have hal := Below.alloc (Below.refl w1.heap.size w1) (Nat.le_refl _) (.cells #[.int .i64 b.length, .slice F es.length d] 40)
  have HC2 := Lib.hid (HCM.out _ F d (hF.keep hal) (hT.below (below_all hb1 hal) hT.1))
  have hwa := below_all hb1 hal
  clear HCM HGR hF
  have hx1 := cell_alloc (show w1.cell? ⟨g, 1, none⟩ = _ from (HI.out.keep hb1).blk.cell 1) (.cells #[.int .i64 b.length, .slice F es.length d] 40)
  have hx4 := (Blk.new w1 40 #[.int .i64 b.length, .slice F es.length d]).two
  obtain ⟨y0, y1, _, _⟩ := hx4
  generalize w1.alloc (.cells #[.int .i64 b.length, .slice F es.length d] 40) = X at *
  go_upto_region 7 with (go_at_call 21; refine HC2.out.mono ?_; rintro e w2 ⟨R, cr, rfl, hR, hl64, hb2⟩)
  have hb2w := below_all hwa hb2
  have hI2 := HI.out.keep hb2w
  have HADD : Add g mb B cb n b R ls w w2 (cnt + 4096 * 0) (fun v => v ∈ S ∨ Blks b (ls.take 0) v) :=
    ⟨hI2.blk, hI2.lists, hR, ⟨S, hI2.set, fun v => ⟨.inl, fun h => h.elim id (fun h => absurd h blks_take_zero)⟩⟩, grown_of_below hb2w _⟩
  have HL64 := Lib.hid hl64
  clear hb2w hI2 hR hb2 hwa hal y0 y1 hx1 HC2 hl64 hb1
  go_wp2
  go_loopw [31] (fun s31 wr => ∃ i : Nat, s31 = .int .i64 i ∧ i ≤ ls.length ∧ Add g mb B cb n b R ls w wr (cnt + 4096 * i) (fun v => v ∈ S ∨ Blks b (ls.take i) v)) (fun s31 _ => ls.length - (intOf s31).toNat)
  case atStart => exact ⟨0, rfl, Nat.zero_le _, HADD⟩
  case round =>
    clear HADD
    obtain ⟨wo, rfl⟩ : ∃ wo : World, wo = wr := ⟨_, rfl⟩
    obtain ⟨i, rfl, hi, hA⟩ := hrel
    have hi64 : ls.length ≤ 64 := HLN.out
    by_cases hlt : i < ls.length
    · obtain ⟨rd, L, cl, rfl, hc, hL, hcap⟩ := listsC_at hA.blocks hlt
      have HBS : Hid (∀ v, (v ∈ S ∨ Blks b (ls.take (i + 1)) v) ↔ (v ∈ S ∨ Blks b (ls.take i) v) ∨ InB b ls[i] ls[i].length v) := Lib.hid (fun v => by rw [blks_succ hlt]; exact or_assoc.symm)
      have hl := HL64.out ls[i] (List.getElem_mem _)
      have HLX := Lib.hid (HLT.out ls[i] (List.getElem_mem _))
      obtain ⟨Q, hQ⟩ : ∃ Q : List Int → Prop, ∀ v, Q v ↔ (v ∈ S ∨ Blks b (ls.take i) v) := ⟨_, fun v => Iff.rfl⟩
      have hA0 : Add g mb B cb n b (some rd) ls w wo (cnt + 4096 * i + 64 * 0) (fun v => Q v ∨ InB b ls[i] 0 v) := hA.iff (by omega) (fun v => by rw [hQ]; exact ⟨.inl, fun h => h.elim id (fun h => absurd h inB_zero)⟩)
      have HQ := Lib.hid hQ
      generalize ls[i] = l at *
      clear hA hQ
      go_wp2
      go_loopw [37] (fun s37 wr => ∃ q : Nat, s37 = .int .i64 q ∧ q ≤ l.length ∧ Add g mb B cb n b (some rd) ls w wr (cnt + 4096 * i + 64 * q) (fun v => Q v ∨ InB b l q v) ∧ Ints wr L l) (fun s37 _ => l.length - (intOf s37).toNat)
      case atStart => exact ⟨0, rfl, Nat.zero_le _, hA0, hL⟩
      case round =>
        clear hA0 hL
        obtain ⟨wp, rfl⟩ : ∃ wp : World, wp = wr := ⟨_, rfl⟩
        obtain ⟨q, rfl, hq, hA, hL⟩ := hrel
        by_cases hql : q < l.length
        · obtain ⟨ld, rfl, hcq⟩ := Ints.at hL hql
          obtain ⟨x, hx, hxl⟩ := HLX.out l[q] (List.getElem_mem _)
          rw [hx] at hcq
          have p0 : (0 : Int) ≤ (q : Int) := by omega
          have p1 : (q : Int) ≤ (l.length : Int) := by omega
          have p2 : (q : Int) < (l.length : Int) := by omega
          have p3 : ((q : Int)).toNat = q := by omega
          have p4 : ¬ cl = q := by omega
          have HGX : Hid (b.getD (l.getD q 0).toNat [] = b[x]) := Lib.hid (by
            rw [show l.getD q 0 = (x : Int) by simp [hql, hx], Int.toNat_natCast]; simp [hxl])
          have HBQ : Hid (∀ v, ((Q v ∨ InB b l q v) ∨ InR b l q l.length v) ↔ (Q v ∨ InB b l (q + 1) v)) := Lib.hid (fun v => by rw [inB_succ]; exact or_assoc)
          have hA0 : Add g mb B cb n b (some rd) ls w wp (cnt + 4096 * i + 64 * q + 0) (fun v => (Q v ∨ InB b l q v) ∨ InR b l q (q + 0) v) := hA.iff (by omega) (fun v => ⟨.inl, fun h => h.elim id (fun h => absurd h inR_low)⟩)
          have hdx := HDB.out b[x] (List.getElem_mem _)
          clear hA
          go_upto_region 14 with (fail)
          go_loopw [46] (fun s46 wr => ∃ r : Nat, s46 = .int .i64 r ∧ r ≤ l.length - q ∧ Add g mb B cb n b (some rd) ls w wr (cnt + 4096 * i + 64 * q + r) (fun v => (Q v ∨ InB b l q v) ∨ InR b l q (q + r) v) ∧ Ints wr (some ld) l) (fun s46 _ => l.length - q - (intOf s46).toNat)
          case atStart => exact ⟨0, rfl, Nat.zero_le _, hA0, hL⟩
          case round =>
            clear hA0 hL hcq
            obtain ⟨wq, rfl⟩ : ∃ wq : World, wq = wr := ⟨_, rfl⟩
            obtain ⟨r, rfl, hr, hA, hL⟩ := hrel
            by_cases hrl : r < l.length - q
            · have hqr : q + r < l.length := by omega
              obtain ⟨ld2, he, hcr⟩ := Ints.at hL hqr
              injection he with he
              subst he
              obtain ⟨y, hy, hyl⟩ := HLX.out l[q + r] (List.getElem_mem _)
              rw [hy, ← add_add] at hcr
              have HIR : Hid (∀ v, ((Q v ∨ InB b l q v) ∨ InR b l q (q + r) v) ∨ v = addL b[x] b[y] ↔ ((Q v ∨ InB b l q v) ∨ InR b l q (q + (r + 1)) v)) := Lib.hid (fun v => by
                have h := inR_succ (b := b) (v := v) (show q ≤ q + r by omega) hqr
                rw [HGX.out, show l.getD (q + r) 0 = (y : Int) by simp [hqr, hy], Int.toNat_natCast, show b.getD y [] = b[y] by simp [hyl]] at h
                rw [show q + (r + 1) = q + r + 1 by omega, h]
                exact or_assoc)
              obtain ⟨bd, A1, c1, rfl, d2, hI1⟩ := hA.lists.at hxl
              obtain ⟨bd2, A2, c2, he, d3, hI2⟩ := hA.lists.at hyl
              injection he with he
              subst he
              have hdy := HDB.out b[y] (List.getElem_mem _)
              have d0 : wq.cell? ⟨g, 0, none⟩ = some (.slice (some bd) b.length cb) := hA.blk.cell 0
              have d1 : wq.cell? ⟨g, 1, none⟩ = some (.map (some mb)) := hA.blk.cell 1
              obtain ⟨S', hS, hP⟩ := hA.set
              have hmx := hS.mapB.lt
              have hdom' : domK n 48 (addL b[x] b[y]) := addL_dom hdx hdy
              have HKO : Hid (∀ W, Below wq.heap.size wq W → Calls Tryz.prog 68 #[.slice A1 b[x].length c1, .slice A2 b[y].length c2] W fun e w' => e = .returned (keyV (addL b[x] b[y])) ∧ Below wq.heap.size wq w') := Lib.hid (fun W h =>
                (product_any A1 A2 c1 c2 n b[x] b[y] W (hI1.keep h) (hI2.keep h) hdx hdy hn).mono fun e w' h2 => ⟨h2.1, below_all h h2.2⟩)
              have hbe : Below wq.heap.size wq wq.drew := (Below.refl _ _).drew
              have px0 : (0 : Int) ≤ (x : Int) := by omega
              have px1 : (x : Int) < (b.length : Int) := by omega
              have px3 : ((x : Int)).toNat = x := by omega
              have py0 : (0 : Int) ≤ (y : Int) := by omega
              have py1 : (y : Int) < (b.length : Int) := by omega
              have py3 : ((y : Int)).toNat = y := by omega
              have hHA := Lib.hid hA
              have HL := Lib.hid hL
              have hx := Lib.hid hx
              have hy := Lib.hid hy
              clear hA hL hI1 hI2 HGX hdx hdy
              generalize b[y] = by' at *
              generalize b[x] = bx at *
              generalize addL bx by' = xy at *
              go_upto_region 16 with (fail)
              go_region_held3 (fun w' => w'.cell? ⟨g, 1, none⟩ = some (.map (some mb)) ∧ w'.cell? ⟨g, 0, none⟩ = some (.slice (some bd) b.length cb) ∧ w'.cell? (bd.add x) = some (.slice A1 bx.length c1) ∧ w'.cell? (bd.add y) = some (.slice A2 by'.length c2))
                (first | exact ⟨r1, r0, r2, r3⟩ | exact ⟨keep_cell hbe d1, keep_cell hbe d0, keep_cell hbe d2, keep_cell hbe d3⟩)
                (first
                  | (go_at_call 68; with_reducible refine Calls.mono (HKO.out _ (by assumption)) ?_; rintro e w4 ⟨rfl, hb4⟩
                     have hbe := hb4
                     have hm4 := hS.below hb4 hmx
                     obtain ⟨w5, hrun, hS5, hg5⟩ := hm4.put hn (by omega) hdom'
                     have r0 := cell_turn hm4.mapB hg5 (keep_cell hb4 d0)
                     have r1 := cell_turn hm4.mapB hg5 (keep_cell hb4 d1)
                     have r2 := cell_turn hm4.mapB hg5 (keep_cell hb4 d2)
                     have r3 := cell_turn hm4.mapB hg5 (keep_cell hb4 d3)))
              all_goals
                go_wp2_with (fail)
                go_roundw
                case rel =>
                  refine ⟨r + 1, by go_num, by omega, ?_, (HL.out.keep hb4).turn hm4.mapB hg5⟩
                  exact (hHA.out.put hb4 hm4 hP hS5 (fun u => List.mem_cons) hg5).iff (by omega) HIR.out
                case measure => simp [intOf]; omega
            · obtain rfl : r = l.length - q := by omega
              have dr : decide (((l.length - q : Nat) : Int) < ((l.length - q : Nat) : Int)) = false := by simp
              have hA' : Add g mb B cb n b (some rd) ls w wq (cnt + 4096 * i + 64 * (q + 1)) (fun v => Q v ∨ InB b l (q + 1) v) := hA.iff (by omega) (fun v => by rw [show q + (l.length - q) = l.length by omega]; exact HBQ.out v)
              clear hA
              go_wp2
              go_roundw
              case rel => exact ⟨q + 1, by go_num, by omega, hA', hL⟩
              case measure => simp [intOf]; omega
        · obtain rfl : q = l.length := by omega
          have dk : decide ((l.length : Int) < (l.length : Int)) = false := by simp
          go_wp2
          go_roundw
          case rel => exact ⟨i + 1, by go_num, by omega, hA.iff (by omega) (fun v => by rw [HQ.out]; exact (HBS.out v).symm)⟩
          case measure => simp [intOf]; omega
    · obtain rfl : i = ls.length := by omega
      have dk : decide ((ls.length : Int) < (ls.length : Int)) = false := by simp
      rw [List.take_length] at hA
      go_wp2
      go_ret2
      obtain ⟨S', h1, h2⟩ := hA.set
      have := HLN.out
      exact ⟨R, cr, rfl, hA.blocks, ⟨S', ⟨hA.blk, hA.lists, h1.mono (by omega)⟩, h2⟩, hA.grown⟩
end Go.Proofs.Tg
end
