/- Parts of the proof: XR3, XR4, LS2, WN1, WN2. -/
import Derived.Test.YticpnfjdooileaaGreatDoorMCPP7
import Derived.Test.YticpnfjdooileaaGreatDoorMCPP9
import Derived.Test.YticpnfjdooileaaGreatDoorMCPP12
import Derived.Test.YticpnfjdooileaaGreatDoorMCPP14
import Derived.Test.YticpnfjdooileaaGreatDoorMCPP19
section
/- The reference's reading of one polynomial and of all. -/
namespace Go.Proofs.Tg
open Go.RowKit Go.Gr Go.Mo Go.Qn
set_option maxHeartbeats 4000000
set_option maxRecDepth 100000
def RetReadP (v : Int) (tv : List TV) (w : World) (e : Ending) (w' : World) : Prop :=
  Below w.heap.size w w' ∧ ((¬ VldP v (tv.map TV.pl) ∧ e = .returned (.tuple #[.agg #[.int .i64 0, .slice none 0 0], .bool false])) ∨
    (VldP v (tv.map TV.pl) ∧ ∃ (O : Option Addr) (co : Nat) (ts : List RT), e = .returned (.tuple #[.agg #[.int .i64 v, .slice O ts.length co], .bool true]) ∧ w'.ownsRow w.heap.size 84 5 (.slice O ts.length co) ts.length (ts.flatMap RT.cells) ∧ ts.map RT.core = tv.map TV.core))
theorem core_get {ts : List RT} {tv : List TV} (h : ts.map RT.core = tv.map TV.core) {i : Nat} (hi : i < ts.length) (hj : i < tv.length) : ts[i].adr = tv[i].adr ∧ ts[i].cap = tv[i].cap ∧ ts[i].exps = tv[i].exps := by
  have h1 : (ts.map RT.core)[i]? = (tv.map TV.core)[i]? := by rw [h]
  rw [List.getElem?_map, List.getElem?_map, List.getElem?_eq_getElem hi, List.getElem?_eq_getElem hj] at h1
  simp only [Option.map_some, RT.core, TV.core, Option.some.injEq, Prod.mk.injEq] at h1
  exact h1
theorem core_len {ts : List RT} {tv : List TV} (h : ts.map RT.core = tv.map TV.core) : ts.length = tv.length := by
  have := congrArg List.length h
  simpa using this
theorem core_ints {w : World} {ts : List RT} {tv : List TV} (h : ts.map RT.core = tv.map TV.core) (hA : ∀ t ∈ tv, Ints w t.adr t.exps) : ∀ t ∈ ts, Ints w t.adr t.exps := by
  intro t ht
  obtain ⟨i, hi, rfl⟩ := List.getElem_of_mem ht
  have hj : i < tv.length := by rw [← core_len h]; exact hi
  obtain ⟨h1, _, h2⟩ := core_get h hi hj
  rw [h1, h2]
  exact hA _ (List.getElem_mem _)
theorem readP_any (v : Int) (T : Option Addr) (cT : Nat) (tv : List TV) (w : World) (hA : TermsAt w T tv) (hn : tv.length ≤ 4096) (hs : ∀ t ∈ tv, t.coef.size ≤ 8 ∧ t.exps.length ≤ 64) :
    Calls Tryz.prog 41 #[.agg #[.int .i64 v, .slice T tv.length cT]] w (RetReadP v tv w) := by
  have HR : Hid (∀ W, Below w.heap.size w W → Calls Tryz.prog 52 #[.agg #[.int .i64 v, .slice T tv.length cT]] W (RetRead6 v tv W)) := Lib.hid (fun W h => read6_any v T cT tv W (hA.keep h) hn hs)
  have HS := Lib.hid hs
  have HA := Lib.hid hA
  clear hs hA
  obtain ⟨W, hW⟩ : ∃ W, (w.alloc (.cells #[.int .i64 v, .slice T tv.length cT] 36)).alloc (.cells #[.int .i64 0, .slice none 0 0] 66) = W := ⟨_, rfl⟩
  have B1 : Blk W w.heap.size 36 #[.int .i64 v, .slice T tv.length cT] := by rw [← hW]; exact (Blk.new _ _ _).alloc _
  have B2 : Blk W (w.heap.size + 1) 66 #[.int .i64 0, .slice none 0 0] := by
    rw [← hW]; have := Blk.new (w.alloc (.cells #[.int .i64 v, .slice T tv.length cT] 36)) 66 #[.int .i64 0, .slice none 0 0]
    simpa using this
  have hbW : Below w.heap.size w W := by rw [← hW]; exact ((Below.refl _ _).alloc (Nat.le_refl _) _).alloc (by simp) _
  have hWs : W.heap.size = w.heap.size + 2 := by rw [← hW]; simp
  have HWW := Lib.hid hW
  clear hW
  obtain ⟨a0, a1, _, _⟩ := B1.two
  have hd : decide ((4096 : Int) < (tv.length : Int)) = false := decide_eq_false (by omega)
  go_enter Tryz.func41, Tryz.ntmps41
  go_upto_region 1 with (fail)
  rw [HWW.out]
  go_wp2_with (fail)
  refine (HR.out _ hbW).mono ?_
  rintro e w1 ⟨hb1, ⟨hno, rfl⟩ | ⟨hwf, O, co, ts, rfl, hown, hcore⟩⟩
  · have HNO : Hid (¬ VldP v (tv.map TV.pl)) := Lib.hid (fun h => hno h.2.1)
    clear hno
    have C2 := B2.keep hb1 B2.lt
    have hz := hb1.size
    go_upto_region 4 with (fail)
    obtain ⟨W1, hW1⟩ : ∃ W1, w1.alloc (.cells #[.int .i64 0, .slice none 0 0] 66) = W1 := ⟨_, rfl⟩
    have D2 : Blk W1 (w.heap.size + 1) 66 #[.int .i64 0, .slice none 0 0] := by rw [← hW1]; exact C2.alloc _
    have hbD : Below w.heap.size w W1 := by rw [← hW1]; exact (below_all hbW hb1).alloc (by omega) _
    try rw [hW1]
    clear hW1 C2
    obtain ⟨d0, d1, d2, d3⟩ := D2.two
    go_wp2
    refine bodyPost_ret (v := .tuple #[.agg #[.int .i64 0, .slice none 0 0], .bool false]) (by simp [results, Tryz.results41, go_sem, d0, d1]) rfl ⟨?_, .inl ⟨HNO.out, rfl⟩⟩
    exact below_far (below_far hbD (by omega) _ _) (by omega) _ _
  · have HWF := Lib.hid hwf
    have HC := Lib.hid hcore
    have htl : ts.length ≤ 4096 := by rw [core_len hcore]; exact hn
    clear hwf hcore
    have C2 := B2.keep hb1 B2.lt
    have hz := hb1.size
    go_upto_region 4 with (fail)
    obtain ⟨W1, hW1⟩ : ∃ W1, w1.alloc (.cells #[.int .i64 v, .slice O ts.length co] 66) = W1 := ⟨_, rfl⟩
    have D2 : Blk W1 (w.heap.size + 1) 66 #[.int .i64 0, .slice none 0 0] := by rw [← hW1]; exact C2.alloc _
    have D4 : Blk W1 w1.heap.size 66 #[.int .i64 v, .slice O ts.length co] := by rw [← hW1]; exact Blk.new _ _ _
    have hownD : W1.ownsRow w.heap.size 84 5 (.slice O ts.length co) ts.length (ts.flatMap RT.cells) := by rw [← hW1]; exact own_base (hown.alloc _) (by omega)
    have hbD : Below w.heap.size w W1 := by rw [← hW1]; exact (below_all hbW hb1).alloc (by omega) _
    try rw [hW1]
    clear hW1 C2 hown
    obtain ⟨d0, d1, d2, d3⟩ := D2.two
    obtain ⟨b0, b1, b2, b3⟩ := D4.two
    have o2 : some (w.heap.size + 1) ≠ (Value.slice O ts.length co).ownBlock := own_blk_ne hownD D2 (by decide)
    by_cases h0 : ts.length = 0
    · have hd0 : decide ((0 : Int) < (ts.length : Int)) = false := by simp [h0]
      have hd0' : decide (0 < ts.length) = false := by simp [h0]
      have HOK : Hid (VldP v (tv.map TV.pl)) := Lib.hid ⟨by simpa using hn, HWF.out, fun h => by
        rw [List.length_map, ← core_len HC.out] at h
        omega⟩
      clear h0
      go_wp2
      refine bodyPost_ret (v := .tuple #[.agg #[.int .i64 v, .slice O ts.length co], .bool true]) (by simp [results, Tryz.results41, go_sem, d0, d1]) rfl ⟨?_, .inr ⟨HOK.out, O, co, ts, rfl, ?_, HC.out⟩⟩
      · exact below_far (below_far hbD (by omega) _ _) (by omega) _ _
      · exact own_far (own_far hownD o2 _) o2 _
    · have hd0 : decide ((0 : Int) < (ts.length : Int)) = true := by simp; omega
      have hd0' : decide (0 < ts.length) = true := by simp; omega
      have hp : 0 < ts.length := by omega
      have hq : 0 < tv.length := by rw [← core_len HC.out]; exact hp
      have hRT : RTermsAt W1 O ts := ⟨Sl.own hownD, core_ints HC.out (HA.out.keep hbD).ints⟩
      obtain ⟨ad, rfl, hc4, hI⟩ := RTermsAt.at hRT hp
      have hex := (core_get HC.out hp hq).2.2
      have hl64 : ts[0].exps.length ≤ 64 := by rw [hex]; exact (HS.out _ (List.getElem_mem _)).2
      have HVI : Hid (VldP v (tv.map TV.pl) ↔ vldM ts[0].exps = true) := Lib.hid (by
        rw [hex]
        constructor
        · intro h
          have := h.2.2 (by simpa using hq)
          simpa [TV.pl] using this
        · intro h
          exact ⟨by simpa using hn, HWF.out, fun _ => by simpa [TV.pl] using h⟩)
      have hc4' : W1.cell? ⟨ad.block, ad.off + 4, none⟩ = some (.slice ts[0].adr ts[0].exps.length ts[0].cap) := by simpa [Addr.add] using hc4
      have HV := Lib.hid (fun (V : World) (h : Below W1.heap.size W1 V) => rvalid_any ts[0].adr ts[0].cap ts[0].exps V (hI.keep h) (by omega))
      clear hRT hc4 hI hex h0
      generalize ts[0].exps = el at *
      generalize ts[0].adr = E at *
      generalize ts[0].cap = ce at *
      cases hvm : vldM el with
      | true =>
        have HOK : Hid (VldP v (tv.map TV.pl)) := Lib.hid (HVI.out.2 hvm)
        rw [hvm] at HV
        clear hvm HVI
        go_wp2_with (go_at_call 53; refine (HV.out _ (Below.refl _ _)).mono ?_; rintro e w' ⟨rfl, rfl⟩)
        refine bodyPost_ret (v := .tuple #[.agg #[.int .i64 v, .slice (some ad) ts.length co], .bool true]) (by simp [results, Tryz.results41, go_sem, d0, d1]) rfl ⟨?_, .inr ⟨HOK.out, some ad, co, ts, rfl, ?_, HC.out⟩⟩
        · exact below_far (below_far hbD (by omega) _ _) (by omega) _ _
        · exact own_far (own_far hownD o2 _) o2 _
      | false =>
        have HNO : Hid (¬ VldP v (tv.map TV.pl)) := Lib.hid (fun h => by have := HVI.out.1 h; rw [hvm] at this; cases this)
        rw [hvm] at HV
        clear hvm HVI
        go_wp2_with (go_at_call 53; refine (HV.out _ (Below.refl _ _)).mono ?_; rintro e w' ⟨rfl, rfl⟩)
        refine bodyPost_ret (v := .tuple #[.agg #[.int .i64 0, .slice none 0 0], .bool false]) (by simp [results, Tryz.results41, go_sem, d0, d1]) rfl ⟨?_, .inl ⟨HNO.out, rfl⟩⟩
        exact below_far (below_far hbD (by omega) _ _) (by omega) _ _
end Go.Proofs.Tg
end
section
/- The reference's reading of all polynomials. -/
namespace Go.Proofs.Tg
open Go.RowKit Go.Gr Go.Mo Go.Qn
set_option maxHeartbeats 4000000
set_option maxRecDepth 100000
def RP.core (p : RP) : Int × List (Option Addr × Nat × List Int) := (p.vars, p.ts.map RT.core)
def PVal.core (p : PVal) : Int × List (Option Addr × Nat × List Int) := (p.vars, p.tv.map TV.core)
theorem key_core {rp : List RP} {ps : List PVal} (h : rp.map RP.core = ps.map PVal.core) : rp.map RP.key = ps.map PVal.key := by
  have e1 : rp.map RP.key = (rp.map RP.core).map (fun c => (c.1, c.2.map (fun x => x.2.2))) := by
    rw [List.map_map]
    refine List.map_congr_left fun p _ => ?_
    simp [RP.key, RP.core, RT.core, Function.comp_def]
  have e2 : ps.map PVal.key = (ps.map PVal.core).map (fun c => (c.1, c.2.map (fun x => x.2.2))) := by
    rw [List.map_map]
    refine List.map_congr_left fun p _ => ?_
    simp [PVal.key, PVal.core, TV.core, Function.comp_def]
  rw [e1, e2, h]
theorem core_terms {w : World} {rp : List RP} {ps : List PVal} (h : rp.map RP.core = ps.map PVal.core) (hA : ∀ p ∈ ps, ∀ t ∈ p.tv, Ints w t.adr t.exps) : ∀ p ∈ rp, ∀ t ∈ p.ts, Ints w t.adr t.exps := by
  intro p hp
  have h1 : RP.core p ∈ ps.map PVal.core := by rw [← h]; exact List.mem_map_of_mem hp
  obtain ⟨q, hq, he⟩ := List.mem_map.1 h1
  have h2 : p.ts.map RT.core = q.tv.map TV.core := (congrArg Prod.snd he).symm
  exact core_ints h2 (hA q hq)
theorem rp_info : (Tryz.prog.info? 66).map (fun i => (i.zero, i.size, i.bytes)) = some (some (.agg #[.int .i64 0, .slice none 0 0]), 2, 32) := by kernel_rfl
/-- What the reading of all has made after k polynomials. -/
structure AllSt (w : World) (ps : List PVal) (wr : World) (k : Nat) (O : Option Addr) (co : Nat) (rp : List RP) : Prop where
  core : rp.map RP.core = (ps.take k).map PVal.core
  ok : ∀ p ∈ ps.take k, p.ok
  below : Below w.heap.size w wr
  own : wr.ownsRow w.heap.size 66 2 (.slice O rp.length co) rp.length (rp.flatMap RP.cells)
  rows : ∀ p ∈ rp, wr.ownsRow w.heap.size 84 5 (.slice p.adr p.ts.length p.cap) p.ts.length (p.ts.flatMap RT.cells)
theorem readall_any (L : Option Addr) (c : Nat) (ps : List PVal) (w : World) (hL : PolysAt w L ps) (hn : ps.length ≤ 1000) (hs : ∀ p ∈ ps, p.few 8 8) :
    Calls Tryz.prog 30 #[.slice L ps.length c] w (RetAll ps w) := by
  have HS : Hid (∀ p ∈ ps, p.tv.length ≤ 4096 ∧ ∀ t ∈ p.tv, t.coef.size ≤ 8 ∧ t.exps.length ≤ 64) := Lib.hid (fun p hp => ⟨by have := (hs p hp).1; omega, fun t ht => by have := (hs p hp).2 t ht; omega⟩)
  clear hs
  obtain ⟨j0, hj, jz0, jz1, jz2⟩ := info_parts rp_info
  go_enter Tryz.func30, Tryz.ntmps30
  go_wp2
  go_loopw [4, 5] (fun s4 s5 wr => ∃ (k : Nat) (O : Option Addr) (co : Nat) (rp : List RP), s5 = .int .i64 k ∧ k ≤ ps.length ∧ s4 = .slice O rp.length co ∧ Hid (AllSt w ps wr k O co rp)) (fun _ s5 _ => ps.length - (intOf s5).toNat)
  case atStart => exact ⟨0, none, 0, [], rfl, Nat.zero_le _, rfl, Lib.hid ⟨rfl, by simp, Below.refl _ _, World.ownsRow_nil _ _ _ _, by simp⟩⟩
  case round =>
    obtain ⟨wo, rfl⟩ : ∃ wo : World, wo = wr := ⟨_, rfl⟩
    obtain ⟨k, O, co, rp, rfl, hk, rfl, HST⟩ := hrel
    have hbw := HST.out.below
    have hrl : rp.length ≤ 1000 := by
      have := congrArg List.length HST.out.core
      simp at this; omega
    have hz : w.heap.size ≤ wo.heap.size := hbw.size
    by_cases hkl : k < ps.length
    · obtain ⟨ad, rfl, hc0, hc1, hT⟩ := PolysAt.at (hL.keep hbw) hkl
      have HT1 : Hid (ps.take (k + 1) = ps.take k ++ [ps[k]]) := Lib.hid (List.take_succ_eq_append_getElem hkl)
      have HM : Hid (ps[k] ∈ ps) := Lib.hid (List.getElem_mem _)
      have hsk := HS.out ps[k] (List.getElem_mem _)
      generalize ps[k] = p at *
      obtain ⟨v, T, cT, tv⟩ := p
      simp only at *
      have HR := Lib.hid (fun V (h : Below wo.heap.size wo V) => readP_any v T cT tv V (hT.keep h) hsk.1 hsk.2)
      have htv : tv.length ≤ 4096 := hsk.1
      have q0 : (0 : Int) ≤ (k : Int) := by omega
      have q1 : (k : Int) < (ps.length : Int) := by omega
      have q3 : ((k : Int)).toNat = k := by omega
      clear hsk hT
      go_wp2_with (fail)
      refine (HR.out _ (Below.refl _ _)).mono ?_
      rintro e w1 ⟨hb1, ⟨hno, rfl⟩ | ⟨hok, O1, co1, ts, rfl, hown1, hcore⟩⟩
      · have HNO : Hid (¬ ∀ p ∈ ps, p.ok) := Lib.hid (fun h => hno (h _ HM.out))
        have hbE := below_all hbw hb1
        clear hno
        go_wp2
        go_ret2
        exact ⟨hbE.alloc hbE.size _, .inl ⟨HNO.out, rfl⟩⟩
      · have HC := Lib.hid hcore
        have HOK := Lib.hid hok
        have htl : ts.length ≤ 4096 := by rw [core_len hcore]; exact htv
        clear hcore hok hc0 hc1
        go_upto_region 6 with (fail)
        obtain ⟨W1, hW1⟩ : ∃ W1, w1.alloc (.cells #[.int .i64 v, .slice O1 ts.length co1] 66) = W1 := ⟨_, rfl⟩
        have D4 : Blk W1 w1.heap.size 66 #[.int .i64 v, .slice O1 ts.length co1] := by rw [← hW1]; exact Blk.new _ _ _
        have hbA : Below wo.heap.size wo W1 := by rw [← hW1]; exact hb1.alloc hb1.size _
        have hownD : W1.ownsRow w.heap.size 84 5 (.slice O1 ts.length co1) ts.length (ts.flatMap RT.cells) := by rw [← hW1]; exact own_base (hown1.alloc _) hz
        try rw [hW1]
        clear hW1 hb1 hown1
        have hbD := below_all hbw hbA
        have hown := own_below HST.out.own hbA (Nat.le_refl _)
        have HROW : Hid (∀ p ∈ rp, W1.ownsRow w.heap.size 84 5 (.slice p.adr p.ts.length p.cap) p.ts.length (p.ts.flatMap RT.cells)) := Lib.hid (fun p hp => own_below (HST.out.rows p hp) hbA (Nat.le_refl _))
        have hz1 := D4.lt
        have hz2 := hbA.size
        obtain ⟨b0, b1, b2, b3⟩ := D4.two
        have HNW := Lib.hid (cells_new W1 66 [.int .i64 v, .slice O1 ts.length co1])
        go_wp2_with (first
          | (at_builtin; refine wpList_append_own _ rfl _ _ 61 rfl w.heap.size 66 j0 _ 2 32 Tryz.underlying61 hj jz0 jz1 jz2 rfl (by decide) (.slice O rp.length co) rp.length _ rfl (hown.alloc _) ⟨W1.heap.size, 0, none⟩ 1 1 [.int .i64 v, .slice O1 ts.length co1] rfl rfl ?c1 ?c2 ?c3 ?c4 ?c5 ?_
             case c1 => exact HNW.out
             case c2 => simp [Value.oneCell']
             case c3 => simp only [maxLen]; omega
             case c4 => omega
             case c5 => simp; omega
             intro v' w5 hown' hgrow _))
        obtain ⟨A2, cs2, hv2, _, _⟩ := Sl.of_own hown'
        subst hv2
        go_roundw
        case rel =>
          refine ⟨k + 1, A2, cs2, rp ++ [⟨v, O1, co1, ts⟩], by go_num, by omega, by simp, Lib.hid ⟨?_, ?_, ?_, ?_, ?_⟩⟩
          · rw [HT1.out, List.map_append, List.map_append, HST.out.core]
            simp [RP.core, PVal.core, HC.out]
          · rw [HT1.out]
            intro p hp
            rcases List.mem_append.1 hp with h | h
            · exact HST.out.ok p h
            · rw [List.mem_singleton.1 h]; exact HOK.out
          · exact (hbD.alloc hbD.size _).grown hgrow (by simp; omega) (fun j hj => by have := (hown.lt j hj).1; omega)
          · rw [List.length_append, List.flatMap_append]; exact hown'
          · intro p hp
            rcases List.mem_append.1 hp with h | h
            · exact ((HROW.out p h).alloc _).kept hgrow (own_ne (HROW.out p h) hown (by decide))
            · rw [List.mem_singleton.1 h]
              exact (hownD.alloc _).kept hgrow (own_ne hownD hown (by decide))
        case measure => simp [intOf]; omega
    · obtain rfl : k = ps.length := by omega
      have HC := Lib.hid HST.out.core
      have HOK := Lib.hid HST.out.ok
      rw [List.take_length] at HC HOK
      have HP : Hid (RPolysAt wo O rp) := Lib.hid ⟨Sl.own HST.out.own, fun p hp => ⟨Sl.own (HST.out.rows p hp), core_terms HC.out (fun q hq t ht => ((hL.tms q hq).ints t ht).keep hbw) p hp⟩⟩
      go_wp2
      go_ret2
      exact ⟨hbw, .inr ⟨HOK.out, O, co, rp, rfl, HP.out, key_core HC.out⟩⟩
end Go.Proofs.Tg
end
section
/- The statement ParitySigns, walked. -/
namespace Go.Proofs.Tg
open Go.RowKit Go.Gr Go.Ev Go.Mo Go.Qn
theorem law_signs (L : Option Addr) (c : Nat) (ps : List PVal) (w : World) (hL : PolysAt w L ps) (hT : Tab w) :
    Calls Tryz.prog 3 #[.slice L ps.length c] w fun e w' => e = .returned (.bool true) ∧ Below w.heap.size w w' :=
  law_signs' L c ps w hL hT (fun hn hs W hW _ => readall_any L c ps W hW (by omega) hs)
end Go.Proofs.Tg
end
section
/- Short numbers of the program: the value of digits, the common divisor, reading. -/
namespace Go.Proofs.Tg
open Go.RowKit Go.Qn
set_option maxHeartbeats 2000000
set_option maxRecDepth 100000
theorem dval_any (s : ByteArray) (w : World) (hs : s.size ≤ 18) (hd : ∀ c ∈ s.data.toList, isD c = true) :
    Calls Tryz.prog 73 #[.string s] w fun e w' => e = .returned (.int .i64 (val s.data.toList : Nat)) ∧ w = w' := by
  have HD := Lib.hid hd
  have HL := Lib.hid (len_size s)
  clear hd
  go_enter Tryz.func73, Tryz.ntmps73
  go_wp2
  go_loop [3, 7] (fun s3 s7 => ∃ (k v : Nat), k ≤ s.size ∧ s7 = .int .i64 k ∧ s3 = .int .i64 v ∧ Hid (v = val (s.data.toList.take k) ∧ v < 10 ^ k)) (fun _ s7 => s.size - (intOf s7).toNat)
  case atStart => exact ⟨0, 0, Nat.zero_le _, rfl, rfl, Lib.hid ⟨rfl, by decide⟩⟩
  case round =>
    obtain ⟨k, v, hk, rfl, rfl, HV⟩ := hrel
    by_cases hlt : k < s.size
    · have hlt' : k < s.data.toList.length := by rw [HL.out]; exact hlt
      have hD := HD.out s.data.toList[k] (List.getElem_mem _)
      obtain ⟨d1, d2⟩ := isD_int hD
      have HX : Hid (val (s.data.toList.take (k + 1)) = 10 * v + (s[k].toNat - 48)) := Lib.hid (by rw [val_take _ _ hlt', HV.out.1]; rfl)
      have hv : v < 100000000000000000 := Nat.lt_of_lt_of_le HV.out.2 (by
        have : 10 ^ k ≤ 10 ^ 17 := Nat.pow_le_pow_right (by omega) (by omega)
        exact Nat.le_trans this (by decide))
      have HP : Hid (10 * v + (s[k].toNat - 48) < 10 ^ (k + 1)) := Lib.hid (by
        have h1 := HV.out.2
        rw [Nat.pow_succ]
        have : s[k].toNat ≤ 57 := by have h := d2; change ((s[k].toNat : Int)) ≤ 57 at h; omega
        omega)
      have e1 : (48 : Int) ≤ (s[k].toNat : Int) := d1
      have e2 : (s[k].toNat : Int) ≤ 57 := d2
      clear hD d1 d2
      go_wp2
      go_round
      case rel => exact ⟨k + 1, 10 * v + (s[k].toNat - 48), by omega, by go_num, by go_num, Lib.hid ⟨HX.out.symm, HP.out⟩⟩
      case measure => simp [intOf]; omega
    · obtain rfl : k = s.size := by omega
      have d0 : decide (s.size < s.size) = false := by simp
      go_wp2
      go_ret
      refine ⟨?_, rfl⟩
      have := HV.out.1
      rw [List.take_of_length_le (by rw [HL.out]; exact Nat.le_refl _)] at this
      rw [this]; rfl
theorem sgcd_any (a b : Nat) (w : World) (ha : a < 1000000000000000000) (hb : b < 1000000000000000000) :
    Calls Tryz.prog 74 #[.int .i64 a, .int .i64 b] w fun e w' => e = .returned (.int .i64 (Nat.gcd a b : Nat)) ∧ Below w.heap.size w w' := by
  go_enter Tryz.func74, Tryz.ntmps74
  go_wp2
  go_loopw [0, 1] (fun s0 s1 wr => ∃ (x y : Nat), s0 = .int .i64 x ∧ s1 = .int .i64 y ∧ x < 1000000000000000000 ∧ y < 1000000000000000000 ∧ Hid (Nat.gcd x y = Nat.gcd a b) ∧ Below w.heap.size w wr) (fun _ s1 _ => (intOf s1).toNat)
  case atStart => exact ⟨a, b, rfl, rfl, ha, hb, Lib.hid rfl, Below.refl _ _⟩
  case round =>
    obtain ⟨wo, rfl⟩ : ∃ wo : World, wo = wr := ⟨_, rfl⟩
    obtain ⟨x, y, rfl, rfl, hx, hy, HG, hbw⟩ := hrel
    by_cases h0 : y = 0
    · subst h0
      go_wp2
      go_ret
      refine ⟨?_, hbw⟩
      have := HG.out
      rw [Nat.gcd_zero_right] at this
      rw [this]; rfl
    · have hne : ((y : Int) != 0) = true := by simp [h0]
      have hne' : ((y : Int) == 0) = false := by simp [h0]
      have hm : Int.tmod (x : Int) (y : Int) = ((x % y : Nat) : Int) := by rw [Int.ofNat_tmod]
      have hlt : x % y < y := Nat.mod_lt _ (by omega)
      have hw : IntKind.i64.wrap (((x % y : Nat) : Int)) = ((x % y : Nat) : Int) := IntWalk.i64_in _ (by omega)
      have HG2 : Hid (Nat.gcd y (x % y) = Nat.gcd a b) := Lib.hid (by rw [← HG.out, Nat.gcd_comm y (x % y), ← Nat.gcd_rec, Nat.gcd_comm])
      generalize x % y = r at *
      go_wp2
      go_quiet (fail)
      go_wp2
      go_roundw
      case rel => exact ⟨y, r, rfl, rfl, hy, by omega, HG2, below_drewN hbw _⟩
      case measure => simp [intOf]; omega
end Go.Proofs.Tg
end
section
/- Short numbers of the program: reading. -/
namespace Go.Proofs.Tg
open Go.RowKit Go.Qn
set_option maxHeartbeats 4000000
set_option maxRecDepth 100000
def sg (b : Bool) (n : Nat) : Int := if b = true then -(n : Int) else n
def RetShort (l : List UInt8) (w : World) (e : Ending) (w' : World) : Prop :=
  Below w.heap.size w w' ∧ ((rd l = none ∧ e = .returned (.tuple #[.agg #[.int .i64 0, .int .i64 0], .bool false])) ∨
    (∃ b n d, rd l = some (b, n, d) ∧ n < 1000000000 ∧ d < 1000000000 ∧ e = .returned (.tuple #[.agg #[.int .i64 (sg b n), .int .i64 (d : Nat)], .bool true])))
theorem val9 (l : List UInt8) (h : numOk l = true) (hl : l.length ≤ 9) : val l < 1000000000 := by
  have h1 := val_lt l (numOk_iff.1 h).1
  have h2 : 10 ^ l.length ≤ 10 ^ 9 := Nat.pow_le_pow_right (by omega) hl
  exact Nat.lt_of_lt_of_le h1 (Nat.le_trans h2 (by decide))
theorem rshort_any (s : ByteArray) (w : World) (hs : s.size ≤ 9) :
    Calls Tryz.prog 60 #[.string s] w (RetShort s.data.toList w) := by
  have HL := Lib.hid (len_size s)
  have hd20 : decide ((20 : Int) < (s.size : Int)) = false := decide_eq_false (by omega)
  obtain ⟨W0, hW0⟩ : ∃ W0, w.alloc (.cells #[.int .i64 0, .int .i64 0] 103) = W0 := ⟨_, rfl⟩
  have B2 : Blk W0 w.heap.size 103 #[.int .i64 0, .int .i64 0] := by rw [← hW0]; exact Blk.new _ _ _
  have hbA : Below w.heap.size w W0 := by rw [← hW0]; exact (Below.refl _ _).alloc (Nat.le_refl _) _
  have HW0 := Lib.hid hW0
  clear hW0
  go_enter Tryz.func60, Tryz.ntmps60
  go_upto_region 1 with (fail)
  rw [HW0.out]
  go_wp2_with (fail)
  refine (split_any s W0 (by omega)).mono ?_
  rintro e w1 ⟨b, num, den, ok, rfl, HS, hb1⟩
  have hc := splitis_cases HS
  have hnl : num.length ≤ 9 := by have := HS.1; rw [HL.out] at this; omega
  have hdl : den.length ≤ 9 := by have := HS.2.1; rw [HL.out] at this; omega
  clear HS
  go_upto_region 4 with (fail)
  obtain ⟨W1, hW1⟩ : ∃ W1, w1.alloc (.cells #[.bool b, .string (bs num), .string (bs den)] 107) = W1 := ⟨_, rfl⟩
  have C2 : Blk W1 w.heap.size 103 #[.int .i64 0, .int .i64 0] := by rw [← hW1]; exact (B2.keep hb1 B2.lt).alloc _
  have C4 : Blk W1 w1.heap.size 107 #[.bool b, .string (bs num), .string (bs den)] := by rw [← hW1]; exact Blk.new _ _ _
  have hbB : Below w.heap.size w W1 := by rw [← hW1]; have := below_all hbA hb1; exact this.alloc this.size _
  have hz1 : w.heap.size < w1.heap.size := by have := B2.lt; have := hb1.size; omega
  rw [hW1]
  clear hW1 B2 hb1 hbA
  obtain ⟨a0, a1, a2, a3⟩ := C2.two
  obtain ⟨p0, p1, p2, _, _, _⟩ := C4.three
  have hz2 := C4.lt
  have hz3 := C2.lt
  have l1 : decide ((9 : Int) < ((bs num).size : Int)) = false := by rw [bs_size]; exact decide_eq_false (by omega)
  have l2 : decide ((9 : Int) < ((bs den).size : Int)) = false := by rw [bs_size]; exact decide_eq_false (by omega)
  rcases hc with ⟨rfl, hr⟩ | ⟨rfl, n1, _, rfl, hr⟩ | ⟨rfl, n1, _, _, hdn, m1, v0, v1, hr⟩
  · have HR := Lib.hid hr
    clear hr
    go_wp2
    refine bodyPost_ret (v := .tuple #[.agg #[.int .i64 0, .int .i64 0], .bool false]) (by simp [results, Tryz.results60, go_sem, a0, a1]) rfl ⟨?_, .inl ⟨HR.out, rfl⟩⟩
    exact below_far (below_far hbB (by omega) _ _) (by omega) _ _
  · have HR := Lib.hid hr
    have hv := val9 num n1 hnl
    have HD := Lib.hid (fun W => dval_any (bs num) W (by rw [bs_size]; omega) (by rw [bs_data]; exact (numOk_iff.1 n1).1))
    rw [bs_data] at HD
    have hbe : (bs []).toList.isEmpty = true := by rw [bs_toList]; rfl
    have hbe' : (bs []).toList = [] := by rw [bs_toList]
    clear hr n1
    generalize val num = v at *
    go_upto_region 7 with (go_at_call 73; refine (HD.out _).mono ?_; rintro e w' ⟨rfl, rfl⟩)
    obtain ⟨W2, hW2⟩ : ∃ W2, W1.alloc (.cells #[.int .i64 v, .int .i64 1] 103) = W2 := ⟨_, rfl⟩
    have D2 : Blk W2 w.heap.size 103 #[.int .i64 0, .int .i64 0] := by rw [← hW2]; exact C2.alloc _
    have D4 : Blk W2 w1.heap.size 107 #[.bool b, .string (bs num), .string (bs [])] := by rw [← hW2]; exact C4.alloc _
    have D6 : Blk W2 W1.heap.size 103 #[.int .i64 v, .int .i64 1] := by rw [← hW2]; exact Blk.new W1 _ _
    have hbC : Below w.heap.size w W2 := by rw [← hW2]; exact hbB.alloc hbB.size _
    rw [hW2]
    have hz4 := D2.lt
    clear hW2 C2 C4 hbB a0 a1 a2 a3 p0 p1 p2
    obtain ⟨a0, a1, a2, a3⟩ := D2.two
    obtain ⟨p0, p1, p2, _, _, _⟩ := D4.three
    obtain ⟨x0, x1, x2, x3⟩ := D6.two
    cases b with
    | false =>
      go_wp2
      refine bodyPost_ret (v := .tuple #[.agg #[.int .i64 (sg false v), .int .i64 (1 : Nat)], .bool true]) (by simp [results, Tryz.results60, go_sem, a0, a1, sg]) rfl ⟨?_, .inr ⟨false, v, 1, HR.out, hv, by omega, rfl⟩⟩
      exact below_far (below_far hbC (by omega) _ _) (by omega) _ _
    | true =>
      go_wp2
      refine bodyPost_ret (v := .tuple #[.agg #[.int .i64 (sg true v), .int .i64 (1 : Nat)], .bool true]) (by simp [results, Tryz.results60, go_sem, a0, a1, sg]) rfl ⟨?_, .inr ⟨true, v, 1, HR.out, hv, by omega, rfl⟩⟩
      exact below_far (below_far (below_far hbC (by omega) _ _) (by omega) _ _) (by omega) _ _
  · have HR := Lib.hid hr
    have hv := val9 num n1 hnl
    have hu := val9 den m1 hdl
    have HD := Lib.hid (fun W => dval_any (bs num) W (by rw [bs_size]; omega) (by rw [bs_data]; exact (numOk_iff.1 n1).1))
    have HE := Lib.hid (fun W => dval_any (bs den) W (by rw [bs_size]; omega) (by rw [bs_data]; exact (numOk_iff.1 m1).1))
    rw [bs_data] at HD HE
    have hbe : (bs den).toList.isEmpty = false := by rw [bs_toList]; cases den; exact absurd rfl hdn; rfl
    have hbe' : ¬ (bs den).toList = [] := by rw [bs_toList]; exact hdn
    have HG := Lib.hid (fun W => sgcd_any (val num) (val den) W (by omega) (by omega))
    clear hr n1 m1 hdn v0 v1
    generalize val num = v at *
    generalize val den = u at *
    go_upto_region 9 with (first
      | (go_at_call 73; with_reducible refine Calls.mono (HD.out _) ?_; rintro e w' ⟨rfl, rfl⟩)
      | (go_at_call 73; with_reducible refine Calls.mono (HE.out _) ?_; rintro e w' ⟨rfl, rfl⟩))
    obtain ⟨W2, hW2⟩ : ∃ W2, W1.alloc (.cells #[.int .i64 v, .int .i64 u] 103) = W2 := ⟨_, rfl⟩
    have D2 : Blk W2 w.heap.size 103 #[.int .i64 0, .int .i64 0] := by rw [← hW2]; exact C2.alloc _
    have D4 : Blk W2 w1.heap.size 107 #[.bool b, .string (bs num), .string (bs den)] := by rw [← hW2]; exact C4.alloc _
    have D6 : Blk W2 W1.heap.size 103 #[.int .i64 v, .int .i64 u] := by rw [← hW2]; exact Blk.new W1 _ _
    have hbC : Below w.heap.size w W2 := by rw [← hW2]; exact hbB.alloc hbB.size _
    rw [hW2]
    clear hW2 C2 C4 hbB a0 a1 a2 a3 p0 p1 p2
    obtain ⟨x0, x1, x2, x3⟩ := D6.two
    go_wp2_with (fail)
    refine (HG.out _).mono ?_
    rintro e w5 ⟨rfl, hb5⟩
    have E2 := D2.keep hb5 D2.lt
    have E4 := D4.keep hb5 D4.lt
    have E6 := D6.keep hb5 D6.lt
    have hbE := below_all hbC hb5
    have hz4 := E2.lt
    clear D2 D4 D6 hbC hb5 x0 x1 x2 x3
    obtain ⟨a0, a1, a2, a3⟩ := E2.two
    obtain ⟨p0, p1, p2, _, _, _⟩ := E4.three
    obtain ⟨x0, x1, x2, x3⟩ := E6.two
    by_cases hg : Nat.gcd v u = 1
    · have HR2 : Hid (rd s.data.toList = some (b, v, u)) := Lib.hid (by rw [HR.out, if_pos hg])
      rw [hg]
      clear HR HG hg
      cases b with
      | false =>
        go_wp2
        refine bodyPost_ret (v := .tuple #[.agg #[.int .i64 (sg false v), .int .i64 u], .bool true]) (by simp [results, Tryz.results60, go_sem, a0, a1, sg]) rfl ⟨?_, .inr ⟨false, v, u, HR2.out, hv, hu, rfl⟩⟩
        exact below_far (below_far hbE (by omega) _ _) (by omega) _ _
      | true =>
        go_wp2
        refine bodyPost_ret (v := .tuple #[.agg #[.int .i64 (sg true v), .int .i64 u], .bool true]) (by simp [results, Tryz.results60, go_sem, a0, a1, sg]) rfl ⟨?_, .inr ⟨true, v, u, HR2.out, hv, hu, rfl⟩⟩
        exact below_far (below_far (below_far hbE (by omega) _ _) (by omega) _ _) (by omega) _ _
    · have HR2 : Hid (rd s.data.toList = none) := Lib.hid (by rw [HR.out, if_neg hg])
      have hgb : (((Nat.gcd v u : Nat) : Int) != 1) = true := by simp; omega
      have hgb' : (Nat.gcd v u == 1) = false := by simp [hg]
      have hgb'' : (((Nat.gcd v u : Nat) : Int) == 1) = false := beq_eq_false_iff_ne.2 (by omega)
      clear HR HG hg
      generalize Nat.gcd v u = g at *
      go_wp2
      refine bodyPost_ret (v := .tuple #[.agg #[.int .i64 0, .int .i64 0], .bool false]) (by simp [results, Tryz.results60, go_sem, a0, a1]) rfl ⟨?_, .inl ⟨HR2.out, rfl⟩⟩
      exact below_far (below_far hbE (by omega) _ _) (by omega) _ _
end Go.Proofs.Tg
end
