/- Parts of the proof: XK6, XR3, XA1, WN1. -/
import Derived.Test.YticpnfjdooileaaGreatDoorMCPA7
import Derived.Test.YticpnfjdooileaaGreatDoorMCPA11
import Derived.Test.YticpnfjdooileaaGreatDoorMCPA14
import Derived.Test.YticpnfjdooileaaGreatDoorMCPA18
import Derived.Test.YticpnfjdooileaaGreatDoorMCPA19
section
/- The reference's Signs, over what its ReadAll gives. -/
namespace Go.Proofs.Tg
open Go.RowKit Go.Gr Go.Ev Go.Mo
set_option maxHeartbeats 4000000
set_option maxRecDepth 100000
def PVal.key (p : PVal) : Int × List (List Int) := (p.vars, p.tv.map TV.exps)
def RP.key (p : RP) : Int × List (List Int) := (p.vars, p.ts.map RT.exps)
/-- What the reference's reading of all polynomials returns. -/
def RetAll (ps : List PVal) (w : World) (e : Ending) (w' : World) : Prop :=
  Below w.heap.size w w' ∧ ((¬ (∀ p ∈ ps, p.ok) ∧ e = .returned (.tuple #[.slice none 0 0, .bool false])) ∨
    ((∀ p ∈ ps, p.ok) ∧ ∃ L c rp, e = .returned (.tuple #[.slice L rp.length c, .bool true]) ∧ RPolysAt w' L rp ∧ rp.map RP.key = ps.map PVal.key))
/-- What the reference's search returns. -/
def RetRSigns (ps : List PVal) (w : World) (e : Ending) (w' : World) : Prop :=
  Below w.heap.size w w' ∧
  ((¬ (∀ p ∈ ps, p.ok) ∧ e = .returned (.tuple #[.slice none 0 0, .int .i64 1])) ∨
   ((∀ p ∈ ps, p.ok) ∧ (ps = [] ∨ ∃ p ∈ ps, p.vars ≠ (ps.getD 0 ⟨0, none, 0, []⟩).vars) ∧ e = .returned (.tuple #[.slice none 0 0, .int .i64 4])) ∨
   ((∀ p ∈ ps, p.ok) ∧ ∃ n : Nat, n ≤ 6 ∧ ps ≠ [] ∧ (∀ p ∈ ps, p.vars = n) ∧ ∃ A c, e = .returned (.tuple #[.slice A ((kern (keepB (rowsOf ps) n) n (2 ^ n - 1)).map (unp · n)).length c, .int .i64 0]) ∧ Lists w' A ((kern (keepB (rowsOf ps) n) n (2 ^ n - 1)).map (unp · n))))
theorem rows_key {rp : List RP} {ps : List PVal} (h : rp.map RP.key = ps.map PVal.key) : (rterms rp).map RT.exps = rowsOf ps := by
  have e1 : (rterms rp).map RT.exps = (rp.map RP.key).flatMap Prod.snd := by
    unfold rterms
    rw [List.map_flatMap, List.flatMap_map]; rfl
  have e2 : rowsOf ps = (ps.map PVal.key).flatMap Prod.snd := by
    unfold rowsOf
    rw [List.flatMap_map]; rfl
  rw [e1, e2, h]
theorem vars_key {rp : List RP} {ps : List PVal} (h : rp.map RP.key = ps.map PVal.key) {i : Nat} (hi : i < rp.length) (hj : i < ps.length) : rp[i].vars = ps[i].vars := by
  have h1 : (rp.map RP.key)[i]? = (ps.map PVal.key)[i]? := by rw [h]
  rw [List.getElem?_map, List.getElem?_map, List.getElem?_eq_getElem hi, List.getElem?_eq_getElem hj] at h1
  simp only [Option.map_some] at h1
  injection h1 with h1
  exact congrArg Prod.fst h1
theorem len_key {rp : List RP} {ps : List PVal} (h : rp.map RP.key = ps.map PVal.key) : rp.length = ps.length := by
  have := congrArg List.length h
  simpa using this
theorem rsigns_any (L : Option Addr) (c : Nat) (ps : List PVal) (w : World) (hn : ps.length ≤ 1000) (hrl : (rowsOf ps).length ≤ 100000) (hts : ∀ p ∈ ps, p.tv.length ≤ 100000)
    (hR : Calls Tryz.prog 30 #[.slice L ps.length c] w (RetAll ps w)) :
    Calls Tryz.prog 11 #[.slice L ps.length c] w (RetRSigns ps w) := by
  have HR := Lib.hid hR
  have HTS := Lib.hid hts
  clear hR hts
  go_enter Tryz.func11, Tryz.ntmps11
  go_wp2_with (fail)
  refine HR.out.mono ?_
  rintro e w1 ⟨hb1, ⟨hbad, rfl⟩ | ⟨hok, R, cr, rp, rfl, hP, hkey⟩⟩
  · have HB := Lib.hid hbad
    clear hbad
    go_wp2
    go_ret2
    exact ⟨hb1, .inl ⟨HB.out, rfl⟩⟩
  · have hlen := len_key hkey
    have HKEY := Lib.hid hkey
    have HOK := Lib.hid hok
    have hrn : rp.length ≤ 1000 := by omega
    have HLEN := Lib.hid hlen
    clear hkey hok hlen
    by_cases h0 : rp.length = 0
    · have hz : ((rp.length : Int) == 0) = true := by simp [h0]
      have hz' : (rp.length == 0) = true := by simp [h0]
      have HE : Hid (ps = []) := Lib.hid (List.eq_nil_of_length_eq_zero (by have := HLEN.out; omega))
      clear h0
      go_wp2
      go_ret2
      exact ⟨hb1, .inr (.inl ⟨HOK.out, .inl HE.out, rfl⟩)⟩
    · have hz : ((rp.length : Int) == 0) = false := beq_eq_false_iff_ne.2 (by omega)
      have hz' : (rp.length == 0) = false := beq_eq_false_iff_ne.2 h0
      obtain ⟨ad, rfl, d0, _, _⟩ := RPolysAt.at hP (k := 0) (by omega)
      have HV0 : Hid (rp[0].vars = (ps.getD 0 ⟨0, none, 0, []⟩).vars) := Lib.hid (by
        have hl := HLEN.out
        rw [vars_key HKEY.out (by omega) (by omega)]
        have : 0 < ps.length := by omega
        simp [this])
      rw [Nat.zero_mul] at d0
      have d00 : w1.cell? ad = some (.int .i64 rp[0].vars) := by simpa [Addr.add] using d0
      generalize rp[0].vars = v0 at d00 HV0
      clear d0
      go_wp2
      go_loopw [6] (fun i wr => ∃ k : Nat, k ≤ rp.length ∧ i = .int .i64 k ∧ Hid (∀ p ∈ rp.take k, p.vars = v0) ∧ Dr w1 wr) (fun i _ => rp.length - (intOf i).toNat)
      case atStart => exact ⟨0, Nat.zero_le _, rfl, Lib.hid (by simp), Dr.refl _⟩
      case round =>
        obtain ⟨k, hk, rfl, HI, hdr⟩ := hrel
        have e00 := keep_cell hdr.below d00
        by_cases hkl : k < rp.length
        · obtain ⟨ad', hh, e1, _, _⟩ := RPolysAt.at (hP.keep hdr.below) hkl
          obtain rfl : ad = ad' := by simpa using hh
          clear hh
          have HT0 : Hid (rp.take (k + 1) = rp.take k ++ [rp[k]]) := Lib.hid (List.take_succ_eq_append_getElem hkl)
          have HVK : Hid (∃ p ∈ ps, p.vars = rp[k].vars) := Lib.hid (by
            have hl := HLEN.out
            exact ⟨ps[k]'(by omega), List.getElem_mem _, (vars_key HKEY.out hkl (by omega)).symm⟩)
          generalize rp[k] = p at *
          obtain ⟨pv, T, ct, ts⟩ := p
          simp only at *
          by_cases hv : pv = v0
          · have hb : (pv != v0) = false := by simp [hv]
            have HI2 : Hid (∀ p ∈ rp.take (k + 1), p.vars = v0) := Lib.hid (by
              rw [HT0.out]
              intro p hp
              rcases List.mem_append.1 hp with h | h
              · exact HI.out p h
              · simp at h; subst h; exact hv)
            clear hv
            go_wp2
            go_quiet (fail)
            go_wp2
            go_roundw
            case rel => exact ⟨k + 1, by omega, by go_num, HI2, hdr.drewN _⟩
            case measure => simp [intOf]; omega
          · have hb : (pv != v0) = true := by simp [hv]
            have HNE : Hid (∃ p ∈ ps, p.vars ≠ (ps.getD 0 ⟨0, none, 0, []⟩).vars) := Lib.hid (by
              obtain ⟨p, hp, e⟩ := HVK.out
              exact ⟨p, hp, by rw [e, ← HV0.out]; exact hv⟩)
            clear hv
            go_wp2
            go_quiet (fail)
            go_wp2
            go_ret2
            exact ⟨below_all hb1 (hdr.drewN _).below, .inr (.inl ⟨HOK.out, .inr HNE.out, rfl⟩)⟩
        · have hall : ∀ p ∈ rp, p.vars = v0 := by have := HI.out; rwa [List.take_of_length_le (by omega)] at this
          have hpall : ∀ p ∈ ps, p.vars = v0 := by
            intro p hp
            obtain ⟨i, hi, rfl⟩ := List.getElem_of_mem hp
            have hl := HLEN.out
            rw [← vars_key HKEY.out (by omega) hi]
            exact hall _ (List.getElem_mem _)
          have hne : ps ≠ [] := by
            intro e
            have hl := HLEN.out
            rw [e] at hl
            exact h0 hl
          obtain ⟨n, hn6, rfl⟩ : ∃ n : Nat, n ≤ 6 ∧ v0 = (n : Int) := by
            obtain ⟨p, hp⟩ := List.exists_mem_of_ne_nil ps hne
            have h1 := (HOK.out p hp).2.1.1
            have h2 := (HOK.out p hp).2.1.2.1
            have h3 := hpall p hp
            exact ⟨v0.toNat, by omega, by omega⟩
          have HROW := Lib.hid (rows_key HKEY.out)
          have hrows : ∀ r ∈ rowsOf ps, n ≤ r.length ∧ ∀ x ∈ r, 0 ≤ x ∧ x ≤ 1048576 := by
            intro r hr
            obtain ⟨p, hp, hr⟩ := List.mem_flatMap.1 hr
            obtain ⟨t, ht, rfl⟩ := List.mem_map.1 hr
            have h1 := ok_term (HOK.out p hp) ht
            have h2 := hpall p hp
            exact ⟨by omega, h1.2⟩
          have hP' := hP.keep hdr.below
          have K1 : Hid (∀ W, Below wr.heap.size wr W → Calls Tryz.prog 32 #[.slice (some ad) rp.length cr] W fun e w' => ∃ A d, e = .returned (.slice A (rowsOf ps).length d) ∧ Lists w' A (rowsOf ps) ∧ Below wr.heap.size wr w') := Lib.hid (fun W hW => by
            have hrt : (rterms rp).length = (rowsOf ps).length := by rw [← HROW.out, List.length_map]
            have := rrows_any (some ad) cr rp W (hP'.keep hW) hrn (by omega) (fun p hp => by
              obtain ⟨i, hi, rfl⟩ := List.getElem_of_mem hp
              have hl := HLEN.out
              have h1 : (rp.map RP.key)[i]? = (ps.map PVal.key)[i]? := by rw [HKEY.out]
              rw [List.getElem?_map, List.getElem?_map, List.getElem?_eq_getElem hi, List.getElem?_eq_getElem (by omega)] at h1
              simp only [Option.map_some] at h1
              injection h1 with h1
              have h2 := congrArg (fun x => x.2.length) h1
              simp only [RP.key, PVal.key, List.length_map] at h2
              rw [h2]
              exact HTS.out _ (List.getElem_mem _))
            rw [HROW.out] at this
            exact this.mono fun e w' ⟨A, d, h1, h2, h3⟩ => ⟨A, d, h1, h2, below_all hW h3⟩)
          have K2 : Hid (∀ W A d, Lists W A (rowsOf ps) → Below wr.heap.size wr W → Calls Tryz.prog 31 #[.slice A (rowsOf ps).length d, .int .i64 n] W fun e w' => ∃ A c, e = .returned (.slice A ((kern (keepB (rowsOf ps) n) n (2 ^ n - 1)).map (unp · n)).length c) ∧ Lists w' A ((kern (keepB (rowsOf ps) n) n (2 ^ n - 1)).map (unp · n)) ∧ Below wr.heap.size wr w') := Lib.hid (fun W A d hA hW => by
            have := kernel_any A d (rowsOf ps) n W hA (by omega) hn6 hrows
            rw [kern_same (fun r hr y hy => ((hrows r hr).2 y hy).1)] at this
            exact this.mono fun e w' ⟨A, d, h1, h2, h3⟩ => ⟨A, d, h1, h2, below_all hW h3⟩)
          have HFIN : Hid (ps ≠ [] ∧ ∀ p ∈ ps, p.vars = n) := Lib.hid ⟨hne, hpall⟩
          have hbwr := below_all hb1 hdr.below
          obtain ⟨K, hK⟩ : ∃ K, (kern (keepB (rowsOf ps) n) n (2 ^ n - 1)).map (unp · n) = K := ⟨_, rfl⟩
          rw [hK] at K2
          have HK := Lib.hid hK
          clear hK
          clear hall hpall hne hrows hP hP' hdr HROW d00
          go_wp2
          have hbe : Below wr.heap.size wr wr.drew := (Below.refl _ _).drew
          have qz : (0 : Int) < (rp.length : Int) := by omega
          have qz' : 0 < rp.length := by omega
          go_region_held3 (fun w' => w'.cell? ad = some (.int .i64 (n : Int))) (first | go_keep | exact keep_cell hbe e00)
            (first
              | (go_at_call 32; refine (K1.out _ (by assumption)).mono ?_; rintro e w' ⟨A1, d1, rfl, hLA, hbe⟩)
              | (go_at_call 31; refine (K2.out _ _ _ (by assumption) (by assumption)).mono ?_; rintro e w' ⟨A2, d2, rfl, hLK, hbe⟩))
          all_goals
            go_wp2
            go_ret2
            have hK := HK.out
            subst hK
            exact ⟨below_all hbwr hbe, .inr (.inr ⟨HOK.out, n, hn6, HFIN.out.1, HFIN.out.2, A2, d2, rfl, hLK⟩)⟩
end Go.Proofs.Tg
end
section
/- The reference's reading of one polynomial and of all. -/
namespace Go.Proofs.Tg
open Go.RowKit Go.Gr Go.Mo Go.Qn
set_option maxHeartbeats 4000000
set_option maxRecDepth 100000
def RetReadP (v : Int) (tv : List TV) (w : World) (e : Ending) (w' : World) : Prop :=
  Below w.heap.size w w' ∧ ((¬ VldP v (tv.map TV.pl) ∧ e = .returned (.tuple #[.agg #[.int .i64 0, .slice none 0 0], .bool false])) ∨
    (VldP v (tv.map TV.pl) ∧ ∃ (O : Option Addr) (co : Nat) (ts : List RT), e = .returned (.tuple #[.agg #[.int .i64 v, .slice O ts.length co], .bool true]) ∧ w'.ownsRow w.heap.size 84 5 (.slice O ts.length co) ts.length (ts.flatMap RT.cells) ∧ ts.map RT.core = tv.map TV.core ∧ ∀ (j : Nat) (h1 : j < ts.length) (h2 : j < tv.length), RCo w' ts[j] tv[j].coef))
theorem core_get {ts : List RT} {tv : List TV} (h : ts.map RT.core = tv.map TV.core) {i : Nat} (hi : i < ts.length) (hj : i < tv.length) : ts[i].adr = tv[i].adr ∧ ts[i].cap = tv[i].cap ∧ ts[i].exps = tv[i].exps := by
  have h1 : (ts.map RT.core)[i]? = (tv.map TV.core)[i]? := by rw [h]
  rw [List.getElem?_map, List.getElem?_map, List.getElem?_eq_getElem hi, List.getElem?_eq_getElem hj] at h1
  simp only [Option.map_some, RT.core, TV.core, Option.some.injEq, Prod.mk.injEq] at h1
  exact h1
theorem core_len {ts : List RT} {tv : List TV} (h : ts.map RT.core = tv.map TV.core) : ts.length = tv.length := by
  have := congrArg List.length h
  simpa using this
theorem core_ints {w : World} {ts : List RT} {tv : List TV} (h : ts.map RT.core = tv.map TV.core) (hA : ∀ t ∈ tv, Ints w t.adr t.exps) : ∀ t ∈ ts, Ints w t.adr t.exps := by
  intro t ht
  obtain ⟨i, hi, rfl⟩ := List.getElem_of_mem ht
  have hj : i < tv.length := by rw [← core_len h]; exact hi
  obtain ⟨h1, _, h2⟩ := core_get h hi hj
  rw [h1, h2]
  exact hA _ (List.getElem_mem _)
theorem readP_any (v : Int) (T : Option Addr) (cT : Nat) (tv : List TV) (w : World) (hA : TermsAt w T tv) (hn : tv.length ≤ 4096) (hs : ∀ t ∈ tv, t.coef.size ≤ 8 ∧ t.exps.length ≤ 64) :
    Calls Tryz.prog 41 #[.agg #[.int .i64 v, .slice T tv.length cT]] w (RetReadP v tv w) := by
  have HR : Hid (∀ W, Below w.heap.size w W → Calls Tryz.prog 52 #[.agg #[.int .i64 v, .slice T tv.length cT]] W (RetRead6 v tv W)) := Lib.hid (fun W h => read6_any v T cT tv W (hA.keep h) hn hs)
  have HS := Lib.hid hs
  have HA := Lib.hid hA
  clear hs hA
  obtain ⟨W, hW⟩ : ∃ W, (w.alloc (.cells #[.int .i64 v, .slice T tv.length cT] 36)).alloc (.cells #[.int .i64 0, .slice none 0 0] 66) = W := ⟨_, rfl⟩
  have B1 : Blk W w.heap.size 36 #[.int .i64 v, .slice T tv.length cT] := by rw [← hW]; exact (Blk.new _ _ _).alloc _
  have B2 : Blk W (w.heap.size + 1) 66 #[.int .i64 0, .slice none 0 0] := by
    rw [← hW]; have := Blk.new (w.alloc (.cells #[.int .i64 v, .slice T tv.length cT] 36)) 66 #[.int .i64 0, .slice none 0 0]
    simpa using this
  have hbW : Below w.heap.size w W := by rw [← hW]; exact ((Below.refl _ _).alloc (Nat.le_refl _) _).alloc (by simp) _
  have hWs : W.heap.size = w.heap.size + 2 := by rw [← hW]; simp
  have HWW := Lib.hid hW
  clear hW
  obtain ⟨a0, a1, _, _⟩ := B1.two
  have hd : decide ((4096 : Int) < (tv.length : Int)) = false := decide_eq_false (by omega)
  go_enter Tryz.func41, Tryz.ntmps41
  go_upto_region 1 with (fail)
  rw [HWW.out]
  go_wp2_with (fail)
  refine (HR.out _ hbW).mono ?_
  rintro e w1 ⟨hb1, ⟨hno, rfl⟩ | ⟨hwf, O, co, ts, rfl, hown, hcore, hnum⟩⟩
  · have HNO : Hid (¬ VldP v (tv.map TV.pl)) := Lib.hid (fun h => hno h.2.1)
    clear hno
    have C2 := B2.keep hb1 B2.lt
    have hz := hb1.size
    go_upto_region 4 with (fail)
    obtain ⟨W1, hW1⟩ : ∃ W1, w1.alloc (.cells #[.int .i64 0, .slice none 0 0] 66) = W1 := ⟨_, rfl⟩
    have D2 : Blk W1 (w.heap.size + 1) 66 #[.int .i64 0, .slice none 0 0] := by rw [← hW1]; exact C2.alloc _
    have hbD : Below w.heap.size w W1 := by rw [← hW1]; exact (below_all hbW hb1).alloc (by omega) _
    try rw [hW1]
    clear hW1 C2
    obtain ⟨d0, d1, d2, d3⟩ := D2.two
    go_wp2
    refine bodyPost_ret (v := .tuple #[.agg #[.int .i64 0, .slice none 0 0], .bool false]) (by simp [results, Tryz.results41, go_sem, d0, d1]) rfl ⟨?_, .inl ⟨HNO.out, rfl⟩⟩
    exact below_far (below_far hbD (by omega) _ _) (by omega) _ _
  · have HWF := Lib.hid hwf
    have HC := Lib.hid hcore
    have htl : ts.length ≤ 4096 := by rw [core_len hcore]; exact hn
    clear hwf hcore
    have C2 := B2.keep hb1 B2.lt
    have hz := hb1.size
    go_upto_region 4 with (fail)
    obtain ⟨W1, hW1⟩ : ∃ W1, w1.alloc (.cells #[.int .i64 v, .slice O ts.length co] 66) = W1 := ⟨_, rfl⟩
    have D2 : Blk W1 (w.heap.size + 1) 66 #[.int .i64 0, .slice none 0 0] := by rw [← hW1]; exact C2.alloc _
    have D4 : Blk W1 w1.heap.size 66 #[.int .i64 v, .slice O ts.length co] := by rw [← hW1]; exact Blk.new _ _ _
    have hownD : W1.ownsRow w.heap.size 84 5 (.slice O ts.length co) ts.length (ts.flatMap RT.cells) := by rw [← hW1]; exact own_base (hown.alloc _) (by omega)
    have hbD : Below w.heap.size w W1 := by rw [← hW1]; exact (below_all hbW hb1).alloc (by omega) _
    have HN : Hid (∀ (j : Nat) (h1 : j < ts.length) (h2 : j < tv.length), RCo W1 ts[j] tv[j].coef) := Lib.hid (fun j h1 h2 => by rw [← hW1]; exact (hnum j h1 h2).keep ((Below.refl _ _).alloc (Nat.le_refl _) _))
    try rw [hW1]
    clear hW1 C2 hown hnum
    obtain ⟨d0, d1, d2, d3⟩ := D2.two
    obtain ⟨b0, b1, b2, b3⟩ := D4.two
    have o2 : some (w.heap.size + 1) ≠ (Value.slice O ts.length co).ownBlock := own_blk_ne hownD D2 (by decide)
    by_cases h0 : ts.length = 0
    · have hd0 : decide ((0 : Int) < (ts.length : Int)) = false := by simp [h0]
      have hd0' : decide (0 < ts.length) = false := by simp [h0]
      have HOK : Hid (VldP v (tv.map TV.pl)) := Lib.hid ⟨by simpa using hn, HWF.out, fun h => by
        rw [List.length_map, ← core_len HC.out] at h
        omega⟩
      clear h0
      go_wp2
      refine bodyPost_ret (v := .tuple #[.agg #[.int .i64 v, .slice O ts.length co], .bool true]) (by simp [results, Tryz.results41, go_sem, d0, d1]) rfl ⟨?_, .inr ⟨HOK.out, O, co, ts, rfl, ?_, HC.out, fun j h1 h2 => RCo.far (RCo.far (HN.out j h1 h2) D2 (by decide) _ _) (D2.set 0 _) (by decide) _ _⟩⟩
      · exact below_far (below_far hbD (by omega) _ _) (by omega) _ _
      · exact own_far (own_far hownD o2 _) o2 _
    · have hd0 : decide ((0 : Int) < (ts.length : Int)) = true := by simp; omega
      have hd0' : decide (0 < ts.length) = true := by simp; omega
      have hp : 0 < ts.length := by omega
      have hq : 0 < tv.length := by rw [← core_len HC.out]; exact hp
      have hRT : RTermsAt W1 O ts := ⟨Sl.own hownD, core_ints HC.out (HA.out.keep hbD).ints⟩
      obtain ⟨ad, rfl, hc4, hI⟩ := RTermsAt.at hRT hp
      have hex := (core_get HC.out hp hq).2.2
      have hl64 : ts[0].exps.length ≤ 64 := by rw [hex]; exact (HS.out _ (List.getElem_mem _)).2
      have HVI : Hid (VldP v (tv.map TV.pl) ↔ vldM ts[0].exps = true) := Lib.hid (by
        rw [hex]
        constructor
        · intro h
          have := h.2.2 (by simpa using hq)
          simpa [TV.pl] using this
        · intro h
          exact ⟨by simpa using hn, HWF.out, fun _ => by simpa [TV.pl] using h⟩)
      have hc4' : W1.cell? ⟨ad.block, ad.off + 4, none⟩ = some (.slice ts[0].adr ts[0].exps.length ts[0].cap) := by simpa [Addr.add] using hc4
      have HV := Lib.hid (fun (V : World) (h : Below W1.heap.size W1 V) => rvalid_any ts[0].adr ts[0].cap ts[0].exps V (hI.keep h) (by omega))
      clear hRT hc4 hI hex h0
      generalize ts[0].exps = el at *
      generalize ts[0].adr = E at *
      generalize ts[0].cap = ce at *
      cases hvm : vldM el with
      | true =>
        have HOK : Hid (VldP v (tv.map TV.pl)) := Lib.hid (HVI.out.2 hvm)
        rw [hvm] at HV
        clear hvm HVI
        go_wp2_with (go_at_call 53; refine (HV.out _ (Below.refl _ _)).mono ?_; rintro e w' ⟨rfl, rfl⟩)
        refine bodyPost_ret (v := .tuple #[.agg #[.int .i64 v, .slice (some ad) ts.length co], .bool true]) (by simp [results, Tryz.results41, go_sem, d0, d1]) rfl ⟨?_, .inr ⟨HOK.out, some ad, co, ts, rfl, ?_, HC.out, fun j h1 h2 => RCo.far (RCo.far (HN.out j h1 h2) D2 (by decide) _ _) (D2.set 0 _) (by decide) _ _⟩⟩
        · exact below_far (below_far hbD (by omega) _ _) (by omega) _ _
        · exact own_far (own_far hownD o2 _) o2 _
      | false =>
        have HNO : Hid (¬ VldP v (tv.map TV.pl)) := Lib.hid (fun h => by have := HVI.out.1 h; rw [hvm] at this; cases this)
        rw [hvm] at HV
        clear hvm HVI
        go_wp2_with (go_at_call 53; refine (HV.out _ (Below.refl _ _)).mono ?_; rintro e w' ⟨rfl, rfl⟩)
        refine bodyPost_ret (v := .tuple #[.agg #[.int .i64 0, .slice none 0 0], .bool false]) (by simp [results, Tryz.results41, go_sem, d0, d1]) rfl ⟨?_, .inl ⟨HNO.out, rfl⟩⟩
        exact below_far (below_far hbD (by omega) _ _) (by omega) _ _
end Go.Proofs.Tg
end
section
/- The harness's negatives: Neg, RNeg. -/
namespace Go.Proofs.Tg
open Go.RowKit Go.Gr Go.Mo Go.Qn
set_option maxHeartbeats 4000000
set_option maxRecDepth 100000
theorem nneg_any (b : Bool) (N : Option Addr) (n c : Nat) (w : World) (h0 : 0 < n) (hn : n ≤ 1000000) :
    Calls Tryz.prog 54 #[.agg #[.bool b, .slice N n c]] w fun e w' => e = .returned (.agg #[.bool (!b), .slice N n c]) ∧ Below w.heap.size w w' := by
  have HM := Lib.hid (fun W => make1_any (!b) N n c W (!b) (by simp [h0]) hn)
  obtain ⟨W, hW⟩ : ∃ W, (w.alloc (.cells #[.bool b, .slice N n c] 80)).alloc (.cells #[.bool false, .slice none 0 0] 80) = W := ⟨_, rfl⟩
  have B1 : Blk W w.heap.size 80 #[.bool b, .slice N n c] := by rw [← hW]; exact (Blk.new _ _ _).alloc _
  have B2 : Blk W (w.heap.size + 1) 80 #[.bool false, .slice none 0 0] := by
    rw [← hW]; have := Blk.new (w.alloc (.cells #[.bool b, .slice N n c] 80)) 80 #[.bool false, .slice none 0 0]
    simpa using this
  have hbW : Below w.heap.size w W := by rw [← hW]; exact ((Below.refl _ _).alloc (Nat.le_refl _) _).alloc (by simp) _
  have HWW := Lib.hid hW
  clear hW h0
  obtain ⟨a0, a1, _, _⟩ := B1.two
  cases b
  all_goals
    go_enter Tryz.func54, Tryz.ntmps54
    go_upto_region 1 with (fail)
    rw [HWW.out]
    go_wp2_with (fail)
    refine (HM.out W).mono ?_
    rintro e w1 ⟨rfl, hb1⟩
    have C2 := B2.keep hb1 B2.lt
    have hbC := below_all hbW hb1
    obtain ⟨d0, d1, d2, d3⟩ := C2.two
    go_wp2_with (fail)
    refine bodyPost_ret (v := .agg #[.bool _, .slice N n c]) (by simp [results, Tryz.results54, go_sem, d0, d1]) rfl ⟨rfl, ?_⟩
    exact below_far (below_far hbC (by omega) _ _) (by omega) _ _
theorem rneg6_any (b q : Bool) (N D : Option Addr) (n c m d : Nat) (w : World) (h0 : 0 < n) (hn : n ≤ 1000000) :
    Calls Tryz.prog 44 #[.agg #[.bool b, .slice N n c, .bool q, .slice D m d]] w fun e w' => e = .returned (.agg #[.bool (!b), .slice N n c, .bool q, .slice D m d]) ∧ Below w.heap.size w w' := by
  obtain ⟨W, hW⟩ : ∃ W, (w.alloc (.cells #[.bool b, .slice N n c, .bool q, .slice D m d] 82)).alloc (.cells #[.bool false, .slice none 0 0, .bool false, .slice none 0 0] 82) = W := ⟨_, rfl⟩
  have B1 : Blk W w.heap.size 82 #[.bool b, .slice N n c, .bool q, .slice D m d] := by rw [← hW]; exact (Blk.new _ _ _).alloc _
  have B2 : Blk W (w.heap.size + 1) 82 #[.bool false, .slice none 0 0, .bool false, .slice none 0 0] := by
    rw [← hW]; have := Blk.new (w.alloc (.cells #[.bool b, .slice N n c, .bool q, .slice D m d] 82)) 82 #[.bool false, .slice none 0 0, .bool false, .slice none 0 0]
    simpa using this
  have hbW : Below w.heap.size w W := by rw [← hW]; exact ((Below.refl _ _).alloc (Nat.le_refl _) _).alloc (by simp) _
  have HWW := Lib.hid hW
  clear hW
  have HN := Lib.hid (fun V (h : Below W.heap.size W V) => (nneg_any b N n c V h0 hn).mono fun e w' (h1 : e = .returned (.agg #[.bool (!b), .slice N n c]) ∧ Below V.heap.size V w') => (show e = .returned (.agg #[.bool (!b), .slice N n c]) ∧ Below W.heap.size W w' from ⟨h1.1, below_all h h1.2⟩))
  have hz := B2.lt
  obtain ⟨a0, a1, a2, a3, _, _, _, _⟩ := B1.four
  obtain ⟨d0, d1, d2, d3, f0, f1, f2, f3⟩ := B2.four
  have hbe : Below W.heap.size W W.drew := (Below.refl _ _).drew
  have HC1 := Lib.hid B1
  have HC2 := Lib.hid B2
  clear h0 B1 B2
  go_enter Tryz.func44, Tryz.ntmps44
  go_upto_region 1 with (fail)
  rw [HWW.out]
  go_region_with (go_at_call 54; refine (HN.out _ (by assumption)).mono ?_; rintro e w' ⟨rfl, hbe⟩; have Y1 := HC1.out.keep hbe HC1.out.lt; have Y2 := HC2.out.keep hbe HC2.out.lt; obtain ⟨a0, a1, a2, a3, _, _, _, _⟩ := Y1.four; obtain ⟨d0, d1, d2, d3, f0, f1, f2, f3⟩ := Y2.four)
  all_goals
    go_wp2
    refine bodyPost_ret (v := .agg #[.bool (!b), .slice N n c, .bool q, .slice D m d]) (by simp [results, Tryz.results44, go_sem, d0, d1, d2, d3]) rfl ⟨rfl, ?_⟩
    exact below_far (below_far (below_far (below_far (below_all hbW hbe) (by omega) _ _) (by omega) _ _) (by omega) _ _) (by omega) _ _
end Go.Proofs.Tg
end
section
/- Short numbers of the program: the value of digits, the common divisor, reading. -/
namespace Go.Proofs.Tg
open Go.RowKit Go.Qn
set_option maxHeartbeats 2000000
set_option maxRecDepth 100000
theorem dval_any (s : ByteArray) (w : World) (hs : s.size ≤ 18) (hd : ∀ c ∈ s.data.toList, isD c = true) :
    Calls Tryz.prog 73 #[.string s] w fun e w' => e = .returned (.int .i64 (val s.data.toList : Nat)) ∧ w = w' := by
  have HD := Lib.hid hd
  have HL := Lib.hid (len_size s)
  clear hd
  go_enter Tryz.func73, Tryz.ntmps73
  go_wp2
  go_loop [3, 7] (fun s3 s7 => ∃ (k v : Nat), k ≤ s.size ∧ s7 = .int .i64 k ∧ s3 = .int .i64 v ∧ Hid (v = val (s.data.toList.take k) ∧ v < 10 ^ k)) (fun _ s7 => s.size - (intOf s7).toNat)
  case atStart => exact ⟨0, 0, Nat.zero_le _, rfl, rfl, Lib.hid ⟨rfl, by decide⟩⟩
  case round =>
    obtain ⟨k, v, hk, rfl, rfl, HV⟩ := hrel
    by_cases hlt : k < s.size
    · have hlt' : k < s.data.toList.length := by rw [HL.out]; exact hlt
      have hD := HD.out s.data.toList[k] (List.getElem_mem _)
      obtain ⟨d1, d2⟩ := isD_int hD
      have HX : Hid (val (s.data.toList.take (k + 1)) = 10 * v + (s[k].toNat - 48)) := Lib.hid (by rw [val_take _ _ hlt', HV.out.1]; rfl)
      have hv : v < 100000000000000000 := Nat.lt_of_lt_of_le HV.out.2 (by
        have : 10 ^ k ≤ 10 ^ 17 := Nat.pow_le_pow_right (by omega) (by omega)
        exact Nat.le_trans this (by decide))
      have HP : Hid (10 * v + (s[k].toNat - 48) < 10 ^ (k + 1)) := Lib.hid (by
        have h1 := HV.out.2
        rw [Nat.pow_succ]
        have : s[k].toNat ≤ 57 := by have h := d2; change ((s[k].toNat : Int)) ≤ 57 at h; omega
        omega)
      have e1 : (48 : Int) ≤ (s[k].toNat : Int) := d1
      have e2 : (s[k].toNat : Int) ≤ 57 := d2
      clear hD d1 d2
      go_wp2
      go_round
      case rel => exact ⟨k + 1, 10 * v + (s[k].toNat - 48), by omega, by go_num, by go_num, Lib.hid ⟨HX.out.symm, HP.out⟩⟩
      case measure => simp [intOf]; omega
    · obtain rfl : k = s.size := by omega
      have d0 : decide (s.size < s.size) = false := by simp
      go_wp2
      go_ret
      refine ⟨?_, rfl⟩
      have := HV.out.1
      rw [List.take_of_length_le (by rw [HL.out]; exact Nat.le_refl _)] at this
      rw [this]; rfl
theorem sgcd_any (a b : Nat) (w : World) (ha : a < 1000000000000000000) (hb : b < 1000000000000000000) :
    Calls Tryz.prog 74 #[.int .i64 a, .int .i64 b] w fun e w' => e = .returned (.int .i64 (Nat.gcd a b : Nat)) ∧ Below w.heap.size w w' := by
  go_enter Tryz.func74, Tryz.ntmps74
  go_wp2
  go_loopw [0, 1] (fun s0 s1 wr => ∃ (x y : Nat), s0 = .int .i64 x ∧ s1 = .int .i64 y ∧ x < 1000000000000000000 ∧ y < 1000000000000000000 ∧ Hid (Nat.gcd x y = Nat.gcd a b) ∧ Below w.heap.size w wr) (fun _ s1 _ => (intOf s1).toNat)
  case atStart => exact ⟨a, b, rfl, rfl, ha, hb, Lib.hid rfl, Below.refl _ _⟩
  case round =>
    obtain ⟨wo, rfl⟩ : ∃ wo : World, wo = wr := ⟨_, rfl⟩
    obtain ⟨x, y, rfl, rfl, hx, hy, HG, hbw⟩ := hrel
    by_cases h0 : y = 0
    · subst h0
      go_wp2
      go_ret
      refine ⟨?_, hbw⟩
      have := HG.out
      rw [Nat.gcd_zero_right] at this
      rw [this]; rfl
    · have hne : ((y : Int) != 0) = true := by simp [h0]
      have hne' : ((y : Int) == 0) = false := by simp [h0]
      have hm : Int.tmod (x : Int) (y : Int) = ((x % y : Nat) : Int) := by rw [Int.ofNat_tmod]
      have hlt : x % y < y := Nat.mod_lt _ (by omega)
      have hw : IntKind.i64.wrap (((x % y : Nat) : Int)) = ((x % y : Nat) : Int) := IntWalk.i64_in _ (by omega)
      have HG2 : Hid (Nat.gcd y (x % y) = Nat.gcd a b) := Lib.hid (by rw [← HG.out, Nat.gcd_comm y (x % y), ← Nat.gcd_rec, Nat.gcd_comm])
      generalize x % y = r at *
      go_wp2
      go_quiet (fail)
      go_wp2
      go_roundw
      case rel => exact ⟨y, r, rfl, rfl, hy, by omega, HG2, below_drewN hbw _⟩
      case measure => simp [intOf]; omega
end Go.Proofs.Tg
end
