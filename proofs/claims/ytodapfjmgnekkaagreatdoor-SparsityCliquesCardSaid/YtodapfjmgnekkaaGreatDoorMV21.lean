/- Parts of the proof: XK2, LQ1. -/
import Derived.Test.YtodapfjmgnekkaaGreatDoorMV20
section
/- The harness's SmallPolys. -/
namespace Go.Proofs.Tg
open Go.RowKit Go.Gr Go.Ev Go.Mo
set_option maxHeartbeats 4000000
set_option maxRecDepth 100000
theorem spolys_any (L : Option Addr) (c n t m : Nat) (ps : List PVal) (b : Bool) (w : World) (hL : PolysAt w L ps) (hv : b = true ↔ ps.length ≤ n ∧ ∀ p ∈ ps, p.few t m) (hn : n ≤ 1000) (ht : t ≤ 1000) (hm : m ≤ 1000) :
    Calls Tryz.prog 28 #[.slice L ps.length c, .int .i64 n, .int .i64 t, .int .i64 m] w fun e w' => e = .returned (.bool b) ∧ Below w.heap.size w w' := by
  have HV := Lib.hid hv
  clear hv
  by_cases hl : ps.length ≤ n
  · have hd : decide ((n : Int) < (ps.length : Int)) = false := by simp; omega
    have hd' : decide (n < ps.length) = false := by simp; omega
    go_enter Tryz.func28, Tryz.ntmps28
    go_wp2
    go_loopw [9] (fun i wr => ∃ k : Nat, i = .int .i64 k ∧ k ≤ ps.length ∧ Hid (∀ p ∈ ps.take k, p.few t m) ∧ Below w.heap.size w wr) (fun i _ => ps.length - (intOf i).toNat)
    case atStart => exact ⟨0, rfl, Nat.zero_le _, Lib.hid (by simp), Below.refl _ _⟩
    case round =>
      obtain ⟨k, rfl, hk, HI, hbw⟩ := hrel
      by_cases hkl : k < ps.length
      · obtain ⟨ad, rfl, hc1, hc2, hT⟩ := PolysAt.at (hL.keep hbw) hkl
        have HM : Hid (ps[k] ∈ ps) := Lib.hid (List.getElem_mem _)
        have HT0 : Hid (ps.take (k + 1) = ps.take k ++ [ps[k]]) := Lib.hid (List.take_succ_eq_append_getElem hkl)
        generalize ps[k] = p at *
        by_cases h1 : p.few t m
        · have HS := Lib.hid (spoly_any p t m true wr hT (by simp [h1]) ht hm)
          have HG2 : Hid (∀ p ∈ ps.take (k + 1), p.few t m) := Lib.hid (by
            rw [HT0.out]
            intro l' hl'
            rcases List.mem_append.1 hl' with h | h
            · exact HI.out l' h
            · simp at h; subst h; exact h1)
          clear h1 hT
          obtain ⟨P, T, cp, tv⟩ := p
          simp only at *
          go_wp2_with (go_at_call 27; refine HS.out.mono ?_; rintro e w2 ⟨rfl, hb2⟩)
          go_roundw
          case rel => exact ⟨k + 1, by go_num, by omega, HG2, below_all hbw hb2⟩
          case measure => simp [intOf]; omega
        · have HS := Lib.hid (spoly_any p t m false wr hT (by simp [h1]) ht hm)
          obtain rfl : b = false := by
            cases b
            · rfl
            · exact absurd ((HV.out.1 rfl).2 _ HM.out) h1
          clear h1 hT
          obtain ⟨P, T, cp, tv⟩ := p
          simp only at *
          go_wp2_with (go_at_call 27; refine HS.out.mono ?_; rintro e w2 ⟨rfl, hb2⟩)
          go_ret
          exact ⟨rfl, below_all hbw hb2⟩
      · obtain rfl : k = ps.length := by omega
        obtain rfl : b = true := HV.out.2 ⟨hl, by have := HI.out; rwa [List.take_length] at this⟩
        go_wp2
        go_ret
        exact ⟨rfl, hbw⟩
  · have hd : decide ((n : Int) < (ps.length : Int)) = true := by simp; omega
    have hd' : decide (n < ps.length) = true := by simp; omega
    obtain rfl : b = false := by
      cases b
      · rfl
      · exact absurd (HV.out.1 rfl).1 hl
    go_enter Tryz.func28, Tryz.ntmps28
    go_wp2
    go_ret
    exact ⟨rfl, Below.refl _ _⟩
end Go.Proofs.Tg
end
section
/- The statement SparsityCliques, walked. -/
namespace Go.Proofs.Tg.Sx
open Go.RowKit Go.Gr Go.Sp Go.Ev Go.Mo
set_option maxHeartbeats 4000000
set_option maxRecDepth 100000
/-- The numbers lie in one of the lists. -/
def Inn (ls : List (List Int)) (us : List Int) : Prop := (∃ m ∈ ls, ∀ x ∈ us, x ∈ m) ∨ us = []
theorem cl_facts {p : PVal} {ps : List PVal} (he : errV p ps = 0) {n : Nat} (hn : p.vars = n) (h6 : n ≤ 6) {ls : List (List Int)} (hp : ls.Perm ((keepLast (cands (readAll (xV p ps n)) n)).map vertsI)) :
    (ls.length ≤ 1000000 ∧ ∀ l ∈ ls, l.length ≤ 1000000) ∧ (∀ t ∈ p.tv, ∀ us, (∀ x, x ∈ us ↔ UP [t] x) → Inn ls us) ∧ (∀ c ∈ ps, ∀ us, (∀ x, x ∈ us ↔ UP c.tv x) → Inn ls us) := by
  obtain ⟨⟨hok, hoks⟩, hvs, h32⟩ := errV_zero he
  have hx := extend_es (tableEdges_valid (jV p ps) (n := n) (by omega))
  have hq := clq_es hx.valid hx.chord hp
  have hd : ∀ (c : PVal), c.ok → c.vars = n → ∀ t ∈ c.tv, t.exps.length = n := fun c hc hcn t ht => by
    have h1 : VldP (n : Int) (c.tv.map TV.pl) := by rw [← hcn]; exact hc
    exact (vldP_dom h1 (TV.pl t) (List.mem_map.2 ⟨t, ht, rfl⟩)).1
  refine ⟨⟨by have := hq.few; omega, fun l hl => by have := Gx.asc_short (hq.asc l hl) (hq.lt l hl); omega⟩, fun t ht us hu => ?_, fun c hc us hu => ?_⟩
  · refine covered h6 hp (fun x hx => ?_) (fun k l hk hl hkl => jV_iff.2 (.inl ⟨t, ht, ?_, ?_⟩))
    · obtain ⟨t', ht', k, h1, h2, h3⟩ := (hu x).1 hx
      obtain rfl := List.mem_singleton.1 ht'
      exact ⟨k, h2, by rw [← hd p hok hn _ ht]; exact h1⟩
    · obtain ⟨t', ht', k', h1, h2, h3⟩ := (hu _).1 hk
      obtain rfl := List.mem_singleton.1 ht'
      obtain rfl : k = k' := by omega
      exact h3
    · obtain ⟨t', ht', k', h1, h2, h3⟩ := (hu _).1 hl
      obtain rfl := List.mem_singleton.1 ht'
      obtain rfl : l = k' := by omega
      exact h3
  · refine covered h6 hp (fun x hx => ?_) (fun k l hk hl hkl => jV_iff.2 (.inr ⟨c, hc, ?_, ?_⟩))
    · obtain ⟨t', ht', k, h1, h2, h3⟩ := (hu x).1 hx
      exact ⟨k, h2, by rw [← hd c (hoks c hc) ((hvs c hc).trans hn) _ ht']; exact h1⟩
    · obtain ⟨t', ht', k', h1, h2, h3⟩ := (hu _).1 hk
      obtain rfl : k = k' := by omega
      exact ⟨t', ht', h3⟩
    · obtain ⟨t', ht', k', h1, h2, h3⟩ := (hu _).1 hl
      obtain rfl : l = k' := by omega
      exact ⟨t', ht', h3⟩
theorem one_terms {w : World} {t : TV} (ty : TypeId) (h : Ints w t.adr t.exps) : TermsAt (w.alloc (.cells #[.string t.coef, .slice t.adr t.exps.length t.cap] ty)) (some ⟨w.heap.size, 0, none⟩) [t] := by
  have hB := Blk.new w ty #[.string t.coef, .slice t.adr t.exps.length t.cap]
  refine ⟨⟨by simp [TV.cells], fun _ => ⟨_, rfl, hB.lt, fun j u hu => ?_⟩⟩, fun t' ht' => ?_⟩
  · rw [add_lit, Nat.zero_add, hB.cell j]
    simpa [TV.cells] using hu
  · obtain rfl := List.mem_singleton.1 ht'
    exact h.keep ((Below.refl _ _).alloc (Nat.le_refl _) _)
theorem law_cliques (p : PVal) (L : Option Addr) (cl : Nat) (ps : List PVal) (w : World) (hP : TermsAt w p.adr p.tv) (hL : PolysAt w L ps) (hT : Tab w) :
    Calls Tryz.prog 8 #[.agg #[.int .i64 p.vars, .slice p.adr p.tv.length p.cap], .slice L ps.length cl] w fun e w' => e = .returned (.bool true) ∧ Below w.heap.size w w' := by
  obtain ⟨W, hW⟩ : ∃ W, w.alloc (.cells #[.int .i64 p.vars, .slice p.adr p.tv.length p.cap] 24) = W := ⟨_, rfl⟩
  have hbA : Below w.heap.size w W := by rw [← hW]; exact (Below.refl _ _).alloc (Nat.le_refl _) _
  have B0 : Blk W w.heap.size 24 #[.int .i64 p.vars, .slice p.adr p.tv.length p.cap] := by rw [← hW]; exact Blk.new _ _ _
  obtain ⟨s1, hs1⟩ : ∃ s : Bool, s = true ↔ p.few 6 8 := by classical exact ⟨decide (p.few 6 8), decide_eq_true_iff⟩
  obtain ⟨s2, hs2⟩ : ∃ s : Bool, s = true ↔ ps.length ≤ 4 ∧ ∀ c ∈ ps, c.few 4 8 := by classical exact ⟨decide (ps.length ≤ 4 ∧ ∀ c ∈ ps, c.few 4 8), decide_eq_true_iff⟩
  have HS1 : Hid (Calls Tryz.prog 27 #[.agg #[.int .i64 p.vars, .slice p.adr p.tv.length p.cap], .int .i64 6, .int .i64 8] W fun e w' => e = .returned (.bool s1) ∧ Below W.heap.size W w') := Lib.hid (spoly_any p 6 8 s1 W (hP.keep hbA) hs1 (by omega) (by omega))
  have HS2 : Hid (∀ V, Below w.heap.size w V → Calls Tryz.prog 28 #[.slice L ps.length cl, .int .i64 4, .int .i64 4, .int .i64 8] V fun e w' => e = .returned (.bool s2) ∧ Below V.heap.size V w') := Lib.hid (fun V h => spolys_any L cl 4 4 8 ps s2 V (hL.keep h) hs2 (by omega) (by omega) (by omega))
  have HAW : Hid (∀ V, Below w.heap.size w V → Calls Tryz.prog 10 #[] V fun e w' => e = .returned (.bool true) ∧ Below V.heap.size V w') := Lib.hid (fun V h => awake_any V (hT.below h hT.1))
  have HWW := Lib.hid hW
  obtain ⟨c0, c1, _, _⟩ := B0.two
  cases s1 with
  | false =>
    clear hs1 hs2 HS2 hP hL hW
    generalize p.vars = P at *
    generalize p.adr = T at *
    generalize p.tv.length = tl at *
    generalize p.cap = cT at *
    go_enter Tryz.func8, Tryz.ntmps8
    go_upto_region 1 with (fail)
    rw [HWW.out]
    go_wp2_with (first
      | (go_at_call 27; refine HS1.out.mono ?_; rintro e w1 ⟨rfl, hb1⟩
         have hb2 := below_all hbA hb1)
      | (go_at_call 10; refine (HAW.out _ hb2).mono ?_; rintro e w3 ⟨rfl, hb3⟩))
    go_ret
    exact ⟨rfl, below_all hb2 hb3⟩
  | true =>
    cases s2 with
    | false =>
      clear hs1 hs2 hP hL hW
      generalize p.vars = P at *
      generalize p.adr = T at *
      generalize p.tv.length = tl at *
      generalize p.cap = cT at *
      go_enter Tryz.func8, Tryz.ntmps8
      go_upto_region 1 with (fail)
      rw [HWW.out]
      go_wp2_with (first
        | (go_at_call 28; refine (HS2.out _ hb2).mono ?_; rintro e w2 ⟨rfl, hb3⟩
           have hb4 := below_all hb2 hb3)
        | (go_at_call 27; refine HS1.out.mono ?_; rintro e w1 ⟨rfl, hb1⟩
           have hb2 := below_all hbA hb1)
        | (go_at_call 10; refine (HAW.out _ hb4).mono ?_; rintro e w3 ⟨rfl, hb5⟩))
      go_ret
      exact ⟨rfl, below_all hb4 hb5⟩
    | true =>
      have hfew := hs1.1 rfl
      obtain ⟨hpl, hpf⟩ := hs2.1 rfl
      have hsm : p.small := ⟨by have := hfew.1; omega, fun t ht => by have := hfew.2 t ht; omega⟩
      have hls : ∀ c ∈ ps, c.small := fun c hc => ⟨by have := (hpf c hc).1; omega, fun t ht => by have := (hpf c hc).2 t ht; omega⟩
      have HCL : Hid (∀ V, Below w.heap.size w V → Calls Tryz.prog 31 #[.agg #[.int .i64 p.vars, .slice p.adr p.tv.length p.cap], .slice L ps.length cl] V fun e w' => ∃ er ls C cc, e = .returned (.tuple #[.slice C (List.length ls) cc, .int .i64 er]) ∧ Lists w' C ls ∧ Below V.heap.size V w' ∧ (er = 0 →
          (ls.length ≤ 1000000 ∧ ∀ l ∈ ls, l.length ≤ 1000000) ∧ (∀ t ∈ p.tv, ∀ us, (∀ x, x ∈ us ↔ UP [t] x) → Inn ls us) ∧ (∀ c ∈ ps, ∀ us, (∀ x, x ∈ us ↔ UP c.tv x) → Inn ls us))) := Lib.hid (fun V h =>
        (scliques_any p L cl ps V (hP.keep h) (hL.keep h) hsm hls (by omega) (hT.below h hT.1)).mono (by
          rintro e w' ⟨hb, ⟨her, rfl⟩ | ⟨her, n, hn, hn6, ls, C, cc, rfl, hC, hpm, -⟩⟩
          · exact ⟨_, [], none, 0, rfl, ⟨fun _ => (none, 0), Sl.nil _ _ _, fun i hi => by simp at hi⟩, hb, fun h => absurd h her⟩
          · exact ⟨0, ls, C, cc, rfl, hC, hb, fun _ => cl_facts her hn hn6 hpm⟩))
      have HUT : Hid (∀ V A t, t ∈ p.tv → TermsAt V A [t] → Calls Tryz.prog 34 #[.slice A 1 1] V fun e w' => ∃ A ca us, e = .returned (.slice A (List.length us) ca) ∧ Ints w' A us ∧ us.length ≤ 1000000 ∧ (∀ x, x ∈ us ↔ UP [t] x) ∧ Below V.heap.size V w') := Lib.hid (fun V A t ht h =>
        used_any A 1 [t] V h (by simp) (fun t' ht' => by
          obtain rfl := List.mem_singleton.1 ht'
          exact (hsm.2 _ ht).2))
      have HUC : Hid (∀ V i (hi : i < ps.length), TermsAt V ps[i].adr ps[i].tv → Calls Tryz.prog 34 #[.slice ps[i].adr ps[i].tv.length ps[i].cap] V fun e w' => ∃ A ca us, e = .returned (.slice A (List.length us) ca) ∧ Ints w' A us ∧ us.length ≤ 1000000 ∧ (∀ x, x ∈ us ↔ UP ps[i].tv x) ∧ Below V.heap.size V w') := Lib.hid (fun V i hi h =>
        used_any _ _ _ V h (by have := (hls _ (List.getElem_mem hi)).1; omega) (fun t ht => ((hls _ (List.getElem_mem hi)).2 t ht).2))
      have HTL : Hid (p.tv.length ≤ 6) := Lib.hid hfew.1
      have HP := Lib.hid hP
      have HL := Lib.hid hL
      clear hs1 hs2 hP hL hW hsm hls hpf hfew
      generalize p.vars = P at *
      generalize p.adr = T at *
      generalize p.tv = tv at *
      generalize p.cap = cT at *
      go_enter Tryz.func8, Tryz.ntmps8
      go_upto_region 1 with (fail)
      rw [HWW.out]
      clear HWW
      go_wp2_with (first
        | (go_at_call 28; refine (HS2.out _ hb2).mono ?_; rintro e w2 ⟨rfl, hb3⟩
           have D0 := C0.keep hb3 C0.lt
           obtain ⟨d0, d1, _, _⟩ := D0.two
           have hb4 := below_all hb2 hb3)
        | (go_at_call 27; refine HS1.out.mono ?_; rintro e w1 ⟨rfl, hb1⟩
           have C0 := B0.keep hb1 B0.lt
           have hb2 := below_all hbA hb1))
      refine (HCL.out _ hb4).mono ?_
      rintro e w3 ⟨er, ls, C, cc, rfl, hC, hb5, hfac⟩
      have E0 := D0.keep hb5 D0.lt
      have hb6 := below_all hb4 hb5
      clear D0 d0 d1 hb4 hb5 hb3 C0 hb2 hb1 B0 c0 c1 hbA HCL HS1 HS2
      by_cases her : er = 0
      · subst her
        obtain ⟨hll, hft, hfc⟩ := hfac rfl
        have HIN : Hid (∀ V U cu us, Below w3.heap.size w3 V → Ints V U us → us.length ≤ 1000000 → Inn ls us → Calls Tryz.prog 33 #[.slice U us.length cu, .slice C ls.length cc] V fun e w' => e = .returned (.bool true) ∧ Dr V w') := Lib.hid (fun V U cu us hV hU hu hi =>
          inside_any U C cu cc us ls true V hU (hC.keep hV) hu hll.1 hll.2 (iff_of_true rfl hi))
        have HFT := Lib.hid hft
        have HFC := Lib.hid hfc
        have hbr : Below w3.heap.size w3 w3 := Below.refl _ _
        have h3l := E0.lt
        clear hfac hft hfc hC hll
        go_wp2_with (fail)
        go_loopw [7] (fun s7 wr => ∃ i : Nat, s7 = .int .i64 i ∧ i ≤ tv.length ∧ Blk wr w.heap.size 24 #[.int .i64 P, .slice T tv.length cT] ∧ Below w3.heap.size w3 wr) (fun s7 _ => tv.length - (intOf s7).toNat)
        case atStart => exact ⟨0, rfl, Nat.zero_le _, E0, hbr⟩
        case round =>
          clear E0 hbr
          obtain ⟨wo, rfl⟩ : ∃ wo : World, wo = wr := ⟨_, rfl⟩
          obtain ⟨i, rfl, hi, E0, hbr⟩ := hrel
          obtain ⟨c0, c1, _, _⟩ := E0.two
          by_cases hlt : i < tv.length
          · obtain ⟨td, rfl, e0, e1, hI⟩ := (HP.out.keep (below_all hb6 hbr)).at hlt
            have htx := one_terms (t := tv[i]) 69 hI
            have HU := Lib.hid (HUT.out _ _ _ (List.getElem_mem hlt) htx)
            have HF := Lib.hid (HFT.out _ (List.getElem_mem hlt))
            clear htx hI
            generalize tv[i] = t at *
            obtain ⟨s, E, ce, el⟩ := t
            simp only at e0 e1 HU
            have hbx := hbr.alloc hbr.size (.cells #[.string s, .slice E el.length ce] 69)
            have E1 := E0.alloc (.cells #[.string s, .slice E el.length ce] 69)
            have p0 : (0 : Int) ≤ (i : Int) := by omega
            have p1 : (i : Int) < (tv.length : Int) := by omega
            have p3 : ((i : Int)).toNat = i := by omega
            have htl := HTL.out
            have wi : IntKind.i64.wrap ((i : Int) + 1) = (i : Int) + 1 := IntWalk.i64_in _ (by omega)
            go_wp2_with (first
              | (go_at_call 34; refine HU.out.mono ?_; rintro e w4 ⟨A, ca, us, rfl, hA, hul, hus, hb7⟩
                 have E2 := E1.keep hb7 E1.lt
                 have hb8 := below_all hbx hb7
                 have HI := Lib.hid (HIN.out w4 A ca us hb8 hA hul (HF.out us hus))
                 clear hus)
              | (go_at_call 33; refine HI.out.mono ?_; rintro e w5 ⟨rfl, hd5⟩))
            go_roundw
            case rel => exact ⟨i + 1, by go_num, by omega, E2.keep hd5.below E2.lt, below_all hb8 hd5.below⟩
            case measure => simp [intOf]; omega
          · obtain rfl : i = tv.length := by omega
            have di : decide ((tv.length : Int) < (tv.length : Int)) = false := by simp
            go_wp2_with (fail)
            go_loopw [8] (fun s8 wr => ∃ i : Nat, s8 = .int .i64 i ∧ i ≤ ps.length ∧ Below w3.heap.size w3 wr) (fun s8 _ => ps.length - (intOf s8).toNat)
            case atStart => exact ⟨0, rfl, Nat.zero_le _, hbr⟩
            case round =>
              clear E0 hbr c0 c1
              obtain ⟨wo, rfl⟩ : ∃ wo : World, wo = wr := ⟨_, rfl⟩
              obtain ⟨i, rfl, hi, hbr⟩ := hrel
              by_cases hlt : i < ps.length
              · obtain ⟨pd, rfl, e0, e1, hI⟩ := (HL.out.keep (below_all hb6 hbr)).at hlt
                have HU := Lib.hid (HUC.out _ i hlt hI)
                have HF := Lib.hid (HFC.out _ (List.getElem_mem hlt))
                clear hI
                generalize ps[i] = c at *
                obtain ⟨cv, E, ce, el⟩ := c
                simp only at e0 e1 HU HF
                have p0 : (0 : Int) ≤ (i : Int) := by omega
                have p1 : (i : Int) < (ps.length : Int) := by omega
                have p3 : ((i : Int)).toNat = i := by omega
                have wi : IntKind.i64.wrap ((i : Int) + 1) = (i : Int) + 1 := IntWalk.i64_in _ (by omega)
                go_wp2_with (first
                  | (go_at_call 34; refine HU.out.mono ?_; rintro e w4 ⟨A, ca, us, rfl, hA, hul, hus, hb7⟩
                     have hb8 := below_all hbr hb7
                     have HI := Lib.hid (HIN.out w4 A ca us hb8 hA hul (HF.out us hus))
                     clear hus)
                  | (go_at_call 33; refine HI.out.mono ?_; rintro e w5 ⟨rfl, hd5⟩))
                go_roundw
                case rel => exact ⟨i + 1, by go_num, by omega, below_all hb8 hd5.below⟩
                case measure => simp [intOf]; omega
              · obtain rfl : i = ps.length := by omega
                have di : decide ((ps.length : Int) < (ps.length : Int)) = false := by simp
                have hb9 := below_all hb6 hbr
                go_wp2_with (go_at_call 10; refine (HAW.out _ hb9).mono ?_; rintro e w9 ⟨rfl, hb10⟩)
                go_ret
                exact ⟨rfl, below_all hb9 hb10⟩
      · have hne : (er != 0) = true := by simp [her]
        clear hfac hC E0
        go_wp2_with (go_at_call 10; refine (HAW.out _ hb6).mono ?_; rintro e w9 ⟨rfl, hb10⟩)
        go_ret
        exact ⟨rfl, below_all hb6 hb10⟩
end Go.Proofs.Tg.Sx
end
