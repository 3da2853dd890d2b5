/- Parts of the proof: MO7, MO8, RO1. -/
import Derived.Test.YtpkompfkhoceoaaGreatDoorMMV4
import Derived.Test.YtpkompfkhoceoaaGreatDoorMMV5
import Derived.Test.YtpkompfkhoceoaaGreatDoorMMV17
import Derived.Test.YtpkompfkhoceoaaGreatDoorMMV23
import Derived.Test.YtpkompfkhoceoaaGreatDoorMMV26
import Derived.Test.YtpkompfkhoceoaaGreatDoorMMV29
section
/- The reference's list of monomials: exact. -/
namespace Go.Proofs.Tg
open Go.RowKit Go.Mm
set_option maxHeartbeats 8000000
set_option maxRecDepth 100000
theorem OwnI.apart {base : Nat} {w w' : World} {A : Option Addr} {c : Nat} {rs : List IRow} {b' n' : Nat} {v' : Value} {ys : List Value} (h : OwnI base w A c rs) (ho : w.ownsRow b' 41 1 v' n' ys) (hg : w.grownBy w' v'.ownBlock) (hne : ∀ b, (Value.slice A rs.length c).ownBlock = some b → v'.ownBlock ≠ some b) : OwnI base w' A c rs := by
  refine ⟨h.own.kept hg ?_, fun r hr => (h.rows r hr).kept hg (own_ne (h.rows r hr) ho (by decide))⟩
  cases hb : (Value.slice A rs.length c).ownBlock with
  | none => exact .inl rfl
  | some b => exact .inr (fun e => hne b hb e.symm)
/-- The inner loop of exact. -/
structure ExIn (base : Nat) (w : World) (A : Option Addr) (c : Nat) (rs : List IRow) (ms : List (List Int)) (bR : Nat) (RA : Option Addr) (rc : Nat) (rr : List IRow) (wr : World) (A' : Option Addr) (c' : Nat) (rs' : List IRow) : Prop where
  st : ApSt base w A c rs ms wr A' c' rs'
  rest : OwnI bR wr RA rc rr
  apart : ∀ b, (Value.slice RA rr.length rc).ownBlock = some b → (Value.slice A' rs'.length c').ownBlock ≠ some b
theorem exact_ref (n : Nat) : ∀ (d base : Nat) (w : World) (A : Option Addr) (c : Nat) (rs : List IRow), OwnI base w A c rs → base ≤ w.heap.size → rs.length + (exactL (n + 1) d).length ≤ 100000 → n ≤ 90 → d ≤ 1000 →
    Calls Tryz.prog 86 #[.slice A rs.length c, .int .i64 ((n + 1 : Nat) : Int), .int .i64 (d : Nat)] w (RetApp base w A c rs (exactL (n + 1) d)) := by
  induction n with
  | zero =>
    intro d base w A c rs hO hbase hl hn hd
    obtain ⟨j0, hj, jz0, jz1, jz2⟩ := info_parts irow_info
    rw [exact_one] at hl ⊢
    have hrl : rs.length ≤ 100000 := by omega
    obtain ⟨nr, hnr⟩ : ∃ x, rs.length = x := ⟨_, rfl⟩
    have HO := Lib.hid hO
    have hown := hO.own
    unfold RetApp
    rw [hnr] at hrl hown ⊢
    have HNR := Lib.hid hnr
    clear hl hnr hO
    have hO1 : (w.alloc (.cells #[.int .i64 (d : Nat)] 3)).ownsRow w.heap.size 3 1 (.slice (some ⟨w.heap.size, 0, none⟩) 1 1) 1 [.int .i64 (d : Nat)] := World.ownsRow_lit w #[.int .i64 (d : Nat)] 1 (Nat.le_refl _) (by simp [maxLen]) rfl
    obtain ⟨w2, hw2⟩ : ∃ w2, w.alloc (.cells #[.int .i64 (d : Nat)] 3) = w2 := ⟨_, rfl⟩
    rw [hw2] at hO1
    have hb2 : Below w.heap.size w w2 := by rw [← hw2]; exact (Below.refl _ _).alloc (Nat.le_refl _) _
    have hown2 := own_below hown hb2 (Nat.le_refl _)
    have hbz : base ≤ w2.heap.size := Nat.le_trans hbase hb2.size
    have hs2 : w2.heap.size = w.heap.size + 1 := by rw [← hw2]; simp
    have hcn := cell_one_new w2 (.slice (some ⟨w.heap.size, 0, none⟩) 1 1) 41
    rw [hs2] at hcn
    have HCN := Lib.hid hcn
    have HW2 := Lib.hid hw2
    clear hw2 hown hcn
    rw [show ((0 + 1 : Nat) : Int) = 1 from rfl]
    go_enter Tryz.func86, Tryz.ntmps86
    go_wp2_with (first
      | (at_builtin; rw [HW2.out]; refine wpList_append_own_at _ rfl _ _ 80 rfl base 41 j0 _ 1 24 Tryz.underlying80 hj jz0 jz1 jz2 rfl (by decide) (.slice A nr c) nr _ rfl (hown2.alloc _) ⟨w.heap.size + 1, 0, none⟩ 1 1 [.slice (some ⟨w.heap.size, 0, none⟩) 1 1] rfl rfl ?c1 ?c2 ?c3 ?c4 ?c5 ?_
         case c1 => exact HCN.out
         case c2 => simp [Value.oneCell']
         case c3 => simp only [maxLen]; omega
         case c4 => omega
         case c5 => simp; omega
         intro v' w5 hown' hgrow _ hat))
    go_ret
    obtain ⟨A2, cs2, hv2, _, _⟩ := Sl.of_own hown'
    subst hv2
    have hal := Below.alloc (Below.refl w2.heap.size w2) (Nat.le_refl _) (.cells #[.slice (some ⟨w.heap.size, 0, none⟩) 1 1] 41)
    refine ⟨A2, cs2, rs ++ [⟨some ⟨w.heap.size, 0, none⟩, 1, [(d : Int)]⟩], by rw [List.length_append, HNR.out]; rfl, ?_, by simp, ?_, ?_⟩
    · refine OwnI.push ((HO.out.keep hb2).keep hal) ?_ (by rw [HNR.out]; exact hgrow) ?_
      · exact (own_base hO1 hbase).alloc _
      · rw [HNR.out]; exact hown'
    · exact grown_chain (grown_below (World.grownBy.refl w _) (below_all hb2 hal)) hgrow (.inl rfl)
    · rw [List.length_append, HNR.out]
      rcases hat with h | h
      · exact .inl h
      · exact .inr ⟨_, h, by have := hb2.size; simp; omega⟩
  | succ n ih =>
    intro d base w A c rs hO hbase hl hn hd
    have IH := Lib.hid ih
    have HL := Lib.hid hl
    have HQ : Hid (exTo (n + 1) d (d + 1) = exactL (n + 1 + 1) d) := Lib.hid (exTo_all _ _)
    have HST : Hid (ApSt base w A c rs (exTo (n + 1) d 0) w A c rs) := Lib.hid ⟨hO, by simp [exTo_zero], World.grownBy.refl _ _, .inl rfl⟩
    have HLE := Lib.hid (exTo_le (n + 1) d)
    unfold RetApp
    rw [← HQ.out]
    obtain ⟨N, hN⟩ : ∃ N, n + 1 + 1 = N := ⟨_, rfl⟩
    rw [hN] at HL HLE
    rw [hN]
    have nz : ((N : Int) == 0) = false := beq_eq_false_iff_ne.2 (by omega)
    have nz1 : ((N : Int) == 1) = false := beq_eq_false_iff_ne.2 (by omega)
    have nz' : (N == 0) = false := beq_eq_false_iff_ne.2 (by omega)
    have nz1' : (N == 1) = false := beq_eq_false_iff_ne.2 (by omega)
    have hNw : IntKind.i64.wrap ((N : Int) - 1) = ((n + 1 : Nat) : Int) := by
      rw [show (N : Int) - 1 = ((n + 1 : Nat) : Int) by omega]; exact IntWalk.i64_in _ (by omega)
    obtain ⟨M, hM⟩ : ∃ M, n + 1 = M := ⟨_, rfl⟩
    rw [hM] at IH HLE HST hNw
    rw [hM]
    have hMn : M ≤ 91 := by omega
    have HMN : Hid (M = n + 1) := Lib.hid hM.symm
    clear ih hl hO hN HQ hM
    go_enter Tryz.func86, Tryz.ntmps86
    go_wp2
    go_loopw [0, 7] (fun s0 s7 wr => ∃ (j : Nat) (i : Int) (A' : Option Addr) (c' : Nat) (rs' : List IRow), s0 = .slice A' rs'.length c' ∧ s7 = .int .i64 i ∧ j ≤ d + 1 ∧ i = (d : Int) - (j : Int) ∧ Hid (ApSt base w A c rs (exTo M d j) wr A' c' rs')) (fun _ s7 _ => (intOf s7 + 1).toNat)
    case atStart => exact ⟨0, d, A, c, rs, rfl, rfl, by omega, by simp, HST⟩
    case round =>
      clear HST
      obtain ⟨wo, rfl⟩ : ∃ wo : World, wo = wr := ⟨_, rfl⟩
      obtain ⟨j, i, A', c', rs', rfl, rfl, hj, hi, HST⟩ := hrel
      by_cases hjd : j = d + 1
      · have hi0 : decide ((0 : Int) ≤ i) = false := decide_eq_false (by omega)
        have HJ := Lib.hid hjd
        clear hjd hi
        go_wp2
        go_ret
        have h := HST.out
        rw [HJ.out] at h
        exact ⟨A', c', rs', rfl, h.own, h.eq, h.grown, h.at_⟩
      · have hj2 : j ≤ d := by omega
        have hi2 : (0 : Int) ≤ i := by omega
        have hi1 : decide ((0 : Int) ≤ i) = true := decide_eq_true hi2
        have w1 : IntKind.i64.wrap ((d : Int) - i) = (j : Int) := by
          rw [show (d : Int) - i = (j : Int) by omega]; exact IntWalk.i64_in _ (by omega)
        have w3 : IntKind.i64.wrap (i - 1) = i - 1 := IntWalk.i64_in _ (by omega)
        have HI : Hid (i = ((d - j : Nat) : Int)) := Lib.hid (by omega)
        have hrl : rs'.length + (exactL M j).length ≤ 100000 := by
          have h1 := congrArg List.length HST.out.eq
          simp only [List.length_map, List.length_append] at h1
          have h2 := HLE.out (j + 1) (by omega)
          rw [exTo_len] at h2
          have h3 := HL.out
          omega
        have hRL := Lib.hid hrl
        have HC := IH.out j wo.heap.size wo none 0 [] (OwnI.nil _ _) (Nat.le_refl _) (by simp; omega) (by omega) (by omega)
        unfold RetApp at HC
        rw [List.length_nil, List.map_nil, List.nil_append] at HC
        have HC := Lib.hid HC
        clear hrl hi hjd
        go_wp2_with (fail)
        refine HC.out.mono ?_
        rintro e w2 ⟨RA, rc, rr, rfl, hR, hre, hgR, _⟩
        have hb2 : Below wo.heap.size wo w2 := (Below.refl _ _).grown hgR (Nat.le_refl _) (fun k hk => by simp [Value.ownBlock] at hk)
        obtain ⟨q, hq⟩ : ∃ q, rr.length = q := ⟨_, rfl⟩
        have hql : q = (exactL M j).length := by rw [← hq, ← hre, List.length_map]
        have HIN : Hid (ExIn base w A c rs (exTo M d j ++ ((exactL M j).take 0).map (· ++ [i])) wo.heap.size RA rc rr w2 A' c' rs') := Lib.hid (by
          have h := HST.out
          refine ⟨⟨h.own.keep hb2, by rw [h.eq]; simp, grown_below h.grown hb2, h.at_⟩, hR, fun b hb e => ?_⟩
          have h1 := (hR.own.lt b hb).1
          have h2 := (h.own.own.lt b e).2
          omega)
        rw [hq]
        have HQL := Lib.hid hql
        have HRE := Lib.hid hre
        have HQ2 := Lib.hid hq
        have hzo : w.heap.size ≤ wo.heap.size := HST.out.grown.size
        have hq5 : q ≤ 100000 := by have := hRL.out; omega
        have HTA : Hid ((exactL M j).take q = exactL M j) := Lib.hid (by rw [hql, List.take_length])
        clear hR hre hgR hb2 HC hql hq
        go_wp2
        go_loopw [0, 9] (fun s0 s9 wr => ∃ (t : Nat) (A' : Option Addr) (c' : Nat) (rs' : List IRow), s0 = .slice A' rs'.length c' ∧ s9 = .int .i64 (t : Nat) ∧ t ≤ q ∧ Hid (ExIn base w A c rs (exTo M d j ++ ((exactL M j).take t).map (· ++ [i])) wo.heap.size RA rc rr wr A' c' rs')) (fun _ s9 _ => q - (intOf s9).toNat)
        case atStart => exact ⟨0, A', c', rs', rfl, rfl, Nat.zero_le _, HIN⟩
        case round =>
          clear HIN HST
          obtain ⟨wi, rfl⟩ : ∃ wi : World, wi = wr := ⟨_, rfl⟩
          obtain ⟨t, A', c', rs', rfl, rfl, ht, HIN⟩ := hrel
          by_cases htq : t = q
          · have e1 : decide ((t : Int) < (q : Int)) = false := decide_eq_false (by omega)
            have e1' : decide (t < q) = false := decide_eq_false (by omega)
            have HTQ := Lib.hid htq
            clear htq
            go_wp2
            go_roundw
            case rel =>
              refine ⟨j + 1, i - 1, A', c', rs', rfl, by go_num, by omega, by have := HI.out; omega, Lib.hid ?_⟩
              have h := HIN.out.st
              rw [HTQ.out, HTA.out, HI.out, ← exTo_succ] at h
              exact h
            case measure => simp [intOf]; omega
          · have htl : t < q := by omega
            have e1 : decide ((t : Int) < (q : Int)) = true := decide_eq_true (by omega)
            have e1' : decide (t < q) = true := decide_eq_true htl
            have q0 : (0 : Int) ≤ (t : Int) := by omega
            have q1 : (t : Int) < (q : Int) := by omega
            have htr : t < rr.length := by rw [HQ2.out]; exact htl
            have hte : t < (exactL M j).length := by rw [← HQL.out]; exact htl
            obtain ⟨ad, hRA, hcR, hIR⟩ := HIN.out.rest.lists htr
            subst hRA
            have hrow : rr[t].l = (exactL M j)[t] := by
              have h1 : (rr.map IRow.l)[t]? = (exactL M j)[t]? := by rw [HRE.out]
              simpa [htr, hte] using h1
            have hmem : (exactL M j)[t] ∈ exactL M j := List.getElem_mem _
            have HTS : Hid ((exactL M j).take (t + 1) = (exactL M j).take t ++ [(exactL M j)[t]]) := Lib.hid (List.take_succ_eq_append_getElem hte)
            rw [hrow] at hcR hIR
            obtain ⟨mo, hmo⟩ : ∃ mo, (exactL M j)[t] = mo := ⟨_, rfl⟩
            rw [hmo] at hcR hIR hmem HTS
            have hmol := (exact_mem _ _ _ hmem).1
            rw [hmol] at hcR
            have HMOL := Lib.hid hmol
            have HIR := Lib.hid hIR
            have hsz : wo.heap.size ≤ wi.heap.size := by
              have h1 := HIN.out.rest.own.lt
              have h2 := (Sl.own HIN.out.rest.own).lies (by omega)
              obtain ⟨ad', e', hl', _⟩ := h2
              injection e' with e'
              subst e'
              rcases HIN.out.rest.own.2 with ⟨e2, _⟩ | ⟨g, cap, cur, e2, hg2, hh2, _⟩
              · cases e2
              · have := (Array.getElem?_eq_some_iff.1 hh2).1; omega
            have hrl : rs'.length + 1 ≤ 100001 := by
              have h1 := congrArg List.length HIN.out.st.eq
              simp only [List.length_map, List.length_append, List.length_take] at h1
              have h2 := HLE.out (j + 1) (by omega)
              rw [exTo_len] at h2
              have h3 := HL.out
              omega
            obtain ⟨nr, hnr⟩ : ∃ x, rs'.length = x := ⟨_, rfl⟩
            rw [hnr] at hrl ⊢
            have HNR := Lib.hid hnr
            generalize rr[t].A = mA at *
            generalize rr[t].c = mC at *
            have hO0 : (wi.alloc (.cells #[] 3)).ownsRow wi.heap.size 3 1 (.slice (some ⟨wi.heap.size, 0, none⟩) 0 0) 0 [] := World.ownsRow_lit wi #[] 0 (Nat.le_refl _) (by simp) (by simp)
            have hcR2 := cell_alloc hcR (.cells #[] 3)
            have hadl := World.block_lt_of_cell? wi _ hcR
            clear hrow hmo hmem hmol hIR hnr htq hte
            go_wp2_with (first
              | (at_builtin; refine wpList_app_ints _ rfl _ _ rfl wi.heap.size (.slice (some ⟨wi.heap.size, 0, none⟩) 0 0) 0 [] rfl hO0 ⟨_, _, rfl⟩ mA M mC mo HMOL.out rfl (HIR.out.alloc _) (by omega) (by simp) ?_
                 intro E ce w3 hE hgE
                 refine Hid.out ?_))
            refine Lib.hid ?_
            rw [Nat.zero_add] at *
            have hb3 : Below wi.heap.size wi w3 := ((Below.refl wi.heap.size wi).alloc (Nat.le_refl _) _).grown hgE (by simp) (fun k hk => by simp [Value.ownBlock] at hk; omega)
            rw [List.nil_append] at hE
            obtain ⟨gE, hEE⟩ : ∃ g, E = some g := by
              rcases hE.2 with ⟨e, h0⟩ | ⟨g, cap, cur, e, _⟩
              · have := HMN.out; omega
              · injection e with e; exact ⟨_, e⟩
            subst hEE
            have hIA : (w3.alloc (.cells #[.int .i64 i] 3)).ownsRow 0 3 1 (.slice (some ⟨w3.heap.size, 0, none⟩) 1 1) 1 [.int .i64 i] := own_base (World.ownsRow_lit w3 #[.int .i64 i] 1 (Nat.le_refl _) (by simp [maxLen]) rfl) (Nat.zero_le _)
            have hII : Ints (w3.alloc (.cells #[.int .i64 i] 3)) (some ⟨w3.heap.size, 0, none⟩) [i] := Sl.own hIA
            have hEA := hE.alloc (.cells #[.int .i64 i] 3)
            have HB3 := Lib.hid hb3
            have hz3 : wi.heap.size ≤ w3.heap.size := hb3.size
            clear hgE hO0 hcR hcR2 hb3 hE hIA
            go_wp2_with (first
              | (at_builtin; refine wpList_app_ints _ rfl _ _ rfl wi.heap.size (.slice (some gE) M ce) M (mo.map vi) rfl hEA ⟨_, _, rfl⟩ (some ⟨w3.heap.size, 0, none⟩) 1 1 [i] rfl rfl hII (by omega) (by simp; omega) ?_
                 intro E2 ce2 w4 hE2 hgE2
                 refine Hid.out ?_))
            refine Lib.hid ?_
            have hb4 : Below wi.heap.size wi w4 := (HB3.out.alloc hz3 _).grown hgE2 (by simp; omega) (fun k hk => (hEA.lt k hk).1)
            obtain ⟨j0, hj0, jz0, jz1, jz2⟩ := info_parts irow_info
            have hIN4 := HIN.out.st.own.keep hb4
            have hown4 := hIN4.own
            rw [HNR.out] at hown4
            have hbz4 : base ≤ w4.heap.size := Nat.le_trans hbase (Nat.le_trans hzo (Nat.le_trans hsz hb4.size))
            have HB4 := Lib.hid hb4
            have HE2 := Lib.hid hE2
            have HIN4 := Lib.hid hIN4
            clear hb4 hE2 hIN4 hgE2 hEA hII HB3
            go_wp2_with (first
              | (at_builtin; refine wpList_append_own_at _ rfl _ _ 80 rfl base 41 j0 _ 1 24 Tryz.underlying80 hj0 jz0 jz1 jz2 rfl (by decide) (.slice A' nr c') nr _ rfl (hown4.alloc _) ⟨w4.heap.size, 0, none⟩ 1 1 [.slice E2 (M + 1) ce2] rfl rfl ?c1 ?c2 ?c3 ?c4 ?c5 ?_
                 case c1 => exact cell_one_new _ _ _
                 case c2 => simp [Value.oneCell']
                 case c3 => simp only [maxLen]; omega
                 case c4 => omega
                 case c5 => simp; omega
                 intro v' w5 hown' hgrow _ hat))
            obtain ⟨A2, cs2, hv2, _, _⟩ := Sl.of_own hown'
            subst hv2
            have hal := Below.alloc (Below.refl w4.heap.size w4) (Nat.le_refl _) (.cells #[.slice E2 (M + 1) ce2] 41)
            have hml : (mo ++ [i]).length = M + 1 := by rw [List.length_append, HMOL.out]; rfl
            have hcell : IRow.cell ⟨E2, ce2, mo ++ [i]⟩ = .slice E2 (M + 1) ce2 := by unfold IRow.cell; rw [hml]
            have hz4 : wi.heap.size ≤ w4.heap.size := HB4.out.size
            go_roundw
            case rel =>
              refine ⟨t + 1, A2, cs2, rs' ++ [⟨E2, ce2, mo ++ [i]⟩], by rw [List.length_append, HNR.out]; rfl, by go_num, by omega, Lib.hid ⟨⟨?_, ?_, ?_, ?_⟩, ?_, ?_⟩⟩
              · refine OwnI.push (HIN4.out.keep hal) ?_ (by rw [HNR.out]; exact hgrow) ?_
                · rw [hml]
                  have := (own_base HE2.out (Nat.le_trans hbase (Nat.le_trans hzo hsz))).alloc (.cells #[.slice E2 (M + 1) ce2] 41)
                  simpa using this
                · rw [HNR.out, hcell]; exact hown'
              · rw [List.map_append, HIN.out.st.eq, HTS.out]
                simp [List.append_assoc]
              · have h1 := HIN.out.st.at_
                rw [HNR.out] at h1
                exact grown_chain (grown_below HIN.out.st.grown (below_all HB4.out hal)) hgrow h1
              · have h1 := HIN.out.st.at_
                rw [HNR.out] at h1
                rw [List.length_append, HNR.out]
                rcases hat with h | h
                · rcases h1 with h1 | ⟨k1, h1, hk1⟩
                  · exact .inl (h.trans h1)
                  · exact .inr ⟨k1, h.trans h1, hk1⟩
                · exact .inr ⟨_, h, by simp; omega⟩
              · have h1 := HIN.out.apart
                rw [HNR.out] at h1
                exact ((HIN.out.rest.keep HB4.out).keep hal).apart (hown4.alloc _) hgrow h1
              · intro b hb e
                have h1 := HIN.out.apart b hb
                rw [HNR.out] at h1
                rw [List.length_append, HNR.out] at e
                rcases hat with h | h
                · exact h1 (h.symm.trans e)
                · have h2 := (HIN.out.rest.own.lt b hb).2
                  have h3 := h.symm.trans e
                  injection h3 with h3
                  simp at h3
                  omega
            case measure => simp [intOf]; omega
end Go.Proofs.Tg
end
section
/- The reference's list of all monomials. -/
namespace Go.Proofs.Tg
open Go.RowKit Go.Mm
set_option maxHeartbeats 8000000
set_option maxRecDepth 100000
def RetList (n d : Nat) (w : World) (e : Ending) (w' : World) : Prop :=
  ∃ A c rs, e = .returned (.slice A (List.length rs) c) ∧ OwnI w.heap.size w' A c rs ∧ rs.map IRow.l = mons n d ∧ Below w.heap.size w w'
theorem list_ref (n d : Nat) (hn : n ≤ 5) (hd : d ≤ 24) (hc : cnt (n + 1) d ≤ 4096) (w : World) :
    Calls Tryz.prog 50 #[.int .i64 ((n + 1 : Nat) : Int), .int .i64 (d : Nat)] w (RetList (n + 1) d w) := by
  have HML := Lib.hid (fun k (h : k ≤ d + 1) => monTo_le (n + 1) d k h)
  have HEX := Lib.hid (exact_ref n)
  obtain ⟨N, hN⟩ : ∃ N, n + 1 = N := ⟨_, rfl⟩
  rw [hN] at HML HEX hc
  rw [hN]
  have HST : Hid (OwnI w.heap.size w none 0 [] ∧ Below w.heap.size w w) := Lib.hid ⟨OwnI.nil _ _, Below.refl _ _⟩
  clear hN
  go_enter Tryz.func50, Tryz.ntmps50
  go_wp2
  go_loopw [5, 6] (fun s5 s6 wr => ∃ (k : Nat) (A : Option Addr) (c : Nat) (rs : List IRow), s5 = .slice A rs.length c ∧ s6 = .int .i64 (k : Nat) ∧ k ≤ d + 1 ∧ Hid (rs.map IRow.l = monTo N k) ∧ Hid (OwnI w.heap.size wr A c rs ∧ Below w.heap.size w wr)) (fun _ s6 _ => d + 1 - (intOf s6).toNat)
  case atStart => exact ⟨0, none, 0, [], rfl, rfl, Nat.zero_le _, Lib.hid rfl, HST⟩
  case round =>
    clear HST
    obtain ⟨wo, rfl⟩ : ∃ wo : World, wo = wr := ⟨_, rfl⟩
    obtain ⟨k, A, c, rs, rfl, rfl, hk, HEQ, HST⟩ := hrel
    by_cases hkd : k = d + 1
    · have e1 : decide ((k : Int) ≤ (d : Int)) = false := decide_eq_false (by omega)
      have e1' : decide (k ≤ d) = false := decide_eq_false (by omega)
      have HK := Lib.hid hkd
      clear hkd
      go_wp2
      go_ret
      exact ⟨A, c, rs, rfl, HST.out.1, by rw [HEQ.out, HK.out, monTo_all], HST.out.2⟩
    · have hk2 : k ≤ d := by omega
      have e1 : decide ((k : Int) ≤ (d : Int)) = true := decide_eq_true (by omega)
      have e1' : decide (k ≤ d) = true := decide_eq_true hk2
      have hrl : rs.length + (exactL N k).length ≤ 4096 := by
        have h1 := congrArg List.length HEQ.out
        rw [List.length_map] at h1
        have h2 := HML.out (k + 1) (by omega)
        rw [monTo_len] at h2
        omega
      have HC := HEX.out k w.heap.size wo A c rs HST.out.1 HST.out.2.size (by omega) (by omega) (by omega)
      unfold RetApp at HC
      obtain ⟨nr, hnr⟩ : ∃ x, rs.length = x := ⟨_, rfl⟩
      rw [hnr] at HC ⊢
      have HNR := Lib.hid hnr
      have HC := Lib.hid HC
      clear hnr hrl hkd
      go_wp2_with (fail)
      refine HC.out.mono ?_
      rintro e w5 ⟨A5, c5, rs5, rfl, hO5, he5, hg5, hat5⟩
      go_wp2
      go_roundw
      case rel =>
        refine ⟨k + 1, A5, c5, rs5, rfl, by go_num, by omega, Lib.hid (by rw [he5, HEQ.out, monTo_succ]), Lib.hid ⟨hO5, ?_⟩⟩
        refine HST.out.2.grown hg5 HST.out.2.size (fun j hj => ?_)
        have := HST.out.1.own
        rw [HNR.out] at this
        exact (this.lt j hj).1
      case measure => simp [intOf]; omega
end Go.Proofs.Tg
end
section
/- What the reference's functional of points needs: the values, the points in memory, the number one. -/
namespace Go.Rq
theorem tm_pr (w : Rat) (x : List Rat) (m : List Int) : ∀ k, tmTo w x m k = w * prTo x m k
  | 0 => by show w = w * 1; rw [Rat.mul_one]
  | k + 1 => by
    show tmTo w x m k * _ = w * (prTo x m k * _)
    rw [tm_pr w x m k, Rat.mul_assoc]
end Go.Rq
namespace Go.Proofs.Tg
open Go.RowKit Go.Gr Go.Bn Go.Rq Go.Mm
open Go.Proofs.Tg.Fi (QsAt)
open Go.Proofs.Tg.Sx (one1)
set_option maxHeartbeats 8000000
set_option maxRecDepth 100000
/-- Points that can be read. -/
structure PtsAt (w : World) (X : Option Addr) (ps : List PRow2) : Prop where
  sl : Sl w X ps.length 1 (ps.map PRow2.cell)
  ok : ∀ p ∈ ps, QsAt w p.A p.rs
theorem PtsAt.keep {w w' : World} {X : Option Addr} {ps : List PRow2} (h : PtsAt w X ps) (hb : Below w.heap.size w w') : PtsAt w' X ps := ⟨h.sl.keep hb, fun p hp => (h.ok p hp).keep hb⟩
theorem OwnP.pts {base : Nat} {w : World} {X : Option Addr} {c : Nat} {ps : List PRow2} (h : OwnP base w X c ps) : PtsAt w X ps := ⟨Sl.own h.own, fun p hp => Fi.OwnQ.qs (h.rows p hp)⟩
theorem PtsAt.at {w : World} {X : Option Addr} {ps : List PRow2} (h : PtsAt w X ps) {k : Nat} (hk : k < ps.length) : ∃ ad, X = some ad ∧ w.cell? (ad.add k) = some (.slice ps[k].A ps[k].rs.length ps[k].c) ∧ QsAt w ps[k].A ps[k].rs := by
  obtain ⟨ad, e, hc⟩ := Sl.at1 h.sl (k := k) hk
  exact ⟨ad, e, by simpa [PRow2.cell] using hc, h.ok _ (List.getElem_mem hk)⟩
/-- Points as rational numbers. -/
def ptQ (ps : List PRow2) : List (List Rat) := ps.map fun p => p.rs.map RVal.q
/-- What the reference's Of needs of its data. -/
structure ROk (v d : Nat) (ws : List Rat) (xs : List (List Rat)) : Prop where
  n1 : 1 ≤ xs.length
  n2 : xs.length ≤ 16
  lw : ws.length = xs.length
  dim : ∀ x ∈ xs, x.length = v
  v1 : 1 ≤ v
  v6 : v ≤ 6
  d24 : d ≤ 24
  few : cnt v d ≤ 1024
  int : ∀ x ∈ xs, ∀ q ∈ x, ∃ z : Int, q = (z : Rat) ∧ z.natAbs ≤ 16
  qw : ∀ q ∈ ws, QS q
  qp : ∀ x ∈ xs, ∀ m ∈ mons v d, ∀ k, k ≤ v → QS (prTo x m k)
  qs : ∀ k, k ≤ xs.length → ∀ m ∈ mons v d, QS (sumTo ws xs k m)
  qt : ∀ k, k < xs.length → ∀ m ∈ mons v d, QS (tm (ws.getD k 0) (xs.getD k []) m)
theorem QS.zero : QS 0 := ⟨by decide, by decide⟩
/-- The number one, as num.R gives it. -/
def r1v (A : Option Addr) (c : Nat) : RVal := ⟨1, A, c, none, 0⟩
theorem r1v_parts : decide ((1 : Rat).num < 0) = false ∧ (dg (1 : Rat).num.natAbs).length = 1 ∧ (dg (dnz (1 : Rat).den)).length = 0 := by
  refine ⟨rfl, ?_, ?_⟩
  · show (dg 1).length = 1
    rw [dg_small (by decide) (by decide)]; rfl
  · show (dg (dnz 1)).length = 0; rw [dnz_one, dg_zero]; rfl
theorem r1v_cells (A : Option Addr) (c : Nat) : (r1v A c).cells = [.bool false, .slice A 1 c, .bool false, .slice none 0 0] := by
  unfold RVal.cells r1v
  rw [r1v_parts.1, r1v_parts.2.1, r1v_parts.2.2]
theorem one_cells (A : Option Addr) (c : Nat) (E : Option Addr) (ce : Nat) (el : List Int) : (one1 A c E ce el).cells = (r1v A c).cells ++ [.slice E el.length ce] := by
  rw [r1v_cells]; rfl
theorem r_one (w : World) :
    Calls Tryz.prog 52 #[.int .i64 1] w fun e w' => ∃ A c, e = .returned (.agg #[.bool false, .slice A 1 c, .bool false, .slice none 0 0]) ∧ (r1v A c).Ok w' ∧ Below w.heap.size w w' := by
  obtain ⟨W, hW⟩ : ∃ W, w.alloc (.cells #[.bool false, .slice none 0 0, .bool false, .slice none 0 0] 52) = W := ⟨_, rfl⟩
  have hbA : Below w.heap.size w W := by rw [← hW]; exact (Below.refl _ _).alloc (Nat.le_refl _) _
  have B0 : Blk W w.heap.size 52 #[.bool false, .slice none 0 0, .bool false, .slice none 0 0] := by rw [← hW]; exact Blk.new _ _ _
  have HWW := Lib.hid hW
  have HFI : Hid (∀ V, Calls Tryz.prog 47 #[.int .i64 1] V fun e w' => ∃ R c, e = .returned (.agg #[.bool false, .slice R 1 c]) ∧ ND w' R c 1 ∧ Below V.heap.size V w') := Lib.hid (fun V => by
    have h := fromint_num 1 (by decide) (by decide) V
    refine h.mono ?_
    rintro e w' ⟨R, c, rfl, hN, hb⟩
    exact ⟨R, c, by rw [show decide ((1 : Int) < 0) = false from rfl, show (dg (1 : Int).natAbs).length = 1 from r1v_parts.2.1], hN, hb⟩)
  clear hW
  obtain ⟨a0, a1, a2, a3, f0, f1, f2, f3⟩ := B0.four
  go_enter Tryz.func52, Tryz.ntmps52
  go_upto_region 1 with (fail)
  rw [HWW.out]
  go_wp2_with (go_at_call 47; refine (HFI.out _).mono ?_; rintro e w3 ⟨A, c, rfl, hD, hb3⟩; have B3 := B0.keep hb3 B0.lt; obtain ⟨a0, a1, a2, a3, f0, f1, f2, f3⟩ := B3.four)
  obtain ⟨g0, g1, g2, g3, _⟩ := (blk_four (a' := .bool false) (b' := .slice A 1 c) (c' := .bool false) (d' := .slice none 0 0) B3).four
  refine bodyPost_ret (v := .agg #[.bool false, .slice A 1 c, .bool false, .slice none 0 0]) (by simp [results, Tryz.results52, go_sem, g0, g1, g2, g3]) rfl ⟨A, c, rfl, ⟨?_, ?_⟩, Below.four (below_all hbA hb3) (Nat.le_refl _)⟩
  · exact hD.four B3 (by decide)
  · show ND _ none 0 (dnz 1)
    rw [dnz_one]; exact ND.zero _
end Go.Proofs.Tg
end
