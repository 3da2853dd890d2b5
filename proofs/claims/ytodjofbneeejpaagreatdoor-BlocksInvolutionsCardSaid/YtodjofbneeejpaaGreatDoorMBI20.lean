/- Parts of the proof: WHD, AD6. -/
import Derived.Test.YtodjofbneeejpaaGreatDoorMBI12
import Derived.Test.YtodjofbneeejpaaGreatDoorMBI14
import Derived.Test.YtodjofbneeejpaaGreatDoorMBI15
import Derived.Test.YtodjofbneeejpaaGreatDoorMBI19
section
/- Involutions of blocks. -/
namespace Go.Proofs.Tg.Bk
open Go.RowKit Go.Gr Go.Sp Go.Ev Go.Pm
open Go.Proofs.Tg.Gp (PRow cellP RowsB ints_blk prow_info gp_isgroup invol_any RetInv)
open Go.Proofs.Tg.Sx (Rw cellR RowsK rows_lists)
set_option maxHeartbeats 4000000
set_option maxRecDepth 100000
/-- Rows of the call's own, each in a block of numbers. -/
def QRows (w : World) (base : Nat) (rs : List Rw) : Prop := ∀ r ∈ rs, Que w base 3 (cellR r) (r.2.2.map vi)
theorem QRows.keep {w w' : World} {base : Nat} {rs : List Rw} (h : QRows w base rs) (hb : Below w.heap.size w w') : QRows w' base rs := fun r hr => (h r hr).below hb
theorem que_same {w w' : World} {base : Nat} {e : TypeId} {v : Value} {xs : List Value} (h : Que w base e v xs) (hs : ∀ k, k < w.heap.size → some k = v.ownBlock → w'.heap[k]? = w.heap[k]?) : Que w' base e v xs := by
  obtain ⟨g, o, cap, cur, rfl, h2, h3, h4⟩ := h
  exact ⟨g, o, cap, cur, rfl, h2, (hs g (Array.getElem?_eq_some_iff.1 h3).1 rfl).trans h3, h4⟩
theorem que_que {w : World} {b b' : Nat} {e e' : TypeId} {v v' : Value} {xs xs' : List Value} (h : Que w b e v xs) (h' : Que w b' e' v' xs') (hne : e ≠ e') : v.ownBlock ≠ v'.ownBlock := by
  obtain ⟨g, o, cap, cur, rfl, _, h3, _⟩ := h
  obtain ⟨g', o', cap', cur', rfl, _, h3', _⟩ := h'
  intro e1
  injection e1 with e1
  subst e1
  rw [h3] at h3'
  injection h3' with h4
  injection h4 with _ h5
  exact hne h5
theorem own_same {w w' : World} {b n sz : Nat} {t : TypeId} {v : Value} {xs : List Value} (h : w.ownsRow b t sz v n xs) (hs : ∀ g, v.ownBlock = some g → w'.heap[g]? = w.heap[g]?) : w'.ownsRow b t sz v n xs := by
  refine ⟨h.1, ?_⟩
  rcases h.2 with h1 | ⟨g, cap, cur, rfl, h2, h3, h4⟩
  · exact .inl h1
  · exact .inr ⟨g, cap, cur, rfl, h2, (hs g rfl).trans h3, h4⟩
theorem own_que {w : World} {b b' n sz : Nat} {t t' : TypeId} {v v' : Value} {xs xs' : List Value} (h : w.ownsRow b t sz v n xs) (hq : Que w b' t' v' xs') (hne : t ≠ t') : ∀ g, v.ownBlock = some g → v'.ownBlock ≠ some g := by
  intro g h1 h2
  rcases h.2 with ⟨rfl, _⟩ | ⟨g0, cap, cur, rfl, _, h3, _⟩
  · simp [Value.ownBlock] at h1
  · obtain ⟨g', o', cap', cur', rfl, _, h3', _⟩ := hq
    injection h1 with h1
    injection h2 with h2
    change g0 = g at h1
    change g' = g at h2
    subst h1 h2
    rw [h3] at h3'
    injection h3' with h4
    injection h4 with _ h5
    exact hne h5
theorem own_map {w : World} {b n sz mb : Nat} {t : TypeId} {v : Value} {xs : List Value} (h : w.ownsRow b t sz v n xs) (hm : MapB w mb) : v.ownBlock ≠ some mb := by
  intro h1
  rcases h.2 with ⟨rfl, _⟩ | ⟨g0, cap, cur, rfl, _, h3, _⟩
  · simp [Value.ownBlock] at h1
  · injection h1 with h1
    change g0 = mb at h1
    subst h1
    obtain ⟨es, ck, hh⟩ := hm
    rw [hh] at h3
    cases h3
theorem own_lt {w : World} {b n sz : Nat} {t : TypeId} {v : Value} {xs : List Value} (h : w.ownsRow b t sz v n xs) {g : Nat} (hg : v.ownBlock = some g) : g < w.heap.size := (h.lt g hg).2
theorem lists_que {w : World} {base : Nat} {A : Option Addr} {rs : List Rw} (hS : Sl w A rs.length 1 (rs.map cellR)) (hQ : QRows w base rs) : Lists w A (rs.map fun r => r.2.2) := by
  refine ⟨fun i => ((rs.getD i (none, 0, [])).1, (rs.getD i (none, 0, [])).2.1), ?_, fun i hi => ?_⟩
  · have e : (List.range (rs.map fun r => r.2.2).length).map (fun i => Value.slice (rs.getD i (none, 0, [])).1 ((rs.map fun r => r.2.2).getD i []).length (rs.getD i (none, 0, [])).2.1) = rs.map cellR := by
      refine List.ext_getElem (by simp) fun i h1 h2 => ?_
      have hi : i < rs.length := by simpa using h2
      simp [hi, cellR]
    rw [e, List.length_map]
    exact hS
  · have hi' : i < rs.length := by simpa using hi
    have e1 : rs.getD i (none, 0, []) = rs[i] := by simp [hi']
    have e2 : (rs.map fun r => r.2.2).getD i [] = rs[i].2.2 := by simp [hi']
    simp only [e1, e2]
    obtain ⟨ad, c, h1, h2, _⟩ := (hQ rs[i] (List.getElem_mem _)).sl
    unfold cellR at h1
    injection h1 with h1 _ _
    rw [h1]
    rw [List.length_map] at h2
    exact h2
/-- What the loop of Involutions holds. -/
structure BiSt (w : World) (base n : Nat) (P : List (List Int)) (wr : World) (gs mb : Nat) (v : Value) (rs : List PRow) (S : List (List Int)) (A : Option Addr) (c : Nat) (ls : List Rw) : Prop where
  below : Below w.heap.size w wr
  sub : SubAt wr base n (prods n P) gs mb v rs S
  own : wr.ownsRow w.heap.size 22 1 (.slice A ls.length c) ls.length (ls.map cellR)
  rows : QRows wr w.heap.size ls
  eq : ls.map (fun r => r.2.2) = P
  dis : ∀ g, (Value.slice A ls.length c).ownBlock = some g → v.ownBlock ≠ some g
theorem BiSt.keep {w wr wz : World} {base n gs mb c : Nat} {P S : List (List Int)} {v : Value} {rs : List PRow} {A : Option Addr} {ls : List Rw} (h : BiSt w base n P wr gs mb v rs S A c ls) (hb : Below wr.heap.size wr wz) : BiSt w base n P wz gs mb v rs S A c ls :=
  ⟨below_all h.below hb, h.sub.keep hb, own_below h.own hb (Nat.le_refl _), h.rows.keep hb, h.eq, h.dis⟩
theorem BiSt.foot {w wr wz : World} {base n gs mb c : Nat} {P S P' S' : List (List Int)} {v v' : Value} {rs rs' : List PRow} {A : Option Addr} {ls : List Rw} (h : BiSt w base n P wr gs mb v rs S A c ls) (hbs : w.heap.size ≤ base) (hb : Below base wr wz) (hf : Foot wr wz gs mb v) (hs : SubAt wz base n P' gs mb v' rs' S') (hl : v'.ownBlock = v.ownBlock ∨ ∃ g, v'.ownBlock = some g ∧ wr.heap.size ≤ g) :
    Below w.heap.size w wz ∧ wz.ownsRow w.heap.size 22 1 (.slice A ls.length c) ls.length (ls.map cellR) ∧ QRows wz w.heap.size ls ∧ ∀ g, (Value.slice A ls.length c).ownBlock = some g → v'.ownBlock ≠ some g := by
  refine ⟨h.below.trans (hb.mono hbs), own_same h.own (fun g hg => ?_), fun r hr => que_same (h.rows r hr) (fun k hk he => ?_), fun g hg => ?_⟩
  · exact hf.same g (own_lt h.own hg) (fun e => own_blk_ne h.own h.sub.box (by decide) (by rw [← e]; exact hg.symm)) (fun e => own_map h.own h.sub.set.mapB (by rw [← e]; exact hg)) (fun e => h.dis g hg e.symm)
  · exact hf.same k hk (fun e => (h.rows r hr).ne h.sub.box (by decide) (by rw [← e]; exact he)) (fun e => map_que h.sub.set.mapB (h.rows r hr) (by rw [← e]; exact he)) (fun e => que_que (h.rows r hr) h.sub.que (by decide) (he.symm.trans e))
  · rcases hl with h1 | ⟨g1, h1, h2⟩
    · rw [h1]; exact h.dis g hg
    · intro h3
      rw [h1] at h3
      injection h3 with h3
      have := own_lt h.own hg
      omega
theorem SubAt.grown {w w' : World} {base n gs mb : Nat} {P S : List (List Int)} {v o : Value} {rs : List PRow} {b sz m : Nat} {xs : List Value} (h : SubAt w base n P gs mb v rs S) (ho : w.ownsRow b 22 sz o m xs) (hg : w.grownBy w' o.ownBlock) (hd : ∀ g, o.ownBlock = some g → v.ownBlock ≠ some g) : SubAt w' base n P gs mb v rs S :=
  ⟨h.box.grown hg (own_blk_ne ho h.box (by decide)), que_same h.que (fun k hk he => hg.block k hk (fun e => hd k e.symm he.symm)), fun r hr => (h.rows r hr).grown hg (own_blk_ne ho (h.rows r hr) (by decide)), h.eq, h.set.grown hg (fun e => own_map ho h.set.mapB e.symm), h.mem, h.slen, h.lows, h.lowm⟩
theorem binvs_any (L : Option Addr) (cL : Nat) (g : List (List Int)) (w : World) (hL : Lists w L g) (hl : g.length ≤ 720) (hll : ∀ x ∈ g, x.length ≤ 1000) (hr : IsG g → ∀ k, 2 ^ k ≤ g.length → k ≤ (g.headD []).length) :
    Calls Tryz.prog 14 #[.slice L g.length cL] w (RetInv g w) := by
  by_cases hG : IsG g
  · have HI := Lib.hid (gp_isgroup L cL g true w hL (by omega) hll ⟨fun _ => hG, fun _ => rfl⟩)
    have HGG := Lib.hid hG
    obtain ⟨n, hnE⟩ : ∃ n, (g.headD []).length = n := ⟨_, rfl⟩
    have hr := hr hG
    obtain ⟨hn6, hne, hpm, hasc, hgrp⟩ := hG
    rw [hnE] at hn6 hpm hgrp hr
    have HP := Lib.hid hpm
    have HGR := Lib.hid hgrp
    have HR := Lib.hid hr
    have HCO : Hid (∀ k, Coll n g (invs n (g.take k))) := Lib.hid (invs_coll hpm)
    have HL := Lib.hid hL
    have hpos : 0 < g.length := by
      cases g with
      | nil => exact absurd rfl hne
      | cons a g => simp
    have HCL : Hid (∀ k, (invs n (g.take k)).length ≤ 6) := Lib.hid (fun k => by
      have hC := HCO.out k
      have h1 := hC.nodup.length_le_of_subset (prods_in hgrp hC.mem)
      rw [prods_len] at h1
      have := hr _ h1
      omega)
    have HSN : Hid (∀ k (h : k < g.length), invs n (g.take (k + 1)) = if Take n (invs n (g.take k)) g[k] then invs n (g.take k) ++ [g[k]] else invs n (g.take k)) := Lib.hid (fun k h => by rw [List.take_succ_eq_append_getElem h, invs_snoc])
    obtain ⟨j0, hj0, hjz0, hjz1, hjz2⟩ := info_parts prow_info
    have HNS := Lib.hid (fun V => newsubs_any n V hn6)
    unfold RetInv
    rw [hnE]
    clear hL hll hr hne hpm hasc hgrp hnE
    obtain ⟨ad, E0, ce0, rfl, hc0, hE0⟩ := HL.out.at hpos
    have hp0 := HP.out g[0] (List.getElem_mem _)
    rw [hp0.1] at hc0
    have hc0' : w.cell? ad = some (.slice E0 n ce0) := by
      have e : ad.add 0 = ad := by unfold Addr.add; split <;> simp_all
      rwa [e] at hc0
    clear hp0 hc0 hE0
    go_enter Tryz.func14, Tryz.ntmps14
    have p0 : (0 : Int) < (g.length : Int) := by omega
    go_wp2_with (first
      | (go_at_call 42; refine HI.out.mono ?_; rintro e w1 ⟨rfl, hb1⟩
         have hc1 := keep_cell hb1 hc0')
      | (go_at_call 32; refine (HNS.out _).mono ?_; rintro e w2 ⟨gs, mb, v0, rs0, S0, rfl, hS0, hb2⟩))
    have hbw2 := below_all hb1 hb2
    have hbase := hb1.size
    clear hc0' hc1 HI HNS
    generalize w1.heap.size = base at *
    go_loopw [18, 4] (fun s18 s4 wr => ∃ (k : Nat) (v : Value) (rs : List PRow) (S : List (List Int)) (A : Option Addr) (c : Nat) (ls : List Rw), s18 = .int .i64 k ∧ k ≤ g.length ∧ s4 = .slice A ls.length c ∧ Hid (BiSt w base n (invs n (g.take k)) wr gs mb v rs S A c ls)) (fun s18 _ _ => g.length - (intOf s18).toNat)
    case atStart => exact ⟨0, v0, rs0, S0, none, 0, [], rfl, Nat.zero_le _, rfl, Lib.hid ⟨hbw2, hS0, World.ownsRow_nil _ _ _ _, fun r h => absurd h (by simp), by simp [invs], fun q hq => by simp [Value.ownBlock] at hq⟩⟩
    case round =>
      clear hbw2 hS0
      obtain ⟨wo, rfl⟩ : ∃ wo : World, wo = wr := ⟨_, rfl⟩
      obtain ⟨k, v, rs, S, A, c, ls, rfl, hk, rfl, HST⟩ := hrel
      have hbo := HST.out.below
      by_cases hkl : k < g.length
      · obtain ⟨ad', E, ce, had, hcw, hE⟩ := HL.out.at hkl
        injection had with had
        subst had
        have hpk := HP.out g[k] (List.getElem_mem _)
        rw [hpk.1] at hcw
        have s1 := keep_cell hbo hcw
        have q0 : (0 : Int) ≤ (k : Int) := by omega
        have q1 : (k : Int) < (g.length : Int) := by omega
        have q3 : ((k : Int)).toNat = k := by omega
        have HSK := Lib.hid (HSN.out k hkl)
        have HCK := Lib.hid (HCO.out k)
        have hlP := HCL.out k
        have hll6 : ls.length ≤ 6 := by
          have := congrArg List.length HST.out.eq
          rw [List.length_map] at this
          omega
        have HIN : Hid (g[k] ∈ g) := Lib.hid (List.getElem_mem _)
        obtain ⟨vi', hv⟩ : ∃ v : Bool, v = true ↔ Invo g[k] := by classical exact ⟨decide (Invo g[k]), decide_eq_true_iff⟩
        have HINV : Hid (Calls Tryz.prog 43 #[.slice E n ce] wo fun e w' => e = .returned (.bool vi') ∧ Below wo.heap.size wo w') := Lib.hid (by
          have := invol_any E ce g[k] vi' wo (hE.keep hbo) (by have := hpk.1; omega) hv
          rwa [hpk.1] at this)
        have HVI : Hid (vi' = true ↔ g[k] ≠ unit n ∧ cmp g[k] g[k] = unit n) := Lib.hid (by
          rw [hv]
          unfold Invo
          rw [hpk.1]
          exact ⟨fun h => h.2.2, fun h => ⟨hn6, hpk, h⟩⟩)
        have HE := Lib.hid hE
        have HPK := Lib.hid hpk
        clear hv hE hpk
        cases vi' with
        | false =>
          have HNX : Hid (invs n (g.take (k + 1)) = invs n (g.take k)) := Lib.hid (by
            rw [HSK.out, if_neg (fun h => by have := HVI.out.2 ⟨h.1, h.2.1⟩; cases this)])
          go_wp2_with (go_at_call 43; refine HINV.out.mono ?_; rintro e w4 ⟨rfl, hb4⟩)
          go_roundw
          case rel => exact ⟨k + 1, v, rs, S, A, c, ls, by go_num, by omega, rfl, Lib.hid (by rw [HNX.out]; exact HST.out.keep hb4)⟩
          case measure => simp [intOf]; omega
        | true =>
          obtain ⟨q, hq⟩ : ∃ q : Bool, q = true ↔ g[k] ∉ prods n (invs n (g.take k)) ∧ ∀ b ∈ invs n (g.take k), cmp g[k] b = cmp b g[k] := by classical exact ⟨decide _, decide_eq_true_iff⟩
          have hu := HVI.out.1 rfl
          have HQT : Hid (q = true ↔ Take n (invs n (g.take k)) g[k]) := Lib.hid (by
            rw [hq]
            exact ⟨fun h => ⟨hu.1, hu.2, h⟩, fun h => h.2.2⟩)
          have hn1 : 0 < n := by
            apply Classical.byContradiction
            intro h0
            have hn0 : n = 0 := by omega
            have h1 := HPK.out.1
            rw [hn0] at h1
            have h2 : g[k] = [] := List.eq_nil_of_length_eq_zero h1
            exact hu.1 (by rw [h2, hn0]; rfl)
          obtain ⟨ae, hae, hael, _⟩ := HE.out.lies (by have := HPK.out.1; omega)
          subst hae
          have HADD : Hid (∀ V, Below wo.heap.size wo V → Calls Tryz.prog 33 #[.pointer (some ⟨gs, 0, none⟩), .slice (some ae) n ce] V (RetAdd base n gs mb g[k] (invs n (g.take k)) v rs S q V)) := Lib.hid (fun V h =>
            add_any (some ae) ce base n gs mb g[k] _ v rs S q V ((HE.out.keep hbo).keep h) HPK.out hn6 HCK.out.sub hlP (HST.out.sub.keep h) (Nat.le_trans (by
              have h1 := HST.out.sub.box.lt
              have h2 := HST.out.sub.lows
              omega) h.size) hq (fun h2 => (HCK.out.sub.nodup_snoc HCK.out.nodup HPK.out hu.2).2 (hq.1 h2).1) (fun _ ad h1 => by
                injection h1 with h1
                subst h1
                exact Nat.lt_of_lt_of_le hael hbase))
          have HCLN : Hid (∀ V, Below w.heap.size w V → Calls Tryz.prog 44 #[.slice (some ae) n ce] V fun e w' => ∃ A' c', e = .returned (.slice (some A') n c') ∧ Que w' V.heap.size 3 (.slice (some A') n c') (g[k].map vi) ∧ Below V.heap.size V w') := Lib.hid (fun V h => by
            have := pclone_any ae ce g[k] V (HE.out.keep h) (by rw [HPK.out.1]; exact hn6)
            rwa [HPK.out.1] at this)
          have HLN := Lib.hid HPK.out.1
          clear hq hu HVI HIN HE HPK
          generalize g[k] = x at *
          generalize invs n (g.take k) = P at *
          cases q with
          | false =>
            have HNX : Hid (invs n (g.take (k + 1)) = P) := Lib.hid (by
              rw [HSK.out, if_neg (fun h => by have := HQT.out.2 h; cases this)])
            go_wp2_with (first
              | (go_at_call 43; refine HINV.out.mono ?_; rintro e w4 ⟨rfl, hb4⟩)
              | (go_at_call 33; refine (HADD.out _ hb4).mono ?_; rintro e w5 ⟨rfl, hb5, hf5, hno, _⟩))
            go_roundw
            case rel =>
              have H4 := HST.out.keep hb4
              have hs5 := hno trivial
              obtain ⟨f1, f2, f3, f4⟩ := H4.foot hbase hb5 hf5 hs5 (.inl rfl)
              exact ⟨k + 1, v, rs, S, A, c, ls, by go_num, by omega, rfl, Lib.hid (by rw [HNX.out]; exact ⟨f1, hs5, f2, f3, H4.eq, f4⟩)⟩
            case measure => simp [intOf]; omega
          | true =>
            have HNX : Hid (invs n (g.take (k + 1)) = P ++ [x]) := Lib.hid (by rw [HSK.out, if_pos (HQT.out.1 rfl)])
            go_wp2_with (first
              | (go_at_call 43; refine HINV.out.mono ?_; rintro e w4 ⟨rfl, hb4⟩)
              | (go_at_call 33; refine (HADD.out _ hb4).mono ?_; rintro e w5 ⟨rfl, hb5, hf5, _, hyes⟩
                 obtain ⟨v5, rs5, S5, hs5, hl5⟩ := hyes rfl
                 obtain ⟨f1, f2, f3, f4⟩ := (HST.out.keep hb4).foot hbase hb5 hf5 hs5 hl5)
              | (go_at_call 44; refine (HCLN.out _ f1).mono ?_; rintro e w6 ⟨A6, c6, rfl, hQ6, hb6⟩)
              | (at_builtin
                 have hown6 := own_below f2 hb6 (Nat.le_refl _)
                 have hbw6 := below_all f1 hb6
                 refine wpList_append_own_at _ rfl _ _ 23 rfl w.heap.size 22 j0 (.slice none 0 0) 1 24 Tryz.underlying23 hj0 hjz0 hjz1 hjz2 rfl (by decide) (.slice A ls.length c) ls.length (ls.map cellR) rfl (hown6.alloc _) ⟨w6.heap.size, 0, none⟩ 1 1 [.slice (some A6) n c6] rfl rfl (cell_one_new _ _ _) (by simp [Value.oneCell']) (by simp only [maxLen]; omega) (by omega) (by have := hbw6.size; simp; omega) ?_
                 intro v7 w7 hown7 hg7 _ hat7
                 obtain ⟨A7, c7, hv7, _, _⟩ := Sl.of_own hown7
                 subst hv7))
            go_roundw
            case rel =>
              have hal6 := Below.alloc (Below.refl w6.heap.size w6) (Nat.le_refl _) (.cells #[.slice (some A6) n c6] 22)
              have hs7 := SubAt.grown ((hs5.keep hb6).keep hal6) (hown6.alloc _) hg7 f4
              have hcr : cellR (some A6, c6, x) = .slice (some A6) n c6 := by simp [cellR, HLN.out]
              have hrows : QRows w7 w.heap.size (ls ++ [(some A6, c6, x)]) := by
                intro r hr
                have hown6x := hown6.alloc (.cells #[.slice (some A6) n c6] 22)
                rcases List.mem_append.1 hr with h | h
                · have h1 := ((f3 r h).below hb6).below hal6
                  exact que_same h1 (fun k hk he => hg7.block k hk (fun e => own_que hown6x h1 (by decide) k e.symm he.symm))
                · rw [List.mem_singleton.1 h, hcr]
                  have h1 : Que (w6.alloc (.cells #[.slice (some A6) n c6] 22)) w.heap.size 3 (.slice (some A6) n c6) (x.map vi) := by
                    obtain ⟨g', o', cap', cur, e1, e2, e3⟩ := hQ6.below hal6
                    exact ⟨g', o', cap', cur, e1, Nat.le_trans f1.size e2, e3⟩
                  exact que_same h1 (fun k hk he => hg7.block k hk (fun e => own_que hown6x h1 (by decide) k e.symm he.symm))
              refine ⟨k + 1, v5, rs5, S5, A7, c7, ls ++ [(some A6, c6, x)], by go_num, by omega, by simp, Lib.hid ?_⟩
              rw [HNX.out]
              refine ⟨(hbw6.alloc hbw6.size _).grown hg7 (by have := hbw6.size; simp; omega) (fun q hq => (hown6.lt q hq).1), hs7, ?_, hrows, ?_, fun q hq => ?_⟩
              · rw [List.length_append, List.map_append, List.map_singleton, hcr]; exact hown7
              · rw [List.map_append, (HST.out.eq)]; rfl
              · rw [List.length_append] at hq
                rcases hat7 with e1 | e1
                · exact f4 q (e1.symm.trans hq)
                · have e2 := e1.symm.trans hq
                  injection e2 with e2
                  intro e3
                  obtain ⟨g', e4, _, e5⟩ := ((hs5.keep hb6).que).blk
                  rw [e4] at e3
                  injection e3 with e3
                  simp at e2
                  omega
            case measure => simp [intOf]; omega
      · obtain rfl : k = g.length := by omega
        rw [List.take_length] at HST
        have hLs : Lists wo A (invs n g) := by
          have := lists_que (Sl.own HST.out.own) HST.out.rows
          rwa [HST.out.eq] at this
        have hlen : ls.length = (invs n g).length := by rw [← HST.out.eq, List.length_map]
        have HF : Hid (∃ A' c', Value.slice A ls.length c = .slice A' (invs n g).length c' ∧ Lists wo A' (invs n g)) := Lib.hid ⟨A, c, by rw [hlen], hLs⟩
        have dk : decide ((g.length : Int) < (g.length : Int)) = false := by simp
        clear hLs hlen
        go_wp2
        go_ret2
        obtain ⟨A', c', h1, h2⟩ := HF.out
        exact ⟨hbo, .inr ⟨HGG.out, A', c', (by rw [← h1]; rfl), h2⟩⟩
  · have HI := Lib.hid (gp_isgroup L cL g false w hL (by omega) hll (Iff.intro (fun h => by cases h) (fun h => absurd h hG)))
    have HNG := Lib.hid hG
    clear hL hll hr hG
    go_enter Tryz.func14, Tryz.ntmps14
    go_wp2_with (go_at_call 42; refine HI.out.mono ?_; rintro e w1 ⟨rfl, hb1⟩)
    go_ret2
    exact ⟨hb1, .inl ⟨HNG.out, rfl⟩⟩
end Go.Proofs.Tg.Bk
end
section
/- The package blocks: Adapted. -/
namespace Go.Pm
open Go.Mo Go.Sp
/-- Each of the list is no product of those ahead of it, and commutes with them. -/
def AdInd (n : Nat) (l : List (List Int)) : Prop := ∀ j (h : j < l.length), l[j] ∉ prods n (l.take j) ∧ ∀ b ∈ l.take j, cmp l[j] b = cmp b l[j]
/-- The images of the products of the subsets. -/
def imgs (n : Nat) (l b : List (List Int)) : List (List Int) := (prods n l).map fun p => img n p b
def chgTo (im : List (List Int)) (L k : Nat) : List (List (List Int)) := ((List.range k).map fun c => adTo c im L L).filter fun r => decide (0 < r.length)
theorem chgTo_succ (im : List (List Int)) (L k : Nat) : chgTo im L (k + 1) = chgTo im L k ++ if 0 < (adTo k im L L).length then [adTo k im L L] else [] := by
  unfold chgTo
  rw [List.range_succ, List.map_append, List.filter_append]
  congr 1
  by_cases h : 0 < (adTo k im L L).length
  · rw [if_pos h]
    simp [h]
  · rw [if_neg h]
    simp [h]
theorem idxL_get {l : List (List Int)} {x : List Int} (h : x ∈ l) : ∃ h2 : l.idxOf x < l.length, l[l.idxOf x] = x := ⟨List.idxOf_lt_length_of_mem h, List.getElem_idxOf _⟩
theorem img_perm {n : Nat} {p : List Int} {b : List (List Int)} (hb : b.Nodup) (ha : ActsOn n p b) (hinj : ∀ x ∈ b, ∀ y ∈ b, mv n p x = mv n p y → x = y) : Perm b.length (img n p b) := by
  refine ⟨by simp [img], fun x hx => ?_, ?_⟩
  · obtain ⟨m, hm, rfl⟩ := List.mem_map.1 hx
    obtain ⟨this, _⟩ := idxL_get (ha m hm)
    omega
  · unfold img
    refine List.pairwise_map.2 (List.Pairwise.imp_of_mem ?_ hb)
    intro x y hx hy hne e
    have h1 : b.idxOf (mv n p x) = b.idxOf (mv n p y) := by omega
    obtain ⟨hx1, e1⟩ := idxL_get (ha x hx)
    obtain ⟨hy1, e2⟩ := idxL_get (ha y hy)
    have e3 : b[b.idxOf (mv n p x)] = b[b.idxOf (mv n p y)] := by simp only [h1]
    exact hne (hinj x hx y hy (by rw [← e1, e3, e2]))
/-- What moving a monomial does, place by place. -/
theorem mvF_at {n : Nat} {a m : List Int} (ha : Perm n a) : ∀ k, k ≤ n → ∀ j, j < k → (mvF n a m k).getD (a.getD j 0).toNat 0 = m.getD j 0
  | 0, _, j, hj => absurd hj (by omega)
  | k + 1, hk, j, hj => by
    rw [mvF_succ]
    have hp := perm_get ha (show k < n by omega)
    have hpj := perm_get ha (show j < n by omega)
    by_cases he : j = k
    · subst he
      rw [List.getD_eq_getElem?_getD, List.getElem?_set_self (by rw [mvF_len]; omega)]
      rfl
    · have hne : (a.getD k 0).toNat ≠ (a.getD j 0).toNat := fun e => he (perm_inj ha (by omega) (by omega) (by omega))
      rw [List.getD_eq_getElem?_getD, List.getElem?_set_ne hne, ← List.getD_eq_getElem?_getD]
      exact mvF_at ha k (by omega) j (by omega)
theorem mv_inj {n : Nat} {a x y : List Int} (ha : Perm n a) (hx : x.length = n) (hy : y.length = n) (h : mv n a x = mv n a y) : x = y := by
  refine ext_get (by omega) fun j hj => ?_
  have h1 := mvF_at (m := x) ha n (Nat.le_refl _) j (by omega)
  have h2 := mvF_at (m := y) ha n (Nat.le_refl _) j (by omega)
  unfold mv at h
  rw [h] at h1
  exact h1.symm.trans h2
end Go.Pm
namespace Go.Proofs.Tg.Bk
open Go.RowKit Go.Gr Go.Sp Go.Ev Go.Pm Go.Mo
open Go.Proofs.Tg.Gp (PRow cellP RowsB ints_blk prow_info)
set_option maxHeartbeats 4000000
set_option maxRecDepth 100000
open Classical in
/-- The error of Adapted. -/
noncomputable def adE (l b : List (List Int)) : Int := if chE l b ≠ 0 then chE l b else if ¬ b.Nodup then 10 else if ¬ AdInd (adN l b) l then 11 else if ∃ p ∈ prods (adN l b) l, ¬ ActsOn (adN l b) p b then 8 else 0
/-- A change in memory: its rows, where their texts lie. -/
structure CV where
  rows : List (List Int)
  adr : Option Addr
  cap : Nat
def CV.cells (L : Nat) (c : CV) : List Value := [.int .i64 c.rows.length, .int .i64 L, .slice c.adr (c.rows.length * L) c.cap]
def CRows (w : World) (base L : Nat) (cs : List CV) : Prop := ∀ c ∈ cs, w.ownsRow base 9 1 (.slice c.adr (c.rows.length * L) c.cap) (c.rows.length * L) (c.rows.flatten.map fun x => Value.string (tx x))
/-- What the loop over the characters holds. -/
structure ChSt (w : World) (base L : Nat) (im : List (List Int)) (wr : World) (k : Nat) (A : Option Addr) (cA : Nat) (cs : List CV) : Prop where
  below : Below w.heap.size w wr
  own : wr.ownsRow base 50 3 (.slice A cs.length cA) cs.length (cs.flatMap (CV.cells L))
  rows : CRows wr base L cs
  eq : cs.map CV.rows = chgTo im L k
theorem ChSt.keep {w wr wz : World} {base L k cA : Nat} {im : List (List Int)} {A : Option Addr} {cs : List CV} (h : ChSt w base L im wr k A cA cs) (hb : Below wr.heap.size wr wz) : ChSt w base L im wz k A cA cs :=
  ⟨below_all h.below hb, own_below h.own hb (Nat.le_refl _), fun c hc => own_below (h.rows c hc) hb (Nat.le_refl _), h.eq⟩
theorem chg_info : (Tryz.prog.info? 50).map (fun i => (i.zero, i.size, i.bytes)) = some (some (.agg #[.int .i64 0, .int .i64 0, .slice none 0 0]), 3, 40) := by kernel_rfl
def RetAdapted (l b : List (List Int)) (w : World) (e : Ending) (w' : World) : Prop := Below w.heap.size w w' ∧
  ((adE l b ≠ 0 ∧ e = .returned (.tuple #[.slice none 0 0, .int .i64 (adE l b)])) ∨
   (adE l b = 0 ∧ ∃ A cA cs, e = .returned (.tuple #[.slice A cs.length cA, .int .i64 0]) ∧ ChSt w w.heap.size b.length (imgs (adN l b) l b) w' (imgs (adN l b) l b).length A cA cs))
/-- What the loop that adds the involutions holds. -/
structure InSt (w : World) (base n : Nat) (l : List (List Int)) (wr : World) (gs mb k : Nat) : Prop where
  below : Below base w wr
  sub : ∃ v rs S, SubAt wr base n (prods n (l.take k)) gs mb v rs S
  ok : ∀ j (h : j < l.length), j < k → l[j] ∉ prods n (l.take j) ∧ ∀ b ∈ l.take j, cmp l[j] b = cmp b l[j]
theorem adapt_facts {l b : List (List Int)} (h : chE l b = 0) : (∀ a ∈ l, Perm (adN l b) a ∧ cmp a a = unit (adN l b) ∧ a ≠ unit (adN l b)) ∧ adN l b ≤ 6 ∧ (∀ m ∈ b, domK (adN l b) 48 m) ∧ 0 < b.length ∧ b.length ≤ 64 := by
  unfold chE at h
  split at h
  · cases h
  · next h1 =>
    split at h
    · cases h
    · next h2 =>
      obtain ⟨h3, h4, h5⟩ := szE_ok h
      have hi : ∀ a ∈ l, Invo a := fun a ha => Classical.byContradiction fun hn => h1 (.inl ⟨a, ha, hn⟩)
      have hl : ∀ a ∈ l, a.length = adN l b := fun a ha => Classical.byContradiction fun hn => h2 ⟨a, ha, hn⟩
      have hv : ∀ m ∈ b, vldM m = true := fun m hm => by
        cases hv : vldM m with
        | true => rfl
        | false => exact absurd (.inr ⟨m, hm, hv⟩) h1
      refine ⟨fun a ha => ?_, ?_, fun m hm => ?_, h4, h5⟩
      · obtain ⟨_, hp, hu, hc⟩ := hi a ha
        rw [hl a ha] at hp hu hc
        exact ⟨hp, hc, hu⟩
      · have := (vldM_iff.1 (hv b[0] (List.getElem_mem h4))).1
        rw [← h3 b[0] (List.getElem_mem h4)]
        exact this
      · obtain ⟨_, h6⟩ := vld_dom (hv m hm)
        exact ⟨h3 m hm, fun x hx => by have := h6 x hx; omega⟩
theorem ind_sub {n : Nat} {l : List (List Int)} (hp : ∀ a ∈ l, Perm n a ∧ cmp a a = unit n) {k : Nat} (hk : k ≤ l.length) (ho : ∀ j (h : j < l.length), j < k → l[j] ∉ prods n (l.take j) ∧ ∀ b ∈ l.take j, cmp l[j] b = cmp b l[j]) : Sub n (l.take k) ∧ (prods n (l.take k)).Nodup := by
  induction k with
  | zero => exact ⟨by simpa using Sub.nil n, by simp [prods_nil]⟩
  | succ k ih =>
    obtain ⟨h1, h2⟩ := ih (by omega) (fun j h hj => ho j h (by omega))
    have hkl : k < l.length := by omega
    obtain ⟨h3, h4⟩ := ho k hkl (by omega)
    have h5 := hp l[k] (List.getElem_mem _)
    rw [List.take_succ_eq_append_getElem hkl]
    exact ⟨h1.snoc h5.1 h5.2 h4, (h1.nodup_snoc h2 h5.1 h5.2).2 h3⟩
end Go.Proofs.Tg.Bk
end
