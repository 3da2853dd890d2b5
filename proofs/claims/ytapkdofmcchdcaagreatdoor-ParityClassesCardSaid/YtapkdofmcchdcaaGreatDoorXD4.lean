/- Walks of the reference: sets of monomials with equal characters. -/
import Derived.Test.YtapkdofmcchdcaaGreatDoorXD3
namespace Go.Proofs.Tg
open Go.RowKit Go.Gr Go.Ev Go.Mo
set_option maxHeartbeats 4000000
set_option maxRecDepth 100000
theorem idx_first : ∀ (K : List (List Int)) (q : List Int) (k : Nat) (hk : k < K.length), (∀ j, j < k → K.getD j [] ≠ q) → K[k] = q → K.idxOf q = k
  | x :: K, q, 0, _, _, h2 => by
    have : x = q := h2
    subst this
    exact List.idxOf_cons_self
  | x :: K, q, k + 1, hk, h1, h2 => by
    have hx : x ≠ q := h1 0 (by omega)
    rw [List.idxOf_cons]
    have hb : (x == q) = false := by simpa using hx
    rw [hb]
    simp only [cond_false]
    rw [idx_first K q k (by simpa using hk) (fun j hj => by simpa using h1 (j + 1) (by omega)) (by simpa using h2)]
theorem clsSt_all {P : List Int → Prop} {ks : List (List Int)} (h : ∀ k ∈ ks, P k) : ∀ i, i ≤ ks.length → ∀ k ∈ (clsSt ks i).1, P k
  | 0, _, k, hk => by simp [clsSt] at hk
  | i + 1, hi, k, hk => by
    have ih := clsSt_all h i (by omega)
    by_cases hc : (clsSt ks i).1.idxOf (ks.getD i []) < (clsSt ks i).1.length
    · rw [clsSt_old hc] at hk; exact ih k hk
    · rw [clsSt_new hc] at hk
      rcases List.mem_append.1 hk with h2 | h2
      · exact ih k h2
      · simp only [List.mem_cons, List.not_mem_nil, or_false] at h2
        subst h2
        have hi' : i < ks.length := by omega
        rw [List.getD_eq_getElem?_getD, List.getElem?_eq_getElem hi', Option.getD_some]
        exact h _ (List.getElem_mem _)
theorem not_mem_getD {K : List (List Int)} {q : List Int} (h : ∀ j, j < K.length → K.getD j [] ≠ q) : q ∉ K := by
  intro hm
  obtain ⟨j, hj, e⟩ := List.mem_iff_getElem.1 hm
  exact h j hj (by rw [List.getD_eq_getElem?_getD, List.getElem?_eq_getElem hj, Option.getD_some]; exact e)
theorem sets_any (S B : Option Addr) (cs cb : Nat) (s b : List (List Int)) (w : World) (hS : Lists w S s) (hB : Lists w B b) (hs : s.length ≤ 1000) (hb64 : b.length ≤ 64) (hz : chk s b = 0) :
    Calls Tryz.prog 67 #[.slice S s.length cs, .slice B b.length cb] w fun e w' => ∃ A c, e = .returned (.slice A ((clsSt (b.map (chr s)) b.length).2.map toI).length c) ∧ Lists w' A ((clsSt (b.map (chr s)) b.length).2.map toI) ∧ Below w.heap.size w w' := by
  obtain ⟨v1, v2, v3⟩ := chk_inv hz
  have HV1 := Lib.hid v1
  have HV2 := Lib.hid v2
  have HV3 := Lib.hid v3
  have HKL := Lib.hid (clsSt_len (b.map (chr s)))
  have HKE := Lib.hid (clsSt_each (b.map (chr s)))
  have HKA : Hid (∀ i, i ≤ b.length → ∀ k ∈ (clsSt (b.map (chr s)) i).1, k.length = s.length) := Lib.hid (fun i hi => clsSt_all (P := fun k => k.length = s.length) (fun k hk => by
    obtain ⟨m, _, rfl⟩ := List.mem_map.1 hk
    exact chr_len s m) i (by simpa using hi))
  have HKG : Hid (∀ i (h : i < b.length), (b.map (chr s)).getD i [] = chr s b[i]) := Lib.hid (fun i h => by simp [h])
  obtain ⟨ii, hii, hiz0, hiz1, hiz2⟩ := info_parts int_info
  have hri : (Tryz.prog.info? 31).map (fun i => (i.zero, i.size, i.bytes)) = some (some (.slice none 0 0), 1, 24) := by kernel_rfl
  obtain ⟨ir, hir, hrz0, hrz1, hrz2⟩ := info_parts hri
  clear v1 v2 v3 hz hri
  generalize hks : b.map (chr s) = ks at *
  clear hks
  go_enter Tryz.func67, Tryz.ntmps67
  go_wp2
  go_loopw [5, 6, 7] (fun s5 s6 s7 wr => ∃ (i : Nat) (KA : Option Addr) (kc : Nat) (kval : Nat → Value) (C : Option Addr) (cc : Nat) (val : Nat → Value), s7 = .int .i64 i ∧ i ≤ b.length ∧ s6 = .slice KA (clsSt ks i).1.length kc ∧ s5 = .slice C (clsSt ks i).2.length cc ∧
      KInv w.heap.size KA kc (clsSt ks i).1 kval C cc (clsSt ks i).2 val wr ∧ Below w.heap.size w wr) (fun _ _ s7 _ => b.length - (intOf s7).toNat)
  case atStart => exact ⟨0, none, 0, _, none, 0, _, rfl, Nat.zero_le _, rfl, rfl, KInv.nil _ _, Below.refl _ _⟩
  case round =>
    obtain ⟨wo, rfl⟩ : ∃ wo : World, wo = wr := ⟨_, rfl⟩
    obtain ⟨i, KA, kc, kval, C, cc, val, rfl, hi, rfl, rfl, hK, hb⟩ := hrel
    by_cases hlt : i < b.length
    · obtain ⟨ad, A, c, rfl, hc, hA⟩ := (hB.keep hb).at hlt
      have hvm := HV1.out b[i] (List.getElem_mem _)
      have hml := fun v hv => HV3.out v hv b[i] (List.getElem_mem _)
      have HQ := HKG.out i hlt
      have HCH := Lib.hid (rval_any S A cs c s b[i] wo (hS.keep hb) hA hs hvm HV2.out hml)
      have hql := chr_len s b[i]
      have HST : Hid ((ks.getD i []) = chr s b[i]) := Lib.hid HQ
      have hkl := HKL.out i
      have HKE1 := Lib.hid (HKE.out i)
      have HKA1 := Lib.hid (HKA.out i hi)
      have HOLD := Lib.hid (@clsSt_old ks i)
      have HNEW := Lib.hid (@clsSt_new ks i)
      clear HQ hA hvm hml
      generalize b[i] = m at *
      generalize chr s m = q at *
      rw [HST.out] at HOLD HNEW
      generalize (clsSt ks i).1 = K at *
      generalize (clsSt ks i).2 = Cl at *
      have hq1000 : q.length ≤ 1000 := by omega
      have hkl1 : K.length = Cl.length := hkl.1
      have hkl2 : Cl.length ≤ 64 := by omega
      have hkl3 : K.length ≤ 64 := by omega
      have HKL1 := Lib.hid hkl1
      clear hkl hkl1 hql
      go_wp2_with (go_at_call 66; refine HCH.out.mono ?_; rintro e w1 ⟨Q, cq, rfl, hqo, hb1⟩)
      have hK1 := hK.keep hb1
      have hbw1 := below_all hb hb1
      have hqo' := own_base hqo hb.size
      have HQS : Hid (∀ j, j < Cl.length → (Value.slice Q q.length cq).ownBlock = none ∨ (Value.slice Q q.length cq).ownBlock ≠ (val j).ownBlock) := Lib.hid (fun j hj => by
        cases hbk : (Value.slice Q q.length cq).ownBlock with
        | none => exact .inl rfl
        | some z =>
          right
          intro e
          have h1 := (hqo.lt z hbk).1
          have h2 := ((hK.fam.own j hj).lt z e.symm).2
          omega)
      have hzo := hb1.size
      clear hK hqo hb1
      go_loopw [9] (fun s9 wr => ∃ k : Nat, s9 = .int .i64 k ∧ k ≤ K.length ∧ Hid (∀ j, j < k → K.getD j [] ≠ q) ∧ Dr w1 wr) (fun s9 _ => K.length - (intOf s9).toNat)
      case atStart => exact ⟨0, rfl, Nat.zero_le _, Lib.hid (fun j h => absurd h (by omega)), Dr.refl _⟩
      case round =>
        obtain ⟨k, rfl, hk, HNK, hdr⟩ := hrel
        have hK2 := hK1.keep hdr.below
        have hqo2 := own_below hqo' hdr.below (Nat.le_refl _)
        have hbn := below_all hbw1 hdr.below
        obtain ⟨wn, rfl⟩ : ∃ wn : World, wn = wr := ⟨_, rfl⟩
        have hzn : w.heap.size ≤ wn.heap.size := hbn.size
        clear hzo
        by_cases hkK : k < K.length
        · obtain ⟨Ak, ck, hkv, _, hSk⟩ := Sl.of_own (hK2.kown k hkK)
          have hgk : K.getD k [] = K[k] := by simp [hkK]
          obtain ⟨gk, hgk2⟩ : ∃ g, KA = some ⟨g, 0, none⟩ := by
            rcases hK2.krow.2 with ⟨h1, h2⟩ | ⟨g, cap, cur, h1, _⟩
            · omega
            · injection h1 with h1; exact ⟨g, h1⟩
          subst hgk2
          have cK : wn.cell? ⟨gk, k, none⟩ = some (.slice Ak K[k].length ck) := by
            rw [hK2.krow.cellAt k (by omega), ← hgk, ← hkv]
            simp [hkK]
          rw [hgk] at hSk
          have HKK : Hid (K.getD k [] = K[k]) := Lib.hid hgk
          have HIF : Hid (K[k] = q → K.idxOf q = k) := Lib.hid (idx_first K q k hkK HNK.out)
          have hkl : K[k].length ≤ 1000000 := by rw [HKA1.out K[k] (List.getElem_mem _)]; omega
          have hIq : Ints wn Q q := Sl.own hqo2
          have d1 : decide (k < K.length) = true := by simp; omega
          clear hgk hkv
          generalize K[k] = kq at *
          by_cases he : kq = q
          · have HEQ := Lib.hid (seq_any Ak Q kq q ck cq wn hSk hIq hkl true (decide_eq_true he))
            have hix := HIF.out he
            have hix2 : K.idxOf q < K.length := by rw [hix]; exact hkK
            have HO := Lib.hid (HOLD.out hix2)
            rw [hix] at HO
            have e5 : ((k : Int) == (K.length : Int)) = false := by simp; omega
            have hkC : k < Cl.length := by have := HKL1.out; omega
            clear he hix hix2 HNEW HOLD hSk hIq
            obtain ⟨g, hg⟩ : ∃ g, C = some ⟨g, 0, none⟩ := by
              rcases hK2.fam.row.2 with ⟨h1, h2⟩ | ⟨g, cap, cur, h1, _⟩
              · omega
              · injection h1 with h1; exact ⟨g, h1⟩
            subst hg
            have hkk1 : (k : Int) < (Cl.length : Int) := by omega
            have hclk := HKE1.out k
            obtain ⟨clk, hclk0⟩ : ∃ clk, Cl.getD k [] = clk := ⟨_, rfl⟩
            rw [hclk0] at hclk
            have HCL := Lib.hid hclk0
            clear hclk0
            go_wp2_with (first
              | (go_at_call 80; refine HEQ.out.mono ?_; rintro e w2 ⟨rfl, hdr2⟩
                 have hK3 := hK2.keep hdr2.below
                 have hb3 := below_all hbn hdr2.below
                 have hz3 := hb3.size
                 have hok := hK3.fam.own k hkC
                 (rw [HCL.out] at hok)
                 have ck : w2.cell? ⟨g, k, none⟩ = some (val k) := (by
                   rw [hK3.fam.row.cellAt k (by omega)]
                   simp [hkC]))
              | (at_builtin; refine wpList_append_own_at _ rfl (.tmp 53) (.tmp 55) 31 rfl w.heap.size 3 ii (.int .i64 0) 1 8 Tryz.underlying31 hii hiz0 hiz1 hiz2 rfl (by decide) (val k) clk.length (clk.map vn) rfl (hok.alloc _) ⟨w2.heap.size, 0, none⟩ 1 1 [.int .i64 i] rfl rfl ?c1 ?c2 ?c3 ?c4 ?c5 ?_
                 case c1 => exact cell_one_new _ _ _
                 case c2 => simp [Value.oneCell']
                 case c3 => simp only [maxLen]; omega
                 case c4 => omega
                 case c5 => simp; omega
                 intro v' w3 hown' hgrow _ hat
                 obtain ⟨A3, c3, hv3, _, _⟩ := Sl.of_own hown'
                 subst hv3
                 have hrow3 := (hK3.fam.row.alloc (.cells #[.int .i64 i] 3)).kept hgrow (own_ne hK3.fam.row hok (by decide))
                 have ck3 := hrow3.cellAt k (by omega)
                 have fk3 := hrow3.frozenAt k
                 (simp [hkC] at ck3)))
            go_roundw
            case rel =>
              have hgb := hb3.alloc hb3.size (.cells #[.int .i64 i] 3)
              have hgg := (hK3.fam.row.lt g rfl).1
              refine ⟨i + 1, some ⟨gk, 0, none⟩, kc, kval, some ⟨g, 0, none⟩, cc, fun j => if j = k then .slice A3 (clk.length + 1) c3 else val j, by go_num, by omega, ?_, ?_, ?_, ?_⟩
              · rw [HO.out]
              · rw [HO.out]; simp
              · rw [HO.out]
                exact (hK3.alloc (.cells #[.int .i64 i] 3)).add hkC (by rw [HCL.out]; exact hown') hgrow hat
              · exact (hgb.grown hgrow (by have := hgb.size; simp at this ⊢; omega) (fun j hj => (hok.lt j hj).1)).setCell (by simp; omega) _
            case measure => simp [intOf]; omega
          · have HEQ := Lib.hid (seq_any Ak Q kq q ck cq wn hSk hIq hkl false (decide_eq_false he))
            have HNK2 : Hid (∀ j, j < k + 1 → K.getD j [] ≠ q) := Lib.hid (fun j hj => by
              by_cases e : j = k
              · subst e; rw [HKK.out]; exact he
              · exact HNK.out j (by omega))
            clear he hSk hIq
            go_wp2_with (go_at_call 80; refine HEQ.out.mono ?_; rintro e w2 ⟨rfl, hdr2⟩)
            go_roundw
            case rel =>
              obtain ⟨n1, hn1⟩ := hdr
              obtain ⟨n2, hn2⟩ := hdr2
              exact ⟨k + 1, by go_num, by omega, HNK2, ⟨n1 + n2, by rw [hn2, hn1, World.drewN_drewN]⟩⟩
            case measure => simp [intOf]; omega
        · obtain rfl : k = K.length := by omega
          have hni : q ∉ K := not_mem_getD HNK.out
          have HO := Lib.hid (HNEW.out (fun h => hni (List.idxOf_lt_length_iff.1 h)))
          have e5 : ((K.length : Int) == (K.length : Int)) = true := by simp
          have d1 : decide (K.length < K.length) = false := by simp
          clear hni HNEW HOLD
          have hkr := hK2.krow
          rw [HKL1.out] at hkr d1 e5 ⊢
          go_wp2_with (first
              | (at_builtin; refine wpList_append_own_at _ rfl (.tmp 41) (.tmp 43) 25 rfl w.heap.size 31 ir (.slice none 0 0) 1 24 Tryz.underlying25 hir hrz0 hrz1 hrz2 rfl (by decide) (.slice KA Cl.length kc) Cl.length _ rfl (hkr.alloc _) ⟨wn.heap.size, 0, none⟩ 1 1 [.slice Q q.length cq] rfl rfl ?c1 ?c2 ?c3 ?c4 ?c5 ?_
                 case c1 => exact cell_one_new _ _ _
                 case c2 => simp [Value.oneCell']
                 case c3 => simp only [maxLen]; omega
                 case c4 => omega
                 case c5 => simp; omega
                 intro vk w4 hownk hgrowk _ hatk
                 obtain ⟨KA2, kc2, hvk, _, _⟩ := Sl.of_own hownk
                 subst hvk
                 have hK4 := (hK2.alloc (.cells #[.slice Q q.length cq] 31)).pushKey (KA' := KA2) (kc' := kc2) (kv := .slice Q q.length cq) (q := q) (hqo2.alloc _) HQS.out (by rw [HKL1.out]; exact hownk) (by rw [HKL1.out]; exact hgrowk) (by rw [HKL1.out]; exact hatk)
                 have hbk := hbn.alloc hbn.size (.cells #[.slice Q q.length cq] 31)
                 have hb4 := hbk.grown hgrowk (by have := hbk.size; omega) (fun j hj => (hkr.lt j hj).1)
                 have hz4 := hb4.size)
              | (at_builtin; refine wpList_append_own_at _ rfl (.tmp 45) (.tmp 46) 25 rfl w.heap.size 31 ir (.slice none 0 0) 1 24 Tryz.underlying25 hir hrz0 hrz1 hrz2 rfl (by decide) (.slice C Cl.length cc) Cl.length _ rfl (hK4.fam.row.alloc _) ⟨w4.heap.size, 0, none⟩ 1 1 [.slice none 0 0] rfl rfl ?c1 ?c2 ?c3 ?c4 ?c5 ?_
                 case c1 => exact cell_one_new _ _ _
                 case c2 => simp [Value.oneCell']
                 case c3 => simp only [maxLen]; omega
                 case c4 => omega
                 case c5 => simp; omega
                 intro v2 w5 hown2 hgrow2 _ hat2
                 obtain ⟨C2, cc2, hv2, _, _⟩ := Sl.of_own hown2
                 subst hv2
                 have hK5 := (hK4.alloc (.cells #[.slice none 0 0] 31)).pushCls hown2 hgrow2 hat2
                 have hbm2 := hb4.alloc hb4.size (.cells #[.slice none 0 0] 31)
                 have hb5 := hbm2.grown hgrow2 (by have := hbm2.size; omega) (fun j hj => (hK4.fam.row.lt j hj).1)
                 have hz5 := hb5.size
                 obtain ⟨g, hg⟩ : ∃ g, C2 = some ⟨g, 0, none⟩ := (by
                   rcases hown2.2 with ⟨h1, h2⟩ | ⟨g, cap, cur, h1, _⟩
                   · omega
                   · injection h1 with h1; exact ⟨g, h1⟩)
                 subst hg
                 have ck : w5.cell? ⟨g, Cl.length, none⟩ = some (.slice none 0 0) := (by
                   rw [hown2.cellAt Cl.length (by omega)]
                   simp))
              | (at_builtin; refine wpList_append_own_at _ rfl (.tmp 53) (.tmp 55) 31 rfl w.heap.size 3 ii (.int .i64 0) 1 8 Tryz.underlying31 hii hiz0 hiz1 hiz2 rfl (by decide) (.slice none 0 0) 0 [] rfl (World.ownsRow_nil _ _ _ _) ⟨w5.heap.size, 0, none⟩ 1 1 [.int .i64 i] rfl rfl ?c1 ?c2 ?c3 ?c4 ?c5 ?_
                 case c1 => exact cell_one_new _ _ _
                 case c2 => simp [Value.oneCell']
                 case c3 => simp only [maxLen]; omega
                 case c4 => omega
                 case c5 => simp; omega
                 intro v' w6 hown' hgrow _ hat
                 obtain ⟨A3, c3, hv3, _, _⟩ := Sl.of_own hown'
                 subst hv3
                 have hrow3 := (hK5.fam.row.alloc (.cells #[.int .i64 i] 3)).kept hgrow (.inr (by simp [Value.ownBlock]))
                 have ck3 := hrow3.cellAt Cl.length (by simp)
                 have fk3 := hrow3.frozenAt Cl.length
                 (simp at ck3)))
          have q1 : (Cl ++ [([] : List Nat)]).getD Cl.length [] = [] := by simp
          have q2 : (Cl ++ [([] : List Nat)]).set Cl.length ([] ++ [i]) = Cl ++ [[i]] := by
            rw [List.set_append_right _ _ (Nat.le_refl _), Nat.sub_self]; rfl
          go_roundw
          case rel =>
            have hb6 := hb5.alloc hb5.size (.cells #[.int .i64 i] 3)
            have hgg := (hK5.fam.row.lt g rfl).1
            have hFF := (hK5.alloc (.cells #[.int .i64 i] 3)).add (k := Cl.length) (i := i) (v' := .slice A3 (0 + 1) c3) (w' := w6) (by simp) (by rw [q1]; exact hown') (by rw [if_pos rfl]; exact hgrow) (by rw [if_pos rfl]; exact hat)
            rw [q1, q2] at hFF
            refine ⟨i + 1, KA2, kc2, _, some ⟨g, 0, none⟩, cc2, _, by go_num, by omega, ?_, ?_, by rw [HO.out]; exact hFF, ?_⟩
            · rw [HO.out]; simp [HKL1.out]
            · rw [HO.out]; simp
            · exact (hb6.grown hgrow (by have := hb6.size; omega) (fun j hj => by cases hj)).setCell (by simp; omega) _
          case measure => simp [intOf]; omega
    · obtain rfl : i = b.length := by omega
      go_wp2
      go_ret
      exact ⟨C, cc, by simp, hK.fam.lists, hb⟩
end Go.Proofs.Tg
