/- Parts of the proof: WD4, WD5, XD1. -/
import Derived.Maps.OwnOps
import Derived.Maps.OwnSet
import Derived.Maps.Views
import Derived.Laws.IdiomStrings
import Derived.Laws.BytesArg
import Derived.Carry
import Derived.Test.YticpnfjdooileaaGreatDoorMCPA6
section
/- Walks: classes of monomials. -/
namespace Go.Proofs.Tg
open Go.RowKit Go.Gr Go.Ev Go.Mo
open Go.ChangeShapes Go.WideShapes
set_option maxHeartbeats 4000000
set_option maxRecDepth 100000
/-- A character as a key. -/
def kb (q : List Int) : List UInt8 := q.map fun x => UInt8.ofNat x.toNat
theorem kb_inj : ∀ {p q : List Int}, Bit01 p → Bit01 q → kb p = kb q → p = q
  | [], [], _, _, _ => rfl
  | [], _ :: _, _, _, h => by simp [kb] at h
  | _ :: _, [], _, _, h => by simp [kb] at h
  | x :: p, y :: q, hp, hq, h => by
    simp only [kb, List.map_cons, List.cons.injEq] at h
    have h2 := kb_inj (p := p) (q := q) (fun z hz => hp z (by simp [hz])) (fun z hz => hq z (by simp [hz])) h.2
    have hx := hp x (by simp)
    have hy := hq y (by simp)
    have h1 := h.1
    rw [h2]
    congr 1
    rcases hx with rfl | rfl <;> rcases hy with rfl | rfl
    · rfl
    · exact absurd h1 (by decide)
    · exact absurd h1 (by decide)
    · rfl
def MapOK (K : List (List Int)) (D : DataW Unit) : Prop :=
  Maps.IsMap D ∧ ∀ q, Bit01 q → (Maps.has D (.string (kb q)) = decide (q ∈ K)) ∧ (q ∈ K → D.atKey (.string (kb q)) (.lit (.int .i64 0)) = .lit (.int .i64 (K.idxOf q : Nat)))
theorem MapOK.nil : MapOK [] (.map []) := ⟨Maps.isMap_empty, fun q _ => ⟨by simp [Maps.has_eq], fun h => by cases h⟩⟩
theorem MapOK.put {K : List (List Int)} {D : DataW Unit} (h : MapOK K D) (_hK : ∀ k ∈ K, Bit01 k) {q : List Int} (hq : Bit01 q) (hn : q ∉ K) : MapOK (K ++ [q]) (D.put (.string (kb q)) (.lit (.int .i64 (K.length : Nat)))) := by
  refine ⟨h.1.put _ _, fun p hp => ?_⟩
  by_cases e : p = q
  · subst e
    refine ⟨by rw [Maps.has_put_same h.1 (by simp [WideAt.IsKeyLit])]; simp, fun _ => ?_⟩
    rw [Maps.atKey_put_same h.1 (by simp [WideAt.IsKeyLit]), List.idxOf_append, if_neg hn]
    simp
  · have hne : (Lit.string (kb p)) ≠ .string (kb q) := fun e2 => by
      injection e2 with e2
      exact e (kb_inj hp hq e2)
    refine ⟨by rw [Maps.has_put_other hne, (h.2 p hp).1]; simp [e], fun hm => ?_⟩
    have hm' : p ∈ K := by simpa [e] using hm
    rw [Maps.atKey_put_other hne, (h.2 p hp).2 hm', List.idxOf_append, if_pos hm']
theorem own_map_ne {w : World} {base : Nat} {t : TypeId} {sz n : Nat} {v : Value} {xs : List Value} {P : Program} {k : TypeId} {R : Value → Option (DataW Unit × List MemPlace)} {b m : Nat} {D : DataW Unit} (h : w.ownsRow base t sz v n xs) (hm : w.ownsMap P k R b m D) : v.ownBlock = none ∨ v.ownBlock ≠ some b := by
  rcases h.2 with ⟨rfl, _⟩ | ⟨g, cap, cur, rfl, _, hg, _⟩
  · exact .inl rfl
  · right
    intro e
    have : g = b := by simpa [Value.ownBlock] using e
    subst this
    obtain ⟨es, cl, hb, _⟩ := hm
    rw [hg] at hb
    cases hb
theorem map_ne_own {w : World} {base : Nat} {t : TypeId} {sz n : Nat} {v : Value} {xs : List Value} {P : Program} {k : TypeId} {R : Value → Option (DataW Unit × List MemPlace)} {b m : Nat} {D : DataW Unit} (h : w.ownsRow base t sz v n xs) (hm : w.ownsMap P k R b m D) : some b ≠ v.ownBlock := by
  rcases own_map_ne h hm with e | e
  · rw [e]; simp
  · exact fun e2 => e e2.symm
theorem map_keep {w w' : World} {P : Program} {k : TypeId} {R : Value → Option (DataW Unit × List MemPlace)} {b m : Nat} {D : DataW Unit} (hm : w.ownsMap P k R b m D) (hb : Below w.heap.size w w') : w'.ownsMap P k R b m D :=
  hm.kept (row := none) ⟨hb.os, hb.tape, hb.output, hb.size, fun k hk _ => hb.block k hk⟩ (by simp)
def vb (c : UInt8) : Value := .int .u8 (c.toNat : Int)
theorem byte_info : (Tryz.prog.info? 5).map (fun i => (i.zero, i.size, i.bytes)) = some (some (.int .u8 0), 1, 1) := by kernel_rfl
/-- The bytes of a slice as a text. -/
theorem conv_name (w : World) (A : Option Addr) (c : Nat) (l : List UInt8) (h : Sl w A l.length 1 (l.map vb)) : (convert 71 9 (.slice A l.length c)).run Tryz.prog w = .ok (.string (bs l)) w := by
  by_cases h0 : l = []
  · subst h0
    cases A with
    | none => exact run_convert_bytes_nil w _ 5 Tryz.underlying71 Tryz.underlying5 0 c _ Tryz.underlying9
    | some ad => exact run_convert_bytes_back w _ _ 5 ad c [] Tryz.underlying71 Tryz.underlying5 Tryz.underlying9 (fun j hj => by simp at hj)
  · obtain ⟨ad, rfl, _, ha⟩ := h.lies (List.length_pos_iff.2 h0)
    exact run_convert_bytes_back w _ _ 5 ad c l Tryz.underlying71 Tryz.underlying5 Tryz.underlying9 (fun j hj => ha j _ (by simp [hj, vb]))
theorem zero_int (w : World) : (zeroValue 3).run Tryz.prog w = .ok (.int .i64 0) w := by kernel_rfl
end Go.Proofs.Tg
end
section
/- Walks: classes of monomials. -/
namespace Go.Proofs.Tg
open Go.RowKit Go.Gr Go.Ev Go.Mo
open Go.ChangeShapes Go.WideShapes
set_option maxHeartbeats 4000000
set_option maxRecDepth 100000
theorem clsSt_bits {ks : List (List Int)} (h : ∀ k ∈ ks, Bit01 k) : ∀ i, i ≤ ks.length → ∀ k ∈ (clsSt ks i).1, Bit01 k
  | 0, _, k, hk => by simp [clsSt] at hk
  | i + 1, hi, k, hk => by
    have ih := clsSt_bits h i (by omega)
    by_cases hc : (clsSt ks i).1.idxOf (ks.getD i []) < (clsSt ks i).1.length
    · rw [clsSt_old hc] at hk; exact ih k hk
    · rw [clsSt_new hc] at hk
      rcases List.mem_append.1 hk with h2 | h2
      · exact ih k h2
      · simp only [List.mem_cons, List.not_mem_nil, or_false] at h2
        subst h2
        have hi' : i < ks.length := by omega
        rw [List.getD_eq_getElem?_getD, List.getElem?_eq_getElem hi', Option.getD_some]
        exact h _ (List.getElem_mem _)
def RetCls (L : List (List Int)) (code : Int) (w : World) (e : Ending) (w' : World) : Prop :=
  ∃ A c, e = .returned (.tuple #[.slice A L.length c, .int .i64 code]) ∧ Lists w' A L ∧ Below w.heap.size w w'
theorem cls_main (S B : Option Addr) (cs cb : Nat) (s b : List (List Int)) (w : World) (hS : Lists w S s) (hB : Lists w B b) (hs : s.length ≤ 1000) (hb64 : b.length ≤ 64) (hs2 : ∀ v ∈ s, v.length ≤ 1000) (hz : chk s b = 0) :
    Calls Tryz.prog 15 #[.slice S s.length cs, .slice B b.length cb] w (RetCls ((clsSt (b.map (chr s)) b.length).2.map toI) 0 w) := by
  obtain ⟨v1, v2, v3⟩ := chk_inv hz
  have HCK := Lib.hid (check_any S B cs cb s b w hS hB hs (by omega) hs2 (fun v hv => by have := (small_of_vld (v1 v hv)).1; omega))
  rw [hz] at HCK
  have HV1 := Lib.hid v1
  have HV2 := Lib.hid v2
  have HV3 := Lib.hid v3
  have hd : decide ((64 : Int) < (b.length : Int)) = false := by simp; omega
  have HKB : Hid (∀ i, i ≤ (b.map (chr s)).length → ∀ k ∈ (clsSt (b.map (chr s)) i).1, Bit01 k) := Lib.hid (clsSt_bits (fun k hk => by
    obtain ⟨m, _, rfl⟩ := List.mem_map.1 hk
    exact chr_bit s m))
  have HKL := Lib.hid (clsSt_len (b.map (chr s)))
  have HKE := Lib.hid (clsSt_each (b.map (chr s)))
  have HKG : Hid (∀ i (h : i < b.length), (b.map (chr s)).getD i [] = chr s b[i]) := Lib.hid (fun i h => by simp [h])
  obtain ⟨ib, hib, hbz0, hbz1, hbz2⟩ := info_parts byte_info
  obtain ⟨ii, hii, hiz0, hiz1, hiz2⟩ := info_parts int_info
  have hri : (Tryz.prog.info? 33).map (fun i => (i.zero, i.size, i.bytes)) = some (some (.slice none 0 0), 1, 24) := by kernel_rfl
  obtain ⟨ir, hir, hrz0, hrz1, hrz2⟩ := info_parts hri
  have hmm := @run_makeMap Tryz.prog
  clear v1 v2 v3 hz hri
  generalize hks : b.map (chr s) = ks at *
  have HKS := Lib.hid hks
  clear hks
  go_enter Tryz.func15, Tryz.ntmps15
  go_wp2_with (go_at_call 34; refine HCK.out.mono ?_; rintro e w' ⟨rfl, rfl⟩)
  clear hmm
  go_loopw [7, 28] (fun s7 s28 wr => ∃ (i : Nat) (C : Option Addr) (cc : Nat) (val : Nat → Value) (D : DataW Unit), s28 = .int .i64 i ∧ i ≤ b.length ∧ s7 = .slice C (clsSt ks i).2.length cc ∧ Fam (w.heap.size + 1) C cc (clsSt ks i).2 val wr ∧
      wr.ownsMap Tryz.prog 9 (plainElem Tryz.prog 3) w.heap.size i D ∧ Hid (MapOK (clsSt ks i).1 D) ∧ Below w.heap.size w wr) (fun _ s28 _ => b.length - (intOf s28).toNat)
  case atStart => exact ⟨0, none, 0, _, .map [], rfl, Nat.zero_le _, rfl, Fam.nil _ _, World.ownsMap_made _ _ _ _, Lib.hid MapOK.nil, (Below.refl _ _).alloc (Nat.le_refl _) _⟩
  case round =>
    obtain ⟨wo, rfl⟩ : ∃ wo : World, wo = wr := ⟨_, rfl⟩
    obtain ⟨i, C, cc, val, D, rfl, hi, rfl, hF, hMp, HMO, hb⟩ := hrel
    have hzo : w.heap.size < wo.heap.size := hMp.lt
    by_cases hlt : i < b.length
    · obtain ⟨ad, A, c, rfl, hc, hA⟩ := (hB.keep hb).at hlt
      have hvm := HV1.out b[i] (List.getElem_mem _)
      have hml := fun v hv => HV3.out v hv b[i] (List.getElem_mem _)
      have HQ := HKG.out i hlt
      have HCH := Lib.hid (char_any S A cs c s b[i] wo (hS.keep hb) hA hs hvm HV2.out hml)
      have hqb := chr_bit s b[i]
      have hql := chr_len s b[i]
      have HST : Hid ((ks.getD i []) = chr s b[i]) := Lib.hid HQ
      have hkl := HKL.out i
      have HKE1 := Lib.hid (HKE.out i)
      have HKB1 := Lib.hid (HKB.out i (by rw [← HKS.out, List.length_map]; exact hi))
      have HOLD := Lib.hid (@clsSt_old ks i)
      have HNEW := Lib.hid (@clsSt_new ks i)
      clear HQ hA hvm hml
      generalize b[i] = m at *
      generalize chr s m = q at *
      rw [HST.out] at HOLD HNEW
      generalize (clsSt ks i).1 = K at *
      generalize (clsSt ks i).2 = Cl at *
      have hq1000 : q.length ≤ 1000 := by omega
      have HQB : Hid (Bit01 q) := Lib.hid hqb
      clear hqb
      have hkl1 : K.length = Cl.length := hkl.1
      have hkl2 : Cl.length ≤ 64 := by omega
      have HKL1 := Lib.hid hkl1
      clear hkl hkl1 hql
      go_wp2_with (go_at_call 35; refine HCH.out.mono ?_; rintro e w1 ⟨rfl, Bq, hb1⟩)
      have hI1 : Ints w1 (some ⟨wo.heap.size, 0, none⟩) q := sl_new Bq
      go_loopw [11, 37] (fun s11 s37 wr => ∃ (k : Nat) (N : Option Addr) (cn : Nat), s37 = .int .i64 k ∧ k ≤ q.length ∧ s11 = .slice N k cn ∧ wr.ownsRow w1.heap.size 5 1 (.slice N k cn) k ((kb (q.take k)).map vb) ∧ Below w1.heap.size w1 wr) (fun _ s37 _ => q.length - (intOf s37).toNat)
      case atStart => exact ⟨0, none, 0, rfl, Nat.zero_le _, rfl, World.ownsRow_nil _ _ _ _, Below.refl _ _⟩
      case round =>
        obtain ⟨k, N, cn, rfl, hk, rfl, hown, hbn⟩ := hrel
        by_cases hkq : k < q.length
        · obtain ⟨qd, he, hcq⟩ := Ints.at (hI1.keep hbn) hkq
          injection he with he
          subst he
          rw [add_lit, Nat.zero_add] at hcq
          have hx := HQB.out q[k] (List.getElem_mem _)
          have HT0 : Hid (kb (q.take (k + 1)) = kb (q.take k) ++ [UInt8.ofNat q[k].toNat]) := Lib.hid (by
            rw [List.take_succ_eq_append_getElem hkq]; unfold kb; rw [List.map_append]; rfl)
          generalize q[k] = x at *
          have hx0 : 0 ≤ x := by omega
          have hx1 : x ≤ 1 := by omega
          have HXB : Hid (((UInt8.ofNat x.toNat).toNat : Int) = x) := Lib.hid (by rcases hx with rfl | rfl <;> rfl)
          clear hx
          go_wp2_with (at_builtin; refine wpList_append_own _ rfl _ _ 71 rfl w1.heap.size 5 ib (.int .u8 0) 1 1 Tryz.underlying71 hib hbz0 hbz1 hbz2 rfl (by decide) (.slice N k cn) k _ rfl (hown.alloc _) ⟨wr.heap.size, 0, none⟩ 1 1 [.int .u8 x] rfl rfl ?c1 ?c2 ?c3 ?c4 ?c5 ?_
                       case c1 => exact cell_one_new _ _ _
                       case c2 => simp [Value.oneCell']
                       case c3 => simp only [maxLen]; omega
                       case c4 => omega
                       case c5 => have := hbn.size; simp; omega
                       intro v' w2 hown' hgrow _)
          obtain ⟨N2, cn2, hv2, _, _⟩ := Sl.of_own hown'
          subst hv2
          go_roundw
          case rel =>
            refine ⟨k + 1, N2, cn2, by go_num, by omega, rfl, ?_, ?_⟩
            · rw [HT0.out, List.map_append]
              have e : [Value.int .u8 x] = [UInt8.ofNat x.toNat].map vb := by
                show [Value.int .u8 x] = [Value.int .u8 ((UInt8.ofNat x.toNat).toNat : Int)]
                rw [HXB.out]
              rw [e] at hown'
              exact hown'
            · exact (hbn.alloc hbn.size _).grown hgrow (by have := hbn.size; simp; omega) (fun j hj => (hown.lt j hj).1)
          case measure => simp [intOf]; omega
        · obtain rfl : k = q.length := by omega
          rw [List.take_length] at hown
          have hSn := Sl.own hown
          have hkbl : (kb q).length = q.length := by simp [kb]
          have hcv : (convert 71 9 (.slice N q.length cn)).run Tryz.prog wr = .ok (.string (bs (kb q))) wr := by
            have := conv_name wr N cn (kb q) (by rw [hkbl]; exact hSn)
            rw [hkbl] at this
            exact this
          have hF2 := (hF.keep hb1).keep hbn
          have hMp2 := map_keep (map_keep hMp hb1) hbn
          have hb2 : Below w.heap.size w wr := below_all (below_all hb hb1) hbn
          have hkey : keyOf Tryz.prog 9 (.string (bs (kb q))) = some (.string (kb q)) := WideMaps.keyOf_string_mk Tryz.underlying9 (by rw [bs_size, hkbl]; simp only [maxLen]; omega)
          have HKEY := Lib.hid hkey
          obtain ⟨hhas, hat0⟩ := HMO.out.2 q HQB.out
          have HAT := Lib.hid hat0
          have HHAS := Lib.hid hhas
          clear hkey hSn hkbl hat0 hhas hown hI1 Bq
          obtain ⟨wn, rfl⟩ : ∃ wn : World, wn = wr := ⟨_, rfl⟩
          clear hF hMp hb hb1 hbn
          by_cases hmem : q ∈ K
          · have hix : K.idxOf q < K.length := List.idxOf_lt_length_of_mem hmem
            have HO := Lib.hid (HOLD.out hix)
            have HHT : Hid (Maps.has D (.string (kb q)) = true) := Lib.hid (by rw [HHAS.out, decide_eq_true hmem])
            have HAT2 := Lib.hid (HAT.out hmem)
            have hkC : K.idxOf q < Cl.length := by rw [← HKL1.out]; exact hix
            clear hix hmem HNEW HOLD HHAS HAT
            generalize K.idxOf q = kk at *
            obtain ⟨g, hg⟩ : ∃ g, C = some ⟨g, 0, none⟩ := by
              rcases hF2.row.2 with ⟨h1, h2⟩ | ⟨g, cap, cur, h1, _⟩
              · omega
              · injection h1 with h1; exact ⟨g, h1⟩
            subst hg
            have ck : wn.cell? ⟨g, kk, none⟩ = some (val kk) := by
              rw [hF2.row.cellAt kk (by omega)]
              simp [hkC]
            have hkk1 : (kk : Int) < (Cl.length : Int) := by omega
            have hok := hF2.own kk hkC
            have hclk := HKE1.out kk
            obtain ⟨clk, hclk0⟩ : ∃ clk, Cl.getD kk [] = clk := ⟨_, rfl⟩
            rw [hclk0] at hok hclk
            have HCL := Lib.hid hclk0
            clear hclk0
            have hzn : w.heap.size + 1 ≤ wn.heap.size := by have := hMp2.lt; omega
            go_wp2_with (first
              | (at_lookup; refine wpList_lookup_own_ok_int _ rfl _ _ 70 rfl 9 3 .i64 (Maps.string_keyed Tryz.underlying9) Tryz.underlying70 Tryz.underlying3 (zero_int _) w.heap.size i D rfl hMp2 _ _ rfl HKEY.out ?_; intro c hat hwc; (rw [HAT2.out] at hat); obtain rfl : c = (kk : Nat) := (by injection hat with hat; injection hat with h1 h2; exact h2.symm); rw [HHT.out])
              | (at_builtin; refine wpList_append_own_at _ rfl (.tmp 70) (.tmp 72) 33 rfl (w.heap.size + 1) 3 ii (.int .i64 0) 1 8 Tryz.underlying33 hii hiz0 hiz1 hiz2 rfl (by decide) (val kk) clk.length (clk.map vn) rfl (hok.alloc _) ⟨wn.heap.size, 0, none⟩ 1 1 [.int .i64 i] rfl rfl ?c1 ?c2 ?c3 ?c4 ?c5 ?_
                 case c1 => exact cell_one_new _ _ _
                 case c2 => simp [Value.oneCell']
                 case c3 => simp only [maxLen]; omega
                 case c4 => omega
                 case c5 => simp; omega
                 intro v' w3 hown' hgrow _ hat
                 obtain ⟨A3, c3, hv3, _, _⟩ := Sl.of_own hown'
                 subst hv3
                 have hrow3 := (hF2.row.alloc (.cells #[.int .i64 i] 3)).kept hgrow (own_ne hF2.row hok (by decide))
                 have ck3 := hrow3.cellAt kk (by omega)
                 have fk3 := hrow3.frozenAt kk
                 (simp [hkC] at ck3)))
            go_roundw
            case rel =>
              have hgb := hb2.alloc hb2.size (.cells #[.int .i64 i] 3)
              have hgg := (hF2.row.lt g rfl).1
              refine ⟨i + 1, some ⟨g, 0, none⟩, cc, fun j => if j = kk then .slice A3 (clk.length + 1) c3 else val j, D, by go_num, by omega, ?_, ?_, ?_, ?_, ?_⟩
              · rw [HO.out]; simp
              · rw [HO.out]
                exact (hF2.alloc (.cells #[.int .i64 i] 3)).add hkC (by rw [HCL.out]; exact hown') hgrow hat
              · have hm3 := (hMp2.alloc (.cells #[.int .i64 i] 3)).kept hgrow (map_ne_own hok hMp2)
                exact ((hm3.kept (hrow3.stored kk (.slice A3 (clk.length + 1) c3)).2 (map_ne_own hrow3 hm3)).mono (by omega))
              · rw [HO.out]; exact HMO
              · exact (hgb.grown hgrow (by have := hgb.size; simp at this ⊢; omega) (fun j hj => by have := (hok.lt j hj).1; omega)).setCell (by simp; omega) _
            case measure => simp [intOf]; omega
          · have hix : ¬ K.idxOf q < K.length := fun h => hmem (List.idxOf_lt_length_iff.1 h)
            have HO := Lib.hid (HNEW.out hix)
            have HHF : Hid (Maps.has D (.string (kb q)) = false) := Lib.hid (by rw [HHAS.out, decide_eq_false hmem])
            have HMO2 := Lib.hid (HMO.out.put HKB1.out HQB.out hmem)
            rw [HKL1.out] at HMO2
            have hwf : (Lit.int .i64 (Cl.length : Nat)).wf = true := by
              have e1 : IntKind.i64.min = -9223372036854775808 := rfl
              have e2 : IntKind.i64.max = 9223372036854775807 := rfl
              simp only [Lit.wf, Bool.and_eq_true, decide_eq_true_eq]
              omega
            have HWF := Lib.hid hwf
            clear hix hmem HNEW HOLD HHAS HAT hwf
            have hzn : w.heap.size + 1 ≤ wn.heap.size := by have := hMp2.lt; omega
            go_wp2_with (first
              | (at_lookup; refine wpList_lookup_own_ok_int _ rfl _ _ 70 rfl 9 3 .i64 (Maps.string_keyed Tryz.underlying9) Tryz.underlying70 Tryz.underlying3 (zero_int _) w.heap.size i D rfl hMp2 _ _ rfl HKEY.out ?_; intro c hat hwc; (clear hat hwc); rw [HHF.out])
              | (at_mapUpdate; refine wpList_mapUpdate_own _ rfl _ _ _ 70 rfl 9 3 (Maps.string_keyed Tryz.underlying9) Tryz.underlying70 _ w.heap.size i D rfl hMp2 (by simp only [maxLen]; omega) _ _ _ rfl rfl HKEY.out _ [] (plainElem_int Tryz.underlying3 HWF.out) ?_
                 intro wm hmap' hgrowm
                 have hFm := hF2.other hgrowm (own_map_ne hF2.row hMp2) (fun j hj => own_map_ne (hF2.own j hj) hMp2)
                 have hzm := hgrowm.size
                 have hbm := hb2.grown hgrowm (by have := hb2.size; omega) (fun j hj => by injection hj with hj; omega))
              | (at_builtin; refine wpList_append_own _ rfl (.tmp 62) (.tmp 63) 25 rfl (w.heap.size + 1) 33 ir (.slice none 0 0) 1 24 Tryz.underlying25 hir hrz0 hrz1 hrz2 rfl (by decide) (.slice C Cl.length cc) Cl.length _ rfl (hFm.row.alloc _) ⟨wm.heap.size, 0, none⟩ 1 1 [.slice none 0 0] rfl rfl ?c1 ?c2 ?c3 ?c4 ?c5 ?_
                 case c1 => exact cell_one_new _ _ _
                 case c2 => simp [Value.oneCell']
                 case c3 => simp only [maxLen]; omega
                 case c4 => omega
                 case c5 => simp; omega
                 intro v2 wr2 hown2 hgrow2 _
                 obtain ⟨C2, cc2, hv2, _, _⟩ := Sl.of_own hown2
                 subst hv2
                 have hF3 := (hFm.alloc (.cells #[.slice none 0 0] 33)).push hown2 hgrow2
                 have hm3 := (hmap'.alloc (.cells #[.slice none 0 0] 33)).kept hgrow2 (map_ne_own hFm.row hmap')
                 have hbm2 := hbm.alloc hbm.size (.cells #[.slice none 0 0] 33)
                 have hb3 := hbm2.grown hgrow2 (by have := hbm2.size; omega) (fun j hj => by have := (hFm.row.lt j hj).1; omega)
                 have hz3 := hgrow2.size
                 obtain ⟨g, hg⟩ : ∃ g, C2 = some ⟨g, 0, none⟩ := (by
                   rcases hown2.2 with ⟨h1, h2⟩ | ⟨g, cap, cur, h1, _⟩
                   · omega
                   · injection h1 with h1; exact ⟨g, h1⟩)
                 subst hg
                 have ck : wr2.cell? ⟨g, Cl.length, none⟩ = some (.slice none 0 0) := (by
                   rw [hown2.cellAt Cl.length (by omega)]
                   simp))
              | (at_builtin; refine wpList_append_own_at _ rfl (.tmp 70) (.tmp 72) 33 rfl (w.heap.size + 1) 3 ii (.int .i64 0) 1 8 Tryz.underlying33 hii hiz0 hiz1 hiz2 rfl (by decide) (.slice none 0 0) 0 [] rfl (World.ownsRow_nil _ _ _ _) ⟨wr2.heap.size, 0, none⟩ 1 1 [.int .i64 i] rfl rfl ?c1 ?c2 ?c3 ?c4 ?c5 ?_
                 case c1 => exact cell_one_new _ _ _
                 case c2 => simp [Value.oneCell']
                 case c3 => simp only [maxLen]; omega
                 case c4 => omega
                 case c5 => simp at hz3; simp; omega
                 intro v' w3 hown' hgrow _ hat
                 obtain ⟨A3, c3, hv3, _, _⟩ := Sl.of_own hown'
                 subst hv3
                 have hrow3 := (hF3.row.alloc (.cells #[.int .i64 i] 3)).kept hgrow (.inr (by simp [Value.ownBlock]))
                 have ck3 := hrow3.cellAt Cl.length (by simp)
                 have fk3 := hrow3.frozenAt Cl.length
                 (simp at ck3)))
            have q1 : (Cl ++ [([] : List Nat)]).getD Cl.length [] = [] := by simp
            have q2 : (Cl ++ [([] : List Nat)]).set Cl.length ([] ++ [i]) = Cl ++ [[i]] := by
              rw [List.set_append_right _ _ (Nat.le_refl _), Nat.sub_self]; rfl
            go_roundw
            case rel =>
              have hb4 := hb3.alloc hb3.size (.cells #[.int .i64 i] 3)
              have hgg := (hF3.row.lt g rfl).1
              have hFF := (hF3.alloc (.cells #[.int .i64 i] 3)).add (k := Cl.length) (i := i) (v' := .slice A3 (0 + 1) c3) (w' := w3) (by simp) (by rw [q1]; exact hown') (by rw [if_pos rfl]; exact hgrow) (by rw [if_pos rfl]; exact hat)
              rw [q1, q2] at hFF
              refine ⟨i + 1, some ⟨g, 0, none⟩, cc2, _, _, by go_num, by omega, ?_, by rw [HO.out]; exact hFF, ?_, by rw [HO.out]; exact HMO2, ?_⟩
              · rw [HO.out]; simp
              · have hm4 := (hm3.alloc (.cells #[.int .i64 i] 3)).kept hgrow (by simp [Value.ownBlock])
                exact hm4.kept (hrow3.stored Cl.length (.slice A3 (0 + 1) c3)).2 (map_ne_own hrow3 hm4)
              · exact (hb4.grown hgrow (by have := hb4.size; omega) (fun j hj => by cases hj)).setCell (by simp; omega) _
            case measure => simp [intOf]; omega
    · obtain rfl : i = b.length := by omega
      go_wp2
      go_ret2
      exact ⟨C, cc, by simp, hF.lists, hb⟩
end Go.Proofs.Tg
end
section
/- Walks of the reference: monomials, sign vectors, inner products, the check. -/
namespace Go.Proofs.Tg
open Go.RowKit Go.Gr Go.Ev Go.Mo
set_option maxHeartbeats 2000000
set_option maxRecDepth 100000
theorem rdeg_any (A : Option Addr) (c : Nat) (m : List Int) (w : World) (hA : Ints w A m) (hn : m.length ≤ 1000) :
    Calls Tryz.prog 68 #[.slice A m.length c] w fun e w' => e = .returned (.int .i64 (degM m)) ∧ w = w' := by
  by_cases hl : m.length ≤ 6
  · have hd : decide ((6 : Int) < (m.length : Int)) = false := by simp; omega
    go_enter Tryz.func68, Tryz.ntmps68
    go_wp2
    go_loop [3, 4] (fun s i => ∃ k : Nat, k ≤ m.length ∧ i = .int .i64 k ∧ ∃ z : Int, s = .int .i64 z ∧ 0 ≤ z ∧ z ≤ 24 ∧ Hid (z = (m.take k).sum ∧ ∀ e ∈ m.take k, 0 ≤ e)) (fun _ i => m.length - (intOf i).toNat)
    case atStart => exact ⟨0, Nat.zero_le _, rfl, 0, rfl, by omega, by omega, Lib.hid ⟨rfl, by simp⟩⟩
    case round =>
      obtain ⟨k, hk, rfl, z, rfl, hz0, hz1, HZ⟩ := hrel
      by_cases hlt : k < m.length
      · obtain ⟨ad, rfl, hc⟩ := Ints.at hA hlt
        have HS : Hid ((m.take (k + 1)).sum = z + m[k]) := Lib.hid (by rw [sum_take_succ m k hlt, ← HZ.out.1])
        have HB : Hid (m[k] < 0 ∨ 24 - z < m[k] → vldM m = false) := Lib.hid (fun h => vldM_bad hlt (by rw [← HZ.out.1]; exact h))
        have HT : Hid (m.take (k + 1) = m.take k ++ [m[k]]) := Lib.hid (List.take_succ_eq_append_getElem hlt)
        clear hA
        generalize m[k] = x at hc HS HB HT
        by_cases h1 : x < 0
        · have b1 : decide (x < 0) = true := by simpa using h1
          have HF : Hid (degM m = -1) := Lib.hid (by unfold degM; rw [HB.out (.inl h1)]; rfl)
          go_wp2
          go_ret
          exact ⟨by rw [HF.out]; rfl, rfl⟩
        · have b1 : decide (x < 0) = false := by simpa using h1
          by_cases h2 : 24 - z < x
          · have b2 : decide (24 - z < x) = true := by simpa using h2
            have HF : Hid (degM m = -1) := Lib.hid (by unfold degM; rw [HB.out (.inr h2)]; rfl)
            go_wp2
            go_ret
            exact ⟨by rw [HF.out]; rfl, rfl⟩
          · have b2 : decide (24 - z < x) = false := by simpa using h2
            go_wp2
            go_round
            case rel =>
              refine ⟨k + 1, by omega, by go_num, z + x, rfl, by omega, by omega, Lib.hid ⟨HS.out.symm, fun e he => ?_⟩⟩
              rw [HT.out] at he
              rcases List.mem_append.1 he with he | he
              · exact HZ.out.2 e he
              · simp at he; omega
            case measure => simp [intOf]; omega
      · obtain rfl : k = m.length := by omega
        have HF : Hid (degM m = z) := Lib.hid (by
          have h := HZ.out
          rw [List.take_length] at h
          unfold degM
          rw [if_pos (vldM_iff.2 ⟨hl, h.2, by omega⟩), h.1])
        go_wp2
        go_ret
        exact ⟨by rw [HF.out]; rfl, rfl⟩
  · have hd : decide ((6 : Int) < (m.length : Int)) = true := by simp; omega
    have HF : Hid (degM m = -1) := Lib.hid (by
      unfold degM
      rw [if_neg (by rw [vldM_iff]; exact fun h => hl h.1)])
    go_enter Tryz.func68, Tryz.ntmps68
    go_wp2
    go_ret
    exact ⟨by rw [HF.out]; rfl, rfl⟩
theorem rvalid_any (A : Option Addr) (c : Nat) (m : List Int) (w : World) (hA : Ints w A m) (hn : m.length ≤ 1000) :
    Calls Tryz.prog 53 #[.slice A m.length c] w fun e w' => e = .returned (.bool (vldM m)) ∧ w = w' := by
  have HD : Hid (decide (0 ≤ degM m) = vldM m) := Lib.hid degM_ge
  have HC := Lib.hid (rdeg_any A c m w hA hn)
  by_cases hl : m.length ≤ 6
  · have hd : decide ((m.length : Int) ≤ 6) = true := by simp; omega
    generalize degM m = z at *
    go_enter Tryz.func53, Tryz.ntmps53
    go_wp2_with (go_at_call 68; refine HC.out.mono ?_; rintro e w' ⟨rfl, rfl⟩)
    go_ret
    exact ⟨by rw [← HD.out]; rfl, rfl⟩
  · have hd : decide ((m.length : Int) ≤ 6) = false := by simp; omega
    have HF : Hid (vldM m = false) := Lib.hid (eq_false_of_ne_true (by rw [vldM_iff]; exact fun h => hl h.1))
    go_enter Tryz.func53, Tryz.ntmps53
    go_wp2
    go_ret
    exact ⟨by rw [HF.out]; rfl, rfl⟩
theorem rvld_lit (A : Option Addr) (c : Nat) (m : List Int) (w : World) (hA : Ints w A m) (hn : m.length ≤ 1000) (b : Bool) (hb : vldM m = b) :
    Calls Tryz.prog 53 #[.slice A m.length c] w fun e w' => e = .returned (.bool b) ∧ w = w' := by rw [← hb]; exact rvalid_any A c m w hA hn
theorem rbits_lit (A : Option Addr) (c : Nat) (l : List Int) (w : World) (hA : Ints w A l) (hn : l.length ≤ 1000) (b : Bool) (hb : b01 l = b) :
    Calls Tryz.prog 42 #[.slice A l.length c] w fun e w' => e = .returned (.bool b) ∧ w = w' := by
  rw [← hb]
  clear hb
  go_enter Tryz.func42, Tryz.ntmps42
  go_wp2
  go_loop [3] (fun i => ∃ k : Nat, k ≤ l.length ∧ i = .int .i64 k ∧ Hid (Ev.Bit01 (l.take k))) (fun i => l.length - (intOf i).toNat)
  case atStart => exact ⟨0, Nat.zero_le _, rfl, Lib.hid (by intro x hx; cases hx)⟩
  case round =>
    obtain ⟨k, hk, rfl, HG⟩ := hrel
    by_cases hlt : k < l.length
    · obtain ⟨ad, rfl, hc⟩ := Ints.at hA hlt
      have HT0 : Hid (l.take (k + 1) = l.take k ++ [l[k]]) := Lib.hid (List.take_succ_eq_append_getElem hlt)
      have HM : Hid (l[k] ∈ l) := Lib.hid (List.getElem_mem _)
      clear hA
      generalize l[k] = x at *
      by_cases h0 : x = 0
      · have b0 : (x != 0) = false := by simp [h0]
        have HG2 : Hid (Ev.Bit01 (l.take (k + 1))) := Lib.hid (by
          rw [HT0.out]; intro y hy
          rcases List.mem_append.1 hy with h | h
          · exact HG.out y h
          · simp at h; subst h; exact .inl h0)
        clear h0
        go_wp2
        go_round
        case rel => exact ⟨k + 1, by omega, by go_num, HG2⟩
        case measure => simp [intOf]; omega
      · have b0 : (x != 0) = true := by simp [h0]
        by_cases h1 : x = 1
        · have b1 : (x != 1) = false := by simp [h1]
          have HG2 : Hid (Ev.Bit01 (l.take (k + 1))) := Lib.hid (by
            rw [HT0.out]; intro y hy
            rcases List.mem_append.1 hy with h | h
            · exact HG.out y h
            · simp at h; subst h; exact .inr h1)
          clear h0 h1
          go_wp2
          go_round
          case rel => exact ⟨k + 1, by omega, by go_num, HG2⟩
          case measure => simp [intOf]; omega
        · have b1 : (x != 1) = true := by simp [h1]
          have HF : Hid (b01 l = false) := Lib.hid (bit01_bad HM.out h0 h1)
          clear h0 h1
          go_wp2
          go_ret
          exact ⟨by rw [HF.out]; rfl, rfl⟩
    · have HF : Hid (b01 l = true) := Lib.hid (b01_iff.2 (by have := HG.out; rwa [List.take_of_length_le (by omega)] at this))
      go_wp2
      go_ret
      exact ⟨by rw [HF.out]; rfl, rfl⟩
theorem dot_any (A S : Option Addr) (c d : Nat) (a s : List Int) (w : World) (hA : Ints w A a) (hS : Ints w S s) (hl : s.length ≤ a.length) (hn : s.length ≤ 64) (ha : ∀ x ∈ a, 0 ≤ x ∧ x ≤ 1048576) (hs : Ev.Bit01 s) :
    Calls Tryz.prog 43 #[.slice A a.length c, .slice S s.length d] w fun e w' => e = .returned (.int .i64 (dotN a s s.length % 2)) ∧ Dr w w' := by
  have HA := Lib.hid ha
  have HS := Lib.hid hs
  clear ha hs
  go_enter Tryz.func43, Tryz.ntmps43
  go_wp2
  go_loopw [5, 6] (fun t i wr => ∃ k : Nat, k ≤ s.length ∧ i = .int .i64 k ∧ ∃ z : Int, t = .int .i64 z ∧ 0 ≤ z ∧ z ≤ 1048576 * k ∧ Hid (z = dotN a s k) ∧ Dr w wr) (fun _ i _ => s.length - (intOf i).toNat)
  case atStart => exact ⟨0, Nat.zero_le _, rfl, 0, rfl, by omega, by omega, Lib.hid rfl, Dr.refl _⟩
  case round =>
    obtain ⟨k, hk, rfl, z, rfl, hz0, hz1, HZ, hdr⟩ := hrel
    by_cases hlt : k < s.length
    · have hlt2 : k < a.length := by omega
      obtain ⟨ad, rfl, hc1⟩ := Ints.at (hA.keep hdr.below) hlt2
      obtain ⟨sd, rfl, hc2⟩ := Ints.at (hS.keep hdr.below) hlt
      have hb1 := HA.out a[k] (List.getElem_mem _)
      have hb2 := HS.out s[k] (List.getElem_mem _)
      have HD : Hid (dotN a s (k + 1) = z + a[k] * s[k]) := Lib.hid (by rw [dotN, ← HZ.out]; simp [hlt, hlt2])
      clear hA hS
      generalize a[k] = x at *
      generalize s[k] = y at *
      obtain ⟨x0, x1⟩ := hb1
      have p0 : 0 ≤ x * y := by rcases hb2 with rfl | rfl <;> simp <;> omega
      have p1 : x * y ≤ 1048576 := by rcases hb2 with rfl | rfl <;> simp <;> omega
      have i1 : (0 : Int) ≤ (k : Int) := by omega
      have i2 : (k : Int) < (a.length : Int) := by omega
      have i3 : (k : Int) < (s.length : Int) := by omega
      have i4 : ((k : Int)).toNat = k := by omega
      have w1 : IntKind.i64.wrap (x * y) = x * y := IntWalk.i64_in _ (by omega)
      have w2 : IntKind.i64.wrap (z + x * y) = z + x * y := IntWalk.i64_in _ (by omega)
      clear hb2
      go_wp2
      go_quiet (fail)
      clear w1 w2
      go_wp2
      go_roundw
      case rel => exact ⟨k + 1, by omega, by go_num, z + x * y, rfl, by omega, by omega, Lib.hid HD.out.symm, hdr.drewN _⟩
      case measure => simp [intOf]; omega
    · obtain rfl : k = s.length := by omega
      go_wp2
      go_ret
      exact ⟨by rw [← HZ.out]; rfl, hdr⟩
end Go.Proofs.Tg
end
