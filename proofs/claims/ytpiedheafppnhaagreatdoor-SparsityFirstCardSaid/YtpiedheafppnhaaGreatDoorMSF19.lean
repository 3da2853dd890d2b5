/- Parts of the proof: GWY, WK6, WK7, WK8, RS2. -/
import Derived.Test.YtpiedheafppnhaaGreatDoorMSF9
import Derived.Test.YtpiedheafppnhaaGreatDoorMSF18
section
/- Components once more, with the order in which the components come. -/
namespace Go.Gr
open Go.Jt
theorem mem_vertsN {s v : Nat} (hs : s < 18446744073709551616) : (v : Int) ∈ vertsI s ↔ s.testBit v = true := by
  rw [mem_vertsI]
  exact ⟨fun h => by simpa using h.2.2, fun hb => ⟨by omega, by have := bit_lt hs hb; omega, by simpa using hb⟩⟩
theorem made_skip {es : List (Int × Int)} {n k seen : Nat} {d : List Nat} (_hk : k < 64) (hM : MadeL es k (d.map vertsI)) (hO : OInv es n k seen d) (hs : seen.testBit k = true) : MadeL es (k + 1) (d.map vertsI) := by
  refine .skip hM ?_
  obtain ⟨s, h1, h2⟩ := (hO.bits k).1 hs
  exact ⟨vertsI s, List.mem_map.2 ⟨s, h1, rfl⟩, (mem_vertsN (hO.cls s h1).1).2 h2⟩
theorem made_add {es : List (Int × Int)} {n k seen comp : Nat} {d : List Nat} (_hk : k < 64) (hM : MadeL es k (d.map vertsI)) (hO : OInv es n k seen d) (hs : seen.testBit k = false) (hc : comp < 18446744073709551616) (hcc : ∀ v, comp.testBit v = true ↔ Conn (Rel es) k v) : MadeL es (k + 1) ((d ++ [comp]).map vertsI) := by
  rw [List.map_append]
  refine .add hM (fun m hm hk => ?_) (vertsZ_asc comp) (fun x => ?_)
  · obtain ⟨s, h1, rfl⟩ := List.mem_map.1 hm
    have := (hO.bits k).2 ⟨s, h1, (mem_vertsN (hO.cls s h1).1).1 hk⟩
    rw [hs] at this; cases this
  · constructor
    · intro hx
      have h1 := mem_vertsI.1 hx
      exact ⟨x.toNat, by omega, (hcc _).1 h1.2.2⟩
    · rintro ⟨v, rfl, hv⟩
      exact (mem_vertsN hc).2 ((hcc v).2 hv)
end Go.Gr
namespace Go.Proofs.Tg.Gx
open Go.RowKit Go.Gr
set_option maxHeartbeats 4000000
set_option maxRecDepth 100000
/-- Slices of numbers, none longer than its capacity. -/
def ListsC (w : World) (V : Option Addr) (ls : List (List Int)) : Prop :=
  ∃ f : Nat → Option Addr × Nat, Sl w V ls.length 1 ((List.range ls.length).map fun i => .slice (f i).1 (ls.getD i []).length (f i).2) ∧ (∀ i, i < ls.length → Ints w (f i).1 (ls.getD i [])) ∧ ∀ i, i < ls.length → (ls.getD i []).length ≤ (f i).2
theorem ListsC.lists {w : World} {V : Option Addr} {ls : List (List Int)} (h : ListsC w V ls) : Lists w V ls := by
  obtain ⟨f, h1, h2, _⟩ := h
  exact ⟨f, h1, h2⟩
theorem listsC_of_rows {w : World} {base m cr : Nat} {R : Option Addr} {F : Nat → Option Addr × Nat} {ls : Nat → List Int} (hR : w.ownsRow base 50 1 (.slice R m cr) m ((List.range m).map (enc F ls))) (hRows : RowsIn w base m F ls) : ListsC w R ((List.range m).map ls) := by
  have hg : ∀ i, i < m → ((List.range m).map ls).getD i [] = ls i := by intro i hi; simp [hi]
  refine ⟨F, ?_, fun i hi => ?_, fun i hi => ?_⟩
  · have := Sl.own hR
    have e : (List.range ((List.range m).map ls).length).map (fun i => Value.slice (F i).1 (((List.range m).map ls).getD i []).length (F i).2) = (List.range m).map (enc F ls) := by
      rw [List.length_map, List.length_range]
      apply List.map_congr_left
      intro i hi
      rw [hg i (by simpa using hi)]; rfl
    rw [e, List.length_map, List.length_range]
    exact this
  · have hi' : i < m := by simpa using hi
    rw [hg i hi']
    exact Sl.own (hRows i hi')
  · have hi' : i < m := by simpa using hi
    rw [hg i hi']
    obtain ⟨A, c, h1, h2, _⟩ := Sl.of_own (hRows i hi')
    unfold enc at h1
    injection h1 with _ _ h1
    rw [h1]; exact h2
def RetMadeC (n : Nat) (es : List (Int × Int)) (w : World) (e : Ending) (w' : World) : Prop :=
  ∃ ls V d, MadeL es n ls ∧ e = .returned (.tuple #[.slice V (List.length ls) d, .int .i64 0]) ∧ ListsC w' V ls ∧ ls.length ≤ n ∧ (∀ l ∈ ls, l.length ≤ 64) ∧ Below w.heap.size w w'
def RetMadeL (n : Nat) (es : List (Int × Int)) (w : World) (e : Ending) (w' : World) : Prop :=
  ∃ ls V d, MadeL es n ls ∧ e = .returned (.tuple #[.slice V (List.length ls) d, .int .i64 0]) ∧ Lists w' V ls ∧ ls.length ≤ n ∧ (∀ l ∈ ls, l.length ≤ 64) ∧ Below w.heap.size w w'
theorem components_caps (n : Nat) (E : Option Addr) (c : Nat) (es : List (Int × Int)) (w : World) (hE : EdgesAt w E es) (hl : es.length ≤ 1000000) (hv : valid n es) (hT : Tab w) :
    Calls Tryz.prog 9 #[.agg #[.int .i64 n, .slice E es.length c]] w (RetMadeC n es w) := by
  obtain ⟨j0, hj, hjz0, hjz1, hjz2⟩ := info_parts rows_info
  have hr := read_all n E c es true (w.alloc (.cells #[.int .i64 n, .slice E es.length c] 30)) (hE.keep ((Below.refl _ _).alloc (Nat.le_refl _) _)) hl (by simp [hv])
  have hsm := (readAll_small es n hv).1
  have hn : n ≤ 64 := by have := hv.2.1; omega
  have hbA : Below w.heap.size w (w.alloc (.cells #[.int .i64 n, .slice E es.length c] 30)) := (Below.refl _ _).alloc (Nat.le_refl _) _
  have hB := Blk.new w 30 #[.int .i64 n, .slice E es.length c]
  have HR := Lib.hid hr
  have HB := Lib.hid hB
  have HV := Lib.hid hv
  clear hr hv hB
  go_enter Tryz.func9, Tryz.ntmps9
  go_wp2_with (first
    | (go_at_call 27; refine HR.out.mono ?_; rintro e w1 ⟨A, hAs, rfl, hAe, hb1⟩; obtain rfl := hAe rfl; clear hAe)
    | (refine adj_alloc _ _ _ _ ?_)
    | (refine wpList_store_row rfl 76 (.tmp 4) (.tmp 17) rfl w1.heap.size (adjA (readAll es)) rfl rfl 76 (adjA fun _ => 0) (Blk.new w1 76 _) (size56 _) (by simp only [adjA_size]) (adj_one _) ?_
       have hz1 : w.heap.size + 1 ≤ w1.heap.size := by have := hb1.size; simp at this; omega
       have hA1 := blk_setRow (Blk.new w1 76 (adjA fun _ => 0)) (adjA (readAll es))
       have hB1 := blk_setRow_far (Blk.alloc (HB.out.keep hb1 (Blk.lt HB.out)) (.cells (adjA fun _ => 0) 76)) (g' := w1.heap.size) (by omega) (adjA (readAll es))
       have hbw := below_setRow ((hbA.trans (hb1.mono (by simp))).alloc (by omega) (.cells (adjA fun _ => 0) 76)) (g := w1.heap.size) (by omega) (adjA (readAll es))
       have c0 := hB1.cell 0
       simp at c0
       generalize (w1.alloc (.cells (adjA fun _ => 0) 76)).setRow w1.heap.size (adjA (readAll es)) = W at hA1 hB1 hbw c0 ⊢
       generalize w1.heap.size = g at hA1 hz1 ⊢
       clear hb1))
  clear HR HB hbA c0 hB1
  have HA : Hid (∀ i, readAll es i < 18446744073709551616) := Lib.hid hsm
  go_loopw [23, 7, 6] (fun i t v wr => ∃ (k seen m : Nat) (R : Option Addr) (cr : Nat) (F : Nat → Option Addr × Nat) (ls : Nat → List Int) (d : List Nat), i = .int .i64 k ∧ k ≤ n ∧ t = .int .u64 seen ∧ seen < 18446744073709551616 ∧ v = .slice R m cr ∧ m ≤ cr ∧ m ≤ k ∧
      wr.ownsRow W.heap.size 50 1 (.slice R m cr) m ((List.range m).map (enc F ls)) ∧ RowsIn wr W.heap.size m F ls ∧ Hid (OInv es n k seen d) ∧ Hid ((List.range m).map ls = d.map vertsI) ∧ Hid (MadeL es k (d.map vertsI)) ∧ Below W.heap.size W wr) (fun i _ _ _ => n - (intOf i).toNat)
  case atStart => exact ⟨0, 0, 0, none, 0, fun _ => (none, 0), fun _ => [], [], rfl, Nat.zero_le _, rfl, by omega, rfl, Nat.le_refl _, Nat.le_refl _, World.ownsRow_nil _ _ _ _, fun i hi => by omega, Lib.hid ⟨by simp, by simp, by simp, fun v hv => by omega⟩, Lib.hid rfl, Lib.hid MadeL.zero, Below.refl _ _⟩
  case round =>
    obtain ⟨wo, rfl⟩ : ∃ wo : World, wo = wr := ⟨_, rfl⟩
    obtain ⟨k, seen, m, R, cr, F, ls, d, rfl, hk, rfl, hsl, rfl, hmc, hmk, hR, hRows, HO, HL, HM, hb⟩ := hrel
    by_cases hkn : k < n
    · have hkb : decide ((k : Int) < (n : Int)) = true := by simp; omega
      cases hsk : seen.testBit k
      · have HSK := Lib.hid hsk
        have hgW := Blk.lt hA1
        have hA2 := hA1.keep hb hgW
        clear hsk
        go_wp2_with (first
          | (go_at_call 28; refine (has_any _ _ _ hsl (by omega)).mono ?_; rintro e w' ⟨he, rfl⟩; rw [HSK.out] at he; subst he)
          | (go_at_call 29; refine (with_zero _ _ (by omega)).mono ?_; rintro e w' ⟨rfl, rfl⟩))
        have hb0 : bset 0 k < 18446744073709551616 := bset_lt (by omega) (by omega)
        have HI0 := Lib.hid (cinv_start es k)
        generalize bset 0 k = b0 at hb0 HI0 ⊢
        go_loopw [10, 9] (fun f s wr => ∃ fresh comp : Nat, f = .int .u64 fresh ∧ s = .int .u64 comp ∧ fresh < 18446744073709551616 ∧ comp < 18446744073709551616 ∧ Hid (CInv es k comp fresh) ∧ Below wo.heap.size wo wr) (fun f s _ => 2 * (64 - size (intOf s).toNat) + (if (intOf f).toNat = 0 then 0 else 1))
        case atStart => exact ⟨b0, b0, rfl, rfl, hb0, hb0, HI0, Below.refl _ _⟩
        case round =>
          clear HI0 hb0
          obtain ⟨fresh, comp, rfl, rfl, hfl, hcl, HI, hb2⟩ := hrel
          by_cases hf0 : fresh = 0
          · subst hf0
            have hbe : (((0 : Nat) : Int) != 0) = false := rfl
            have HE := Lib.hid (cinv_end HI.out)
            have hor := u64_or_nat seen comp hsl hcl
            have hsz := hb.size
            have hsz2 := hb2.size
            clear HI
            go_wp2_with (first
              | (go_at_call 30; refine (verts_any _ _ hcl (hT.below (below_all (below_all hbw hb) hb2) hT.1)).mono ?_; rintro e w6 ⟨V3, c3, rfl, hVc3, hV3, hb6⟩
                 have hR6 := own_below (own_below hR hb2 (Nat.le_refl _)) hb6 (Nat.le_refl _)
                 have hz6 : W.heap.size ≤ w6.heap.size := by have := hb6.size; omega
                 clear hVc3)
              | (at_builtin; refine wpList_append_own _ rfl _ _ 25 rfl W.heap.size 50 j0 (.slice none 0 0) 1 24 Tryz.underlying25 hj hjz0 hjz1 hjz2 rfl (by decide) (.slice R m cr) m _ rfl (hR6.alloc _) ⟨w6.heap.size, 0, none⟩ 1 1 [.slice V3 (verts comp).length c3] rfl rfl ?c1 ?c2 ?c3 ?c4 ?c5 ?_
                 case c1 => exact cell_one_new _ _ _
                 case c2 => simp [Value.oneCell']
                 case c3 => simp only [maxLen]; omega
                 case c4 => omega
                 case c5 => simp; omega
                 intro v' w7 hR7 hg7 _
                 obtain ⟨R2, cr2, hv2, hle2, _⟩ := Sl.of_own hR7
                 subst hv2))
            go_roundw
            case rel =>
              have hVI : ((verts comp).map vn) = (vertsI comp).map vi := by simp [vertsI, vn, vi]
              have hvl : (verts comp).length = (vertsI comp).length := by simp [vertsI]
              have hV7 : w7.ownsRow W.heap.size 3 1 (.slice V3 (vertsI comp).length c3) (vertsI comp).length ((vertsI comp).map vi) := by
                rw [← hvl, ← hVI]
                exact own_base ((hV3.alloc (.cells #[.slice V3 (verts comp).length c3] 50)).kept hg7 (own_ne hV3 hR6 (by decide))) (by omega)
              have hRw0 : RowsIn w6 W.heap.size m F ls := (hRows.below hb2 (Nat.le_refl _)).below hb6 (Nat.le_refl _)
              have hRw : RowsIn w7 W.heap.size m F ls := (hRw0.alloc (.cells #[.slice V3 (verts comp).length c3] 50)).kept hg7 (fun i hi => own_ne (hRw0 i hi) hR6 (by decide))
              refine ⟨k + 1, seen ||| comp, m + 1, R2, cr2, snocF F m (V3, c3), snocF ls m (vertsI comp), d ++ [comp], by go_num, by omega, rfl, or_lt hsl hcl, rfl, hle2, by omega, ?_, RowsIn.snoc (x := (V3, c3)) hRw hV7, Lib.hid (oinv_add HV.out HO.out hkn HSK.out hcl HE.out), Lib.hid ?_, Lib.hid (made_add (by omega) HM.out HO.out HSK.out hcl HE.out), ?_⟩
              · rw [map_snoc, ← hvl]; exact hR7
              · rw [List.range_succ, List.map_append, List.map_append, ← HL.out]
                congr 1
                · apply List.map_congr_left
                  intro i hi
                  have : i < m := by simpa using hi
                  simp [snocF]; omega
                · simp [snocF]
              · exact ((below_all (below_all hb hb2) hb6).alloc (by have := hb6.size; omega) _).grown hg7 (by simp; omega) (fun q hq => by have := (hR6.lt q hq).1; omega)
            case measure => simp [intOf]; omega
          · have hbe : ((fresh : Int) != 0) = true := by simp; exact hf0
            have hA3 := hA2.keep hb2 (Nat.lt_of_lt_of_le hgW hb.size)
            have hsz := hb.size
            have hsz2 := hb2.size
            have HF0 := Lib.hid hf0
            clear hf0
            go_wp2_with (go_at_call 30; refine (verts_any _ _ hfl (hT.below (below_all (below_all hbw hb) hb2) hT.1)).mono ?_; rintro e w6 ⟨V3, c3, rfl, hVc3, hV3, hb6⟩)
            have hA6 := hA3.keep hb6 (by omega)
            have hV6 := Sl.own hV3
            have HVM : Hid (∀ x ∈ verts fresh, x < 64) := Lib.hid (fun x hx => (mem_verts.1 hx).1)
            have HVL : Hid ((verts fresh).length ≤ 64) := Lib.hid (size_le fresh)
            obtain ⟨vl, hvl⟩ : ∃ vl, verts fresh = vl := ⟨_, rfl⟩
            rw [hvl] at hV6 HVM HVL
            have HVE := Lib.hid hvl
            rw [hvl]
            clear hvl hV3 hA3 hVc3
            have hvl64 := HVL.out
            go_loop [38, 11] (fun i x => ∃ q : Nat, i = .int .i64 q ∧ q ≤ vl.length ∧ x = .int .u64 (orAll (readAll es) (vl.take q) : Nat)) (fun i _ => vl.length - (intOf i).toNat)
            case atStart => exact ⟨0, rfl, Nat.zero_le _, rfl⟩
            case round =>
              obtain ⟨q, rfl, hq, rfl⟩ := hrel
              by_cases hql : q < vl.length
              · obtain ⟨ad, rfl, hcx⟩ := Nats.at hV6 hql
                have HT : Hid (orAll (readAll es) (vl.take (q + 1)) = orAll (readAll es) (vl.take q) ||| readAll es vl[q]) := Lib.hid (by rw [List.take_succ_eq_append_getElem hql, orAll_snoc])
                have hx64 := HVM.out vl[q] (List.getElem_mem _)
                have hol := orAll_lt HA.out (vl.take q)
                generalize vl[q] = x at hcx HT hx64
                have hcA := AdjAt.cell hA6 hx64
                have hox := u64_or_nat _ _ hol (HA.out x)
                generalize orAll (readAll es) (vl.take q) = o at HT hol hox ⊢
                generalize readAll es x = ax at HT hcA hox
                go_wp2
                go_round
                case rel => exact ⟨q + 1, by go_num, by omega, by rw [HT.out]⟩
                case measure => simp [intOf]; omega
              · obtain rfl : q = vl.length := by omega
                rw [List.take_length]
                have HI2 := cinv_step HV.out hcl hfl HI.out
                rw [HVE.out] at HI2
                have hol := orAll_lt HA.out vl
                have HI2 := Lib.hid HI2
                generalize orAll (readAll es) vl = o at HI2 hol ⊢
                have hor := u64_or_nat comp o hcl hol
                have han := u64_andNot_nat o comp hol hcl
                have hanl : andn o comp < 18446744073709551616 := by unfold andn; exact and_lt _ hol
                have hoc := or_lt hcl hol
                have HME : Hid (2 * (64 - size (comp ||| o)) + (if andn o comp = 0 then 0 else 1) < 2 * (64 - size comp) + 1) := Lib.hid (by
                  by_cases e : andn o comp = 0
                  · rw [if_pos e]
                    have : size comp ≤ size (comp ||| o) := by
                      unfold size verts
                      exact Go.Jt.len_mono (fun x _ h => by rw [Nat.testBit_or, h]; rfl)
                    omega
                  · rw [if_neg e]
                    have := size_grows (a := comp) (b := andn o comp) (c := comp ||| o) e hanl (fun j h => ((fresh_bit hol hcl).1 h).2) (fun j => by
                      rw [Nat.testBit_or, Bool.or_eq_true, fresh_bit hol hcl]
                      constructor
                      · rintro (h | h)
                        · exact .inl h
                        · by_cases h2 : comp.testBit j = true
                          · exact .inl h2
                          · exact .inr ⟨h, by simpa using h2⟩
                      · rintro (h | h)
                        · exact .inl h
                        · exact .inr h.1)
                    have h3 := size_le (comp ||| o)
                    omega)
                clear HI
                go_wp2
                go_roundw
                case rel => exact ⟨andn o comp, comp ||| o, rfl, rfl, hanl, hoc, HI2, below_all hb2 hb6⟩
                case measure =>
                  have h1 := HME.out
                  have h2 := HF0.out
                  unfold andn at h1
                  simp only [intOf] at *
                  simp [h2]
                  exact h1
      · have HSK := Lib.hid hsk
        clear hsk
        go_wp2_with (go_at_call 28; refine (has_any _ _ _ hsl (by omega)).mono ?_; rintro e w' ⟨he, rfl⟩; rw [HSK.out] at he; subst he)
        go_roundw
        case rel => exact ⟨k + 1, seen, m, R, cr, F, ls, d, by go_num, by omega, rfl, hsl, rfl, hmc, by omega, hR, hRows, Lib.hid (oinv_skip HO.out HSK.out), HL, Lib.hid (made_skip (by omega) HM.out HO.out HSK.out), hb⟩
        case measure => simp [intOf]; omega
    · obtain rfl : k = n := by omega
      have hkb : decide ((k : Int) < (k : Int)) = false := by simp
      go_wp2
      go_ret2
      have hLs := listsC_of_rows hR hRows
      refine ⟨(List.range m).map ls, R, cr, by rw [HL.out]; exact HM.out, ?_, hLs, by simpa using hmk, ?_, below_all hbw hb⟩
      · rw [List.length_map, List.length_range]
        rfl
      · intro l hl
        rw [HL.out] at hl
        obtain ⟨s, _, rfl⟩ := List.mem_map.1 hl
        show ((verts s).map _).length ≤ 64
        rw [List.length_map]
        exact size_le s
theorem components_made (n : Nat) (E : Option Addr) (c : Nat) (es : List (Int × Int)) (w : World) (hE : EdgesAt w E es) (hl : es.length ≤ 1000000) (hv : valid n es) (hT : Tab w) :
    Calls Tryz.prog 9 #[.agg #[.int .i64 n, .slice E es.length c]] w (RetMadeL n es w) := by
  refine (components_caps n E c es w hE hl hv hT).mono ?_
  rintro e w' ⟨ls, V, d, h1, h2, h3, h4, h5, h6⟩
  exact ⟨ls, V, d, h1, h2, h3.lists, h4, h5, h6⟩
end Go.Proofs.Tg.Gx
end
section
/- A round: the blocks; the products within them are known from then on. -/
namespace Go.Proofs.Tg
open Go.RowKit Go.Gr Go.Sp Go.Ev Go.Mo Go.Jt
set_option maxHeartbeats 4000000
set_option maxRecDepth 100000
theorem grown_of_below {w w' : World} (h : Below w.heap.size w w') (r : Option Nat) : w.grownBy w' r := ⟨h.os, h.tape, h.output, h.size, fun k hk _ => h.block k hk⟩
theorem Tab.turn {w w' : World} {mb : Nat} (h : Tab w) (hm : MapB w mb) (hg : w.grownBy w' (some mb)) : Tab w' := ⟨Nat.lt_of_lt_of_le h.1 hg.size, fun j hj => cell_turn hm hg (h.2 j hj)⟩
theorem listsC_keep {w w' : World} {V : Option Addr} {ls : List (List Int)} (h : Gx.ListsC w V ls) (hb : Below w.heap.size w w') : Gx.ListsC w' V ls := by
  obtain ⟨f, hs, hr, hc⟩ := h
  exact ⟨f, hs.keep hb, fun i hi => (hr i hi).keep hb, hc⟩
theorem listsC_turn {w w' : World} {b : Nat} {V : Option Addr} {ls : List (List Int)} (h : Gx.ListsC w V ls) (hm : MapB w b) (hg : w.grownBy w' (some b)) : Gx.ListsC w' V ls := by
  obtain ⟨f, hs, hr, hc⟩ := h
  exact ⟨f, hs.turn hm hg, fun i hi => (hr i hi).turn hm hg, hc⟩
theorem listsC_at {w : World} {V : Option Addr} {ls : List (List Int)} (h : Gx.ListsC w V ls) {k : Nat} (hk : k < ls.length) : ∃ ad A c, V = some ad ∧ w.cell? (ad.add k) = some (.slice A ls[k].length c) ∧ Ints w A ls[k] ∧ ls[k].length ≤ c := by
  obtain ⟨f, hs, hr, hc⟩ := h
  obtain ⟨ad, rfl, hcell⟩ := Sl.at1 hs hk
  have e : ls.getD k [] = ls[k] := by simp [hk]
  have hi := hr k hk
  have hcp := hc k hk
  rw [e] at hi hcp
  refine ⟨ad, (f k).1, (f k).2, rfl, ?_, hi, hcp⟩
  rw [hcell]
  simp [hk]
theorem comps_len {b S : List (List Int)} (hb : b.length ≤ 64) : (comps b S).length ≤ 64 := by
  have hv := ed_valid b S hb
  have h := (made_r (comps_made hv)).length (conn_eqv hv)
  rw [h]
  have := (reps_nodup (Conn (Rel (edTo b S b.length))) b.length).length_le_of_subset (l₂ := List.range b.length) (fun x hx => (List.mem_filter.1 hx).1)
  rw [List.length_range] at this
  omega
def RetRound (g mb : Nat) (B : Option Addr) (cb n cnt : Nat) (b S : List (List Int)) (w : World) (e : Ending) (w' : World) : Prop :=
  ∃ R c, e = .returned (.tuple #[.slice R (comps b S).length c, .int .i64 0]) ∧ Gx.ListsC w' R (comps b S) ∧ (∃ S', ItAt w' g mb B cb b n (cnt + 270000) S' ∧ ∀ v, v ∈ S' ↔ v ∈ S ∨ Blks b (comps b S) v) ∧ w.grownBy w' (some mb)
/-- Where the adding stands: the blocks' memory and the state; the set holds just what P says. -/
structure Add (g mb : Nat) (B : Option Addr) (cb n : Nat) (b : List (List Int)) (R : Option Addr) (ls : List (List Int)) (w : World) (wr : World) (cnt : Nat) (P : List Int → Prop) : Prop where
  blk : Blk wr g 92 #[.slice B b.length cb, .map (some mb)]
  lists : Lists wr B b
  blocks : Gx.ListsC wr R ls
  set : ∃ S', SetM wr mb cnt n S' ∧ ∀ v, v ∈ S' ↔ P v
  grown : w.grownBy wr (some mb)
theorem Add.iff {g mb : Nat} {B : Option Addr} {cb n : Nat} {b : List (List Int)} {R : Option Addr} {ls : List (List Int)} {w wr : World} {cnt cnt' : Nat} {P Q : List Int → Prop} (h : Add g mb B cb n b R ls w wr cnt P) (hc : cnt ≤ cnt') (hp : ∀ v, P v ↔ Q v) : Add g mb B cb n b R ls w wr cnt' Q := by
  obtain ⟨S', h1, h2⟩ := h.set
  exact ⟨h.blk, h.lists, h.blocks, ⟨S', h1.mono hc, fun v => (h2 v).trans (hp v)⟩, h.grown⟩
theorem Add.put {g mb : Nat} {B : Option Addr} {cb n : Nat} {b : List (List Int)} {R : Option Addr} {ls : List (List Int)} {w wr : World} {cnt : Nat} {P : List Int → Prop} (h : Add g mb B cb n b R ls w wr cnt P) {w2 w3 : World} (hb : Below wr.heap.size wr w2)
    {v : List Int} {S' S3 : List (List Int)} (hS : SetM w2 mb cnt n S') (hP : ∀ v, v ∈ S' ↔ P v) (hS3 : SetM w3 mb (cnt + 1) n S3) (h3 : ∀ u, u ∈ S3 ↔ u = v ∨ u ∈ S') (hg : w2.grownBy w3 (some mb)) : Add g mb B cb n b R ls w w3 (cnt + 1) (fun u => P u ∨ u = v) :=
  ⟨(h.blk.keep hb h.blk.lt).turn hS.mapB hg, (h.lists.keep hb).turn hS.mapB hg, listsC_turn (listsC_keep h.blocks hb) hS.mapB hg, ⟨S3, hS3, fun u => by rw [h3, hP]; exact Or.comm⟩, h.grown.trans ((grown_of_below hb _).trans hg)⟩
theorem round_any (g mb : Nat) (B : Option Addr) (cb n cnt : Nat) (b S : List (List Int)) (w : World) (hI : ItAt w g mb B cb b n cnt S) (hn : n ≤ 6) (hbl : b.length ≤ 64) (hdb : ∀ m ∈ b, domK n 24 m) (hcnt : cnt ≤ 100000000) (hT : Tab w) :
    Calls Tryz.prog 41 #[.pointer (some ⟨g, 0, none⟩)] w (RetRound g mb B cb n cnt b S w) := by
  have HGR : Hid (Calls Tryz.prog 21 #[.pointer (some ⟨g, 0, none⟩)] w fun e w' => ∃ F d, e = .returned (.tuple #[.agg #[.int .i64 b.length, .slice F (edTo b S b.length).length d], .int .i64 0]) ∧ Gx.EdgesAt w' F (edTo b S b.length) ∧ Below w.heap.size w w') :=
    Lib.hid ((igraph_any g mb B cb n cnt b S w hI hn hbl hdb hT).mono fun e w' ⟨F, d, h1, h2, h3⟩ => ⟨F, d, h1, Sl.own h2, h3⟩)
  have hv := ed_valid b S hbl
  have HCM : Hid (∀ W F d, Gx.EdgesAt W F (edTo b S b.length) → Tab W → Calls Tryz.prog 9 #[.agg #[.int .i64 b.length, .slice F (edTo b S b.length).length d]] W fun e w' => ∃ V c, e = .returned (.tuple #[.slice V (comps b S).length c, .int .i64 0]) ∧ Gx.ListsC w' V (comps b S) ∧ (∀ l ∈ comps b S, l.length ≤ 64) ∧ Below W.heap.size W w') := Lib.hid (fun W F d hF hTW => by
    have hlen := edTo_len b S b.length
    have : b.length * b.length ≤ 64 * 64 := Nat.mul_le_mul hbl hbl
    refine (Gx.components_caps b.length F d _ W hF (by omega) hv hTW).mono ?_
    rintro e w' ⟨ls, V, c, h1, h2, h3, h4, h5, h6⟩
    obtain rfl := MadeL.same h1 (comps_made hv)
    exact ⟨V, c, h2, h3, h5, h6⟩)
  have HLT := Lib.hid (comps_lt hv)
  have HLN := Lib.hid (comps_len (S := S) hbl)
  have HDB := Lib.hid hdb
  have HI := Lib.hid hI
  have HEL : Hid ((edTo b S b.length).length ≤ 4096) := Lib.hid (by
    have hlen := edTo_len b S b.length
    have : b.length * b.length ≤ 64 * 64 := Nat.mul_le_mul hbl hbl
    omega)
  clear hdb hI hv
  unfold RetRound
  generalize comps b S = ls at *
  generalize edTo b S b.length = es at *
  go_enter Tryz.func41, Tryz.ntmps41
  go_upto_region 2 with (go_at_call 21; refine HGR.out.mono ?_; rintro e w1 ⟨F, d, rfl, hF, hb1⟩)
  have hal := Below.alloc (Below.refl w1.heap.size w1) (Nat.le_refl _) (.cells #[.int .i64 b.length, .slice F es.length d] 30)
  have HC2 := Lib.hid (HCM.out _ F d (hF.keep hal) (hT.below (below_all hb1 hal) hT.1))
  have hwa := below_all hb1 hal
  clear HCM HGR hF
  have hx1 := cell_alloc (show w1.cell? ⟨g, 1, none⟩ = _ from (HI.out.keep hb1).blk.cell 1) (.cells #[.int .i64 b.length, .slice F es.length d] 30)
  have hx4 := (Blk.new w1 30 #[.int .i64 b.length, .slice F es.length d]).two
  obtain ⟨y0, y1, _, _⟩ := hx4
  generalize w1.alloc (.cells #[.int .i64 b.length, .slice F es.length d] 30) = X at *
  go_upto_region 7 with (go_at_call 9; refine HC2.out.mono ?_; rintro e w2 ⟨R, cr, rfl, hR, hl64, hb2⟩)
  have hb2w := below_all hwa hb2
  have hI2 := HI.out.keep hb2w
  have HADD : Add g mb B cb n b R ls w w2 (cnt + 4096 * 0) (fun v => v ∈ S ∨ Blks b (ls.take 0) v) :=
    ⟨hI2.blk, hI2.lists, hR, ⟨S, hI2.set, fun v => ⟨.inl, fun h => h.elim id (fun h => absurd h blks_take_zero)⟩⟩, grown_of_below hb2w _⟩
  have HL64 := Lib.hid hl64
  clear hb2w hI2 hR hb2 hwa hal y0 y1 hx1 HC2 hl64 hb1
  go_wp2
  go_loopw [31] (fun s31 wr => ∃ i : Nat, s31 = .int .i64 i ∧ i ≤ ls.length ∧ Add g mb B cb n b R ls w wr (cnt + 4096 * i) (fun v => v ∈ S ∨ Blks b (ls.take i) v)) (fun s31 _ => ls.length - (intOf s31).toNat)
  case atStart => exact ⟨0, rfl, Nat.zero_le _, HADD⟩
  case round =>
    clear HADD
    obtain ⟨wo, rfl⟩ : ∃ wo : World, wo = wr := ⟨_, rfl⟩
    obtain ⟨i, rfl, hi, hA⟩ := hrel
    have hi64 : ls.length ≤ 64 := HLN.out
    by_cases hlt : i < ls.length
    · obtain ⟨rd, L, cl, rfl, hc, hL, hcap⟩ := listsC_at hA.blocks hlt
      have HBS : Hid (∀ v, (v ∈ S ∨ Blks b (ls.take (i + 1)) v) ↔ (v ∈ S ∨ Blks b (ls.take i) v) ∨ InB b ls[i] ls[i].length v) := Lib.hid (fun v => by rw [blks_succ hlt]; exact or_assoc.symm)
      have hl := HL64.out ls[i] (List.getElem_mem _)
      have HLX := Lib.hid (HLT.out ls[i] (List.getElem_mem _))
      obtain ⟨Q, hQ⟩ : ∃ Q : List Int → Prop, ∀ v, Q v ↔ (v ∈ S ∨ Blks b (ls.take i) v) := ⟨_, fun v => Iff.rfl⟩
      have hA0 : Add g mb B cb n b (some rd) ls w wo (cnt + 4096 * i + 64 * 0) (fun v => Q v ∨ InB b ls[i] 0 v) := hA.iff (by omega) (fun v => by rw [hQ]; exact ⟨.inl, fun h => h.elim id (fun h => absurd h inB_zero)⟩)
      have HQ := Lib.hid hQ
      generalize ls[i] = l at *
      clear hA hQ
      go_wp2
      go_loopw [37] (fun s37 wr => ∃ q : Nat, s37 = .int .i64 q ∧ q ≤ l.length ∧ Add g mb B cb n b (some rd) ls w wr (cnt + 4096 * i + 64 * q) (fun v => Q v ∨ InB b l q v) ∧ Ints wr L l) (fun s37 _ => l.length - (intOf s37).toNat)
      case atStart => exact ⟨0, rfl, Nat.zero_le _, hA0, hL⟩
      case round =>
        clear hA0 hL
        obtain ⟨wp, rfl⟩ : ∃ wp : World, wp = wr := ⟨_, rfl⟩
        obtain ⟨q, rfl, hq, hA, hL⟩ := hrel
        by_cases hql : q < l.length
        · obtain ⟨ld, rfl, hcq⟩ := Ints.at hL hql
          obtain ⟨x, hx, hxl⟩ := HLX.out l[q] (List.getElem_mem _)
          rw [hx] at hcq
          have p0 : (0 : Int) ≤ (q : Int) := by omega
          have p1 : (q : Int) ≤ (l.length : Int) := by omega
          have p2 : (q : Int) < (l.length : Int) := by omega
          have p3 : ((q : Int)).toNat = q := by omega
          have p4 : ¬ cl = q := by omega
          have HGX : Hid (b.getD (l.getD q 0).toNat [] = b[x]) := Lib.hid (by
            rw [show l.getD q 0 = (x : Int) by simp [hql, hx], Int.toNat_natCast]; simp [hxl])
          have HBQ : Hid (∀ v, ((Q v ∨ InB b l q v) ∨ InR b l q l.length v) ↔ (Q v ∨ InB b l (q + 1) v)) := Lib.hid (fun v => by rw [inB_succ]; exact or_assoc)
          have hA0 : Add g mb B cb n b (some rd) ls w wp (cnt + 4096 * i + 64 * q + 0) (fun v => (Q v ∨ InB b l q v) ∨ InR b l q (q + 0) v) := hA.iff (by omega) (fun v => ⟨.inl, fun h => h.elim id (fun h => absurd h inR_low)⟩)
          have hdx := HDB.out b[x] (List.getElem_mem _)
          clear hA
          go_upto_region 14 with (fail)
          go_loopw [46] (fun s46 wr => ∃ r : Nat, s46 = .int .i64 r ∧ r ≤ l.length - q ∧ Add g mb B cb n b (some rd) ls w wr (cnt + 4096 * i + 64 * q + r) (fun v => (Q v ∨ InB b l q v) ∨ InR b l q (q + r) v) ∧ Ints wr (some ld) l) (fun s46 _ => l.length - q - (intOf s46).toNat)
          case atStart => exact ⟨0, rfl, Nat.zero_le _, hA0, hL⟩
          case round =>
            clear hA0 hL hcq
            obtain ⟨wq, rfl⟩ : ∃ wq : World, wq = wr := ⟨_, rfl⟩
            obtain ⟨r, rfl, hr, hA, hL⟩ := hrel
            by_cases hrl : r < l.length - q
            · have hqr : q + r < l.length := by omega
              obtain ⟨ld2, he, hcr⟩ := Ints.at hL hqr
              injection he with he
              subst he
              obtain ⟨y, hy, hyl⟩ := HLX.out l[q + r] (List.getElem_mem _)
              rw [hy, ← add_add] at hcr
              have HIR : Hid (∀ v, ((Q v ∨ InB b l q v) ∨ InR b l q (q + r) v) ∨ v = addL b[x] b[y] ↔ ((Q v ∨ InB b l q v) ∨ InR b l q (q + (r + 1)) v)) := Lib.hid (fun v => by
                have h := inR_succ (b := b) (v := v) (show q ≤ q + r by omega) hqr
                rw [HGX.out, show l.getD (q + r) 0 = (y : Int) by simp [hqr, hy], Int.toNat_natCast, show b.getD y [] = b[y] by simp [hyl]] at h
                rw [show q + (r + 1) = q + r + 1 by omega, h]
                exact or_assoc)
              obtain ⟨bd, A1, c1, rfl, d2, hI1⟩ := hA.lists.at hxl
              obtain ⟨bd2, A2, c2, he, d3, hI2⟩ := hA.lists.at hyl
              injection he with he
              subst he
              have hdy := HDB.out b[y] (List.getElem_mem _)
              have d0 : wq.cell? ⟨g, 0, none⟩ = some (.slice (some bd) b.length cb) := hA.blk.cell 0
              have d1 : wq.cell? ⟨g, 1, none⟩ = some (.map (some mb)) := hA.blk.cell 1
              obtain ⟨S', hS, hP⟩ := hA.set
              have hmx := hS.mapB.lt
              have hdom' : domK n 48 (addL b[x] b[y]) := addL_dom hdx hdy
              have HKO : Hid (∀ W, Below wq.heap.size wq W → Calls Tryz.prog 39 #[.slice A1 b[x].length c1, .slice A2 b[y].length c2] W fun e w' => e = .returned (keyV (addL b[x] b[y])) ∧ Below wq.heap.size wq w') := Lib.hid (fun W h =>
                (product_any A1 A2 c1 c2 n b[x] b[y] W (hI1.keep h) (hI2.keep h) hdx hdy hn).mono fun e w' h2 => ⟨h2.1, below_all h h2.2⟩)
              have hbe : Below wq.heap.size wq wq.drew := (Below.refl _ _).drew
              have px0 : (0 : Int) ≤ (x : Int) := by omega
              have px1 : (x : Int) < (b.length : Int) := by omega
              have px3 : ((x : Int)).toNat = x := by omega
              have py0 : (0 : Int) ≤ (y : Int) := by omega
              have py1 : (y : Int) < (b.length : Int) := by omega
              have py3 : ((y : Int)).toNat = y := by omega
              have hHA := Lib.hid hA
              have HL := Lib.hid hL
              have hx := Lib.hid hx
              have hy := Lib.hid hy
              clear hA hL hI1 hI2 HGX hdx hdy
              generalize b[y] = by' at *
              generalize b[x] = bx at *
              generalize addL bx by' = xy at *
              go_upto_region 16 with (fail)
              go_region_held3 (fun w' => w'.cell? ⟨g, 1, none⟩ = some (.map (some mb)) ∧ w'.cell? ⟨g, 0, none⟩ = some (.slice (some bd) b.length cb) ∧ w'.cell? (bd.add x) = some (.slice A1 bx.length c1) ∧ w'.cell? (bd.add y) = some (.slice A2 by'.length c2))
                (first | exact ⟨r1, r0, r2, r3⟩ | exact ⟨keep_cell hbe d1, keep_cell hbe d0, keep_cell hbe d2, keep_cell hbe d3⟩)
                (first
                  | (go_at_call 39; with_reducible refine Calls.mono (HKO.out _ (by assumption)) ?_; rintro e w4 ⟨rfl, hb4⟩
                     have hbe := hb4
                     have hm4 := hS.below hb4 hmx
                     obtain ⟨w5, hrun, hS5, hg5⟩ := hm4.put hn (by omega) hdom'
                     have r0 := cell_turn hm4.mapB hg5 (keep_cell hb4 d0)
                     have r1 := cell_turn hm4.mapB hg5 (keep_cell hb4 d1)
                     have r2 := cell_turn hm4.mapB hg5 (keep_cell hb4 d2)
                     have r3 := cell_turn hm4.mapB hg5 (keep_cell hb4 d3)))
              all_goals
                go_wp2_with (fail)
                go_roundw
                case rel =>
                  refine ⟨r + 1, by go_num, by omega, ?_, (HL.out.keep hb4).turn hm4.mapB hg5⟩
                  exact (hHA.out.put hb4 hm4 hP hS5 (fun u => List.mem_cons) hg5).iff (by omega) HIR.out
                case measure => simp [intOf]; omega
            · obtain rfl : r = l.length - q := by omega
              have dr : decide (((l.length - q : Nat) : Int) < ((l.length - q : Nat) : Int)) = false := by simp
              have hA' : Add g mb B cb n b (some rd) ls w wq (cnt + 4096 * i + 64 * (q + 1)) (fun v => Q v ∨ InB b l (q + 1) v) := hA.iff (by omega) (fun v => by rw [show q + (l.length - q) = l.length by omega]; exact HBQ.out v)
              clear hA
              go_wp2
              go_roundw
              case rel => exact ⟨q + 1, by go_num, by omega, hA', hL⟩
              case measure => simp [intOf]; omega
        · obtain rfl : q = l.length := by omega
          have dk : decide ((l.length : Int) < (l.length : Int)) = false := by simp
          go_wp2
          go_roundw
          case rel => exact ⟨i + 1, by go_num, by omega, hA.iff (by omega) (fun v => by rw [HQ.out]; exact (HBS.out v).symm)⟩
          case measure => simp [intOf]; omega
    · obtain rfl : i = ls.length := by omega
      have dk : decide ((ls.length : Int) < (ls.length : Int)) = false := by simp
      rw [List.take_length] at hA
      go_wp2
      go_ret2
      obtain ⟨S', h1, h2⟩ := hA.set
      have := HLN.out
      exact ⟨R, cr, rfl, hA.blocks, ⟨S', ⟨hA.blk, hA.lists, h1.mono (by omega)⟩, h2⟩, hA.grown⟩
end Go.Proofs.Tg
end
section
/- The rounds, run. -/
namespace Go.Proofs.Tg
open Go.RowKit Go.Gr Go.Sp Go.Ev Go.Mo Go.Jt
set_option maxHeartbeats 4000000
set_option maxRecDepth 100000
/-- The rounds of a basis and a set of monomials. -/
noncomputable def rnd (b S : List (List Int)) (hb : b.length ≤ 64) : Rounds b.length := rounds b S (fun S' => ed_valid b S' hb)
theorem rnd_B (b S : List (List Int)) (hb : b.length ≤ 64) (t : Nat) : (rnd b S hb).B t = comps b (setAt b S t) := rfl
def RetRun (k : Nat) (b S : List (List Int)) (hb : b.length ≤ 64) (w : World) (e : Ending) (w' : World) : Prop :=
  ∃ m R c, (rnd b S hb).Final k m ∧ e = .returned (.tuple #[.slice R ((rnd b S hb).B (m - 1)).length c, .int .i64 (m : Nat), .int .i64 0]) ∧ Gx.ListsC w' R ((rnd b S hb).B (m - 1)) ∧ Below w.heap.size w w'
theorem run_any (V : Int) (T : Option Addr) (cT : Nat) (tv : List TV) (B : Option Addr) (cb : Nat) (b : List (List Int)) (n : Nat) (K : Nat) (w : World) (hP : TermsAt w T tv) (hB : Lists w B b) (hn : n ≤ 6) (hl : tv.length ≤ 4096) (hbl : b.length ≤ 64)
    (hd : ∀ t ∈ tv, domK n 24 t.exps) (hdb : ∀ m ∈ b, domK n 24 m) (hK : 1 ≤ K) (hT : Tab w) :
    Calls Tryz.prog 22 #[.agg #[.int .i64 V, .slice T tv.length cT], .slice B b.length cb, .int .i64 K] w (RetRun K b (S0 (exsOf tv) b) hbl w) := by
  have hbA : Below w.heap.size w (w.alloc (.cells #[.int .i64 V, .slice T tv.length cT] 24)) := (Below.refl _ _).alloc (Nat.le_refl _) _
  have HST := Lib.hid (start_any V T cT tv B cb b n _ (hP.keep hbA) (hB.keep hbA) hn hl hbl hd hdb)
  have HSZ : Hid (tv.length + b.length ≤ 5000) := Lib.hid (by omega)
  obtain ⟨S, hS⟩ : ∃ S, S0 (exsOf tv) b = S := ⟨_, rfl⟩
  have hST2 : ∃ c0, c0 ≤ 5000 ∧ ∀ e w', RetStart B cb b n tv (w.alloc (.cells #[.int .i64 V, .slice T tv.length cT] 24)) e w' → ∃ g mb, e = .returned (.pointer (some ⟨g, 0, none⟩)) ∧ w.heap.size ≤ mb ∧ ItAt w' g mb B cb b n c0 S ∧ Below w.heap.size w w' := by
    refine ⟨tv.length + b.length, HSZ.out, ?_⟩
    rintro e w' ⟨g, mb, h1, h2, h3, h4, h5⟩
    rw [hS] at h4
    refine ⟨g, mb, h1, ?_, h4, below_all hbA h5⟩
    have := hbA.size
    omega
  rw [hS]
  obtain ⟨c0, hc0, hST2⟩ := hST2
  have HST2 := Lib.hid hST2
  obtain ⟨R, hR⟩ : ∃ R, rnd b S hbl = R := ⟨_, rfl⟩
  have HRD : Hid (∀ W g mb cnt S' t, ItAt W g mb B cb b n cnt S' → cnt ≤ 100000000 → Tab W → (∀ v, v ∈ S' ↔ v ∈ setAt b S t) → Calls Tryz.prog 41 #[.pointer (some ⟨g, 0, none⟩)] W fun e w' =>
      ∃ R' c, e = .returned (.tuple #[.slice R' (R.B t).length c, .int .i64 0]) ∧ Gx.ListsC w' R' (R.B t) ∧ (∃ S'', ItAt w' g mb B cb b n (cnt + 270000) S'' ∧ ∀ v, v ∈ S'' ↔ v ∈ setAt b S (t + 1)) ∧ W.grownBy w' (some mb)) := Lib.hid (fun W g mb cnt S' t h1 h2 h3 h4 => by
    have hc : comps b S' = R.B t := by rw [← hR, rnd_B]; exact comps_set h4
    have := round_any g mb B cb n cnt b S' W h1 hn hbl hdb h2 h3
    unfold RetRound at this
    rw [hc] at this
    refine this.mono ?_
    rintro e w' ⟨R', c, q1, q2, ⟨S'', q3, q4⟩, q5⟩
    refine ⟨R', c, q1, q2, ⟨S'', q3, fun v => ?_⟩, q5⟩
    rw [q4, setAt_blks, h4, ← hR, rnd_B])
  have HM1 : Hid (R.Fell 1) := Lib.hid (fun t ht => by omega)
  have HMS : Hid (∀ m, R.Fell m → 1 ≤ m → (R.B m).length ≠ (R.B (m - 1)).length → R.Fell (m + 1)) := Lib.hid (fun m h1 h2 h3 => R.fell_succ h1 h2 h3)
  have HML : Hid (∀ m, R.Fell m → m ≤ 65) := Lib.hid (fun m h => by have := R.fell_le h; omega)
  have HBL : Hid (∀ t, (R.B t).length ≤ 64) := Lib.hid (fun t => by rw [← hR, rnd_B]; exact comps_len hbl)
  unfold RetRun
  rw [hR]
  have HT := Lib.hid hT
  clear hST2 hS hR hd hdb hbA hP hB hT HSZ
  go_enter Tryz.func22, Tryz.ntmps22
  go_upto_region 2 with (go_at_call 20; refine HST.out.mono ?_; rintro e w1 hst; obtain ⟨g, mb, rfl, hmb, hI1, hb1⟩ := HST2.out _ _ hst; clear hst)
  have HR0 := Lib.hid (HRD.out w1 g mb c0 S 0 hI1 (by omega) (HT.out.below hb1 HT.out.1) (fun v => Iff.rfl))
  have hmbl := hI1.set.mapB
  clear hI1 HST HST2
  go_upto_region 3 with (go_at_call 41; refine HR0.out.mono ?_; rintro e w2 ⟨R0, cr0, rfl, hL0, ⟨S1, hI2, hS1⟩, hg2⟩)
  have hb2 := below_turn hb1 hmbl hg2 hmb
  clear hmbl hg2 HR0 hb1
  go_wp2
  go_loopw [12, 10] (fun s12 s10 wr => ∃ (m : Nat) (R1 : Option Addr) (cr : Nat) (S1 : List (List Int)), s12 = .int .i64 m ∧ 1 ≤ m ∧ m ≤ K ∧ s10 = .slice R1 (R.B (m - 1)).length cr ∧ Hid (R.Fell m) ∧ ItAt wr g mb B cb b n (c0 + 270000 * m) S1 ∧ (∀ v, v ∈ S1 ↔ v ∈ setAt b S m) ∧ Gx.ListsC wr R1 (R.B (m - 1)) ∧ Below w.heap.size w wr) (fun s12 _ _ => K - (intOf s12).toNat)
  case atStart => exact ⟨1, R0, cr0, S1, rfl, by omega, hK, rfl, HM1, hI2, hS1, hL0, hb2⟩
  case round =>
    clear hI2 hS1 hL0 hb2
    obtain ⟨wo, rfl⟩ : ∃ wo : World, wo = wr := ⟨_, rfl⟩
    obtain ⟨m, R1, cr, S1, rfl, hm1, hmK, rfl, HF, hI, hS, hL, hb⟩ := hrel
    have hm65 := HML.out m HF.out
    by_cases hlt : m < K
    · have HR1 := Lib.hid (HRD.out wo g mb _ S1 m hI (by omega) (HT.out.below hb HT.out.1) hS)
      have hmbl := hI.set.mapB
      have dk : decide ((m : Int) < (K : Int)) = true := by simp; omega
      clear hI hS
      go_upto_region 8 with (go_at_call 41; refine HR1.out.mono ?_; rintro e w3 ⟨R2, cr2, rfl, hL2, ⟨S2, hI2, hS2⟩, hg3⟩)
      have hb3 := below_turn hb hmbl hg3 hmb
      have hL3 := listsC_turn hL hmbl hg3
      by_cases heq : (R.B m).length = (R.B (m - 1)).length
      · have hbq : (((R.B m).length : Int) == ((R.B (m - 1)).length : Int)) = true := by simp [heq]
        have HFN : Hid (R.Final K m) := Lib.hid ⟨hm1, hmK, HF.out, .inr heq⟩
        have HEQ := Lib.hid heq
        clear heq
        go_wp2
        refine bodyPost_ret (v := .tuple #[.slice R1 (R.B (m - 1)).length cr, .int .i64 (m : Nat), .int .i64 0]) (by simp [results, Tryz.results22, go_sem]) rfl ?_
        exact ⟨m, R1, cr, HFN.out, rfl, hL3, hb3⟩
      · have hbq : (((R.B m).length : Int) == ((R.B (m - 1)).length : Int)) = false := by simp; omega
        have HF2 := Lib.hid (HMS.out m HF.out hm1 heq)
        clear heq
        go_wp2
        go_roundw
        case rel => exact ⟨m + 1, R2, cr2, S2, by go_num, by omega, by omega, rfl, HF2, by rw [show c0 + 270000 * (m + 1) = c0 + 270000 * m + 270000 by omega]; exact hI2, hS2, hL2, hb3⟩
        case measure => simp [intOf]; omega
    · obtain rfl : m = K := by omega
      have dk : decide ((m : Int) < (m : Int)) = false := by simp
      have HFN : Hid (R.Final m m) := Lib.hid ⟨hm1, hmK, HF.out, .inl rfl⟩
      go_wp2
      refine bodyPost_ret (v := .tuple #[.slice R1 (R.B (m - 1)).length cr, .int .i64 (m : Nat), .int .i64 0]) (by simp [results, Tryz.results22, go_sem]) rfl ?_
      exact ⟨m, R1, cr, HFN.out, rfl, hL, hb⟩
end Go.Proofs.Tg
end
section
/- The exported functions: Graph, Blocks, Stable. -/
namespace Go.Proofs.Tg
open Go.RowKit Go.Gr Go.Sp Go.Ev Go.Mo Go.Jt
set_option maxHeartbeats 4000000
set_option maxRecDepth 100000
theorem dom_of {p : PVal} {ok : Bool} {b : List (List Int)} (hok : ok = true ↔ p.ok) (h : errS ok p.vars b = 0) : ∃ n : Nat, p.vars = n ∧ n ≤ 6 ∧ p.tv.length ≤ 4096 ∧ (∀ t ∈ p.tv, domK n 24 t.exps) ∧ (∀ m ∈ b, domK n 24 m) ∧ b.length ≤ 64 := by
  obtain ⟨h1, h2, h3, h4, _⟩ := errS_zero h
  have hp := hok.1 h1
  have h0 := hp.2.1.1
  have h6 := hp.2.1.2.1
  obtain ⟨n, hn⟩ : ∃ n : Nat, p.vars = n := ⟨p.vars.toNat, by omega⟩
  refine ⟨n, hn, by omega, by have := hp.1; rwa [List.length_map] at this, fun t ht => ?_, fun m hm => ?_, h4⟩
  · have hp' : VldP (n : Int) (p.tv.map TV.pl) := by rw [← hn]; exact hp
    exact vldP_dom hp' (TV.pl t) (List.mem_map.2 ⟨t, ht, rfl⟩)
  · have h5 := vld_dom (h2 m hm)
    have h7 := h3 m hm
    rwa [show m.length = n by omega] at h5
/-- The known monomials of a polynomial and a basis. -/
abbrev kn (p : PVal) (b : List (List Int)) : List (List Int) := S0 (exsOf p.tv) b
def RetSG (p : PVal) (b : List (List Int)) (er : Int) (w : World) (e : Ending) (w' : World) : Prop := Below w.heap.size w w' ∧
  ((er ≠ 0 ∧ e = .returned (.tuple #[Gx.zeroG, .int .i64 er])) ∨ (er = 0 ∧ ∃ F d, e = .returned (.tuple #[.agg #[.int .i64 b.length, .slice F (edTo b (kn p b) b.length).length d], .int .i64 0]) ∧ Gx.EdgesAt w' F (edTo b (kn p b) b.length)))
def RetSB (p : PVal) (b : List (List Int)) (hb : b.length ≤ 64) (er K : Int) (w : World) (e : Ending) (w' : World) : Prop := Below w.heap.size w w' ∧
  ((er ≠ 0 ∧ e = .returned (.tuple #[.slice none 0 0, .int .i64 er])) ∨ (er = 0 ∧ K < 1 ∧ e = .returned (.tuple #[.slice none 0 0, .int .i64 3])) ∨
    (er = 0 ∧ 1 ≤ K ∧ ∃ m R c, (rnd b (kn p b) hb).Final K.toNat m ∧ e = .returned (.tuple #[.slice R ((rnd b (kn p b) hb).B (m - 1)).length c, .int .i64 0]) ∧ Lists w' R ((rnd b (kn p b) hb).B (m - 1))))
def bigK : Nat := 9223372036854775807
def RetSS (p : PVal) (b : List (List Int)) (hb : b.length ≤ 64) (er : Int) (w : World) (e : Ending) (w' : World) : Prop := Below w.heap.size w w' ∧
  ((er ≠ 0 ∧ e = .returned (.tuple #[.slice none 0 0, .int .i64 0, .int .i64 er])) ∨
    (er = 0 ∧ ∃ m R c, (rnd b (kn p b) hb).Final bigK m ∧ e = .returned (.tuple #[.slice R ((rnd b (kn p b) hb).B (m - 1)).length c, .int .i64 (m : Nat), .int .i64 0]) ∧ Lists w' R ((rnd b (kn p b) hb).B (m - 1))))
theorem sstable_any (p : PVal) (B : Option Addr) (cb : Nat) (b : List (List Int)) (ok : Bool) (w : World) (hP : TermsAt w p.adr p.tv) (hsm : p.small) (hB : Lists w B b) (hbl : b.length ≤ 64) (hml : ∀ m ∈ b, m.length ≤ 1000) (hok : ok = true ↔ p.ok) (hT : Tab w) :
    Calls Tryz.prog 18 #[.agg #[.int .i64 p.vars, .slice p.adr p.tv.length p.cap], .slice B b.length cb] w (RetSS p b hbl (errS ok p.vars b) w) := by
  obtain ⟨W, hW⟩ : ∃ W, w.alloc (.cells #[.int .i64 p.vars, .slice p.adr p.tv.length p.cap] 24) = W := ⟨_, rfl⟩
  have hbA : Below w.heap.size w W := by rw [← hW]; exact (Below.refl _ _).alloc (Nat.le_refl _) _
  have B0 : Blk W w.heap.size 24 #[.int .i64 p.vars, .slice p.adr p.tv.length p.cap] := by rw [← hW]; exact Blk.new _ _ _
  have HCK := Lib.hid (scheck_any p B cb b ok W (hP.keep hbA) hsm (hB.keep hbA) hbl hml hok (hT.below hbA hT.1))
  have HRUN : Hid (∀ V, Below w.heap.size w V → errS ok p.vars b = 0 → Calls Tryz.prog 22 #[.agg #[.int .i64 p.vars, .slice p.adr p.tv.length p.cap], .slice B b.length cb, .int .i64 9223372036854775807] V (RetRun bigK b (kn p b) hbl V)) := Lib.hid (fun V hV he => by
    obtain ⟨n, hn, h6, hl, hd, hdb, _⟩ := dom_of hok he
    exact run_any p.vars p.adr p.cap p.tv B cb b n bigK V (hP.keep hV) (hB.keep hV) h6 hl hbl hd hdb (by decide) (hT.below hV hT.1))
  generalize errS ok p.vars b = er at *
  have HWW := Lib.hid hW
  obtain ⟨P, T, cT, tv⟩ := p
  simp only at *
  obtain ⟨c0, c1, _, _⟩ := B0.two
  clear hW hP hB hok hml hsm
  go_enter Tryz.func18, Tryz.ntmps18
  go_upto_region 1 with (fail)
  rw [HWW.out]
  clear HWW
  by_cases her : er = 0
  · subst her
    go_wp2_with (first
      | (go_at_call 19; refine HCK.out.mono ?_; rintro e w1 ⟨rfl, hb1⟩
         have C0 := B0.keep hb1 B0.lt
         obtain ⟨d0, d1, _, _⟩ := C0.two
         have hb2 := below_all hbA hb1)
      | (go_at_call 22; refine (HRUN.out _ hb2 (by trivial)).mono ?_; rintro e w3 ⟨m, R, c, hF, rfl, hL, hb3⟩))
    refine bodyPost_ret (v := _) (results_tmp3 rfl _ _ _) rfl ?_
    exact ⟨below_all hb2 hb3, .inr ⟨rfl, m, R, c, hF, rfl, hL.lists⟩⟩
  · have hne : (er != 0) = true := by simp [her]
    go_wp2_with (go_at_call 19; refine HCK.out.mono ?_; rintro e w1 ⟨rfl, hb1⟩)
    refine bodyPost_ret (v := _) (results_tmp3 rfl _ _ _) rfl ?_
    exact ⟨below_all hbA hb1, .inl ⟨her, rfl⟩⟩
theorem sblocks_any (p : PVal) (B : Option Addr) (cb : Nat) (b : List (List Int)) (ok : Bool) (w : World) (hP : TermsAt w p.adr p.tv) (hsm : p.small) (hB : Lists w B b) (hbl : b.length ≤ 64) (hml : ∀ m ∈ b, m.length ≤ 1000) (hok : ok = true ↔ p.ok) (hT : Tab w) (K : Int) :
    Calls Tryz.prog 7 #[.agg #[.int .i64 p.vars, .slice p.adr p.tv.length p.cap], .slice B b.length cb, .int .i64 K] w (RetSB p b hbl (errS ok p.vars b) K w) := by
  obtain ⟨W, hW⟩ : ∃ W, w.alloc (.cells #[.int .i64 p.vars, .slice p.adr p.tv.length p.cap] 24) = W := ⟨_, rfl⟩
  have hbA : Below w.heap.size w W := by rw [← hW]; exact (Below.refl _ _).alloc (Nat.le_refl _) _
  have B0 : Blk W w.heap.size 24 #[.int .i64 p.vars, .slice p.adr p.tv.length p.cap] := by rw [← hW]; exact Blk.new _ _ _
  have HCK := Lib.hid (scheck_any p B cb b ok W (hP.keep hbA) hsm (hB.keep hbA) hbl hml hok (hT.below hbA hT.1))
  have HRUN : Hid (∀ V, Below w.heap.size w V → errS ok p.vars b = 0 → 1 ≤ K → Calls Tryz.prog 22 #[.agg #[.int .i64 p.vars, .slice p.adr p.tv.length p.cap], .slice B b.length cb, .int .i64 K] V (RetRun K.toNat b (kn p b) hbl V)) := Lib.hid (fun V hV he hK => by
    obtain ⟨n, hn, h6, hl, hd, hdb, _⟩ := dom_of hok he
    have := run_any p.vars p.adr p.cap p.tv B cb b n K.toNat V (hP.keep hV) (hB.keep hV) h6 hl hbl hd hdb (by omega) (hT.below hV hT.1)
    rwa [show ((K.toNat : Nat) : Int) = K by omega] at this)
  generalize errS ok p.vars b = er at *
  have HWW := Lib.hid hW
  obtain ⟨P, T, cT, tv⟩ := p
  simp only at *
  obtain ⟨c0, c1, _, _⟩ := B0.two
  clear hW hP hB hok hml hsm
  go_enter Tryz.func7, Tryz.ntmps7
  go_upto_region 1 with (fail)
  rw [HWW.out]
  clear HWW
  by_cases her : er = 0
  · subst her
    by_cases hK : K < 1
    · have hk : decide (K < 1) = true := by simpa using hK
      go_wp2_with (go_at_call 19; refine HCK.out.mono ?_; rintro e w1 ⟨rfl, hb1⟩)
      go_ret2
      exact ⟨below_all hbA hb1, .inr (.inl ⟨rfl, hK, rfl⟩)⟩
    · have hk : decide (K < 1) = false := by simpa using hK
      have hK1 : 1 ≤ K := by omega
      go_wp2_with (first
        | (go_at_call 19; refine HCK.out.mono ?_; rintro e w1 ⟨rfl, hb1⟩
           have C0 := B0.keep hb1 B0.lt
           obtain ⟨d0, d1, _, _⟩ := C0.two
           have hb2 := below_all hbA hb1)
        | (go_at_call 22; refine (HRUN.out _ hb2 (by trivial) hK1).mono ?_; rintro e w3 ⟨m, R, c, hF, rfl, hL, hb3⟩))
      go_ret2
      exact ⟨below_all hb2 hb3, .inr (.inr ⟨rfl, hK1, m, R, c, hF, rfl, hL.lists⟩)⟩
  · have hne : (er != 0) = true := by simp [her]
    go_wp2_with (go_at_call 19; refine HCK.out.mono ?_; rintro e w1 ⟨rfl, hb1⟩)
    go_ret2
    exact ⟨below_all hbA hb1, .inl ⟨her, rfl⟩⟩
theorem sgraph_any (p : PVal) (B : Option Addr) (cb : Nat) (b : List (List Int)) (ok : Bool) (w : World) (hP : TermsAt w p.adr p.tv) (hsm : p.small) (hB : Lists w B b) (hbl : b.length ≤ 64) (hml : ∀ m ∈ b, m.length ≤ 1000) (hok : ok = true ↔ p.ok) (hT : Tab w) :
    Calls Tryz.prog 6 #[.agg #[.int .i64 p.vars, .slice p.adr p.tv.length p.cap], .slice B b.length cb] w (RetSG p b (errS ok p.vars b) w) := by
  obtain ⟨W, hW⟩ : ∃ W, (w.alloc (.cells #[.int .i64 p.vars, .slice p.adr p.tv.length p.cap] 24)).alloc (.cells #[.int .i64 0, .slice none 0 0] 30) = W := ⟨_, rfl⟩
  have hbA : Below w.heap.size w W := by rw [← hW]; exact ((Below.refl _ _).alloc (Nat.le_refl _) _).alloc (by simp) _
  have B0 : Blk W w.heap.size 24 #[.int .i64 p.vars, .slice p.adr p.tv.length p.cap] := by rw [← hW]; exact (Blk.new _ _ _).alloc _
  have B1 : Blk W (w.heap.size + 1) 30 #[.int .i64 0, .slice none 0 0] := by
    rw [← hW]; have := Blk.new (w.alloc (.cells #[.int .i64 p.vars, .slice p.adr p.tv.length p.cap] 24)) 30 #[.int .i64 0, .slice none 0 0]
    simpa using this
  have HCK := Lib.hid (scheck_any p B cb b ok W (hP.keep hbA) hsm (hB.keep hbA) hbl hml hok (hT.below hbA hT.1))
  have HST : Hid (∀ V, Below w.heap.size w V → errS ok p.vars b = 0 → Calls Tryz.prog 20 #[.agg #[.int .i64 p.vars, .slice p.adr p.tv.length p.cap], .slice B b.length cb] V fun e w' => ∃ g, e = .returned (.pointer (some ⟨g, 0, none⟩)) ∧ Below V.heap.size V w' ∧
      Calls Tryz.prog 21 #[.pointer (some ⟨g, 0, none⟩)] w' (RetEd b (kn p b) w')) := Lib.hid (fun V hV he => by
    obtain ⟨n, hn, h6, hl, hd, hdb, _⟩ := dom_of hok he
    refine (start_any p.vars p.adr p.cap p.tv B cb b n V (hP.keep hV) (hB.keep hV) h6 hl hbl hd hdb).mono ?_
    rintro e w' ⟨g, mb, h1, _, _, h4, h5⟩
    have hT2 : Tab w' := hT.below (below_all hV h5) hT.1
    exact ⟨g, h1, h5, igraph_any g mb B cb n _ b _ w' h4 h6 hbl hdb hT2⟩)
  generalize errS ok p.vars b = er at *
  have HWW := Lib.hid hW
  obtain ⟨P, T, cT, tv⟩ := p
  simp only at *
  obtain ⟨c0, c1, _, _⟩ := B0.two
  clear hW hP hB hok hml hsm
  go_enter Tryz.func6, Tryz.ntmps6
  go_upto_region 1 with (fail)
  rw [HWW.out]
  clear HWW
  by_cases her : er = 0
  · subst her
    go_wp2_with (first
      | (go_at_call 19; refine HCK.out.mono ?_; rintro e w1 ⟨rfl, hb1⟩
         have C0 := B0.keep hb1 B0.lt
         have C1 := B1.keep hb1 B1.lt
         obtain ⟨d0, d1, _, _⟩ := C0.two
         have hb2 := below_all hbA hb1)
      | (go_at_call 20; refine (HST.out _ hb2 (by trivial)).mono ?_; rintro e w3 ⟨g, rfl, hb3, HGR⟩
         have C3 := C1.keep hb3 C1.lt)
      | (go_at_call 21; refine HGR.mono ?_; rintro e w4 ⟨F, d, rfl, hF, hb4⟩
         have C4 := C3.keep hb4 C3.lt
         obtain ⟨z0, z1, y0, y1⟩ := C4.two
         have hl4 := C4.lt))
    refine bodyPost_ret (v := _) (Gx.results_g (p := 4) (q := 5) rfl _ _ (w.heap.size + 1) _ _ rfl (Gx.blk_two C4)) rfl ?_
    have hne := own_blk_ne hF C4 (by decide)
    exact ⟨below_far (below_far (below_all (below_all hb2 hb3) hb4) (by omega) _ _) (by omega) _ _, .inr ⟨rfl, F, d, rfl, Sl.own (own_far (own_far hF hne _) hne _)⟩⟩
  · have hne : (er != 0) = true := by simp [her]
    go_wp2_with (go_at_call 19; refine HCK.out.mono ?_; rintro e w1 ⟨rfl, hb1⟩
                 have C1 := B1.keep hb1 B1.lt
                 obtain ⟨z0, z1, y0, y1⟩ := C1.two
                 have hl4 := C1.lt)
    refine bodyPost_ret (v := _) (Gx.results_g (p := 4) (q := 5) rfl _ _ (w.heap.size + 1) _ _ rfl (Gx.blk_two C1)) rfl ?_
    exact ⟨below_far (below_far (below_all hbA hb1) (by omega) _ _) (by omega) _ _, .inl ⟨her, rfl⟩⟩
end Go.Proofs.Tg
end
section
/- The reference's check of a polynomial and a basis. -/
namespace Go.Proofs.Tg.Sx
open Go.RowKit Go.Gr Go.Sp Go.Ev Go.Mo Go.Qn
set_option maxHeartbeats 4000000
set_option maxRecDepth 100000
theorem take_all_iff {α : Type} {l : List α} {k : Nat} {P : α → Prop} (hk : k < l.length) : (∀ x ∈ l.take (k + 1), P x) ↔ (∀ x ∈ l.take k, P x) ∧ P l[k] := by
  constructor
  · exact fun h => ⟨fun x hx => h x ((take_mem_succ hk x).1 (List.mem_cons_of_mem _ hx)), h _ ((take_mem_succ hk _).1 (List.mem_cons_self ..))⟩
  · rintro ⟨h1, h2⟩ x hx
    rcases List.mem_cons.1 ((take_mem_succ hk x).2 hx) with rfl | h
    · exact h2
    · exact h1 x h
theorem rbasis_any (V : Int) (O : Option Addr) (no co : Nat) (ok : Bool) (B : Option Addr) (cb : Nat) (b : List (List Int)) (w : World) (hB : Lists w B b) (hbl : b.length ≤ 64) (hml : ∀ m ∈ b, m.length ≤ 1000) :
    Calls Tryz.prog 42 #[.agg #[.int .i64 V, .slice O no co], .bool ok, .slice B b.length cb] w fun e w' => e = .returned (.int .i64 (errS ok V b)) ∧ Below w.heap.size w w' := by
  obtain ⟨W, hW⟩ : ∃ W, w.alloc (.cells #[.int .i64 V, .slice O no co] 39) = W := ⟨_, rfl⟩
  have hbA : Below w.heap.size w W := by rw [← hW]; exact (Below.refl _ _).alloc (Nat.le_refl _) _
  have B0 : Blk W w.heap.size 39 #[.int .i64 V, .slice O no co] := by rw [← hW]; exact Blk.new _ _ _
  have HML := Lib.hid hml
  have hL := hB.keep hbA
  have HWW := Lib.hid hW
  have hgl := B0.lt
  clear hml hW hB
  obtain ⟨c0, c1, _, _⟩ := B0.two
  go_enter Tryz.func42, Tryz.ntmps42
  go_upto_region 1 with (fail)
  rw [HWW.out]
  clear HWW
  go_wp2
  go_loop [7, 1] (fun s7 s1 => ∃ (k : Nat) (q : Bool), s7 = .int .i64 k ∧ k ≤ b.length ∧ s1 = .bool q ∧ Hid (q = true ↔ ok = true ∧ ∀ m ∈ b.take k, vldM m = true)) (fun s7 _ => b.length - (intOf s7).toNat)
  case atStart => exact ⟨0, ok, rfl, Nat.zero_le _, rfl, Lib.hid (by simp)⟩
  case round =>
    obtain ⟨k, q, rfl, hk, rfl, HG⟩ := hrel
    by_cases hlt : k < b.length
    · obtain ⟨ad, A, c, rfl, hc, hA⟩ := hL.at hlt
      have hml := HML.out b[k] (List.getElem_mem _)
      have HN : Hid ((∀ m ∈ b.take (k + 1), vldM m = true) ↔ (∀ m ∈ b.take k, vldM m = true) ∧ vldM b[k] = true) := Lib.hid (take_all_iff (P := fun m => vldM m = true) hlt)
      generalize b[k] = m at *
      have w1 : IntKind.i64.wrap ((k : Int) + 1) = (k : Int) + 1 := IntWalk.i64_in _ (by omega)
      cases q with
      | false =>
        have HG2 : Hid (¬ (ok = true ∧ ∀ m ∈ b.take (k + 1), vldM m = true)) := Lib.hid (fun h => by
          have := HG.out.2 ⟨h.1, (HN.out.1 h.2).1⟩
          cases this)
        go_wp2
        go_round
        case rel => exact ⟨k + 1, false, by go_num, by omega, rfl, Lib.hid (iff_of_false (by decide) HG2.out)⟩
        case measure => simp [intOf]; omega
      | true =>
        have hG := HG.out.1 rfl
        cases hv : vldM m with
        | true =>
          have HV := Lib.hid (rvld_lit A c m W hA hml true hv)
          have HG2 : Hid (ok = true ∧ ∀ m ∈ b.take (k + 1), vldM m = true) := Lib.hid ⟨hG.1, HN.out.2 ⟨hG.2, hv⟩⟩
          clear hv hG
          go_wp2_with (go_at_call 32; refine HV.out.mono ?_; rintro e w' ⟨rfl, rfl⟩)
          go_round
          case rel => exact ⟨k + 1, true, by go_num, by omega, rfl, Lib.hid (iff_of_true rfl HG2.out)⟩
          case measure => simp [intOf]; omega
        | false =>
          have HV := Lib.hid (rvld_lit A c m W hA hml false hv)
          have HG2 : Hid (¬ (ok = true ∧ ∀ m ∈ b.take (k + 1), vldM m = true)) := Lib.hid (fun h => by
            have := (HN.out.1 h.2).2
            rw [hv] at this
            cases this)
          clear hv hG
          go_wp2_with (go_at_call 32; refine HV.out.mono ?_; rintro e w' ⟨rfl, rfl⟩)
          go_round
          case rel => exact ⟨k + 1, false, by go_num, by omega, rfl, Lib.hid (iff_of_false (by decide) HG2.out)⟩
          case measure => simp [intOf]; omega
    · obtain rfl : k = b.length := by omega
      have dk : decide ((b.length : Int) < (b.length : Int)) = false := by simp
      rw [List.take_length] at HG
      cases q with
      | false =>
        have HF : Hid (errS ok V b = 1) := Lib.hid (by
          unfold errS
          rw [if_neg]
          intro h
          have := HG.out.2 h
          cases this)
        go_wp2
        go_ret
        exact ⟨by rw [HF.out]; rfl, hbA⟩
      | true =>
        obtain ⟨rfl, hall⟩ := HG.out.1 rfl
        have HAV := Lib.hid hall
        clear HG hall
        go_wp2
        go_loopw [8] (fun s8 wr => ∃ k : Nat, s8 = .int .i64 k ∧ k ≤ b.length ∧ Hid (∀ m ∈ b.take k, (m.length : Int) = V) ∧ Dr W wr) (fun s8 _ => b.length - (intOf s8).toNat)
        case atStart => exact ⟨0, rfl, Nat.zero_le _, Lib.hid (by simp), Dr.refl _⟩
        case round =>
          obtain ⟨wo, rfl⟩ : ∃ wo : World, wo = wr := ⟨_, rfl⟩
          obtain ⟨k, rfl, hk, HG, hdr⟩ := hrel
          by_cases hlt : k < b.length
          · obtain ⟨ad, A, c, rfl, hc, hA⟩ := (hL.keep hdr.below).at hlt
            have HM : Hid (b[k] ∈ b) := Lib.hid (List.getElem_mem _)
            have HN : Hid ((b[k].length : Int) = V → ∀ m ∈ b.take (k + 1), (m.length : Int) = V) := Lib.hid (all_take (P := fun m : List Int => (m.length : Int) = V) hlt HG.out)
            generalize b[k] = m at *
            have d0 := keep_cell hdr.below c0
            have p0 : (0 : Int) ≤ (k : Int) := by omega
            have p1 : (k : Int) < (b.length : Int) := by omega
            have p3 : ((k : Int)).toNat = k := by omega
            by_cases hl : (m.length : Int) = V
            · have hb : ((m.length : Int) != V) = false := by simp [hl]
              have HG2 := Lib.hid (HN.out hl)
              have HL := Lib.hid hl
              clear hl
              go_wp2
              go_quiet (fail)
              go_wp2
              go_roundw
              case rel => exact ⟨k + 1, by go_num, by omega, HG2, hdr.drewN _⟩
              case measure => simp [intOf]; omega
            · have hb : ((m.length : Int) != V) = true := by simp [hl]
              have HF : Hid (errS true V b = 4) := Lib.hid (errS_shape HAV.out ⟨m, HM.out, hl⟩)
              clear hl
              go_wp2
              go_quiet (fail)
              go_wp2
              go_ret
              exact ⟨by rw [HF.out]; rfl, below_all hbA (hdr.drewN _).below⟩
          · obtain rfl : k = b.length := by omega
            have HAL : Hid (∀ m ∈ b, (m.length : Int) = V) := Lib.hid (by have := HG.out; rwa [List.take_length] at this)
            have dk : decide ((b.length : Int) < (b.length : Int)) = false := by simp
            have d64 : decide ((64 : Int) < (b.length : Int)) = false := by simp; omega
            have d64' : decide (64 < b.length) = false := by simp; omega
            clear HG
            go_wp2
            go_loopw [9] (fun s9 wr => ∃ k : Nat, s9 = .int .i64 k ∧ k ≤ b.length ∧ Hid ((b.take k).Nodup) ∧ Dr W wr) (fun s9 _ => b.length - (intOf s9).toNat)
            case atStart => exact ⟨0, rfl, Nat.zero_le _, Lib.hid (by simp), hdr⟩
            case round =>
              clear hdr
              obtain ⟨wp, rfl⟩ : ∃ wp : World, wp = wr := ⟨_, rfl⟩
              obtain ⟨i, rfl, hi, HND, hdr⟩ := hrel
              by_cases hil : i < b.length
              · have HIN : Hid (b[i] ∉ b.take i → (b.take (i + 1)).Nodup) := Lib.hid (take_nodup_succ hil HND.out)
                have HIB : Hid (b[i] ∈ b.take i → errS true V b = 10) := Lib.hid (fun h => errS_dup HAV.out HAL.out hbl (not_nodup_take hil h))
                obtain ⟨ad, A, c, rfl, hcA0, hIA⟩ := hL.at hil
                have hla := HML.out b[i] (List.getElem_mem _)
                generalize b[i] = x at *
                go_wp2
                go_loopw [10] (fun s10 wr => ∃ k : Nat, s10 = .int .i64 k ∧ k ≤ i ∧ Hid (x ∉ b.take k) ∧ Dr W wr) (fun s10 _ => i - (intOf s10).toNat)
                case atStart => exact ⟨0, rfl, Nat.zero_le _, Lib.hid (by simp), hdr⟩
                case round =>
                  clear hdr
                  obtain ⟨wq, rfl⟩ : ∃ wq : World, wq = wr := ⟨_, rfl⟩
                  obtain ⟨k, rfl, hk, HX, hdr⟩ := hrel
                  by_cases hkl : k < i
                  · have hkb : k < b.length := by omega
                    obtain ⟨ad2, A2, c2, he, hcB0, hIB⟩ := hL.at hkb
                    injection he with he
                    subst he
                    have hcA := keep_cell hdr.below hcA0
                    have hcB := keep_cell hdr.below hcB0
                    have HX2 : Hid (x ≠ b[k] → x ∉ b.take (k + 1)) := Lib.hid (fun h hm => by
                      rcases List.mem_cons.1 ((take_mem_succ hkb x).2 hm) with e | e
                      · exact h e
                      · exact HX.out e)
                    have HXI : Hid (x = b[k] → x ∈ b.take i) := Lib.hid (fun h => by
                      rw [h]
                      exact List.mem_take_iff_getElem.2 ⟨k, by omega, rfl⟩)
                    generalize b[k] = y at *
                    have p0 : (0 : Int) ≤ (i : Int) := by omega
                    have p1 : (i : Int) < (b.length : Int) := by omega
                    have p3 : ((i : Int)).toNat = i := by omega
                    have q0 : (0 : Int) ≤ (k : Int) := by omega
                    have q1 : (k : Int) < (b.length : Int) := by omega
                    have q3 : ((k : Int)).toNat = k := by omega
                    by_cases hxy : x = y
                    · have HSQ : Hid (∀ V, Dr wq V → Calls Tryz.prog 63 #[.slice A x.length c, .slice A2 y.length c2] V fun e w' => e = .returned (.bool true) ∧ ∃ z, w' = V.drewN z) := Lib.hid (fun V h =>
                        seq_any A A2 x y c c2 V (hIA.keep (below_all hdr.below h.below)) (hIB.keep (below_all hdr.below h.below)) (by omega) true (decide_eq_true hxy))
                      have HF := Lib.hid (HIB.out (HXI.out hxy))
                      clear hxy hcB0 hIB
                      go_wp2
                      go_quiet ((go_at_call 63; exact Calls.quiet_of (HSQ.out _ ⟨_, rfl⟩)))
                      go_wp2
                      go_ret
                      exact ⟨by rw [HF.out]; rfl, below_all hbA (hdr.drewN _).below⟩
                    · have HSQ : Hid (∀ V, Dr wq V → Calls Tryz.prog 63 #[.slice A x.length c, .slice A2 y.length c2] V fun e w' => e = .returned (.bool false) ∧ ∃ z, w' = V.drewN z) := Lib.hid (fun V h =>
                        seq_any A A2 x y c c2 V (hIA.keep (below_all hdr.below h.below)) (hIB.keep (below_all hdr.below h.below)) (by omega) false (decide_eq_false hxy))
                      have HF := Lib.hid (HX2.out hxy)
                      clear hxy hcB0 hIB
                      go_wp2
                      go_quiet ((go_at_call 63; exact Calls.quiet_of (HSQ.out _ ⟨_, rfl⟩)))
                      go_wp2
                      go_roundw
                      case rel => exact ⟨k + 1, by go_num, by omega, HF, hdr.drewN _⟩
                      case measure => simp [intOf]; omega
                  · obtain rfl : k = i := by omega
                    have dk : decide ((k : Int) < (k : Int)) = false := by simp
                    have HN2 := Lib.hid (HIN.out HX.out)
                    go_wp2
                    go_roundw
                    case rel => exact ⟨k + 1, by go_num, by omega, HN2, hdr⟩
                    case measure => simp [intOf]; omega
              · obtain rfl : i = b.length := by omega
                have HF : Hid (errS true V b = 0) := Lib.hid (errS_ok HAV.out HAL.out hbl (by have := HND.out; rwa [List.take_length] at this))
                go_wp2
                go_ret
                exact ⟨by rw [HF.out]; rfl, below_all hbA hdr.below⟩
end Go.Proofs.Tg.Sx
end
