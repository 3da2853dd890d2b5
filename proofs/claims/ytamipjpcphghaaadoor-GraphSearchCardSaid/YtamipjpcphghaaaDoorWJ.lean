/- Extend. -/
import Derived.Test.YtamipjpcphghaaaDoorWI
namespace Go.Gr
theorem extFrom_zero (f : Nat) (A : Nat → Nat) : extFrom f A 0 = A := by cases f <;> simp [extFrom]
end Go.Gr
namespace Go.Proofs.Tg
open Go.RowKit Go.Gr
set_option maxHeartbeats 1000000
set_option maxRecDepth 100000
theorem own_setFar {w : World} {b g n c : Nat} {t : TypeId} {V : Option Addr} {xs : List Value} (h : w.ownsRow b t 1 (.slice V n c) n xs) (hg : g < b) (i : Nat) (u : Value) : (w.setCell ⟨g, i, none⟩ u).ownsRow b t 1 (.slice V n c) n xs :=
  own_far h (fun e => by have := (h.lt g e.symm).1; omega) u
theorem extend_ok (n : Nat) (E : Option Addr) (c : Nat) (es : List (Int × Int)) (w : World) (hE : EdgesAt w E es) (hl : es.length ≤ 1000000) (hv : valid n es) (hT : Tab w) :
    Calls Tryd.prog 25 #[.agg #[.int .i64 n, .slice E es.length c]] w fun e w' => ∃ F d, e = .returned (.tuple #[.agg #[.int .i64 n, .slice F (writeEdges (extend (readAll es) n) n).length d], .int .i64 0]) ∧
      w'.ownsRow w.heap.size 46 2 (.slice F (writeEdges (extend (readAll es) n) n).length d) (writeEdges (extend (readAll es) n) n).length (ecells (writeEdges (extend (readAll es) n) n)) ∧ Below w.heap.size w w' := by
  have hr := read_all n E c es true ((w.alloc (.cells #[.int .i64 n, .slice E es.length c] 25)).alloc (.cells #[.int .i64 0, .slice none 0 0] 25)) (hE.keep (((Below.refl _ _).alloc (Nat.le_refl _) _).alloc (by simp) _)) hl (by simp [hv])
  obtain ⟨hsm, hirr⟩ := readAll_small es n hv
  have hn : n ≤ 64 := by have := hv.2.1; omega
  have hbA : Below w.heap.size w ((w.alloc (.cells #[.int .i64 n, .slice E es.length c] 25)).alloc (.cells #[.int .i64 0, .slice none 0 0] 25)) := ((Below.refl _ _).alloc (Nat.le_refl _) _).alloc (by simp) _
  have hB := (Blk.new w 25 #[.int .i64 n, .slice E es.length c]).alloc (.cells #[.int .i64 0, .slice none 0 0] 25)
  have hB2 : Blk ((w.alloc (.cells #[.int .i64 n, .slice E es.length c] 25)).alloc (.cells #[.int .i64 0, .slice none 0 0] 25)) (w.heap.size + 1) 25 #[.int .i64 0, .slice none 0 0] := by
    have := Blk.new (w.alloc (.cells #[.int .i64 n, .slice E es.length c] 25)) 25 #[.int .i64 0, .slice none 0 0]
    simpa using this
  have HR := Lib.hid hr
  have HB := Lib.hid (And.intro hB hB2)
  clear hr hv hB hB2
  go_enter Tryd.func25, Tryd.ntmps25
  go_wp2_with (first
    | (go_at_call 47; refine HR.out.mono ?_; rintro e w1 ⟨A, hAs, rfl, hAe, hb1⟩; obtain rfl := hAe rfl; clear hAe hAs)
    | (refine adj_alloc _ _ _ _ ?_)
    | (refine wpList_store_row rfl 56 (.tmp 4) (.tmp 18) rfl w1.heap.size (adjA (readAll es)) rfl rfl 56 (adjA fun _ => 0) (Blk.new w1 56 _) (size56 _) (by simp only [adjA_size]) (adj_one _) ?_
       have hz1 : w.heap.size + 2 ≤ w1.heap.size := by have := hb1.size; simp at this; omega
       have hA1 := blk_setRow (Blk.new w1 56 (adjA fun _ => 0)) (adjA (readAll es))
       have hB1 := blk_setRow_far (Blk.alloc (HB.out.1.keep hb1 (Blk.lt HB.out.1)) (.cells (adjA fun _ => 0) 56)) (g' := w1.heap.size) (by omega) (adjA (readAll es))
       have hB2 := blk_setRow_far (Blk.alloc (HB.out.2.keep hb1 (Blk.lt HB.out.2)) (.cells (adjA fun _ => 0) 56)) (g' := w1.heap.size) (by omega) (adjA (readAll es))
       have hbw := below_setRow ((hbA.trans (hb1.mono (by simp; omega))).alloc (by omega) (.cells (adjA fun _ => 0) 56)) (g := w1.heap.size) (by omega) (adjA (readAll es))
       have c0 := hB1.cell 0
       simp at c0
       generalize (w1.alloc (.cells (adjA fun _ => 0) 56)).setRow w1.heap.size (adjA (readAll es)) = W at hA1 hB1 hB2 hbw c0 ⊢
       generalize w1.heap.size = g at hA1 hz1 ⊢
       clear hb1)
    | (go_at_call 63; refine (first_any _ _ hn).mono ?_; rintro e w' ⟨rfl, rfl⟩))
  clear HR HB hbA c0
  have HX : Hid (extend (readAll es) n = extFrom 65 (readAll es) (firstN n)) := Lib.hid rfl
  have hfn := firstN_lt hn
  generalize firstN n = r0 at HX hfn ⊢
  go_loopw [6] (fun t wr => ∃ (rest f : Nat) (A : Nat → Nat), t = .int .u64 rest ∧ rest < 18446744073709551616 ∧ AdjAt wr g A ∧ Small A ∧ Irr A ∧ Blk wr w.heap.size 25 #[.int .i64 n, .slice E es.length c] ∧ Blk wr (w.heap.size + 1) 25 #[.int .i64 0, .slice none 0 0] ∧
      Below w.heap.size w wr ∧ size rest < f ∧ Hid (extend (readAll es) n = extFrom f A rest)) (fun t _ => (intOf t).toNat)
  case atStart => exact ⟨r0, 65, readAll es, rfl, hfn, hA1, hsm, hirr, hB1, hB2, hbw, by have := size_le r0; omega, HX⟩
  case round =>
    clear hA1 hB1 hB2 hbw HX hsm hirr
    obtain ⟨wo, rfl⟩ : ∃ wo : World, wo = wr := ⟨_, rfl⟩
    obtain ⟨rest, f, A, rfl, hrl, hA, hS, hI, hB1, hB2, hb, hf, HX⟩ := hrel
    by_cases hr0 : rest = 0
    · subst hr0
      have hbe : (((0 : Nat) : Int) != 0) = false := rfl
      have he : extend (readAll es) n = A := by rw [HX.out, extFrom_zero]
      have HE := Lib.hid he
      have c0 := hB1.cell 0
      have d0 := hB2.cell 0
      have d1 := hB2.cell 1
      have f0 := hB2.frozen 0
      have f1 := hB2.frozen 1
      simp at c0 d0 d1
      clear he HX
      go_wp2_with (go_at_call 41; refine (write_any g n A wo hA hS hn (hT.below hb hT.1)).mono ?_; rintro e w2 ⟨F, d, rfl, hFd, hF, hb2⟩
                   have e0 := keep_cell hb2 d0
                   have e1 := keep_cell hb2 d1
                   have g0 := (hb2.frozen (p := ⟨w.heap.size + 1, 0, none⟩) (Blk.lt hB2)).trans f0
                   have g1 := (hb2.frozen (p := ⟨w.heap.size + 1, 1, none⟩) (Blk.lt hB2)).trans f1)
      refine bodyPost_ret (v := .tuple #[.agg #[.int .i64 n, .slice F (writeEdges A n).length d], .int .i64 0]) (by simp [results, Tryd.results25, go_sem, e0, e1]) rfl ?_
      rw [HE.out]
      have hlo : w.heap.size + 1 < wo.heap.size := Blk.lt hB2
      refine ⟨F, d, rfl, ?_, ((below_all hb hb2).setCell (by simp) _).setCell (by simp) _⟩
      exact own_base (ownsRow_setCell_below (ownsRow_setCell_below hF (by simpa using hlo) _) (by simpa using hlo) _) (by have := hb.size; omega)
    · have hr1 : ((rest : Int) != 0) = true := by simp; exact hr0
      have hvb : ∀ x ∈ verts rest, x < 64 := fun x hx => (mem_verts.1 hx).1
      have hvl : (verts rest).length ≤ 64 := size_le rest
      obtain ⟨f, rfl⟩ : ∃ q, f = q + 1 := ⟨f - 1, by omega⟩
      have hne : verts rest ≠ [] := by rw [(verts_cons rest hrl hr0).1]; simp
      obtain ⟨b, la, lb, hab, hmin, -, -⟩ := (minOf_spec A rest hI _ (verts rest) hvb rfl).resolve_left hne
      have hbm : b ∈ verts rest := by rw [hab]; simp
      have hb64 := hvb b hbm
      have hbt := (mem_verts.1 hbm).2
      obtain ⟨hlt1, hlt2⟩ := bclr_less hb64 hbt
      have HX2 : Hid (extend (readAll es) n = extFrom f (fill (A b &&& rest) (verts (A b &&& rest)) A) (bclr rest b)) := by
        refine Lib.hid ?_
        rw [HX.out, extFrom, if_neg hr0]
        unfold elim
        rw [hmin]; rfl
      have HM := Lib.hid hmin
      clear hne hab hmin hbm HX hr0
      go_wp2_with (go_at_call 54; refine (verts_any _ _ hrl (hT.below hb hT.1)).mono ?_; rintro e w2 ⟨V, cv, rfl, hVc, hV, hb2⟩)
      have hVr := Sl.own hV
      have hA2 := hA.keep hb2 (Blk.lt hA)
      have hB12 := hB1.keep hb2 (Blk.lt hB1)
      have hB22 := hB2.keep hb2 (Blk.lt hB2)
      have hbw2 := below_all hb hb2
      clear hV hA hB1 hB2 hb hb2 hVc
      generalize verts rest = l at HM hvb hvl hVr ⊢
      go_loop [31, 7, 8] (fun i q m => ∃ j : Nat, i = .int .i64 j ∧ j ≤ l.length ∧ q = .int .i64 (minOf A rest (l.take j)).1 ∧ m = .int .i64 (minOf A rest (l.take j)).2) (fun i _ _ => l.length - (intOf i).toNat)
      case atStart => exact ⟨0, rfl, Nat.zero_le _, rfl, rfl⟩
      case round =>
        obtain ⟨j, rfl, hj, rfl, rfl⟩ := hrel
        by_cases hjl : j < l.length
        · obtain ⟨ad, rfl, hc⟩ := Nats.at hVr hjl
          have hv64 := hvb l[j] (List.getElem_mem _)
          have HT : Hid (minOf A rest (l.take (j + 1)) = minStep A rest (minOf A rest (l.take j)) l[j]) := Lib.hid (by rw [List.take_succ_eq_append_getElem hjl, minOf_snoc])
          generalize l[j] = v at hc hv64 HT
          obtain ⟨bb, mm, hbm⟩ : ∃ bb mm : Int, minOf A rest (l.take j) = (bb, mm) := ⟨_, _, rfl⟩
          rw [hbm] at HT ⊢
          clear hbm
          have hca := AdjAt.cell hA2 hv64
          have hand := u64_and_nat (A v) rest (hS v) hrl
          have hal := and_lt rest (hS v)
          have hsz : size (A v &&& rest) ≤ 64 := size_le _
          unfold minStep at HT
          generalize hq : size (A v &&& rest) = q at HT hsz
          have HQ := Lib.hid hq
          clear hq
          simp only at HT ⊢
          by_cases h2 : (q : Int) < mm
          · have hN : minOf A rest (l.take (j + 1)) = ((v : Int), (q : Int)) := by rw [HT.out, if_pos h2]
            have HN := Lib.hid hN
            have h2' : decide ((q : Int) < mm) = true := by simpa using h2
            clear HT hN
            go_wp2_with (go_at_call 61; refine (size_any _ _ hal).mono ?_; rintro e w' ⟨rfl, rfl⟩; rw [HQ.out])
            go_round
            case rel => exact ⟨j + 1, by go_num, by omega, by rw [HN.out], by rw [HN.out]⟩
            case measure => simp [intOf]; omega
          · have hN : minOf A rest (l.take (j + 1)) = (bb, mm) := by rw [HT.out, if_neg h2]
            have HN := Lib.hid hN
            have h2' : decide ((q : Int) < mm) = false := by simpa using h2
            clear HT hN
            go_wp2_with (go_at_call 61; refine (size_any _ _ hal).mono ?_; rintro e w' ⟨rfl, rfl⟩; rw [HQ.out])
            go_round
            case rel => exact ⟨j + 1, by go_num, by omega, by rw [HN.out], by rw [HN.out]⟩
            case measure => simp [intOf]; omega
        · obtain rfl : j = l.length := by omega
          rw [List.take_length, HM.out]
          simp only
          have hca := AdjAt.cell hA2 hb64
          have hand := u64_and_nat (A b) rest (hS b) hrl
          have hal := and_lt rest (hS b)
          generalize A b &&& rest = ar at HX2 hand hal
          have hvb2 : ∀ x ∈ verts ar, x < 64 := fun x hx => (mem_verts.1 hx).1
          have hvl2 : (verts ar).length ≤ 64 := size_le ar
          clear HM hvb hvl hVr
          go_wp2_with (go_at_call 54; refine (verts_any _ _ hal (hT.below hbw2 hT.1)).mono ?_; rintro e w3 ⟨V2, cv2, rfl, hVc2, hV2, hb3⟩)
          have hA3 := hA2.keep hb3 (Blk.lt hA2)
          have hB13 := hB12.keep hb3 (Blk.lt hB12)
          have hB23 := hB22.keep hb3 (Blk.lt hB22)
          have hbw3 := below_all hbw2 hb3
          have hgl : g < w2.heap.size := Blk.lt hA2
          have hwl := hbw2.size
          clear hA2 hB12 hB22 hbw2 hb3 hVc2 hca hand
          generalize verts ar = l at HX2 hvb2 hvl2 hV2 ⊢
          go_loopw [55] (fun i wr => ∃ j : Nat, i = .int .i64 j ∧ j ≤ l.length ∧ AdjAt wr g (fill ar (l.take j) A) ∧ Blk wr w.heap.size 25 #[.int .i64 n, .slice E es.length c] ∧ Blk wr (w.heap.size + 1) 25 #[.int .i64 0, .slice none 0 0] ∧
              wr.ownsRow w2.heap.size 3 1 (.slice V2 l.length cv2) l.length (l.map vn) ∧ Below w.heap.size w wr) (fun i _ => l.length - (intOf i).toNat)
          case atStart => exact ⟨0, rfl, Nat.zero_le _, hA3, hB13, hB23, hV2, hbw3⟩
          case round =>
            clear hA3 hB13 hB23 hV2 hbw3
            obtain ⟨j, rfl, hj, hA, hB1, hB2, hV, hb⟩ := hrel
            by_cases hjl : j < l.length
            · obtain ⟨ad, rfl, hc⟩ := Nats.at (Sl.own hV) hjl
              have hv64 := hvb2 l[j] (List.getElem_mem _)
              have HT : Hid (fill ar (l.take (j + 1)) A = upd (fill ar (l.take j) A) l[j] (fill ar (l.take j) A l[j] ||| bclr ar l[j])) := Lib.hid (by rw [List.take_succ_eq_append_getElem hjl, fill_snoc]; rfl)
              have hSj := fill_small hal (l.take j) hS
              generalize l[j] = v at hc hv64 HT
              generalize fill ar (l.take j) A = A2 at HT hA hSj
              have hca := AdjAt.cell hA hv64
              have hfz := Blk.frozen hA v
              have hcl := bclr_lt v hal
              have hor := u64_or_nat (A2 v) (bclr ar v) (hSj v) hcl
              have hk0 : (0 : Int) ≤ (v : Int) := by omega
              have hk1 : (v : Int) < 64 := by omega
              go_wp2
              go_region_with (go_at_call 64; refine (without_any _ _ _ hal hv64).mono ?_; rintro e w' ⟨rfl, rfl⟩)
              all_goals
                go_wp2
                go_roundw
                case rel =>
                  refine ⟨j + 1, by go_num, by omega, ?_, ?_, ?_, ?_, (hb.setCell (by simp; omega) _).drew⟩
                  · rw [HT.out]
                    exact Blk.drew (AdjAt.set hA hv64 _)
                  · exact Blk.drew (hB1.far (by simp; omega) _)
                  · exact Blk.drew (hB2.far (by simp; omega) _)
                  · exact own_setFar hV hgl v _
                case measure => simp [intOf]; omega
            · obtain rfl : j = l.length := by omega
              rw [List.take_length] at hA
              go_wp2_with (go_at_call 64; refine (without_any _ _ _ hrl hb64).mono ?_; rintro e w' ⟨rfl, rfl⟩)
              go_roundw
              case rel => exact ⟨bclr rest b, f, _, rfl, bclr_lt b hrl, hA, fill_small hal _ hS, fill_irr _ hvb2 hI, hB1, hB2, hb, by omega, HX2⟩
              case measure => simp [intOf]; omega
end Go.Proofs.Tg
