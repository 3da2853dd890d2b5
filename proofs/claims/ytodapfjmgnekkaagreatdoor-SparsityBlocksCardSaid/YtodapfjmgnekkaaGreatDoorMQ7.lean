/- Parts of the proof: GXE, GWJ, GWK, GSort, GWL, GWO. -/
import Derived.Lib.Tables
import Derived.Laws.MathBits
import Derived.Test.YtodapfjmgnekkaaGreatDoorMQ5
import Derived.Test.YtodapfjmgnekkaaGreatDoorMQ6
section
/- The reference's Common. -/
namespace Go.Proofs.Tg.Gx
open Go.RowKit Go.Gr
set_option maxHeartbeats 1000000
set_option maxRecDepth 100000
theorem drew_more {w wr : World} (h : Hid (∃ n, wr = w.drewN n)) (k : Nat) : Hid (∃ n, wr.drewN k = w.drewN n) := by
  obtain ⟨n, hn⟩ := h.out
  exact Lib.hid ⟨n + k, by rw [hn, World.drewN_drewN]⟩
theorem common_any (A B : Option Addr) (a b : List Int) (c d : Nat) (w : World) (hA : Ints w A a) (hB : Ints w B b) (hal : a.length ≤ 1000) (hbl : b.length ≤ 1000) :
    Calls Tryz.prog 121 #[.slice A a.length c, .slice B b.length d] w fun e w' => e = .returned (.int .i64 (common a b : Nat)) ∧ ∃ n, w' = w.drewN n := by
  go_enter Tryz.func121, Tryz.ntmps121
  go_wp2
  go_loopw [6, 5] (fun i s wr => ∃ k x : Nat, i = .int .i64 k ∧ k ≤ a.length ∧ s = .int .i64 x ∧ x ≤ 1000 * k ∧ Hid (x = common (a.take k) b) ∧ Below w.heap.size w wr ∧ Hid (∃ n, wr = w.drewN n)) (fun i _ _ => a.length - (intOf i).toNat)
  case atStart => exact ⟨0, 0, rfl, Nat.zero_le _, rfl, Nat.zero_le _, Lib.hid (by simp [common]), Below.refl _ _, Lib.hid ⟨0, rfl⟩⟩
  case round =>
    obtain ⟨wo, rfl⟩ : ∃ wo : World, wo = wr := ⟨_, rfl⟩
    obtain ⟨k, x, rfl, hk, rfl, hx, HX, hb, HD⟩ := hrel
    by_cases hkl : k < a.length
    · have hkb : decide ((k : Int) < (a.length : Int)) = true := by simp; omega
      have HS : Hid (common (a.take (k + 1)) b = common (a.take k) b + b.count a[k]) := Lib.hid (by rw [List.take_succ_eq_append_getElem hkl, common_snoc])
      obtain ⟨ad, rfl, hc⟩ := Ints.at hA hkl
      generalize a[k] = v at HS hc
      go_wp2
      go_loopw [7, 5] (fun j s wr => ∃ q y : Nat, j = .int .i64 q ∧ q ≤ b.length ∧ s = .int .i64 y ∧ y ≤ x + q ∧ Hid (y = x + (b.take q).count v) ∧ Below w.heap.size w wr ∧ Hid (∃ n, wr = w.drewN n)) (fun j _ _ => b.length - (intOf j).toNat)
      case atStart => exact ⟨0, x, rfl, Nat.zero_le _, rfl, by omega, Lib.hid (by simp), hb, HD⟩
      case round =>
        clear hb HD
        obtain ⟨q, y, rfl, hq, rfl, hy, HY, hb, HD⟩ := hrel
        by_cases hql : q < b.length
        · have hqb : decide ((q : Int) < (b.length : Int)) = true := by simp; omega
          have HT : Hid ((b.take (q + 1)).count v = (b.take q).count v + if b[q] = v then 1 else 0) := Lib.hid (by rw [List.take_succ_eq_append_getElem hql, count_snoc])
          obtain ⟨bd, rfl, hd⟩ := Ints.at hB hql
          generalize b[q] = u at HT hd
          have hc' := (hb.cell (World.block_lt_of_cell? w _ hc)).trans hc
          have hd' := (hb.cell (World.block_lt_of_cell? w _ hd)).trans hd
          have k0 : (0 : Int) ≤ (k : Int) := by omega
          have k1 : (k : Int) < (a.length : Int) := by omega
          have q0 : (0 : Int) ≤ (q : Int) := by omega
          have q1 : (q : Int) < (b.length : Int) := by omega
          clear hc hd hA hB
          by_cases huv : u = v
          · subst huv
            have HT2 : Hid (y + 1 = x + (b.take (q + 1)).count u) := Lib.hid (by rw [HT.out, if_pos rfl, HY.out]; omega)
            clear HT HY
            go_wp2
            go_quiet (fail)
            go_wp2
            go_roundw
            case rel => exact ⟨q + 1, y + 1, by go_num, by omega, by go_num, by omega, HT2, below_drewN hb _, drew_more HD _⟩
            case measure => simp [intOf]; omega
          · have hbe : (v == u) = false := by simp; omega
            have HT2 : Hid (y = x + (b.take (q + 1)).count v) := Lib.hid (by rw [HT.out, if_neg huv, HY.out]; omega)
            clear HT HY huv
            go_wp2
            go_quiet (fail)
            go_wp2
            go_roundw
            case rel => exact ⟨q + 1, y, by go_num, by omega, rfl, by omega, HT2, below_drewN hb _, drew_more HD _⟩
            case measure => simp [intOf]; omega
        · obtain rfl : q = b.length := by omega
          have hqb : decide ((b.length : Int) < (b.length : Int)) = false := by simp
          have HF : Hid (y = common (a.take (k + 1)) b) := Lib.hid (by rw [HS.out, ← HX.out, HY.out, List.take_length])
          clear HS HY HX
          go_wp2
          go_roundw
          case rel => exact ⟨k + 1, y, by go_num, by omega, rfl, by omega, HF, hb, HD⟩
          case measure => simp [intOf]; omega
    · obtain rfl : k = a.length := by omega
      have HF : Hid (x = common a b) := Lib.hid (by rw [HX.out, List.take_length])
      go_wp2
      go_ret
      exact ⟨by rw [HF.out]; rfl, HD.out⟩
end Go.Proofs.Tg.Gx
end
section
/- Extend. -/
namespace Go.Gr
theorem extFrom_zero (f : Nat) (A : Nat → Nat) : extFrom f A 0 = A := by cases f <;> simp [extFrom]
end Go.Gr
namespace Go.Proofs.Tg.Gx
open Go.RowKit Go.Gr
set_option maxHeartbeats 1000000
set_option maxRecDepth 100000
theorem own_setFar {w : World} {b g n c : Nat} {t : TypeId} {V : Option Addr} {xs : List Value} (h : w.ownsRow b t 1 (.slice V n c) n xs) (hg : g < b) (i : Nat) (u : Value) : (w.setCell ⟨g, i, none⟩ u).ownsRow b t 1 (.slice V n c) n xs :=
  own_far h (fun e => by have := (h.lt g e.symm).1; omega) u
theorem extend_ok (n : Nat) (E : Option Addr) (c : Nat) (es : List (Int × Int)) (w : World) (hE : EdgesAt w E es) (hl : es.length ≤ 1000000) (hv : valid n es) (hT : Tab w) :
    Calls Tryz.prog 61 #[.agg #[.int .i64 n, .slice E es.length c]] w fun e w' => ∃ F d, e = .returned (.tuple #[.agg #[.int .i64 n, .slice F (writeEdges (extend (readAll es) n) n).length d], .int .i64 0]) ∧
      w'.ownsRow w.heap.size 83 2 (.slice F (writeEdges (extend (readAll es) n) n).length d) (writeEdges (extend (readAll es) n) n).length (ecells (writeEdges (extend (readAll es) n) n)) ∧ Below w.heap.size w w' := by
  have hr := read_all n E c es true ((w.alloc (.cells #[.int .i64 n, .slice E es.length c] 40)).alloc (.cells #[.int .i64 0, .slice none 0 0] 40)) (hE.keep (((Below.refl _ _).alloc (Nat.le_refl _) _).alloc (by simp) _)) hl (by simp [hv])
  obtain ⟨hsm, hirr⟩ := readAll_small es n hv
  have hn : n ≤ 64 := by have := hv.2.1; omega
  have hbA : Below w.heap.size w ((w.alloc (.cells #[.int .i64 n, .slice E es.length c] 40)).alloc (.cells #[.int .i64 0, .slice none 0 0] 40)) := ((Below.refl _ _).alloc (Nat.le_refl _) _).alloc (by simp) _
  have hB := (Blk.new w 40 #[.int .i64 n, .slice E es.length c]).alloc (.cells #[.int .i64 0, .slice none 0 0] 40)
  have hB2 : Blk ((w.alloc (.cells #[.int .i64 n, .slice E es.length c] 40)).alloc (.cells #[.int .i64 0, .slice none 0 0] 40)) (w.heap.size + 1) 40 #[.int .i64 0, .slice none 0 0] := by
    have := Blk.new (w.alloc (.cells #[.int .i64 n, .slice E es.length c] 40)) 40 #[.int .i64 0, .slice none 0 0]
    simpa using this
  have HR := Lib.hid hr
  have HB := Lib.hid (And.intro hB hB2)
  clear hr hv hB hB2
  go_enter Tryz.func61, Tryz.ntmps61
  go_wp2_with (first
    | (go_at_call 45; refine HR.out.mono ?_; rintro e w1 ⟨A, hAs, rfl, hAe, hb1⟩; obtain rfl := hAe rfl; clear hAe hAs)
    | (refine adj_alloc _ _ _ _ ?_)
    | (refine wpList_store_row rfl 89 (.tmp 4) (.tmp 18) rfl w1.heap.size (adjA (readAll es)) rfl rfl 89 (adjA fun _ => 0) (Blk.new w1 89 _) (size56 _) (by simp only [adjA_size]) (adj_one _) ?_
       have hz1 : w.heap.size + 2 ≤ w1.heap.size := by have := hb1.size; simp at this; omega
       have hA1 := blk_setRow (Blk.new w1 89 (adjA fun _ => 0)) (adjA (readAll es))
       have hB1 := blk_setRow_far (Blk.alloc (HB.out.1.keep hb1 (Blk.lt HB.out.1)) (.cells (adjA fun _ => 0) 89)) (g' := w1.heap.size) (by omega) (adjA (readAll es))
       have hB2 := blk_setRow_far (Blk.alloc (HB.out.2.keep hb1 (Blk.lt HB.out.2)) (.cells (adjA fun _ => 0) 89)) (g' := w1.heap.size) (by omega) (adjA (readAll es))
       have hbw := below_setRow ((hbA.trans (hb1.mono (by simp; omega))).alloc (by omega) (.cells (adjA fun _ => 0) 89)) (g := w1.heap.size) (by omega) (adjA (readAll es))
       have c0 := hB1.cell 0
       simp at c0
       generalize (w1.alloc (.cells (adjA fun _ => 0) 89)).setRow w1.heap.size (adjA (readAll es)) = W at hA1 hB1 hB2 hbw c0 ⊢
       generalize w1.heap.size = g at hA1 hz1 ⊢
       clear hb1)
    | (go_at_call 89; refine (first_any _ _ hn).mono ?_; rintro e w' ⟨rfl, rfl⟩))
  clear HR HB hbA c0
  have HX : Hid (extend (readAll es) n = extFrom 65 (readAll es) (firstN n)) := Lib.hid rfl
  have hfn := firstN_lt hn
  generalize firstN n = r0 at HX hfn ⊢
  go_loopw [6] (fun t wr => ∃ (rest f : Nat) (A : Nat → Nat), t = .int .u64 rest ∧ rest < 18446744073709551616 ∧ AdjAt wr g A ∧ Small A ∧ Irr A ∧ Blk wr w.heap.size 40 #[.int .i64 n, .slice E es.length c] ∧ Blk wr (w.heap.size + 1) 40 #[.int .i64 0, .slice none 0 0] ∧
      Below w.heap.size w wr ∧ size rest < f ∧ Hid (extend (readAll es) n = extFrom f A rest)) (fun t _ => (intOf t).toNat)
  case atStart => exact ⟨r0, 65, readAll es, rfl, hfn, hA1, hsm, hirr, hB1, hB2, hbw, by have := size_le r0; omega, HX⟩
  case round =>
    clear hA1 hB1 hB2 hbw HX hsm hirr
    obtain ⟨wo, rfl⟩ : ∃ wo : World, wo = wr := ⟨_, rfl⟩
    obtain ⟨rest, f, A, rfl, hrl, hA, hS, hI, hB1, hB2, hb, hf, HX⟩ := hrel
    by_cases hr0 : rest = 0
    · subst hr0
      have hbe : (((0 : Nat) : Int) != 0) = false := rfl
      have he : extend (readAll es) n = A := by rw [HX.out, extFrom_zero]
      have HE := Lib.hid he
      have c0 := hB1.cell 0
      have d0 := hB2.cell 0
      have d1 := hB2.cell 1
      have f0 := hB2.frozen 0
      have f1 := hB2.frozen 1
      simp at c0 d0 d1
      clear he HX
      go_wp2_with (go_at_call 88; refine (write_any g n A wo hA hS hn (hT.below hb hT.1)).mono ?_; rintro e w2 ⟨F, d, rfl, hFd, hF, hb2⟩
                   have e0 := keep_cell hb2 d0
                   have e1 := keep_cell hb2 d1
                   have g0 := (hb2.frozen (p := ⟨w.heap.size + 1, 0, none⟩) (Blk.lt hB2)).trans f0
                   have g1 := (hb2.frozen (p := ⟨w.heap.size + 1, 1, none⟩) (Blk.lt hB2)).trans f1)
      refine bodyPost_ret (v := .tuple #[.agg #[.int .i64 n, .slice F (writeEdges A n).length d], .int .i64 0]) (by simp [results, Tryz.results61, go_sem, e0, e1]) rfl ?_
      rw [HE.out]
      have hlo : w.heap.size + 1 < wo.heap.size := Blk.lt hB2
      refine ⟨F, d, rfl, ?_, ((below_all hb hb2).setCell (by simp) _).setCell (by simp) _⟩
      exact own_base (ownsRow_setCell_below (ownsRow_setCell_below hF (by simpa using hlo) _) (by simpa using hlo) _) (by have := hb.size; omega)
    · have hr1 : ((rest : Int) != 0) = true := by simp; exact hr0
      have hvb : ∀ x ∈ verts rest, x < 64 := fun x hx => (mem_verts.1 hx).1
      have hvl : (verts rest).length ≤ 64 := size_le rest
      obtain ⟨f, rfl⟩ : ∃ q, f = q + 1 := ⟨f - 1, by omega⟩
      have hne : verts rest ≠ [] := by rw [(verts_cons rest hrl hr0).1]; simp
      obtain ⟨b, la, lb, hab, hmin, -, -⟩ := (minOf_spec A rest hI _ (verts rest) hvb rfl).resolve_left hne
      have hbm : b ∈ verts rest := by rw [hab]; simp
      have hb64 := hvb b hbm
      have hbt := (mem_verts.1 hbm).2
      obtain ⟨hlt1, hlt2⟩ := bclr_less hb64 hbt
      have HX2 : Hid (extend (readAll es) n = extFrom f (fill (A b &&& rest) (verts (A b &&& rest)) A) (bclr rest b)) := by
        refine Lib.hid ?_
        rw [HX.out, extFrom, if_neg hr0]
        unfold elim
        rw [hmin]; rfl
      have HM := Lib.hid hmin
      clear hne hab hmin hbm HX hr0
      go_wp2_with (go_at_call 48; refine (verts_any _ _ hrl (hT.below hb hT.1)).mono ?_; rintro e w2 ⟨V, cv, rfl, hVc, hV, hb2⟩)
      have hVr := Sl.own hV
      have hA2 := hA.keep hb2 (Blk.lt hA)
      have hB12 := hB1.keep hb2 (Blk.lt hB1)
      have hB22 := hB2.keep hb2 (Blk.lt hB2)
      have hbw2 := below_all hb hb2
      clear hV hA hB1 hB2 hb hb2 hVc
      generalize verts rest = l at HM hvb hvl hVr ⊢
      go_loop [31, 7, 8] (fun i q m => ∃ j : Nat, i = .int .i64 j ∧ j ≤ l.length ∧ q = .int .i64 (minOf A rest (l.take j)).1 ∧ m = .int .i64 (minOf A rest (l.take j)).2) (fun i _ _ => l.length - (intOf i).toNat)
      case atStart => exact ⟨0, rfl, Nat.zero_le _, rfl, rfl⟩
      case round =>
        obtain ⟨j, rfl, hj, rfl, rfl⟩ := hrel
        by_cases hjl : j < l.length
        · obtain ⟨ad, rfl, hc⟩ := Nats.at hVr hjl
          have hv64 := hvb l[j] (List.getElem_mem _)
          have HT : Hid (minOf A rest (l.take (j + 1)) = minStep A rest (minOf A rest (l.take j)) l[j]) := Lib.hid (by rw [List.take_succ_eq_append_getElem hjl, minOf_snoc])
          generalize l[j] = v at hc hv64 HT
          obtain ⟨bb, mm, hbm⟩ : ∃ bb mm : Int, minOf A rest (l.take j) = (bb, mm) := ⟨_, _, rfl⟩
          rw [hbm] at HT ⊢
          clear hbm
          have hca := AdjAt.cell hA2 hv64
          have hand := u64_and_nat (A v) rest (hS v) hrl
          have hal := and_lt rest (hS v)
          have hsz : size (A v &&& rest) ≤ 64 := size_le _
          unfold minStep at HT
          generalize hq : size (A v &&& rest) = q at HT hsz
          have HQ := Lib.hid hq
          clear hq
          simp only at HT ⊢
          by_cases h2 : (q : Int) < mm
          · have hN : minOf A rest (l.take (j + 1)) = ((v : Int), (q : Int)) := by rw [HT.out, if_pos h2]
            have HN := Lib.hid hN
            have h2' : decide ((q : Int) < mm) = true := by simpa using h2
            clear HT hN
            go_wp2_with (go_at_call 90; refine (size_any _ _ hal).mono ?_; rintro e w' ⟨rfl, rfl⟩; rw [HQ.out])
            go_round
            case rel => exact ⟨j + 1, by go_num, by omega, by rw [HN.out], by rw [HN.out]⟩
            case measure => simp [intOf]; omega
          · have hN : minOf A rest (l.take (j + 1)) = (bb, mm) := by rw [HT.out, if_neg h2]
            have HN := Lib.hid hN
            have h2' : decide ((q : Int) < mm) = false := by simpa using h2
            clear HT hN
            go_wp2_with (go_at_call 90; refine (size_any _ _ hal).mono ?_; rintro e w' ⟨rfl, rfl⟩; rw [HQ.out])
            go_round
            case rel => exact ⟨j + 1, by go_num, by omega, by rw [HN.out], by rw [HN.out]⟩
            case measure => simp [intOf]; omega
        · obtain rfl : j = l.length := by omega
          rw [List.take_length, HM.out]
          simp only
          have hca := AdjAt.cell hA2 hb64
          have hand := u64_and_nat (A b) rest (hS b) hrl
          have hal := and_lt rest (hS b)
          generalize A b &&& rest = ar at HX2 hand hal
          have hvb2 : ∀ x ∈ verts ar, x < 64 := fun x hx => (mem_verts.1 hx).1
          have hvl2 : (verts ar).length ≤ 64 := size_le ar
          clear HM hvb hvl hVr
          go_wp2_with (go_at_call 48; refine (verts_any _ _ hal (hT.below hbw2 hT.1)).mono ?_; rintro e w3 ⟨V2, cv2, rfl, hVc2, hV2, hb3⟩)
          have hA3 := hA2.keep hb3 (Blk.lt hA2)
          have hB13 := hB12.keep hb3 (Blk.lt hB12)
          have hB23 := hB22.keep hb3 (Blk.lt hB22)
          have hbw3 := below_all hbw2 hb3
          have hgl : g < w2.heap.size := Blk.lt hA2
          have hwl := hbw2.size
          clear hA2 hB12 hB22 hbw2 hb3 hVc2 hca hand
          generalize verts ar = l at HX2 hvb2 hvl2 hV2 ⊢
          go_loopw [55] (fun i wr => ∃ j : Nat, i = .int .i64 j ∧ j ≤ l.length ∧ AdjAt wr g (fill ar (l.take j) A) ∧ Blk wr w.heap.size 40 #[.int .i64 n, .slice E es.length c] ∧ Blk wr (w.heap.size + 1) 40 #[.int .i64 0, .slice none 0 0] ∧
              wr.ownsRow w2.heap.size 3 1 (.slice V2 l.length cv2) l.length (l.map vn) ∧ Below w.heap.size w wr) (fun i _ => l.length - (intOf i).toNat)
          case atStart => exact ⟨0, rfl, Nat.zero_le _, hA3, hB13, hB23, hV2, hbw3⟩
          case round =>
            clear hA3 hB13 hB23 hV2 hbw3
            obtain ⟨j, rfl, hj, hA, hB1, hB2, hV, hb⟩ := hrel
            by_cases hjl : j < l.length
            · obtain ⟨ad, rfl, hc⟩ := Nats.at (Sl.own hV) hjl
              have hv64 := hvb2 l[j] (List.getElem_mem _)
              have HT : Hid (fill ar (l.take (j + 1)) A = upd (fill ar (l.take j) A) l[j] (fill ar (l.take j) A l[j] ||| bclr ar l[j])) := Lib.hid (by rw [List.take_succ_eq_append_getElem hjl, fill_snoc]; rfl)
              have hSj := fill_small hal (l.take j) hS
              generalize l[j] = v at hc hv64 HT
              generalize fill ar (l.take j) A = A2 at HT hA hSj
              have hca := AdjAt.cell hA hv64
              have hfz := Blk.frozen hA v
              have hcl := bclr_lt v hal
              have hor := u64_or_nat (A2 v) (bclr ar v) (hSj v) hcl
              have hk0 : (0 : Int) ≤ (v : Int) := by omega
              have hk1 : (v : Int) < 64 := by omega
              go_wp2
              go_region_with (go_at_call 91; refine (without_any _ _ _ hal hv64).mono ?_; rintro e w' ⟨rfl, rfl⟩)
              all_goals
                go_wp2
                go_roundw
                case rel =>
                  refine ⟨j + 1, by go_num, by omega, ?_, ?_, ?_, ?_, (hb.setCell (by simp; omega) _).drew⟩
                  · rw [HT.out]
                    exact Blk.drew (AdjAt.set hA hv64 _)
                  · exact Blk.drew (hB1.far (by simp; omega) _)
                  · exact Blk.drew (hB2.far (by simp; omega) _)
                  · exact own_setFar hV hgl v _
                case measure => simp [intOf]; omega
            · obtain rfl : j = l.length := by omega
              rw [List.take_length] at hA
              go_wp2_with (go_at_call 91; refine (without_any _ _ _ hrl hb64).mono ?_; rintro e w' ⟨rfl, rfl⟩)
              go_roundw
              case rel => exact ⟨bclr rest b, f, _, rfl, bclr_lt b hrl, hA, fill_small hal _ hS, fill_irr _ hvb2 hI, hB1, hB2, hb, by omega, HX2⟩
              case measure => simp [intOf]; omega
end Go.Proofs.Tg.Gx
end
section
/- Reading a set; the tree of cliques. -/
namespace Go.Proofs.Tg.Gx
open Go.RowKit Go.Gr
set_option maxHeartbeats 1000000
set_option maxRecDepth 100000
def RetSet (b : Bool) (l : List Int) (w : World) (e : Ending) (w' : World) : Prop := ∃ s : Nat, e = .returned (.tuple #[.int .u64 s, .bool b]) ∧ (b = true → s = setOf l) ∧ w = w'
/-- A slice of slices of numbers. -/
def Lists (w : World) (V : Option Addr) (ls : List (List Int)) : Prop :=
  ∃ f : Nat → Option Addr × Nat, Sl w V ls.length 1 ((List.range ls.length).map fun i => .slice (f i).1 (ls.getD i []).length (f i).2) ∧ ∀ i, i < ls.length → Ints w (f i).1 (ls.getD i [])
theorem Lists.keep {w w' : World} {V : Option Addr} {ls : List (List Int)} (h : Lists w V ls) (hb : Below w.heap.size w w') : Lists w' V ls := by
  obtain ⟨f, hs, hr⟩ := h
  exact ⟨f, hs.keep hb, fun i hi => (hr i hi).keep hb⟩
theorem Lists.at {w : World} {V : Option Addr} {ls : List (List Int)} (h : Lists w V ls) {k : Nat} (hk : k < ls.length) : ∃ ad A c, V = some ad ∧ w.cell? (ad.add k) = some (.slice A ls[k].length c) ∧ Ints w A ls[k] := by
  obtain ⟨f, hs, hr⟩ := h
  obtain ⟨ad, rfl, hc⟩ := Sl.at1 hs hk
  have e : ls.getD k [] = ls[k] := by simp [hk]
  have hi := hr k hk
  rw [e] at hi
  refine ⟨ad, (f k).1, (f k).2, rfl, ?_, hi⟩
  rw [hc]
  simp [hk]
def iarr (l : List Int) : Array Value := (l.map vi).toArray
theorem iarr_made (n : Nat) : madeCells #[.int .i64 0] n = iarr (List.replicate n 0) := by
  apply Array.ext
  · simp [iarr, size_madeCells]
  · intro i h1 h2
    simp [madeCells, iarr, vi, Nat.mod_one]
theorem iarr_set (l : List Int) (k : Nat) (s : Int) : (iarr l).setIfInBounds k (.int .i64 s) = iarr (l.set k s) := by
  simp [iarr, List.map_set, vi]
theorem iarr_at (l : List Int) {k : Nat} (hk : k < l.length) : (iarr l)[k]? = some (.int .i64 l[k]) := by simp [iarr, hk, vi]
theorem sarr_at (l : List Nat) {k : Nat} (hk : k < l.length) : (sarr l)[k]? = some (.int .u64 (l[k] : Nat)) := by simp [sarr, hk, vs]
theorem own_iarr {w : World} {b g n : Nat} {l : List Int} (h : Blk w g 3 (iarr l)) (hb : b ≤ g) (hn : l.length = n) (hm : n ≤ 1000000) : w.ownsRow b 3 1 (.slice (some ⟨g, 0, none⟩) n n) n (l.map vi) :=
  ⟨by simp [hn], .inr ⟨g, n, _, rfl, hb, h, Nat.le_refl _, by simp only [maxLen]; omega, by simp [iarr, hn], by rw [← hn]; simp only [iarr, Nat.mul_one]; exact List.take_of_length_le (by simp)⟩⟩
def RetTree (ls : List (List Int)) (w : World) (e : Ending) (w' : World) : Prop :=
  ∃ A c, e = .returned (.tuple #[.slice A ls.length c, .int .i64 0]) ∧ w'.ownsRow w.heap.size 3 1 (.slice A ls.length c) ls.length ((tree (ls.map setOf)).map vi) ∧ Below w.heap.size w w'
theorem set_midI (l : List Int) (m k : Nat) (s z : Int) (hk : l.length = k) (hm : 0 < m) : (l ++ List.replicate m z).set k s = (l ++ [s]) ++ List.replicate (m - 1) z := by
  subst hk
  obtain ⟨m, rfl⟩ : ∃ q, m = q + 1 := ⟨m - 1, by omega⟩
  simp [List.replicate_succ]
theorem mid_atI (l : List Int) (m k : Nat) (z : Int) (hk : l.length = k) (hm : 0 < m) : (iarr (l ++ List.replicate m z))[k]? = some (.int .i64 z) := by
  have : (l ++ List.replicate m z)[k]? = some z := by
    rw [List.getElem?_append_right (by omega), hk, Nat.sub_self, List.getElem?_replicate, if_pos (by omega)]
  rw [iarr, List.getElem?_toArray, List.getElem?_map, this]; rfl
theorem mid_atS (l : List Nat) (m k : Nat) (hk : l.length = k) (hm : 0 < m) : (sarr (l ++ List.replicate m 0))[k]? = some (.int .u64 0) := by
  have : (l ++ List.replicate m 0)[k]? = some 0 := by
    rw [List.getElem?_append_right (by omega), hk, Nat.sub_self, List.getElem?_replicate, if_pos (by omega)]
  rw [sarr, List.getElem?_toArray, List.getElem?_map, this]; rfl
theorem with0 (w : World) : Calls Tryz.prog 47 #[.int .u64 0, .int .i64 0] w fun e w' => e = .returned (.int .u64 (bset 0 0 : Nat)) ∧ w = w' := with_any 0 0 w (by omega) (by omega)
theorem treeTo_len (sets : List Nat) : ∀ r, (treeTo sets r).2.length = sets.length
  | 0 => by simp [treeTo]
  | r + 1 => by
    simp only [treeTo]
    split
    · simp [treeTo_len sets r]
    · exact treeTo_len sets r
theorem sarr_getD (l : List Nat) {k : Nat} (hk : k < l.length) : (sarr l)[k]? = some (.int .u64 (l.getD k 0 : Nat)) := by simp [sarr, hk, vs]
end Go.Proofs.Tg.Gx
end
section
/- Plain mathematics of an insertion sort by exchanges. -/
namespace Go.Gr
/-- The elements j - 1 and j are exchanged. -/
def swp (l : List Nat) (j : Nat) : List Nat := (l.set j (l.getD (j - 1) 0)).set (j - 1) (l.getD j 0)
theorem swp_len (l : List Nat) (j : Nat) : (swp l j).length = l.length := by simp [swp]
theorem swp_at {l : List Nat} {j : Nat} (h0 : 0 < j) (hj : j < l.length) (k : Nat) : (swp l j).getD k 0 = if k = j - 1 then l.getD j 0 else if k = j then l.getD (j - 1) 0 else l.getD k 0 := by
  unfold swp
  by_cases hk : k < l.length
  · simp only [List.getD_eq_getElem?_getD]
    rw [List.getElem?_set]
    by_cases h1 : j - 1 = k
    · rw [if_pos h1, if_pos (by simp; omega), if_pos h1.symm]; rfl
    · rw [if_neg h1, if_neg (fun e => h1 e.symm), List.getElem?_set]
      by_cases h2 : j = k
      · rw [if_pos h2, if_pos (by omega), if_pos h2.symm]; rfl
      · rw [if_neg h2, if_neg (fun e => h2 e.symm)]
  · have h1 : (((l.set j (l.getD (j - 1) 0)).set (j - 1) (l.getD j 0)).getD k 0) = 0 := by
      rw [List.getD_eq_getElem?_getD, List.getElem?_eq_none (by simp; omega)]; rfl
    rw [h1, if_neg (by omega), if_neg (by omega), List.getD_eq_getElem?_getD, List.getElem?_eq_none (by omega)]; rfl
theorem swp_perm {l : List Nat} {j : Nat} (h0 : 0 < j) (hj : j < l.length) : (swp l j).Perm l := by
  obtain ⟨a, x, y, b, rfl, ha⟩ : ∃ a x y b, l = a ++ x :: y :: b ∧ a.length = j - 1 := by
    refine ⟨l.take (j - 1), l[j - 1], l[j], l.drop (j + 1), ?_, by simp; omega⟩
    have h1 : l.drop (j - 1) = l[j - 1] :: l.drop j := by
      rw [List.drop_eq_getElem_cons (by omega), show j - 1 + 1 = j by omega]
    have h2 : l.drop j = l[j] :: l.drop (j + 1) := List.drop_eq_getElem_cons hj
    rw [← h2, ← h1, List.take_append_drop]
  have e : swp (a ++ x :: y :: b) j = a ++ y :: x :: b := by
    apply List.ext_getElem?
    intro k
    have hl : (swp (a ++ x :: y :: b) j).length = (a ++ y :: x :: b).length := by simp [swp_len]
    by_cases hk : k < (a ++ x :: y :: b).length
    · have := swp_at h0 hj k
      have g1 : (swp (a ++ x :: y :: b) j)[k]? = some ((swp (a ++ x :: y :: b) j).getD k 0) := by
        rw [List.getD_eq_getElem?_getD, List.getElem?_eq_getElem (by rw [swp_len]; exact hk)]; rfl
      rw [g1, this]
      have hx : (a ++ x :: y :: b).getD (j - 1) 0 = x := by rw [List.getD_eq_getElem?_getD, List.getElem?_append_right (by omega), ha, Nat.sub_self]; rfl
      have hy : (a ++ x :: y :: b).getD j 0 = y := by rw [List.getD_eq_getElem?_getD, List.getElem?_append_right (by omega), ha, show j - (j - 1) = 1 by omega]; rfl
      rw [hx, hy]
      by_cases e1 : k = j - 1
      · rw [if_pos e1, e1, List.getElem?_append_right (by omega), ha, Nat.sub_self]; rfl
      · by_cases e2 : k = j
        · rw [if_neg e1, if_pos e2, e2, List.getElem?_append_right (by omega), ha, show j - (j - 1) = 1 by omega]; rfl
        · rw [if_neg e1, if_neg e2, List.getD_eq_getElem?_getD]
          by_cases e3 : k < a.length
          · rw [List.getElem?_append_left e3, List.getElem?_append_left e3, List.getElem?_eq_getElem e3]; rfl
          · rw [List.getElem?_append_right (by omega), List.getElem?_append_right (by omega)]
            obtain ⟨q, hq⟩ : ∃ q, k - a.length = q + 2 := ⟨k - a.length - 2, by omega⟩
            rw [hq]
            simp only [List.getElem?_cons_succ]
            rw [List.getElem?_eq_getElem (by simp at hk; omega)]; rfl
    · rw [List.getElem?_eq_none (by rw [swp_len]; omega), List.getElem?_eq_none (by simp at hk ⊢; omega)]
  rw [e]
  exact List.Perm.append_left a (List.Perm.swap x y b)

/-- 'less' by a comparison, in every pair of indexes below i but those that end in j. -/
def sortedBut (cf : Nat → Nat → Int) (l : List Nat) (i j : Nat) : Prop := ∀ a b, a < b → b ≤ i → b ≠ j → ¬ cf (l.getD b 0) (l.getD a 0) < 0
def sortedTo (cf : Nat → Nat → Int) (l : List Nat) (i : Nat) : Prop := ∀ a b, a < b → b < i → ¬ cf (l.getD b 0) (l.getD a 0) < 0
structure Weak (cf : Nat → Nat → Int) : Prop where
  asym : ∀ x y, cf x y < 0 → ¬ cf y x < 0
  trans : ∀ x y z, ¬ cf y x < 0 → ¬ cf z y < 0 → ¬ cf z x < 0
theorem sortedBut_start {cf : Nat → Nat → Int} {l : List Nat} {i : Nat} (h : sortedTo cf l i) : sortedBut cf l i i := fun a b hab hb hne => h a b hab (by omega)
theorem sortedBut_swap {cf : Nat → Nat → Int} (hw : Weak cf) {l : List Nat} {i j : Nat} (h : sortedBut cf l i j) (h0 : 0 < j) (hji : j ≤ i) (hi : i < l.length) (hc : cf (l.getD j 0) (l.getD (j - 1) 0) < 0) : sortedBut cf (swp l j) i (j - 1) := by
  intro a b hab hb hne
  rw [swp_at h0 (by omega), swp_at h0 (by omega)]
  rw [if_neg hne]
  by_cases hbj : b = j
  · rw [if_pos hbj]
    by_cases ha : a = j - 1
    · rw [if_pos ha]; exact hw.asym _ _ hc
    · rw [if_neg ha, if_neg (by omega)]
      exact h a (j - 1) (by omega) (by omega) (by omega)
  · rw [if_neg hbj]
    by_cases ha : a = j - 1
    · rw [if_pos ha]; exact h j b (by omega) hb hbj
    · rw [if_neg ha]
      by_cases ha2 : a = j
      · rw [if_pos ha2]; exact h (j - 1) b (by omega) hb hbj
      · rw [if_neg ha2]; exact h a b hab hb hbj
theorem sortedBut_stop {cf : Nat → Nat → Int} (hw : Weak cf) {l : List Nat} {i j : Nat} (h : sortedBut cf l i j) (hc : j = 0 ∨ ¬ cf (l.getD j 0) (l.getD (j - 1) 0) < 0) : sortedTo cf l (i + 1) := by
  intro a b hab hb
  by_cases hbj : b = j
  · subst hbj
    rcases hc with hc | hc
    · omega
    · by_cases ha : a = b - 1
      · rw [ha]; exact hc
      · exact hw.trans _ _ _ (h a (b - 1) (by omega) (by omega) (by omega)) hc
  · exact h a b hab (by omega) hbj

/-- Slices are compared by their first element that differs, and a slice comes ahead of its continuations. -/
def cmpL : List Int → List Int → Int
  | [], [] => 0
  | [], _ :: _ => -1
  | _ :: _, [] => 1
  | a :: l, b :: m => if a < b then -1 else if b < a then 1 else cmpL l m
theorem cmpL_asym : ∀ x y, cmpL x y < 0 → ¬ cmpL y x < 0
  | [], [], h => by simp [cmpL] at h
  | [], _ :: _, _ => by simp [cmpL]
  | _ :: _, [], h => by simp [cmpL] at h
  | a :: l, b :: m, h => by
    unfold cmpL at h ⊢
    by_cases h1 : a < b
    · rw [if_neg (by omega), if_pos h1]; omega
    · rw [if_neg h1] at h
      by_cases h2 : b < a
      · rw [if_pos h2] at h; omega
      · rw [if_neg h2] at h
        rw [if_neg h2, if_neg h1]
        exact cmpL_asym l m h
theorem cmpL_trans : ∀ x y z, ¬ cmpL y x < 0 → ¬ cmpL z y < 0 → ¬ cmpL z x < 0
  | [], _, [], _, _ => by simp [cmpL]
  | [], _, _ :: _, _, _ => by simp [cmpL]
  | a :: l, [], z, h, _ => by simp [cmpL] at h
  | a :: l, b :: m, [], _, h => by simp [cmpL] at h
  | a :: l, b :: m, c :: n, h1, h2 => by
    unfold cmpL at h1 h2 ⊢
    by_cases p1 : b < a
    · rw [if_pos p1] at h1; omega
    · rw [if_neg p1] at h1
      by_cases q1 : c < b
      · rw [if_pos q1] at h2; omega
      · rw [if_neg q1] at h2
        rw [if_neg (by omega)]
        by_cases r1 : a < c
        · rw [if_pos r1]; omega
        · rw [if_neg r1]
          rw [if_neg (by omega)] at h1 h2
          exact cmpL_trans l m n h1 h2
end Go.Gr
end
section
/- slices.Compare at []int, and slices.SortFunc at a few slices. -/
namespace Go.Proofs.Tg.Gx
open Go.RowKit Go.Gr
set_option maxHeartbeats 1000000
set_option maxRecDepth 100000
theorem compare_any (A B : Option Addr) (c d : Nat) (l m : List Int) (w : World) (hA : Ints w A l) (hB : Ints w B m) (hl : l.length ≤ 1000000) :
    Calls Tryz.prog 98 #[.slice A l.length c, .slice B m.length d] w fun e w' => e = .returned (.int .i64 (cmpL l m)) ∧ w = w' := by
  go_enter Tryz.func98, Tryz.ntmps98
  go_wp2
  go_loop [11] (fun i => ∃ k : Nat, i = .int .i64 k ∧ k ≤ l.length ∧ k ≤ m.length ∧ Hid (cmpL l m = cmpL (l.drop k) (m.drop k))) (fun i => l.length - (intOf i).toNat)
  case atStart => exact ⟨0, rfl, Nat.zero_le _, Nat.zero_le _, Lib.hid rfl⟩
  case round =>
    obtain ⟨k, rfl, hk1, hk2, HC⟩ := hrel
    by_cases hkl : k < l.length
    · obtain ⟨ad, rfl, hc⟩ := Ints.at hA hkl
      have HL : Hid (l.drop k = l[k] :: l.drop (k + 1)) := Lib.hid (List.drop_eq_getElem_cons hkl)
      generalize l[k] = x at hc HL
      by_cases hkm : k < m.length
      · obtain ⟨bd, rfl, hd⟩ := Ints.at hB hkm
        have HM : Hid (m.drop k = m[k] :: m.drop (k + 1)) := Lib.hid (List.drop_eq_getElem_cons hkm)
        generalize m[k] = y at hd HM
        have dm : decide ((m.length : Int) ≤ (k : Int)) = false := by simp; omega
        have hce : cmpL l m = if cmpI x y = 0 then cmpL (l.drop (k + 1)) (m.drop (k + 1)) else cmpI x y := by
          rw [HC.out, HL.out, HM.out, cmpL]
          unfold cmpI
          by_cases h1 : x < y
          · simp [h1]
          · by_cases h2 : y < x <;> simp [h1, h2]
        have HE := Lib.hid hce
        clear hce HC HL HM
        have hcc := cmp_any x y w
        generalize cmpI x y = z at HE hcc
        have HQ := Lib.hid hcc
        clear hcc
        by_cases hz : z = 0
        · have hzb : (z != 0) = false := by simp [hz]
          have HZ := Lib.hid hz
          clear hz
          go_wp2_with (go_at_call 105; refine HQ.out.mono ?_; rintro e w' ⟨rfl, rfl⟩)
          go_round
          case rel => exact ⟨k + 1, by go_num, by omega, by omega, Lib.hid (by rw [HE.out, if_pos HZ.out])⟩
          case measure => simp [intOf]; omega
        · have hzb : (z != 0) = true := by simp [hz]
          have HZ := Lib.hid hz
          clear hz
          go_wp2_with (go_at_call 105; refine HQ.out.mono ?_; rintro e w' ⟨rfl, rfl⟩)
          go_ret
          exact ⟨by rw [HE.out, if_neg HZ.out]; rfl, rfl⟩
      · have dm : decide ((m.length : Int) ≤ (k : Int)) = true := by simp; omega
        have HE : Hid (cmpL l m = 1) := Lib.hid (by rw [HC.out, HL.out, show m.drop k = [] from List.drop_of_length_le (by omega)]; rfl)
        clear HC HL
        go_wp2
        go_ret
        exact ⟨by rw [HE.out]; rfl, rfl⟩
    · obtain rfl : k = l.length := by omega
      by_cases hlm : l.length < m.length
      · have dm : decide ((l.length : Int) < (m.length : Int)) = true := by simp; omega
        have HE : Hid (cmpL l m = -1) := Lib.hid (by rw [HC.out, List.drop_length, List.drop_eq_getElem_cons hlm]; rfl)
        clear HC
        go_wp2
        go_ret
        exact ⟨by rw [HE.out]; rfl, rfl⟩
      · have dm : decide ((l.length : Int) < (m.length : Int)) = false := by simp; omega
        have HE : Hid (cmpL l m = 0) := Lib.hid (by rw [HC.out, List.drop_length, show m.drop l.length = [] from List.drop_of_length_le (by omega)]; rfl)
        clear HC
        go_wp2
        go_ret
        exact ⟨by rw [HE.out]; rfl, rfl⟩
theorem len_any (n : Nat) (w : World) (hn : n ≤ 12) : Calls Tryz.prog 139 #[.int .u64 n] w fun e w' => (∃ l : Int, e = .returned (.int .i64 l)) ∧ w = w' := by
  have d1 : decide ((4294967296 : Int) ≤ (n : Int)) = false := by simp; omega
  have d2 : decide ((65536 : Int) ≤ (n : Int)) = false := by simp; omega
  have d3 : decide ((256 : Int) ≤ (n : Int)) = false := by simp; omega
  have h8 : n < Lib.len8tab.size := by rw [Lib.len8tab_size]; omega
  go_enter Tryz.func139, Tryz.ntmps139
  go_wp2
  go_ret
  exact ⟨⟨_, rfl⟩, rfl⟩
theorem bitsLen_any (n : Nat) (w : World) (hn : n ≤ 12) : Calls Tryz.prog 120 #[.int .u64 n] w fun e w' => (∃ l : Int, e = .returned (.int .i64 l)) ∧ w = w' := by
  have hw := wrap_nat n (by omega)
  go_enter Tryz.func120, Tryz.ntmps120
  go_wp2_with (go_at_call 139; refine (len_any _ _ hn).mono ?_; rintro e w' ⟨⟨l, rfl⟩, rfl⟩)
  go_ret
  exact ⟨⟨_, rfl⟩, rfl⟩
/-- The values of slices that lie in a row: by a number for each. -/
def enc (F : Nat → Option Addr × Nat) (ls : Nat → List Int) (i : Nat) : Value := .slice (F i).1 (ls i).length (F i).2
def rarr (F : Nat → Option Addr × Nat) (ls : Nat → List Int) (l : List Nat) (rest : List Value) : Array Value := (l.map (enc F ls) ++ rest).toArray
theorem rarr_at (F : Nat → Option Addr × Nat) (ls : Nat → List Int) (l : List Nat) (rest : List Value) {k : Nat} (hk : k < l.length) : (rarr F ls l rest)[k]? = some (enc F ls (l.getD k 0)) := by
  rw [rarr, List.getElem?_toArray, List.getElem?_append_left (by simpa using hk), List.getElem?_map, List.getD_eq_getElem?_getD, List.getElem?_eq_getElem hk]; rfl
theorem rarr_set (F : Nat → Option Addr × Nat) (ls : Nat → List Int) (l : List Nat) (rest : List Value) {k : Nat} (hk : k < l.length) (i : Nat) : (rarr F ls l rest).setIfInBounds k (enc F ls i) = rarr F ls (l.set k i) rest := by
  simp only [rarr, List.setIfInBounds_toArray, List.map_set]
  rw [List.set_append_left _ _ (by simpa using hk)]
/-- The rows can be read in every world that has turned in the one block alone. -/
def RowsOk (w : World) (g : Nat) (F : Nat → Option Addr × Nat) (ls : Nat → List Int) : Prop := ∀ w', w.grownBy w' (some g) → ∀ i, Ints w' (F i).1 (ls i) ∧ (ls i).length ≤ 1000000
def RetSorted (g : Nat) (F : Nat → Option Addr × Nat) (ls : Nat → List Int) (l : List Nat) (rest : List Value) (w : World) (e : Ending) (w' : World) : Prop :=
  e = .returned (.tuple #[]) ∧ ∃ l', l'.Perm l ∧ sortedTo (fun i j => cmpL (ls i) (ls j)) l' l.length ∧ Blk w' g 36 (rarr F ls l' rest) ∧ w.grownBy w' (some g)
theorem weakL (ls : Nat → List Int) : Weak (fun i j => cmpL (ls i) (ls j)) := ⟨fun _ _ => cmpL_asym _ _, fun _ _ _ => cmpL_trans _ _ _⟩
theorem insertion_any (g c : Nat) (F : Nat → Option Addr × Nat) (ls : Nat → List Int) (l : List Nat) (rest : List Value) (w : World) (hB : Blk w g 36 (rarr F ls l rest)) (hR : RowsOk w g F ls) (hn : l.length ≤ 12) :
    Calls Tryz.prog 130 #[.slice (some ⟨g, 0, none⟩) l.length c, .int .i64 0, .int .i64 l.length, .func (.func 98) #[] #[]] w (RetSorted g F ls l rest w) := by
  have HW := Lib.hid (weakL ls)
  have HR := Lib.hid hR
  clear hR
  go_enter Tryz.func130, Tryz.ntmps130
  go_wp2
  go_loopw [8] (fun t wr => ∃ (i : Nat) (m : List Nat), t = .int .i64 i ∧ 1 ≤ i ∧ i ≤ l.length + 1 ∧ m.length = l.length ∧ Hid (m.Perm l) ∧ Hid (sortedTo (fun i j => cmpL (ls i) (ls j)) m i) ∧ Blk wr g 36 (rarr F ls m rest) ∧ w.grownBy wr (some g)) (fun t _ => l.length + 1 - (intOf t).toNat)
  case atStart => exact ⟨1, l, rfl, by omega, by omega, rfl, Lib.hid (List.Perm.refl _), Lib.hid (fun a b h1 h2 => by omega), hB, World.grownBy.refl _ _⟩
  case round =>
    clear hB
    obtain ⟨i, m, rfl, hi1, hi2, hml, HP, HS, hB, hg⟩ := hrel
    by_cases hil : i < l.length
    · have hib : decide ((i : Int) < (l.length : Int)) = true := by simp; omega
      have HB0 : Hid (sortedBut (fun i j => cmpL (ls i) (ls j)) m i i) := Lib.hid (sortedBut_start HS.out)
      have HML := Lib.hid hml
      clear HS hml
      go_wp2
      go_loopw [9] (fun t wr => ∃ (j : Nat) (q : List Nat), t = .int .i64 j ∧ j ≤ i ∧ Hid (q.length = l.length) ∧ Hid (q.Perm l) ∧ Hid (sortedBut (fun i j => cmpL (ls i) (ls j)) q i j) ∧ Blk wr g 36 (rarr F ls q rest) ∧ w.grownBy wr (some g)) (fun t _ => (intOf t).toNat)
      case atStart => exact ⟨i, m, rfl, Nat.le_refl _, HML, HP, HB0, hB, hg⟩
      case round =>
        clear hB hg HP HB0 HML
        obtain ⟨j, q, rfl, hj, HQL, HP, HS, hB, hg⟩ := hrel
        by_cases hj0 : j = 0
        · have dj : decide ((0 : Int) < (j : Int)) = false := by simp; omega
          have dj2 : decide (0 < j) = false := by simp; omega
          have HS2 : Hid (sortedTo (fun i j => cmpL (ls i) (ls j)) q (i + 1)) := Lib.hid (sortedBut_stop HW.out HS.out (.inl hj0))
          clear HS hj0
          go_wp2
          go_quiet (fail)
          go_wp2
          go_roundw
          case rel => exact ⟨i + 1, q, by go_num, by omega, by omega, HQL.out, HP, HS2, hB, grown_drewN hg _⟩
          case measure => simp [intOf]; omega
        · have dj : decide ((0 : Int) < (j : Int)) = true := by simp; omega
          have dj2 : decide (0 < j) = true := by simp; omega
          have cj := (hB.cell j).trans (rarr_at F ls q rest (by rw [HQL.out]; omega))
          have cp := (hB.cell (j - 1)).trans (rarr_at F ls q rest (k := j - 1) (by rw [HQL.out]; omega))
          unfold enc at cj cp
          obtain ⟨r1, r1'⟩ := HR.out wr hg (q.getD j 0)
          obtain ⟨r2, _⟩ := HR.out wr hg (q.getD (j - 1) 0)
          have hcc := fun W hW => (compare_any _ _ (F (q.getD j 0)).2 (F (q.getD (j - 1) 0)).2 (ls (q.getD j 0)) (ls (q.getD (j - 1) 0)) W (HR.out W hW (q.getD j 0)).1 (HR.out W hW (q.getD (j - 1) 0)).1 r1').mono
            (R' := fun e w' => e = .returned (.int .i64 (cmpL (ls (q.getD j 0)) (ls (q.getD (j - 1) 0)))) ∧ w' = W) fun _ _ h => ⟨h.1, h.2.symm⟩
          have HC := Lib.hid hcc
          clear hcc r1 r2 r1'
          have k2 : (1 : Int) ≤ (j : Int) := by omega
          have k1 : (j : Int) - 1 < (l.length : Int) := by omega
          have k0 : (j : Int) < (l.length : Int) := by omega
          have k00 : (0 : Int) ≤ (j : Int) := by omega
          have k3 : ((j : Int) - 1).toNat = j - 1 := by omega
          have k4 : IntKind.i64.wrap ((j : Int) - 1) = (j : Int) - 1 := IntWalk.i64_in _ (by omega)
          have HJ := Lib.hid hj0
          clear hj0
          by_cases hz : cmpL (ls (q.getD j 0)) (ls (q.getD (j - 1) 0)) < 0
          · have HS2 : Hid (sortedBut (fun i j => cmpL (ls i) (ls j)) (swp q j) i (j - 1)) := Lib.hid (sortedBut_swap HW.out HS.out (by omega) hj (by rw [HQL.out]; exact hil) hz)
            have hz2 : decide (cmpL (ls (q.getD j 0)) (ls (q.getD (j - 1) 0)) < 0) = true := by simpa using hz
            have HP2 : Hid ((swp q j).Perm l) := Lib.hid ((swp_perm (by omega) (by rw [HQL.out]; omega)).trans HP.out)
            have B1 : Blk ((wr.setCell ⟨g, j, none⟩ (enc F ls (q.getD (j - 1) 0))).setCell ⟨g, j - 1, none⟩ (enc F ls (q.getD j 0))) g 36 (rarr F ls (swp q j) rest) := by
              have := (hB.set j (enc F ls (q.getD (j - 1) 0))).set (j - 1) (enc F ls (q.getD j 0))
              rw [rarr_set F ls q rest (by rw [HQL.out]; omega), rarr_set F ls _ rest (by rw [List.length_set, HQL.out]; omega)] at this
              exact this
            have HB1 := Lib.hid B1
            have fj := hB.frozen j
            have fp := hB.frozen (j - 1)
            unfold enc at HB1
            clear HS HP B1
            generalize cmpL (ls (q.getD j 0)) (ls (q.getD (j - 1) 0)) = z at HC hz hz2
            go_wp2
            go_quiet ((go_at_call 98; exact Calls.quiet_of_same (HC.out _ (by exact grown_drewN hg _))))
            go_wp2
            go_region
            go_wp2
            go_roundw
            case rel =>
              have hq : ((j - 1 : Nat) : Int) = (j : Int) - 1 := by omega
              refine ⟨j - 1, swp q j, by rw [hq], by omega, Lib.hid (by rw [swp_len]; exact HQL.out), HP2, HS2, ?_, ?_⟩
              · exact HB1.out
              · exact grown_set (grown_set (grown_drewN hg _) j _) (j - 1) _
            case measure => simp [intOf]; omega
          · have HS2 : Hid (sortedTo (fun i j => cmpL (ls i) (ls j)) q (i + 1)) := Lib.hid (sortedBut_stop HW.out HS.out (.inr hz))
            have hz2 : decide (cmpL (ls (q.getD j 0)) (ls (q.getD (j - 1) 0)) < 0) = false := by simpa using hz
            clear HS
            generalize cmpL (ls (q.getD j 0)) (ls (q.getD (j - 1) 0)) = z at HC hz hz2
            go_wp2
            go_quiet ((go_at_call 98; exact Calls.quiet_of_same (HC.out _ (by exact grown_drewN hg _))))
            go_wp2
            go_roundw
            case rel => exact ⟨i + 1, q, by go_num, by omega, by omega, HQL.out, HP, HS2, hB, grown_drewN hg _⟩
            case measure => simp [intOf]; omega
    · have hib : decide ((i : Int) < (l.length : Int)) = false := by simp; omega
      have HML := Lib.hid hml
      clear hml
      go_wp2
      go_end0
      exact ⟨rfl, m, HP.out, fun a b h1 h2 => HS.out a b h1 (by omega), hB, hg⟩
theorem pdq_any (g c : Nat) (lim : Int) (F : Nat → Option Addr × Nat) (ls : Nat → List Int) (l : List Nat) (rest : List Value) (w : World) (hB : Blk w g 36 (rarr F ls l rest)) (hR : RowsOk w g F ls) (hn : l.length ≤ 12) :
    Calls Tryz.prog 119 #[.slice (some ⟨g, 0, none⟩) l.length c, .int .i64 0, .int .i64 l.length, .int .i64 lim, .func (.func 98) #[] #[]] w (RetSorted g F ls l rest w) := by
  have hd : decide ((l.length : Int) ≤ 12) = true := by simp; omega
  have HI := Lib.hid (insertion_any g c F ls l rest w hB hR hn)
  clear hB hR
  go_enter Tryz.func119, Tryz.ntmps119
  go_wp2
  refine wp_loop_rounds 1 ?_
  rw [rounds_succ]
  go_wp2_with (go_at_call 130; refine HI.out.mono ?_; rintro e w1 ⟨rfl, hw1⟩; have HW1 := Lib.hid hw1; clear hw1)
  (try simp only [Exit.inBlock, Exit.then])
  refine bodyPost_ret (results_none rfl _ _ _) rfl ?_
  exact ⟨rfl, HW1.out⟩
theorem sort_any (g c : Nat) (F : Nat → Option Addr × Nat) (ls : Nat → List Int) (l : List Nat) (rest : List Value) (w : World) (hB : Blk w g 36 (rarr F ls l rest)) (hR : RowsOk w g F ls) (hn : l.length ≤ 12) :
    Calls Tryz.prog 97 #[.slice (some ⟨g, 0, none⟩) l.length c, .func (.func 98) #[] #[]] w (RetSorted g F ls l rest w) := by
  have hw := wrap_nat l.length (by omega)
  have HI := Lib.hid (fun lim => pdq_any g c lim F ls l rest w hB hR hn)
  clear hB hR
  go_enter Tryz.func97, Tryz.ntmps97
  go_wp2_with (first
    | (go_at_call 120; refine (bitsLen_any _ _ hn).mono ?_; rintro e w' ⟨⟨z, rfl⟩, rfl⟩)
    | (go_at_call 119; refine (HI.out _).mono ?_; rintro e w1 ⟨rfl, hw1⟩; have HW1 := Lib.hid hw1; clear hw1))
  go_end0
  exact ⟨rfl, HW1.out⟩
end Go.Proofs.Tg.Gx
end
section
/- Sorting rows of the call's own. -/
namespace Go.Proofs.Tg.Gx
open Go.RowKit Go.Gr
set_option maxHeartbeats 1000000
set_option maxRecDepth 100000
/-- m rows of numbers, each the call's own. -/
def RowsIn (w : World) (base m : Nat) (F : Nat → Option Addr × Nat) (ls : Nat → List Int) : Prop := ∀ i, i < m → w.ownsRow base 3 1 (enc F ls i) (ls i).length ((ls i).map vi)
theorem insertion_nil (w : World) : Calls Tryz.prog 130 #[.slice none 0 0, .int .i64 0, .int .i64 0, .func (.func 98) #[] #[]] w fun e w' => e = .returned (.tuple #[]) ∧ w = w' := by
  go_enter Tryz.func130, Tryz.ntmps130
  go_wp2
  refine wp_loop_rounds 1 ?_
  rw [rounds_succ]
  go_wp2
  go_end0
  exact ⟨rfl, rfl⟩
theorem pdq_nil (lim : Int) (w : World) : Calls Tryz.prog 119 #[.slice none 0 0, .int .i64 0, .int .i64 0, .int .i64 lim, .func (.func 98) #[] #[]] w fun e w' => e = .returned (.tuple #[]) ∧ w = w' := by
  go_enter Tryz.func119, Tryz.ntmps119
  go_wp2
  refine wp_loop_rounds 1 ?_
  rw [rounds_succ]
  go_wp2_with (go_at_call 130; refine (insertion_nil _).mono ?_; rintro e w1 ⟨rfl, rfl⟩)
  (try simp only [Exit.inBlock, Exit.then])
  refine bodyPost_ret (results_none rfl _ _ _) rfl ?_
  exact ⟨rfl, rfl⟩
theorem bitsLen0 (w : World) : Calls Tryz.prog 120 #[.int .u64 0] w fun e w' => (∃ l : Int, e = .returned (.int .i64 l)) ∧ w = w' := bitsLen_any 0 w (by omega)
theorem sort_nil (w : World) : Calls Tryz.prog 97 #[.slice none 0 0, .func (.func 98) #[] #[]] w fun e w' => e = .returned (.tuple #[]) ∧ w = w' := by
  go_enter Tryz.func97, Tryz.ntmps97
  go_wp2_with (first
    | (go_at_call 120; refine (bitsLen0 _).mono ?_; rintro e w' ⟨⟨z, rfl⟩, rfl⟩)
    | (go_at_call 119; refine (pdq_nil _ _).mono ?_; rintro e w1 ⟨rfl, rfl⟩))
  go_end0
  exact ⟨rfl, rfl⟩
def sortedL (lo : List (List Int)) : Prop := ∀ a b, a < b → b < lo.length → ¬ cmpL (lo.getD b []) (lo.getD a []) < 0
def cutF {α : Type} (F : Nat → α) (m : Nat) (z : α) : Nat → α := fun i => if i < m then F i else z
theorem map_cut (F : Nat → Option Addr × Nat) (ls : Nat → List Int) (m : Nat) : (List.range m).map (enc (cutF F m (none, 0)) (cutF ls m [])) = (List.range m).map (enc F ls) := by
  apply List.map_congr_left
  intro i hi
  have : i < m := by simpa using hi
  unfold enc cutF; rw [if_pos this, if_pos this]
theorem sort_rows (R : Option Addr) (m cr base : Nat) (F : Nat → Option Addr × Nat) (ls : Nat → List Int) (w : World) (hR : w.ownsRow base 36 1 (.slice R m cr) m ((List.range m).map (enc F ls))) (hRows : RowsIn w base m F ls) (hm : m ≤ 12)
    (hlen : ∀ i, i < m → (ls i).length ≤ 1000000) :
    Calls Tryz.prog 97 #[.slice R m cr, .func (.func 98) #[] #[]] w fun e w' => e = .returned (.tuple #[]) ∧ ∃ lo : List (List Int), lo.length = m ∧ lo.Perm ((List.range m).map ls) ∧ sortedL lo ∧ Lists w' R lo ∧ Below base w w' := by
  rcases hR.2 with ⟨hv, rfl⟩ | ⟨g, cap, cur, hv, hgb, hg, hmc, _, hcs, htake⟩
  · injection hv with h1 h2 h3
    subst h1; subst h3
    refine (sort_nil w).mono fun e w' ⟨he, hw⟩ => ⟨he, [], rfl, by simp, fun a b _ hb => by simp at hb, ?_, ?_⟩
    · exact ⟨fun _ => (none, 0), ⟨by simp, fun h => by simp at h⟩, fun i hi => by simp at hi⟩
    · rw [← hw]; exact Below.refl _ _
  · injection hv with h1 h2 h3
    subst h1; subst h3
    have hB : Blk w g 36 (rarr (cutF F m (none, 0)) (cutF ls m []) (List.range m) (cur.toList.drop m)) := by
      unfold Blk
      rw [hg, rarr, map_cut, ← htake, Nat.mul_one, List.take_append_drop]
    have hrow : ∀ i, i < m → ∀ w', w.grownBy w' (some g) → Ints w' (F i).1 (ls i) := by
      intro i hi w' hgr
      have h := (hRows i hi).kept hgr (by
        have := own_ne (hRows i hi) hR (by decide)
        simpa [Value.ownBlock] using this)
      have := Sl.own (by unfold enc at h; exact h)
      simpa using this
    have hOK : RowsOk w g (cutF F m (none, 0)) (cutF ls m []) := by
      intro w' hgr i
      unfold cutF
      by_cases hi : i < m
      · rw [if_pos hi, if_pos hi]; exact ⟨hrow i hi w' hgr, hlen i hi⟩
      · rw [if_neg hi, if_neg hi]; exact ⟨⟨by simp, fun h => by simp at h⟩, by simp⟩
    have hs := sort_any g cr (cutF F m (none, 0)) (cutF ls m []) (List.range m) (cur.toList.drop m) w hB hOK (by simpa using hm)
    rw [List.length_range] at hs
    refine hs.mono fun e w' ⟨he, l', hp, hsrt, hB', hgr⟩ => ⟨he, l'.map (cutF ls m []), ?_, ?_, ?_, ?_, ?_⟩
    · simp [hp.length_eq]
    · have e1 : (List.range m).map (cutF ls m []) = (List.range m).map ls := by
        apply List.map_congr_left
        intro i hi
        have : i < m := by simpa using hi
        unfold cutF; rw [if_pos this]
      rw [← e1]; exact hp.map _
    · intro a b hab hb
      have hbl : b < l'.length := by simpa using hb
      have := hsrt a b hab (by rw [List.length_range]; have := hp.length_eq; simp at this; omega)
      simp only [List.getD_eq_getElem?_getD, List.getElem?_map, List.getElem?_eq_getElem hbl, List.getElem?_eq_getElem (show a < l'.length by omega)] at this ⊢
      exact this
    · have hl' : l'.length = m := by have := hp.length_eq; simpa using this
      refine ⟨fun i => cutF F m (none, 0) (l'.getD i 0), ⟨by simp, fun hn => ?_⟩, fun i hi => ?_⟩
      · refine ⟨⟨g, 0, none⟩, rfl, Blk.lt hB', fun j u hu => ?_⟩
        have hj : j < l'.length := by
          rcases Nat.lt_or_ge j l'.length with h | h
          · exact h
          · rw [List.getElem?_eq_none (by simp; omega)] at hu; cases hu
        rw [add_lit, Nat.zero_add, hB'.cell j, rarr_at _ _ _ _ hj, ← hu]
        simp [enc, hj]
      · have hi2 : i < l'.length := by simpa using hi
        have := (hOK w' hgr (l'.getD i 0)).1
        have e2 : (l'.map (cutF ls m [])).getD i [] = cutF ls m [] (l'.getD i 0) := by simp [hi2]
        rw [e2]; exact this
    · exact ⟨hgr.os, hgr.tape, hgr.output, hgr.size, fun k hk => by
        rcases Nat.lt_or_ge k w.heap.size with h | h
        · exact hgr.block k h (by intro e; injection e with e; omega)
        · have hgl := (Array.getElem?_eq_some_iff.1 hg).1; omega⟩
end Go.Proofs.Tg.Gx
end
