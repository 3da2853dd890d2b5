/- Cliques. -/
import Derived.Test.YtamipjpcphghaaaDoorWI
import Derived.Test.YtamipjpcphghaaaDoorWO
import Derived.Test.YtamipjpcphghaaaDoorWM
namespace Go.Gr
def cands (A : Nat → Nat) (n : Nat) : List Nat := List.zipWith bset (earlier A (search A n)) (search A n)
/-- The sets that are contained in no later one. -/
def keepLast : List Nat → List Nat
  | [] => []
  | s :: r => if (r.any fun t => decide (andn s t = 0)) = true then keepLast r else s :: keepLast r
def vertsI (s : Nat) : List Int := (verts s).map fun v : Nat => (v : Int)
theorem search_len {A : Nat → Nat} {n : Nat} (hn : n ≤ 64) : (search A n).length = n := (visits hn n (Nat.le_refl _)).len
theorem search_lt {A : Nat → Nat} {n : Nat} (hn : n ≤ 64) : ∀ v ∈ search A n, v < n := (visits hn n (Nat.le_refl _)).lt
theorem zip_at {l m : List Nat} {k : Nat} (h1 : k < l.length) (h2 : k < m.length) : (List.zipWith bset (l.take (k + 1)) (m.take (k + 1))) = List.zipWith bset (l.take k) (m.take k) ++ [bset l[k] m[k]] := by
  rw [List.take_succ_eq_append_getElem h1, List.take_succ_eq_append_getElem h2, List.zipWith_append (by simp; omega)]
  rfl
end Go.Gr
namespace Go.Proofs.Tg
open Go.RowKit Go.Gr
set_option maxHeartbeats 4000000
set_option maxRecDepth 100000
theorem rows_info : (Tryd.prog.info? 40).map (fun i => (i.zero, i.size, i.bytes)) = some (some (.slice none 0 0), 1, 24) := by kernel_rfl
theorem sets_at {w : World} {C : Option Addr} {N : Nat} {xs : List Nat} (h : Sl w C N 1 (xs.map vs)) (hN : xs.length = N) {k : Nat} (hk : k < N) : ∃ ad, C = some ad ∧ w.cell? (ad.add k) = some (.int .u64 (xs.getD k 0 : Nat)) := by
  subst hN
  obtain ⟨ad, e, hc⟩ := Sets.at h hk
  refine ⟨ad, e, ?_⟩
  rw [hc, List.getD_eq_getElem?_getD, List.getElem?_eq_getElem hk]; rfl
theorem drop_getD {xs : List Nat} {k : Nat} (hk : k < xs.length) : xs.drop k = xs.getD k 0 :: xs.drop (k + 1) := by
  rw [List.drop_eq_getElem_cons hk, List.getD_eq_getElem?_getD, List.getElem?_eq_getElem hk]; rfl
theorem getD_mem {xs : List Nat} {k : Nat} (hk : k < xs.length) : xs.getD k 0 ∈ xs := by
  rw [List.getD_eq_getElem?_getD, List.getElem?_eq_getElem hk]; exact List.getElem_mem _
theorem contains_at (A : Option Addr) (c s b N : Nat) (l : List Nat) (w : World) (hN : l.length = N) (hA : Sl w A N 1 (l.map vs)) (hb : w.cell? ⟨b, 0, none⟩ = some (.int .u64 s)) (hs : s < 18446744073709551616) (hl : N ≤ 1000000) (hls : ∀ t ∈ l, t < 18446744073709551616) :
    Calls Tryd.prog 52 #[.slice A N c, .func (.func 53) #[] #[.pointer (some ⟨b, 0, none⟩)]] w fun e w' => e = .returned (.bool (l.any fun t => decide (andn s t = 0))) ∧ w = w' := by
  subst hN
  exact contains_any A c s b l w hA hb hs hl hls
theorem sl_cut {w : World} {ad : Addr} {N k : Nat} {xs : List Value} (h : Sl w (some ad) N 1 xs) : Sl w (some ⟨ad.block, ad.off + (k + 1), none⟩) (N - (k + 1)) 1 (xs.drop (k + 1)) := by
  refine ⟨by rw [List.length_drop, h.len]; omega, fun hn => ?_⟩
  obtain ⟨ad', e, hb, hc⟩ := h.lies (by omega)
  injection e with e
  subst e
  refine ⟨_, rfl, hb, fun j u hu => ?_⟩
  have := hc (k + 1 + j) u (by rw [← hu, List.getElem?_drop])
  rw [← add_add] at this
  have e2 : ad.add (k + 1) = ⟨ad.block, ad.off + (k + 1), none⟩ := by unfold Addr.add; rw [if_neg (by omega)]
  rwa [e2] at this
theorem sl_none {w : World} {A : Option Addr} {N k : Nat} {xs : List Value} (hx : xs.length = N) (h : N ≤ k + 1) : Sl w A (N - (k + 1)) 1 (xs.drop (k + 1)) :=
  ⟨by rw [List.length_drop]; omega, fun hn => by omega⟩
theorem RowsIn.kept {w w' : World} {base m : Nat} {F : Nat → Option Addr × Nat} {ls : Nat → List Int} {row : Option Nat} (h : RowsIn w base m F ls) (hg : w.grownBy w' row) (hne : ∀ i, i < m → (enc F ls i).ownBlock = none ∨ (enc F ls i).ownBlock ≠ row) : RowsIn w' base m F ls :=
  fun i hi => (h i hi).kept hg (hne i hi)
theorem RowsIn.below {w w' : World} {base m B : Nat} {F : Nat → Option Addr × Nat} {ls : Nat → List Int} (h : RowsIn w base m F ls) (hb : Below B w w') (hB : w.heap.size ≤ B) : RowsIn w' base m F ls := fun i hi => own_below (h i hi) hb hB
theorem RowsIn.alloc {w : World} {base m : Nat} {F : Nat → Option Addr × Nat} {ls : Nat → List Int} (h : RowsIn w base m F ls) (o : Obj) : RowsIn (w.alloc o) base m F ls := fun i hi => (h i hi).alloc o
def snocF {α : Type} (F : Nat → α) (m : Nat) (x : α) : Nat → α := fun i => if i = m then x else F i
theorem enc_snoc_lt (F : Nat → Option Addr × Nat) (ls : Nat → List Int) (m : Nat) (x : Option Addr × Nat) (l : List Int) {i : Nat} (h : i < m) : enc (snocF F m x) (snocF ls m l) i = enc F ls i := by
  unfold enc snocF; rw [if_neg (by omega), if_neg (by omega)]
theorem enc_snoc_eq (F : Nat → Option Addr × Nat) (ls : Nat → List Int) (m : Nat) (x : Option Addr × Nat) (l : List Int) : enc (snocF F m x) (snocF ls m l) m = .slice x.1 l.length x.2 := by
  unfold enc snocF; simp
theorem map_snoc (F : Nat → Option Addr × Nat) (ls : Nat → List Int) (m : Nat) (x : Option Addr × Nat) (l : List Int) : (List.range (m + 1)).map (enc (snocF F m x) (snocF ls m l)) = (List.range m).map (enc F ls) ++ [.slice x.1 l.length x.2] := by
  rw [List.range_succ, List.map_append]
  congr 1
  · apply List.map_congr_left
    intro i hi
    exact enc_snoc_lt _ _ _ _ _ (by simpa using hi)
  · simp [enc_snoc_eq]
theorem RowsIn.snoc {w : World} {base m : Nat} {F : Nat → Option Addr × Nat} {ls : Nat → List Int} (h : RowsIn w base m F ls) {x : Option Addr × Nat} {l : List Int} (hx : w.ownsRow base 3 1 (.slice x.1 l.length x.2) l.length (l.map vi)) : RowsIn w base (m + 1) (snocF F m x) (snocF ls m l) := by
  intro i hi
  by_cases e : i = m
  · subst e
    rw [enc_snoc_eq]
    have : snocF ls i l i = l := by simp [snocF]
    rw [this]; exact hx
  · rw [enc_snoc_lt _ _ _ _ _ (by omega)]
    have : snocF ls m l i = ls i := by simp [snocF, e]
    rw [this]; exact h i (by omega)
theorem cliques_ok (n : Nat) (E : Option Addr) (c : Nat) (es : List (Int × Int)) (w : World) (hE : EdgesAt w E es) (hl : es.length ≤ 1000000) (hv : valid n es) (hT : Tab w) (hc : isChordal (readAll es) n = true) (h12 : n ≤ 12) :
    Calls Tryd.prog 18 #[.agg #[.int .i64 n, .slice E es.length c]] w fun e w' => ∃ V d ls, e = .returned (.tuple #[.slice V (List.length ls) d, .int .i64 0]) ∧ Lists w' V ls ∧ ls.Perm ((keepLast (cands (readAll es) n)).map vertsI) ∧
      sortedL ls ∧ Below w.heap.size w w' := by
  obtain ⟨j0, hj, hjz0, hjz1, hjz2⟩ := info_parts rows_info
  obtain ⟨i0, hi, hz0, hz1, hz2⟩ := info_parts set_info
  have hr := read_all n E c es true (w.alloc (.cells #[.int .i64 n, .slice E es.length c] 25)) (hE.keep ((Below.refl _ _).alloc (Nat.le_refl _) _)) hl (by simp [hv])
  have hsm := (readAll_small es n hv).1
  have hn : n ≤ 64 := by omega
  have hbA : Below w.heap.size w (w.alloc (.cells #[.int .i64 n, .slice E es.length c] 25)) := (Below.refl _ _).alloc (Nat.le_refl _) _
  have hB := Blk.new w 25 #[.int .i64 n, .slice E es.length c]
  have HR := Lib.hid hr
  have HB := Lib.hid hB
  have HC := Lib.hid hc
  clear hr hv hB hc
  go_enter Tryd.func18, Tryd.ntmps18
  go_wp2_with (first
    | (go_at_call 47; refine HR.out.mono ?_; rintro e w1 ⟨A, hAs, rfl, hAe, hb1⟩; obtain rfl := hAe rfl; clear hAe)
    | (refine adj_alloc _ _ _ _ ?_)
    | (refine wpList_store_row rfl 56 (.tmp 4) (.tmp 17) rfl w1.heap.size (adjA (readAll es)) rfl rfl 56 (adjA fun _ => 0) (Blk.new w1 56 _) (size56 _) (by simp only [adjA_size]) (adj_one _) ?_
       have hA1 := blk_setRow (Blk.new w1 56 (adjA fun _ => 0)) (adjA (readAll es))
       have hB1 := blk_setRow_far (Blk.alloc (HB.out.keep hb1 (Blk.lt HB.out)) (.cells (adjA fun _ => 0) 56)) (g' := w1.heap.size) (by have := hb1.size; simp at this; omega) (adjA (readAll es))
       have hbw := below_setRow ((hbA.trans (hb1.mono (by simp))).alloc (by have := hb1.size; simp at this; omega) (.cells (adjA fun _ => 0) 56)) (g := w1.heap.size) (by have := hb1.size; simp at this; omega) (adjA (readAll es))
       have c0 := hB1.cell 0
       simp at c0
       generalize (w1.alloc (.cells (adjA fun _ => 0) 56)).setRow w1.heap.size (adjA (readAll es)) = W at hA1 hB1 hbw c0 ⊢
       generalize w1.heap.size = g at hA1 ⊢)
    | (go_at_call 48; refine (chordalA_any _ _ (readAll es) _ hA1 hsm hn (hT.below hbw hT.1)).mono ?_; rintro e w2 ⟨rfl, hb2⟩; rw [HC.out]
       have c02 := keep_cell hb2 c0)
    | (go_at_call 49; refine (search_any _ _ (readAll es) _ (hA1.keep hb2 (Blk.lt hA1)) hsm hn).mono ?_; rintro e w3 ⟨V, cv, rfl, hVc, hV, hb3⟩)
    | (go_at_call 50; refine (earlier_any _ (readAll es) _ _ (search (readAll es) n) _ ((hA1.keep hb2 (Blk.lt hA1)).keep hb3 (Nat.lt_of_lt_of_le (Blk.lt hA1) hb2.size)) hsm (Sl.own hV) (by rw [search_len hn]; exact hn) (fun v hv => by have := search_lt hn v hv; omega)).mono ?_; rintro e w4 ⟨V2, cv2, rfl, hVc2, hV2, hb4⟩))
  have HCD : Hid (cands (readAll es) n = List.zipWith bset (earlier (readAll es) (search (readAll es) n)) (search (readAll es) n)) := Lib.hid rfl
  have hol : (search (readAll es) n).length ≤ n := by rw [search_len hn]; exact Nat.le_refl _
  have HOE : Hid ((earlier (readAll es) (search (readAll es) n)).length = (search (readAll es) n).length) := Lib.hid (by unfold earlier; rw [earlierFrom_len])
  have HOB : Hid (∀ v ∈ search (readAll es) n, v < 64) := Lib.hid (fun v hv => by have := search_lt hn v hv; omega)
  have HEB : Hid (∀ s ∈ earlier (readAll es) (search (readAll es) n), s < 18446744073709551616) := Lib.hid (sets_lt_earlier _ hsm _ _)
  have hVr := (Sl.own hV).keep hb4
  have hV2r := Sl.own hV2
  have hbw4 : Below w.heap.size w w4 := below_all (below_all (below_all hbw hb2) hb3) hb4
  have hel : (earlier (readAll es) (search (readAll es) n)).length ≤ n := by rw [HOE.out]; exact hol
  clear hV hV2 hb2 hb3 hb4 hbw hA1 hB1 c0 c02 hVc hVc2 HR HB HC hbA hb1 hAs hsm
  generalize earlier (readAll es) (search (readAll es) n) = ea at HCD HOE HEB hV2r hel ⊢
  generalize search (readAll es) n = o at HCD hol HOE HOB hVr ⊢
  go_loopw [31, 7] (fun i v wr => ∃ (k : Nat) (C : Option Addr) (cc : Nat), i = .int .i64 k ∧ k ≤ ea.length ∧ v = .slice C k cc ∧ k ≤ cc ∧ wr.ownsRow w4.heap.size 54 1 (.slice C k cc) k ((List.zipWith bset (ea.take k) (o.take k)).map vs) ∧ Below w4.heap.size w4 wr) (fun i _ _ => ea.length - (intOf i).toNat)
  case atStart => exact ⟨0, none, 0, rfl, Nat.zero_le _, rfl, Nat.le_refl _, World.ownsRow_nil _ _ _ _, Below.refl _ _⟩
  case round =>
    obtain ⟨k, C, cc, rfl, hk, rfl, hkc, hown, hb⟩ := hrel
    by_cases hkl : k < ea.length
    · have hko : k < o.length := by rw [← HOE.out]; exact hkl
      obtain ⟨ad, rfl, hc1⟩ := Sets.at (hV2r.keep hb) hkl
      obtain ⟨bd, rfl, hc2⟩ := Nats.at (hVr.keep hb) hko
      have hs1 := HEB.out ea[k] (List.getElem_mem _)
      have hs2 := HOB.out o[k] (List.getElem_mem _)
      have HZ : Hid (List.zipWith bset (ea.take (k + 1)) (o.take (k + 1)) = List.zipWith bset (ea.take k) (o.take k) ++ [bset ea[k] o[k]]) := Lib.hid (zip_at hkl hko)
      generalize ea[k] = x at hc1 hs1 HZ
      generalize o[k] = y at hc2 hs2 HZ
      have hsz := hb.size
      go_wp2_with (first
        | (go_at_call 51; refine (with_any _ _ _ hs1 hs2).mono ?_; rintro e w' ⟨rfl, rfl⟩)
        | (at_builtin; refine wpList_append_own _ rfl _ _ 71 rfl w4.heap.size 54 i0 (.int .u64 0) 1 8 Tryd.underlying71 hi hz0 hz1 hz2 rfl (by decide) (.slice C k cc) k _ rfl (hown.alloc _) ⟨wr.heap.size, 0, none⟩ 1 1 [.int .u64 (bset x y : Nat)] rfl rfl ?c1 ?c2 ?c3 ?c4 ?c5 ?_
           case c1 => exact cell_one_new _ _ _
           case c2 => simp [Value.oneCell']
           case c3 => simp only [maxLen]; omega
           case c4 => omega
           case c5 => simp; omega
           intro v' w5 hown' hgrow _
           obtain ⟨C2, cc2, hv2, hle2, _⟩ := Sl.of_own hown'
           subst hv2))
      go_roundw
      case rel =>
        refine ⟨k + 1, C2, cc2, by go_num, by omega, rfl, hle2, ?_, (hb.alloc hsz _).grown hgrow (by simp; omega) (fun q hq => (hown.lt q hq).1)⟩
        rw [HZ.out, List.map_append]
        exact hown'
      case measure => simp [intOf]; omega
    · obtain rfl : k = ea.length := by omega
      rw [List.take_length, show o.take ea.length = o from List.take_of_length_le (by rw [HOE.out]; exact Nat.le_refl _), ← HCD.out] at hown
      have HCL : Hid ((cands (readAll es) n).length = ea.length) := Lib.hid (by rw [HCD.out, List.length_zipWith, HOE.out, Nat.min_self])
      have HCB : Hid (∀ s ∈ cands (readAll es) n, s < 18446744073709551616) := by
        refine Lib.hid ?_
        rw [HCD.out]
        intro s hs
        obtain ⟨q, hq, rfl⟩ := List.mem_iff_getElem.1 hs
        rw [List.getElem_zipWith]
        exact bset_lt (HEB.out _ (List.getElem_mem _)) (HOB.out _ (List.getElem_mem _))
      clear HCD HOE HOB HEB hV2r hVr hk hkl
      generalize hcs : cands (readAll es) n = cs at hown HCL HCB
      have HCS := Lib.hid hcs
      clear hcs
      have hbw5 : Below w.heap.size w wr := below_all hbw4 hb
      have hsz := hb.size
      obtain ⟨wo, rfl⟩ : ∃ wo : World, wo = wr := ⟨_, rfl⟩
      go_wp2
      go_loopw [48, 10] (fun i v wr => ∃ (k m : Nat) (R : Option Addr) (cr : Nat) (F : Nat → Option Addr × Nat) (ls : Nat → List Int) (d : List Nat), i = .int .i64 k ∧ k ≤ ea.length ∧ v = .slice R m cr ∧ m ≤ cr ∧ m ≤ k ∧ wr.ownsRow w4.heap.size 40 1 (.slice R m cr) m ((List.range m).map (enc F ls)) ∧
          RowsIn wr w4.heap.size m F ls ∧ wr.ownsRow w4.heap.size 54 1 (.slice C ea.length cc) ea.length (cs.map vs) ∧ Hid (keepLast cs = d ++ keepLast (cs.drop k)) ∧ Hid ((List.range m).map ls = d.map vertsI) ∧ w4.heap.size ≤ wr.heap.size ∧ Below w.heap.size w wr) (fun i _ _ => ea.length - (intOf i).toNat)
      case atStart => exact ⟨0, 0, none, 0, fun _ => (none, 0), fun _ => [], [], rfl, Nat.zero_le _, rfl, Nat.le_refl _, Nat.le_refl _, World.ownsRow_nil _ _ _ _, fun i hi => by omega, hown, Lib.hid rfl, Lib.hid rfl, hsz, hbw5⟩
      case round =>
        clear hown hbw5 hb
        obtain ⟨k, m, R, cr, F, ls, d, rfl, hk, rfl, hmc, hmk, hR, hRows, hC, HK, HL, hw4, hb⟩ := hrel
        by_cases hkl : k < ea.length
        · obtain ⟨ad, rfl, hc1⟩ := sets_at (Sl.own hC) HCL.out hkl
          have hkc2 : k < cs.length := by rw [HCL.out]; exact hkl
          have hs1 := HCB.out _ (getD_mem hkc2)
          have HD : Hid (cs.drop k = cs.getD k 0 :: cs.drop (k + 1)) := Lib.hid (drop_getD hkc2)
          clear hkc2
          generalize cs.getD k 0 = s at hc1 hs1 HD
          have hCa := hC.alloc (.cells #[.int .u64 s] 54)
          have hBs := Blk.cell (Blk.new wr 54 #[.int .u64 s]) 0
          have HCA := Lib.hid (And.intro hCa hBs)
          have HDL : Hid ((cs.drop (k + 1)).length = ea.length - (k + 1)) := Lib.hid (by rw [List.length_drop, HCL.out])
          have HDB : Hid (∀ t ∈ cs.drop (k + 1), t < 18446744073709551616) := Lib.hid (fun t ht => HCB.out t (List.mem_of_mem_drop ht))
          have HCL2 : Hid ((cs.map vs).length = ea.length) := Lib.hid (by rw [List.length_map, HCL.out])
          have hszr := hb.size
          clear hCa hBs
          by_cases hcap : cc = k + 1
          · subst hcap
            have HDE : Hid (cs.drop (k + 1) = []) := Lib.hid (List.drop_of_length_le (by rw [HCL.out]; omega))
            have HK2 : Hid (keepLast cs = (d ++ [s]) ++ keepLast (cs.drop (k + 1))) := by
              refine Lib.hid ?_
              rw [HK.out, HD.out, keepLast, if_neg (by rw [HDE.out]; simp), List.append_assoc]; rfl
            clear HK
            go_wp2_with (first
              | (go_at_call 52; refine (contains_at _ _ s wr.heap.size 0 [] _ rfl ⟨by simp, fun h => by omega⟩ HCA.out.2 hs1 (by omega) (by simp)).mono ?_; rintro e w5 ⟨rfl, rfl⟩; simp only [List.any_nil])
              | (go_at_call 54; refine (verts_any _ _ hs1 (hT.below (hb.alloc hszr _) hT.1)).mono ?_; rintro e w6 ⟨V3, c3, rfl, hVc3, hV3, hb6⟩
                 have hR6 := own_below (hR.alloc (.cells #[.int .u64 s] 54)) hb6 (Nat.le_refl _)
                 have hz6 : w4.heap.size ≤ w6.heap.size := by have := hb6.size; simp at this; omega
                 clear hVc3)
              | (at_builtin; refine wpList_append_own _ rfl _ _ 34 rfl w4.heap.size 40 j0 (.slice none 0 0) 1 24 Tryd.underlying34 hj hjz0 hjz1 hjz2 rfl (by decide) (.slice R m cr) m _ rfl (hR6.alloc _) ⟨w6.heap.size, 0, none⟩ 1 1 [.slice V3 (verts s).length c3] rfl rfl ?c1 ?c2 ?c3 ?c4 ?c5 ?_
                 case c1 => exact cell_one_new _ _ _
                 case c2 => simp [Value.oneCell']
                 case c3 => simp only [maxLen]; omega
                 case c4 => omega
                 case c5 => simp; omega
                 intro v' w7 hR7 hg7 _
                 obtain ⟨R2, cr2, hv2, hle2, _⟩ := Sl.of_own hR7
                 subst hv2))
            all_goals
              go_roundw
              case rel =>
                have hVI : ((verts s).map vn) = (vertsI s).map vi := by simp [vertsI, vn, vi]
                have hvl : (verts s).length = (vertsI s).length := by simp [vertsI]
                have hV7 : w7.ownsRow w4.heap.size 3 1 (.slice V3 (vertsI s).length c3) (vertsI s).length ((vertsI s).map vi) := by
                  rw [← hvl, ← hVI]
                  exact own_base ((hV3.alloc (.cells #[.slice V3 (verts s).length c3] 40)).kept hg7 (own_ne hV3 hR6 (by decide))) (by simp; omega)
                have hC7 := (own_below HCA.out.1 hb6 (Nat.le_refl _)).alloc (.cells #[.slice V3 (verts s).length c3] 40)
                have hRw : RowsIn w7 w4.heap.size m F ls := ((hRows.alloc (.cells #[.int .u64 s] 54)).below hb6 (Nat.le_refl _)).alloc (.cells #[.slice V3 (verts s).length c3] 40) |>.kept hg7 (fun i hi => own_ne (((hRows.alloc (.cells #[.int .u64 s] 54)).below hb6 (Nat.le_refl _)) i hi) hR6 (by decide))
                refine ⟨k + 1, m + 1, R2, cr2, snocF F m (V3, c3), snocF ls m (vertsI s), d ++ [s], by go_num, by omega, rfl, hle2, by omega, ?_, RowsIn.snoc (x := (V3, c3)) hRw hV7, hC7.kept hg7 (own_ne hC7 (hR6.alloc _) (by decide)), HK2, Lib.hid ?_, by have := hg7.size; simp at this; omega, ?_⟩
                · rw [map_snoc, ← hvl]; exact hR7
                · rw [List.range_succ, List.map_append, List.map_append, ← HL.out]
                  congr 1
                  · apply List.map_congr_left
                    intro i hi
                    have : i < m := by simpa using hi
                    simp [snocF]; omega
                  · simp [snocF]
                · exact (((hb.alloc hszr _).trans (hb6.mono (by simp; omega))).alloc (by have := hb6.size; simp at this; omega) _).grown hg7 (by have := hb6.size; simp at this ⊢; omega) (fun q hq => by have := (hR6.lt q hq).1; have := hbw4.size; omega)
              case measure => simp [intOf]; omega
          · cases hany : (cs.drop (k + 1)).any fun t => decide (andn s t = 0)
            · have HK2 : Hid (keepLast cs = (d ++ [s]) ++ keepLast (cs.drop (k + 1))) := by
                refine Lib.hid ?_
                rw [HK.out, HD.out, keepLast, if_neg (by rw [hany]; simp), List.append_assoc]; rfl
              have HAN := Lib.hid hany
              clear hany HK
              go_wp2_with (first
                | (go_at_call 52; refine (contains_at _ _ s wr.heap.size _ (cs.drop (k + 1)) _ HDL.out ?_ HCA.out.2 hs1 (by omega) HDB.out).mono ?_
                   · rw [List.map_drop]
                     exact sl_cut (Sl.own HCA.out.1)
                   rintro e w5 ⟨rfl, rfl⟩
                   rw [HAN.out])
                | (go_at_call 54; refine (verts_any _ _ hs1 (hT.below (hb.alloc hszr _) hT.1)).mono ?_; rintro e w6 ⟨V3, c3, rfl, hVc3, hV3, hb6⟩
                   have hR6 := own_below (hR.alloc (.cells #[.int .u64 s] 54)) hb6 (Nat.le_refl _)
                   have hz6 : w4.heap.size ≤ w6.heap.size := by have := hb6.size; simp at this; omega
                   clear hVc3)
                | (at_builtin; refine wpList_append_own _ rfl _ _ 34 rfl w4.heap.size 40 j0 (.slice none 0 0) 1 24 Tryd.underlying34 hj hjz0 hjz1 hjz2 rfl (by decide) (.slice R m cr) m _ rfl (hR6.alloc _) ⟨w6.heap.size, 0, none⟩ 1 1 [.slice V3 (verts s).length c3] rfl rfl ?c1 ?c2 ?c3 ?c4 ?c5 ?_
                   case c1 => exact cell_one_new _ _ _
                   case c2 => simp [Value.oneCell']
                   case c3 => simp only [maxLen]; omega
                   case c4 => omega
                   case c5 => simp; omega
                   intro v' w7 hR7 hg7 _
                   obtain ⟨R2, cr2, hv2, hle2, _⟩ := Sl.of_own hR7
                   subst hv2))
              all_goals
                go_roundw
                case rel =>
                  have hVI : ((verts s).map vn) = (vertsI s).map vi := by simp [vertsI, vn, vi]
                  have hvl : (verts s).length = (vertsI s).length := by simp [vertsI]
                  have hV7 : w7.ownsRow w4.heap.size 3 1 (.slice V3 (vertsI s).length c3) (vertsI s).length ((vertsI s).map vi) := by
                    rw [← hvl, ← hVI]
                    exact own_base ((hV3.alloc (.cells #[.slice V3 (verts s).length c3] 40)).kept hg7 (own_ne hV3 hR6 (by decide))) (by simp; omega)
                  have hC7 := (own_below HCA.out.1 hb6 (Nat.le_refl _)).alloc (.cells #[.slice V3 (verts s).length c3] 40)
                  have hRw : RowsIn w7 w4.heap.size m F ls := ((hRows.alloc (.cells #[.int .u64 s] 54)).below hb6 (Nat.le_refl _)).alloc (.cells #[.slice V3 (verts s).length c3] 40) |>.kept hg7 (fun i hi => own_ne (((hRows.alloc (.cells #[.int .u64 s] 54)).below hb6 (Nat.le_refl _)) i hi) hR6 (by decide))
                  refine ⟨k + 1, m + 1, R2, cr2, snocF F m (V3, c3), snocF ls m (vertsI s), d ++ [s], by go_num, by omega, rfl, hle2, by omega, ?_, RowsIn.snoc (x := (V3, c3)) hRw hV7, hC7.kept hg7 (own_ne hC7 (hR6.alloc _) (by decide)), HK2, Lib.hid ?_, by have := hg7.size; simp at this; omega, ?_⟩
                  · rw [map_snoc, ← hvl]; exact hR7
                  · rw [List.range_succ, List.map_append, List.map_append, ← HL.out]
                    congr 1
                    · apply List.map_congr_left
                      intro i hi
                      have : i < m := by simpa using hi
                      simp [snocF]; omega
                    · simp [snocF]
                  · exact (((hb.alloc hszr _).trans (hb6.mono (by simp; omega))).alloc (by have := hb6.size; simp at this; omega) _).grown hg7 (by have := hb6.size; simp at this ⊢; omega) (fun q hq => by have := (hR6.lt q hq).1; have := hbw4.size; omega)
                case measure => simp [intOf]; omega
            · have HK2 : Hid (keepLast cs = d ++ keepLast (cs.drop (k + 1))) := by
                refine Lib.hid ?_
                rw [HK.out, HD.out, keepLast, if_pos hany]
              have HAN := Lib.hid hany
              clear hany HK
              go_wp2_with (go_at_call 52; refine (contains_at _ _ s wr.heap.size _ (cs.drop (k + 1)) _ HDL.out ?_ HCA.out.2 hs1 (by omega) HDB.out).mono ?_
                           · rw [List.map_drop]
                             exact sl_cut (Sl.own HCA.out.1)
                           rintro e w5 ⟨rfl, rfl⟩
                           rw [HAN.out])
              all_goals
                go_roundw
                case rel => exact ⟨k + 1, m, R, cr, F, ls, d, by go_num, by omega, rfl, hmc, by omega, hR.alloc _, hRows.alloc _, HCA.out.1, HK2, HL, by simp; omega, hb.alloc hszr _⟩
                case measure => simp [intOf]; omega
        · obtain rfl : k = ea.length := by omega
          have HK2 : Hid (keepLast cs = d) := Lib.hid (by rw [HK.out, List.drop_of_length_le (by rw [HCL.out]; exact Nat.le_refl _)]; simp [keepLast])
          have HLEN : Hid (∀ i, i < m → (ls i).length ≤ 1000000) := by
            refine Lib.hid fun i hi => ?_
            have h1 : ls i ∈ (List.range m).map ls := List.mem_map.2 ⟨i, by simpa using hi, rfl⟩
            rw [HL.out] at h1
            obtain ⟨x, _, hx⟩ := List.mem_map.1 h1
            rw [← hx]
            have := size_le x
            unfold size at this
            simp [vertsI]; omega
          clear HK hC
          go_wp2_with (go_at_call 55; refine (sort_rows R m cr w4.heap.size F ls wr hR hRows (by omega) HLEN.out).mono ?_; rintro e w9 ⟨rfl, lo, hlo⟩; have HLO := Lib.hid hlo; clear hlo)
          go_ret2
          obtain ⟨h1, h2, h3, h4, h5⟩ := HLO.out
          refine ⟨R, cr, lo, by rw [h1]; rfl, h4, ?_, h3, hb.trans (h5.mono hbw4.size)⟩
          rw [HCS.out, HK2.out, ← HL.out]
          exact h2
end Go.Proofs.Tg
