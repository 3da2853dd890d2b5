/- Parts of the proof: GWM, GWN, GWQ, GWR, GXF, GXK. -/
import Derived.Test.YtodapfjmgnekkaaGreatDoorMQ5
import Derived.Test.YtodapfjmgnekkaaGreatDoorMQ6
import Derived.Test.YtodapfjmgnekkaaGreatDoorMQ7
section
/- slices.ContainsFunc with the closure of Cliques. -/
namespace Go.Proofs.Tg.Gx
open Go.RowKit Go.Gr
set_option maxHeartbeats 1000000
set_option maxRecDepth 100000
theorem closure_any (s t b : Nat) (w : World) (hb : w.cell? ⟨b, 0, none⟩ = some (.int .u64 s)) (hs : s < 18446744073709551616) (ht : t < 18446744073709551616) :
    Calls Tryz.prog 96 #[.int .u64 t, .pointer (some ⟨b, 0, none⟩)] w fun e w' => e = .returned (.bool (decide (andn s t = 0))) ∧ w = w' := by
  have h1 := andn_zero_any t hs ht
  have h2 : (((andn s t : Nat) : Int) == 0) = decide (andn s t = 0) := by
    rw [Bool.eq_iff_iff]; simp
  generalize andn s t = z at h1 h2
  go_enter Tryz.func96, Tryz.ntmps96
  go_wp2
  go_ret
  refine ⟨?_, rfl⟩
  show Ending.returned (.bool _) = _
  first | rw [← h2] | rfl
theorem index_any (A : Option Addr) (c s b : Nat) (l : List Nat) (w : World) (hA : Sets w A l) (hb : w.cell? ⟨b, 0, none⟩ = some (.int .u64 s)) (hs : s < 18446744073709551616) (hl : l.length ≤ 1000000) (hls : ∀ t ∈ l, t < 18446744073709551616) :
    Calls Tryz.prog 118 #[.slice A l.length c, .func (.func 96) #[] #[.pointer (some ⟨b, 0, none⟩)]] w fun e w' => (∃ n : Int, e = .returned (.int .i64 n) ∧ (0 ≤ n ↔ ∃ t ∈ l, andn s t = 0)) ∧ w = w' := by
  have HLS := Lib.hid hls
  clear hls
  go_enter Tryz.func118, Tryz.ntmps118
  go_wp2
  go_loop [8] (fun i => ∃ k : Nat, i = .int .i64 k ∧ k ≤ l.length ∧ Hid (∀ t ∈ l.take k, ¬ andn s t = 0)) (fun i => l.length - (intOf i).toNat)
  case atStart => exact ⟨0, rfl, Nat.zero_le _, Lib.hid (by simp)⟩
  case round =>
    obtain ⟨k, rfl, hk, HN⟩ := hrel
    by_cases hkl : k < l.length
    · obtain ⟨ad, rfl, hc⟩ := Sets.at hA hkl
      have ht := HLS.out l[k] (List.getElem_mem _)
      have HT : Hid (l.take (k + 1) = l.take k ++ [l[k]]) := Lib.hid (List.take_succ_eq_append_getElem hkl)
      have HM : Hid (l[k] ∈ l) := Lib.hid (List.getElem_mem _)
      generalize l[k] = t at hc ht HT HM
      have hq := closure_any s t b w hb hs ht
      by_cases hz : andn s t = 0
      · rw [decide_eq_true hz] at hq
        have HQ := Lib.hid hq
        have HZ := Lib.hid hz
        clear hq hz
        go_wp2_with (go_at_call 96; refine HQ.out.mono ?_; rintro e w' ⟨rfl, rfl⟩)
        go_ret
        exact ⟨⟨k, rfl, fun _ => ⟨t, HM.out, HZ.out⟩, fun _ => by omega⟩, rfl⟩
      · rw [decide_eq_false hz] at hq
        have HQ := Lib.hid hq
        have HZ := Lib.hid hz
        clear hq hz
        go_wp2_with (go_at_call 96; refine HQ.out.mono ?_; rintro e w' ⟨rfl, rfl⟩)
        go_round
        case rel =>
          refine ⟨k + 1, by go_num, by omega, Lib.hid ?_⟩
          rw [HT.out]
          intro x hx
          rcases List.mem_append.1 hx with h | h
          · exact HN.out x h
          · simp at h; subst h; exact HZ.out
        case measure => simp [intOf]; omega
    · obtain rfl : k = l.length := by omega
      have HN2 : Hid (∀ t ∈ l, ¬ andn s t = 0) := Lib.hid (by have := HN.out; rwa [List.take_length] at this)
      clear HN
      go_wp2
      go_ret
      exact ⟨⟨-1, rfl, fun h => by omega, fun ⟨t, ht, hz⟩ => absurd hz (HN2.out t ht)⟩, rfl⟩
theorem contains_any (A : Option Addr) (c s b : Nat) (l : List Nat) (w : World) (hA : Sets w A l) (hb : w.cell? ⟨b, 0, none⟩ = some (.int .u64 s)) (hs : s < 18446744073709551616) (hl : l.length ≤ 1000000) (hls : ∀ t ∈ l, t < 18446744073709551616) :
    Calls Tryz.prog 95 #[.slice A l.length c, .func (.func 96) #[] #[.pointer (some ⟨b, 0, none⟩)]] w fun e w' => e = .returned (.bool (l.any fun t => decide (andn s t = 0))) ∧ w = w' := by
  have HI := Lib.hid (index_any A c s b l w hA hb hs hl hls)
  clear hA hb hls
  go_enter Tryz.func95, Tryz.ntmps95
  go_wp2_with (go_at_call 118; refine HI.out.mono ?_; rintro e w' ⟨⟨n, rfl, hn⟩, rfl⟩; have HN := Lib.hid hn; clear hn)
  go_ret
  refine ⟨?_, rfl⟩
  show Ending.returned (.bool (decide (0 ≤ n))) = _
  have : decide (0 ≤ n) = l.any fun t => decide (andn s t = 0) := by
    rw [Bool.eq_iff_iff, decide_eq_true_eq, HN.out, List.any_eq_true]
    simp
  rw [this]
end Go.Proofs.Tg.Gx
end
section
/- Cliques. -/
namespace Go.Gr
def cands (A : Nat → Nat) (n : Nat) : List Nat := List.zipWith bset (earlier A (search A n)) (search A n)
/-- The sets that are contained in no later one. -/
def keepLast : List Nat → List Nat
  | [] => []
  | s :: r => if (r.any fun t => decide (andn s t = 0)) = true then keepLast r else s :: keepLast r
def vertsI (s : Nat) : List Int := (verts s).map fun v : Nat => (v : Int)
theorem search_len {A : Nat → Nat} {n : Nat} (hn : n ≤ 64) : (search A n).length = n := (visits hn n (Nat.le_refl _)).len
theorem search_lt {A : Nat → Nat} {n : Nat} (hn : n ≤ 64) : ∀ v ∈ search A n, v < n := (visits hn n (Nat.le_refl _)).lt
theorem zip_at {l m : List Nat} {k : Nat} (h1 : k < l.length) (h2 : k < m.length) : (List.zipWith bset (l.take (k + 1)) (m.take (k + 1))) = List.zipWith bset (l.take k) (m.take k) ++ [bset l[k] m[k]] := by
  rw [List.take_succ_eq_append_getElem h1, List.take_succ_eq_append_getElem h2, List.zipWith_append (by simp; omega)]
  rfl
end Go.Gr
namespace Go.Proofs.Tg.Gx
open Go.RowKit Go.Gr
set_option maxHeartbeats 4000000
set_option maxRecDepth 100000
theorem rows_info : (Tryz.prog.info? 36).map (fun i => (i.zero, i.size, i.bytes)) = some (some (.slice none 0 0), 1, 24) := by kernel_rfl
theorem sets_at {w : World} {C : Option Addr} {N : Nat} {xs : List Nat} (h : Sl w C N 1 (xs.map vs)) (hN : xs.length = N) {k : Nat} (hk : k < N) : ∃ ad, C = some ad ∧ w.cell? (ad.add k) = some (.int .u64 (xs.getD k 0 : Nat)) := by
  subst hN
  obtain ⟨ad, e, hc⟩ := Sets.at h hk
  refine ⟨ad, e, ?_⟩
  rw [hc, List.getD_eq_getElem?_getD, List.getElem?_eq_getElem hk]; rfl
theorem drop_getD {xs : List Nat} {k : Nat} (hk : k < xs.length) : xs.drop k = xs.getD k 0 :: xs.drop (k + 1) := by
  rw [List.drop_eq_getElem_cons hk, List.getD_eq_getElem?_getD, List.getElem?_eq_getElem hk]; rfl
theorem getD_mem {xs : List Nat} {k : Nat} (hk : k < xs.length) : xs.getD k 0 ∈ xs := by
  rw [List.getD_eq_getElem?_getD, List.getElem?_eq_getElem hk]; exact List.getElem_mem _
theorem contains_at (A : Option Addr) (c s b N : Nat) (l : List Nat) (w : World) (hN : l.length = N) (hA : Sl w A N 1 (l.map vs)) (hb : w.cell? ⟨b, 0, none⟩ = some (.int .u64 s)) (hs : s < 18446744073709551616) (hl : N ≤ 1000000) (hls : ∀ t ∈ l, t < 18446744073709551616) :
    Calls Tryz.prog 95 #[.slice A N c, .func (.func 96) #[] #[.pointer (some ⟨b, 0, none⟩)]] w fun e w' => e = .returned (.bool (l.any fun t => decide (andn s t = 0))) ∧ w = w' := by
  subst hN
  exact contains_any A c s b l w hA hb hs hl hls
theorem sl_cut {w : World} {ad : Addr} {N k : Nat} {xs : List Value} (h : Sl w (some ad) N 1 xs) : Sl w (some ⟨ad.block, ad.off + (k + 1), none⟩) (N - (k + 1)) 1 (xs.drop (k + 1)) := by
  refine ⟨by rw [List.length_drop, h.len]; omega, fun hn => ?_⟩
  obtain ⟨ad', e, hb, hc⟩ := h.lies (by omega)
  injection e with e
  subst e
  refine ⟨_, rfl, hb, fun j u hu => ?_⟩
  have := hc (k + 1 + j) u (by rw [← hu, List.getElem?_drop])
  rw [← add_add] at this
  have e2 : ad.add (k + 1) = ⟨ad.block, ad.off + (k + 1), none⟩ := by unfold Addr.add; rw [if_neg (by omega)]
  rwa [e2] at this
theorem sl_none {w : World} {A : Option Addr} {N k : Nat} {xs : List Value} (hx : xs.length = N) (h : N ≤ k + 1) : Sl w A (N - (k + 1)) 1 (xs.drop (k + 1)) :=
  ⟨by rw [List.length_drop]; omega, fun hn => by omega⟩
theorem RowsIn.kept {w w' : World} {base m : Nat} {F : Nat → Option Addr × Nat} {ls : Nat → List Int} {row : Option Nat} (h : RowsIn w base m F ls) (hg : w.grownBy w' row) (hne : ∀ i, i < m → (enc F ls i).ownBlock = none ∨ (enc F ls i).ownBlock ≠ row) : RowsIn w' base m F ls :=
  fun i hi => (h i hi).kept hg (hne i hi)
theorem RowsIn.below {w w' : World} {base m B : Nat} {F : Nat → Option Addr × Nat} {ls : Nat → List Int} (h : RowsIn w base m F ls) (hb : Below B w w') (hB : w.heap.size ≤ B) : RowsIn w' base m F ls := fun i hi => own_below (h i hi) hb hB
theorem RowsIn.alloc {w : World} {base m : Nat} {F : Nat → Option Addr × Nat} {ls : Nat → List Int} (h : RowsIn w base m F ls) (o : Obj) : RowsIn (w.alloc o) base m F ls := fun i hi => (h i hi).alloc o
def snocF {α : Type} (F : Nat → α) (m : Nat) (x : α) : Nat → α := fun i => if i = m then x else F i
theorem enc_snoc_lt (F : Nat → Option Addr × Nat) (ls : Nat → List Int) (m : Nat) (x : Option Addr × Nat) (l : List Int) {i : Nat} (h : i < m) : enc (snocF F m x) (snocF ls m l) i = enc F ls i := by
  unfold enc snocF; rw [if_neg (by omega), if_neg (by omega)]
theorem enc_snoc_eq (F : Nat → Option Addr × Nat) (ls : Nat → List Int) (m : Nat) (x : Option Addr × Nat) (l : List Int) : enc (snocF F m x) (snocF ls m l) m = .slice x.1 l.length x.2 := by
  unfold enc snocF; simp
theorem map_snoc (F : Nat → Option Addr × Nat) (ls : Nat → List Int) (m : Nat) (x : Option Addr × Nat) (l : List Int) : (List.range (m + 1)).map (enc (snocF F m x) (snocF ls m l)) = (List.range m).map (enc F ls) ++ [.slice x.1 l.length x.2] := by
  rw [List.range_succ, List.map_append]
  congr 1
  · apply List.map_congr_left
    intro i hi
    exact enc_snoc_lt _ _ _ _ _ (by simpa using hi)
  · simp [enc_snoc_eq]
theorem RowsIn.snoc {w : World} {base m : Nat} {F : Nat → Option Addr × Nat} {ls : Nat → List Int} (h : RowsIn w base m F ls) {x : Option Addr × Nat} {l : List Int} (hx : w.ownsRow base 3 1 (.slice x.1 l.length x.2) l.length (l.map vi)) : RowsIn w base (m + 1) (snocF F m x) (snocF ls m l) := by
  intro i hi
  by_cases e : i = m
  · subst e
    rw [enc_snoc_eq]
    have : snocF ls i l i = l := by simp [snocF]
    rw [this]; exact hx
  · rw [enc_snoc_lt _ _ _ _ _ (by omega)]
    have : snocF ls m l i = ls i := by simp [snocF, e]
    rw [this]; exact h i (by omega)
theorem cliques_ok (n : Nat) (E : Option Addr) (c : Nat) (es : List (Int × Int)) (w : World) (hE : EdgesAt w E es) (hl : es.length ≤ 1000000) (hv : valid n es) (hT : Tab w) (hc : isChordal (readAll es) n = true) (h12 : n ≤ 12) :
    Calls Tryz.prog 62 #[.agg #[.int .i64 n, .slice E es.length c]] w fun e w' => ∃ V d ls, e = .returned (.tuple #[.slice V (List.length ls) d, .int .i64 0]) ∧ Lists w' V ls ∧ ls.Perm ((keepLast (cands (readAll es) n)).map vertsI) ∧
      sortedL ls ∧ Below w.heap.size w w' := by
  obtain ⟨j0, hj, hjz0, hjz1, hjz2⟩ := info_parts rows_info
  obtain ⟨i0, hi, hz0, hz1, hz2⟩ := info_parts set_info
  have hr := read_all n E c es true (w.alloc (.cells #[.int .i64 n, .slice E es.length c] 40)) (hE.keep ((Below.refl _ _).alloc (Nat.le_refl _) _)) hl (by simp [hv])
  have hsm := (readAll_small es n hv).1
  have hn : n ≤ 64 := by omega
  have hbA : Below w.heap.size w (w.alloc (.cells #[.int .i64 n, .slice E es.length c] 40)) := (Below.refl _ _).alloc (Nat.le_refl _) _
  have hB := Blk.new w 40 #[.int .i64 n, .slice E es.length c]
  have HR := Lib.hid hr
  have HB := Lib.hid hB
  have HC := Lib.hid hc
  clear hr hv hB hc
  go_enter Tryz.func62, Tryz.ntmps62
  go_wp2_with (first
    | (go_at_call 45; refine HR.out.mono ?_; rintro e w1 ⟨A, hAs, rfl, hAe, hb1⟩; obtain rfl := hAe rfl; clear hAe)
    | (refine adj_alloc _ _ _ _ ?_)
    | (refine wpList_store_row rfl 89 (.tmp 4) (.tmp 17) rfl w1.heap.size (adjA (readAll es)) rfl rfl 89 (adjA fun _ => 0) (Blk.new w1 89 _) (size56 _) (by simp only [adjA_size]) (adj_one _) ?_
       have hA1 := blk_setRow (Blk.new w1 89 (adjA fun _ => 0)) (adjA (readAll es))
       have hB1 := blk_setRow_far (Blk.alloc (HB.out.keep hb1 (Blk.lt HB.out)) (.cells (adjA fun _ => 0) 89)) (g' := w1.heap.size) (by have := hb1.size; simp at this; omega) (adjA (readAll es))
       have hbw := below_setRow ((hbA.trans (hb1.mono (by simp))).alloc (by have := hb1.size; simp at this; omega) (.cells (adjA fun _ => 0) 89)) (g := w1.heap.size) (by have := hb1.size; simp at this; omega) (adjA (readAll es))
       have c0 := hB1.cell 0
       simp at c0
       generalize (w1.alloc (.cells (adjA fun _ => 0) 89)).setRow w1.heap.size (adjA (readAll es)) = W at hA1 hB1 hbw c0 ⊢
       generalize w1.heap.size = g at hA1 ⊢)
    | (go_at_call 92; refine (chordalA_any _ _ (readAll es) _ hA1 hsm hn (hT.below hbw hT.1)).mono ?_; rintro e w2 ⟨rfl, hb2⟩; rw [HC.out]
       have c02 := keep_cell hb2 c0)
    | (go_at_call 93; refine (search_any _ _ (readAll es) _ (hA1.keep hb2 (Blk.lt hA1)) hsm hn).mono ?_; rintro e w3 ⟨V, cv, rfl, hVc, hV, hb3⟩)
    | (go_at_call 94; refine (earlier_any _ (readAll es) _ _ (search (readAll es) n) _ ((hA1.keep hb2 (Blk.lt hA1)).keep hb3 (Nat.lt_of_lt_of_le (Blk.lt hA1) hb2.size)) hsm (Sl.own hV) (by rw [search_len hn]; exact hn) (fun v hv => by have := search_lt hn v hv; omega)).mono ?_; rintro e w4 ⟨V2, cv2, rfl, hVc2, hV2, hb4⟩))
  have HCD : Hid (cands (readAll es) n = List.zipWith bset (earlier (readAll es) (search (readAll es) n)) (search (readAll es) n)) := Lib.hid rfl
  have hol : (search (readAll es) n).length ≤ n := by rw [search_len hn]; exact Nat.le_refl _
  have HOE : Hid ((earlier (readAll es) (search (readAll es) n)).length = (search (readAll es) n).length) := Lib.hid (by unfold earlier; rw [earlierFrom_len])
  have HOB : Hid (∀ v ∈ search (readAll es) n, v < 64) := Lib.hid (fun v hv => by have := search_lt hn v hv; omega)
  have HEB : Hid (∀ s ∈ earlier (readAll es) (search (readAll es) n), s < 18446744073709551616) := Lib.hid (sets_lt_earlier _ hsm _ _)
  have hVr := (Sl.own hV).keep hb4
  have hV2r := Sl.own hV2
  have hbw4 : Below w.heap.size w w4 := below_all (below_all (below_all hbw hb2) hb3) hb4
  have hel : (earlier (readAll es) (search (readAll es) n)).length ≤ n := by rw [HOE.out]; exact hol
  clear hV hV2 hb2 hb3 hb4 hbw hA1 hB1 c0 c02 hVc hVc2 HR HB HC hbA hb1 hAs hsm
  generalize earlier (readAll es) (search (readAll es) n) = ea at HCD HOE HEB hV2r hel ⊢
  generalize search (readAll es) n = o at HCD hol HOE HOB hVr ⊢
  go_loopw [31, 7] (fun i v wr => ∃ (k : Nat) (C : Option Addr) (cc : Nat), i = .int .i64 k ∧ k ≤ ea.length ∧ v = .slice C k cc ∧ k ≤ cc ∧ wr.ownsRow w4.heap.size 87 1 (.slice C k cc) k ((List.zipWith bset (ea.take k) (o.take k)).map vs) ∧ Below w4.heap.size w4 wr) (fun i _ _ => ea.length - (intOf i).toNat)
  case atStart => exact ⟨0, none, 0, rfl, Nat.zero_le _, rfl, Nat.le_refl _, World.ownsRow_nil _ _ _ _, Below.refl _ _⟩
  case round =>
    obtain ⟨k, C, cc, rfl, hk, rfl, hkc, hown, hb⟩ := hrel
    by_cases hkl : k < ea.length
    · have hko : k < o.length := by rw [← HOE.out]; exact hkl
      obtain ⟨ad, rfl, hc1⟩ := Sets.at (hV2r.keep hb) hkl
      obtain ⟨bd, rfl, hc2⟩ := Nats.at (hVr.keep hb) hko
      have hs1 := HEB.out ea[k] (List.getElem_mem _)
      have hs2 := HOB.out o[k] (List.getElem_mem _)
      have HZ : Hid (List.zipWith bset (ea.take (k + 1)) (o.take (k + 1)) = List.zipWith bset (ea.take k) (o.take k) ++ [bset ea[k] o[k]]) := Lib.hid (zip_at hkl hko)
      generalize ea[k] = x at hc1 hs1 HZ
      generalize o[k] = y at hc2 hs2 HZ
      have hsz := hb.size
      go_wp2_with (first
        | (go_at_call 47; refine (with_any _ _ _ hs1 hs2).mono ?_; rintro e w' ⟨rfl, rfl⟩)
        | (at_builtin; refine wpList_append_own _ rfl _ _ 148 rfl w4.heap.size 87 i0 (.int .u64 0) 1 8 Tryz.underlying148 hi hz0 hz1 hz2 rfl (by decide) (.slice C k cc) k _ rfl (hown.alloc _) ⟨wr.heap.size, 0, none⟩ 1 1 [.int .u64 (bset x y : Nat)] rfl rfl ?c1 ?c2 ?c3 ?c4 ?c5 ?_
           case c1 => exact cell_one_new _ _ _
           case c2 => simp [Value.oneCell']
           case c3 => simp only [maxLen]; omega
           case c4 => omega
           case c5 => simp; omega
           intro v' w5 hown' hgrow _
           obtain ⟨C2, cc2, hv2, hle2, _⟩ := Sl.of_own hown'
           subst hv2))
      go_roundw
      case rel =>
        refine ⟨k + 1, C2, cc2, by go_num, by omega, rfl, hle2, ?_, (hb.alloc hsz _).grown hgrow (by simp; omega) (fun q hq => (hown.lt q hq).1)⟩
        rw [HZ.out, List.map_append]
        exact hown'
      case measure => simp [intOf]; omega
    · obtain rfl : k = ea.length := by omega
      rw [List.take_length, show o.take ea.length = o from List.take_of_length_le (by rw [HOE.out]; exact Nat.le_refl _), ← HCD.out] at hown
      have HCL : Hid ((cands (readAll es) n).length = ea.length) := Lib.hid (by rw [HCD.out, List.length_zipWith, HOE.out, Nat.min_self])
      have HCB : Hid (∀ s ∈ cands (readAll es) n, s < 18446744073709551616) := by
        refine Lib.hid ?_
        rw [HCD.out]
        intro s hs
        obtain ⟨q, hq, rfl⟩ := List.mem_iff_getElem.1 hs
        rw [List.getElem_zipWith]
        exact bset_lt (HEB.out _ (List.getElem_mem _)) (HOB.out _ (List.getElem_mem _))
      clear HCD HOE HOB HEB hV2r hVr hk hkl
      generalize hcs : cands (readAll es) n = cs at hown HCL HCB
      have HCS := Lib.hid hcs
      clear hcs
      have hbw5 : Below w.heap.size w wr := below_all hbw4 hb
      have hsz := hb.size
      obtain ⟨wo, rfl⟩ : ∃ wo : World, wo = wr := ⟨_, rfl⟩
      go_wp2
      go_loopw [48, 10] (fun i v wr => ∃ (k m : Nat) (R : Option Addr) (cr : Nat) (F : Nat → Option Addr × Nat) (ls : Nat → List Int) (d : List Nat), i = .int .i64 k ∧ k ≤ ea.length ∧ v = .slice R m cr ∧ m ≤ cr ∧ m ≤ k ∧ wr.ownsRow w4.heap.size 36 1 (.slice R m cr) m ((List.range m).map (enc F ls)) ∧
          RowsIn wr w4.heap.size m F ls ∧ wr.ownsRow w4.heap.size 87 1 (.slice C ea.length cc) ea.length (cs.map vs) ∧ Hid (keepLast cs = d ++ keepLast (cs.drop k)) ∧ Hid ((List.range m).map ls = d.map vertsI) ∧ w4.heap.size ≤ wr.heap.size ∧ Below w.heap.size w wr) (fun i _ _ => ea.length - (intOf i).toNat)
      case atStart => exact ⟨0, 0, none, 0, fun _ => (none, 0), fun _ => [], [], rfl, Nat.zero_le _, rfl, Nat.le_refl _, Nat.le_refl _, World.ownsRow_nil _ _ _ _, fun i hi => by omega, hown, Lib.hid rfl, Lib.hid rfl, hsz, hbw5⟩
      case round =>
        clear hown hbw5 hb
        obtain ⟨k, m, R, cr, F, ls, d, rfl, hk, rfl, hmc, hmk, hR, hRows, hC, HK, HL, hw4, hb⟩ := hrel
        by_cases hkl : k < ea.length
        · obtain ⟨ad, rfl, hc1⟩ := sets_at (Sl.own hC) HCL.out hkl
          have hkc2 : k < cs.length := by rw [HCL.out]; exact hkl
          have hs1 := HCB.out _ (getD_mem hkc2)
          have HD : Hid (cs.drop k = cs.getD k 0 :: cs.drop (k + 1)) := Lib.hid (drop_getD hkc2)
          clear hkc2
          generalize cs.getD k 0 = s at hc1 hs1 HD
          have hCa := hC.alloc (.cells #[.int .u64 s] 87)
          have hBs := Blk.cell (Blk.new wr 87 #[.int .u64 s]) 0
          have HCA := Lib.hid (And.intro hCa hBs)
          have HDL : Hid ((cs.drop (k + 1)).length = ea.length - (k + 1)) := Lib.hid (by rw [List.length_drop, HCL.out])
          have HDB : Hid (∀ t ∈ cs.drop (k + 1), t < 18446744073709551616) := Lib.hid (fun t ht => HCB.out t (List.mem_of_mem_drop ht))
          have HCL2 : Hid ((cs.map vs).length = ea.length) := Lib.hid (by rw [List.length_map, HCL.out])
          have hszr := hb.size
          clear hCa hBs
          by_cases hcap : cc = k + 1
          · subst hcap
            have HDE : Hid (cs.drop (k + 1) = []) := Lib.hid (List.drop_of_length_le (by rw [HCL.out]; omega))
            have HK2 : Hid (keepLast cs = (d ++ [s]) ++ keepLast (cs.drop (k + 1))) := by
              refine Lib.hid ?_
              rw [HK.out, HD.out, keepLast, if_neg (by rw [HDE.out]; simp), List.append_assoc]; rfl
            clear HK
            go_wp2_with (first
              | (go_at_call 95; refine (contains_at _ _ s wr.heap.size 0 [] _ rfl ⟨by simp, fun h => by omega⟩ HCA.out.2 hs1 (by omega) (by simp)).mono ?_; rintro e w5 ⟨rfl, rfl⟩; simp only [List.any_nil])
              | (go_at_call 48; refine (verts_any _ _ hs1 (hT.below (hb.alloc hszr _) hT.1)).mono ?_; rintro e w6 ⟨V3, c3, rfl, hVc3, hV3, hb6⟩
                 have hR6 := own_below (hR.alloc (.cells #[.int .u64 s] 87)) hb6 (Nat.le_refl _)
                 have hz6 : w4.heap.size ≤ w6.heap.size := by have := hb6.size; simp at this; omega
                 clear hVc3)
              | (at_builtin; refine wpList_append_own _ rfl _ _ 25 rfl w4.heap.size 36 j0 (.slice none 0 0) 1 24 Tryz.underlying25 hj hjz0 hjz1 hjz2 rfl (by decide) (.slice R m cr) m _ rfl (hR6.alloc _) ⟨w6.heap.size, 0, none⟩ 1 1 [.slice V3 (verts s).length c3] rfl rfl ?c1 ?c2 ?c3 ?c4 ?c5 ?_
                 case c1 => exact cell_one_new _ _ _
                 case c2 => simp [Value.oneCell']
                 case c3 => simp only [maxLen]; omega
                 case c4 => omega
                 case c5 => simp; omega
                 intro v' w7 hR7 hg7 _
                 obtain ⟨R2, cr2, hv2, hle2, _⟩ := Sl.of_own hR7
                 subst hv2))
            all_goals
              go_roundw
              case rel =>
                have hVI : ((verts s).map vn) = (vertsI s).map vi := by simp [vertsI, vn, vi]
                have hvl : (verts s).length = (vertsI s).length := by simp [vertsI]
                have hV7 : w7.ownsRow w4.heap.size 3 1 (.slice V3 (vertsI s).length c3) (vertsI s).length ((vertsI s).map vi) := by
                  rw [← hvl, ← hVI]
                  exact own_base ((hV3.alloc (.cells #[.slice V3 (verts s).length c3] 36)).kept hg7 (own_ne hV3 hR6 (by decide))) (by simp; omega)
                have hC7 := (own_below HCA.out.1 hb6 (Nat.le_refl _)).alloc (.cells #[.slice V3 (verts s).length c3] 36)
                have hRw : RowsIn w7 w4.heap.size m F ls := ((hRows.alloc (.cells #[.int .u64 s] 87)).below hb6 (Nat.le_refl _)).alloc (.cells #[.slice V3 (verts s).length c3] 36) |>.kept hg7 (fun i hi => own_ne (((hRows.alloc (.cells #[.int .u64 s] 87)).below hb6 (Nat.le_refl _)) i hi) hR6 (by decide))
                refine ⟨k + 1, m + 1, R2, cr2, snocF F m (V3, c3), snocF ls m (vertsI s), d ++ [s], by go_num, by omega, rfl, hle2, by omega, ?_, RowsIn.snoc (x := (V3, c3)) hRw hV7, hC7.kept hg7 (own_ne hC7 (hR6.alloc _) (by decide)), HK2, Lib.hid ?_, by have := hg7.size; simp at this; omega, ?_⟩
                · rw [map_snoc, ← hvl]; exact hR7
                · rw [List.range_succ, List.map_append, List.map_append, ← HL.out]
                  congr 1
                  · apply List.map_congr_left
                    intro i hi
                    have : i < m := by simpa using hi
                    simp [snocF]; omega
                  · simp [snocF]
                · exact (((hb.alloc hszr _).trans (hb6.mono (by simp; omega))).alloc (by have := hb6.size; simp at this; omega) _).grown hg7 (by have := hb6.size; simp at this ⊢; omega) (fun q hq => by have := (hR6.lt q hq).1; have := hbw4.size; omega)
              case measure => simp [intOf]; omega
          · cases hany : (cs.drop (k + 1)).any fun t => decide (andn s t = 0)
            · have HK2 : Hid (keepLast cs = (d ++ [s]) ++ keepLast (cs.drop (k + 1))) := by
                refine Lib.hid ?_
                rw [HK.out, HD.out, keepLast, if_neg (by rw [hany]; simp), List.append_assoc]; rfl
              have HAN := Lib.hid hany
              clear hany HK
              go_wp2_with (first
                | (go_at_call 95; refine (contains_at _ _ s wr.heap.size _ (cs.drop (k + 1)) _ HDL.out ?_ HCA.out.2 hs1 (by omega) HDB.out).mono ?_
                   · rw [List.map_drop]
                     exact sl_cut (Sl.own HCA.out.1)
                   rintro e w5 ⟨rfl, rfl⟩
                   rw [HAN.out])
                | (go_at_call 48; refine (verts_any _ _ hs1 (hT.below (hb.alloc hszr _) hT.1)).mono ?_; rintro e w6 ⟨V3, c3, rfl, hVc3, hV3, hb6⟩
                   have hR6 := own_below (hR.alloc (.cells #[.int .u64 s] 87)) hb6 (Nat.le_refl _)
                   have hz6 : w4.heap.size ≤ w6.heap.size := by have := hb6.size; simp at this; omega
                   clear hVc3)
                | (at_builtin; refine wpList_append_own _ rfl _ _ 25 rfl w4.heap.size 36 j0 (.slice none 0 0) 1 24 Tryz.underlying25 hj hjz0 hjz1 hjz2 rfl (by decide) (.slice R m cr) m _ rfl (hR6.alloc _) ⟨w6.heap.size, 0, none⟩ 1 1 [.slice V3 (verts s).length c3] rfl rfl ?c1 ?c2 ?c3 ?c4 ?c5 ?_
                   case c1 => exact cell_one_new _ _ _
                   case c2 => simp [Value.oneCell']
                   case c3 => simp only [maxLen]; omega
                   case c4 => omega
                   case c5 => simp; omega
                   intro v' w7 hR7 hg7 _
                   obtain ⟨R2, cr2, hv2, hle2, _⟩ := Sl.of_own hR7
                   subst hv2))
              all_goals
                go_roundw
                case rel =>
                  have hVI : ((verts s).map vn) = (vertsI s).map vi := by simp [vertsI, vn, vi]
                  have hvl : (verts s).length = (vertsI s).length := by simp [vertsI]
                  have hV7 : w7.ownsRow w4.heap.size 3 1 (.slice V3 (vertsI s).length c3) (vertsI s).length ((vertsI s).map vi) := by
                    rw [← hvl, ← hVI]
                    exact own_base ((hV3.alloc (.cells #[.slice V3 (verts s).length c3] 36)).kept hg7 (own_ne hV3 hR6 (by decide))) (by simp; omega)
                  have hC7 := (own_below HCA.out.1 hb6 (Nat.le_refl _)).alloc (.cells #[.slice V3 (verts s).length c3] 36)
                  have hRw : RowsIn w7 w4.heap.size m F ls := ((hRows.alloc (.cells #[.int .u64 s] 87)).below hb6 (Nat.le_refl _)).alloc (.cells #[.slice V3 (verts s).length c3] 36) |>.kept hg7 (fun i hi => own_ne (((hRows.alloc (.cells #[.int .u64 s] 87)).below hb6 (Nat.le_refl _)) i hi) hR6 (by decide))
                  refine ⟨k + 1, m + 1, R2, cr2, snocF F m (V3, c3), snocF ls m (vertsI s), d ++ [s], by go_num, by omega, rfl, hle2, by omega, ?_, RowsIn.snoc (x := (V3, c3)) hRw hV7, hC7.kept hg7 (own_ne hC7 (hR6.alloc _) (by decide)), HK2, Lib.hid ?_, by have := hg7.size; simp at this; omega, ?_⟩
                  · rw [map_snoc, ← hvl]; exact hR7
                  · rw [List.range_succ, List.map_append, List.map_append, ← HL.out]
                    congr 1
                    · apply List.map_congr_left
                      intro i hi
                      have : i < m := by simpa using hi
                      simp [snocF]; omega
                    · simp [snocF]
                  · exact (((hb.alloc hszr _).trans (hb6.mono (by simp; omega))).alloc (by have := hb6.size; simp at this; omega) _).grown hg7 (by have := hb6.size; simp at this ⊢; omega) (fun q hq => by have := (hR6.lt q hq).1; have := hbw4.size; omega)
                case measure => simp [intOf]; omega
            · have HK2 : Hid (keepLast cs = d ++ keepLast (cs.drop (k + 1))) := by
                refine Lib.hid ?_
                rw [HK.out, HD.out, keepLast, if_pos hany]
              have HAN := Lib.hid hany
              clear hany HK
              go_wp2_with (go_at_call 95; refine (contains_at _ _ s wr.heap.size _ (cs.drop (k + 1)) _ HDL.out ?_ HCA.out.2 hs1 (by omega) HDB.out).mono ?_
                           · rw [List.map_drop]
                             exact sl_cut (Sl.own HCA.out.1)
                           rintro e w5 ⟨rfl, rfl⟩
                           rw [HAN.out])
              all_goals
                go_roundw
                case rel => exact ⟨k + 1, m, R, cr, F, ls, d, by go_num, by omega, rfl, hmc, by omega, hR.alloc _, hRows.alloc _, HCA.out.1, HK2, HL, by simp; omega, hb.alloc hszr _⟩
                case measure => simp [intOf]; omega
        · obtain rfl : k = ea.length := by omega
          have HK2 : Hid (keepLast cs = d) := Lib.hid (by rw [HK.out, List.drop_of_length_le (by rw [HCL.out]; exact Nat.le_refl _)]; simp [keepLast])
          have HLEN : Hid (∀ i, i < m → (ls i).length ≤ 1000000) := by
            refine Lib.hid fun i hi => ?_
            have h1 : ls i ∈ (List.range m).map ls := List.mem_map.2 ⟨i, by simpa using hi, rfl⟩
            rw [HL.out] at h1
            obtain ⟨x, _, hx⟩ := List.mem_map.1 h1
            rw [← hx]
            have := size_le x
            unfold size at this
            simp [vertsI]; omega
          clear HK hC
          go_wp2_with (go_at_call 97; refine (sort_rows R m cr w4.heap.size F ls wr hR hRows (by omega) HLEN.out).mono ?_; rintro e w9 ⟨rfl, lo, hlo⟩; have HLO := Lib.hid hlo; clear hlo)
          go_ret2
          obtain ⟨h1, h2, h3, h4, h5⟩ := HLO.out
          refine ⟨R, cr, lo, by rw [h1]; rfl, h4, ?_, h3, hb.trans (h5.mono hbw4.size)⟩
          rw [HCS.out, HK2.out, ← HL.out]
          exact h2
end Go.Proofs.Tg.Gx
end
section
/- Comparisons of lists in the statements. -/
namespace Go.Proofs.Tg.Gx
open Go.RowKit Go.Gr
set_option maxHeartbeats 1000000
set_option maxRecDepth 100000
/-- The world has turned in draws alone. -/
def Dr (w w' : World) : Prop := ∃ n, w' = w.drewN n
theorem Dr.refl (w : World) : Dr w w := ⟨0, rfl⟩
theorem Dr.below {w w' : World} (h : Dr w w') : Below w.heap.size w w' := by
  obtain ⟨n, rfl⟩ := h
  exact below_drewN (Below.refl _ _) n
theorem Dr.drewN {w w' : World} (h : Dr w w') (k : Nat) : Dr w (w'.drewN k) := by
  obtain ⟨n, rfl⟩ := h
  exact ⟨n + k, by rw [World.drewN_drewN]⟩
theorem ints_any (A B : Option Addr) (xs ys : List Int) (c d : Nat) (w : World) (hx : Ints w A xs) (hy : Ints w B ys) (hn : xs.length ≤ 1000000) :
    Calls Tryz.prog 25 #[.slice A xs.length c, .slice B ys.length d] w fun e w' => e = .returned (.bool (decide (xs = ys))) ∧ Dr w w' := by
  by_cases hl : xs.length = ys.length
  · have hb : ((xs.length : Int) != (ys.length : Int)) = false := by simp [hl]
    have HL := Lib.hid hl; clear hl
    go_enter Tryz.func25, Tryz.ntmps25
    go_wp2
    go_loopw [5] (fun i wr => ∃ k : Nat, k ≤ xs.length ∧ i = .int .i64 k ∧ Hid (xs.take k = ys.take k) ∧ Dr w wr) (fun i _ => xs.length - (intOf i).toNat)
    case atStart => exact ⟨0, Nat.zero_le _, rfl, Lib.hid (by simp), Dr.refl _⟩
    case round =>
      obtain ⟨k, hk, rfl, HT, hbw⟩ := hrel
      by_cases hlt : k < xs.length
      · have hky : k < ys.length := by have := HL.out; omega
        obtain ⟨ad, rfl, hc⟩ := Ints.at (hx.keep hbw.below) hlt
        obtain ⟨bd, rfl, hd⟩ := Ints.at (hy.keep hbw.below) hky
        have HX : Hid (xs.take (k + 1) = xs.take k ++ [xs[k]]) := Lib.hid (List.take_succ_eq_append_getElem hlt)
        have HY : Hid (ys.take (k + 1) = ys.take k ++ [ys[k]]) := Lib.hid (List.take_succ_eq_append_getElem hky)
        have HNE : Hid (xs = ys → xs[k] = ys[k]) := Lib.hid (fun e => by subst e; rfl)
        clear hx hy
        generalize xs[k] = x at hc HX HNE
        generalize ys[k] = y at hd HY HNE
        by_cases heq : x = y
        · have hbb : (x != y) = false := by simp [heq]
          have HE := Lib.hid heq; clear heq
          go_wp2
          go_quiet (fail)
          go_wp2
          go_roundw
          case rel => exact ⟨k + 1, by omega, by go_num, Lib.hid (by rw [HX.out, HY.out, HT.out, HE.out]), hbw.drewN _⟩
          case measure => simp [intOf]; omega
        · have hbb : (x != y) = true := by simp [heq]
          have HF : Hid (decide (xs = ys) = false) := Lib.hid (decide_eq_false (fun e => heq (HNE.out e)))
          clear heq
          go_wp2
          go_quiet (fail)
          go_wp2
          go_ret
          exact ⟨by rw [HF.out]; rfl, hbw.drewN _⟩
      · have HF : Hid (decide (xs = ys) = true) := Lib.hid (decide_eq_true (by
          have := HT.out
          rwa [List.take_of_length_le (by omega), List.take_of_length_le (by have := HL.out; omega)] at this))
        go_wp2
        go_ret
        exact ⟨by rw [HF.out]; rfl, hbw⟩
  · have hb : ((xs.length : Int) != (ys.length : Int)) = true := by simp; omega
    have HF : Hid (decide (xs = ys) = false) := Lib.hid (decide_eq_false (fun e => hl (by rw [e])))
    clear hl
    go_enter Tryz.func25, Tryz.ntmps25
    go_wp2
    go_ret
    exact ⟨by rw [HF.out]; rfl, Dr.refl _⟩
theorem lists_any (A B : Option Addr) (xs ys : List (List Int)) (c d : Nat) (w : World) (hx : Lists w A xs) (hy : Lists w B ys) (hn : xs.length ≤ 1000000) (hi : ∀ l ∈ xs, l.length ≤ 1000000) :
    Calls Tryz.prog 14 #[.slice A xs.length c, .slice B ys.length d] w fun e w' => e = .returned (.bool (decide (xs = ys))) ∧ Dr w w' := by
  have HI := Lib.hid hi
  clear hi
  by_cases hl : xs.length = ys.length
  · have hb : ((xs.length : Int) != (ys.length : Int)) = false := by simp [hl]
    have HL := Lib.hid hl; clear hl
    go_enter Tryz.func14, Tryz.ntmps14
    go_wp2
    go_loopw [5] (fun i wr => ∃ k : Nat, k ≤ xs.length ∧ i = .int .i64 k ∧ Hid (xs.take k = ys.take k) ∧ Dr w wr) (fun i _ => xs.length - (intOf i).toNat)
    case atStart => exact ⟨0, Nat.zero_le _, rfl, Lib.hid (by simp), Dr.refl _⟩
    case round =>
      obtain ⟨k, hk, rfl, HT, hbw⟩ := hrel
      by_cases hlt : k < xs.length
      · have hky : k < ys.length := by have := HL.out; omega
        obtain ⟨ad, A1, c1, rfl, hc, hA1⟩ := Lists.at (hx.keep hbw.below) hlt
        obtain ⟨bd, B1, d1, rfl, hd, hB1⟩ := Lists.at (hy.keep hbw.below) hky
        have HX : Hid (xs.take (k + 1) = xs.take k ++ [xs[k]]) := Lib.hid (List.take_succ_eq_append_getElem hlt)
        have HY : Hid (ys.take (k + 1) = ys.take k ++ [ys[k]]) := Lib.hid (List.take_succ_eq_append_getElem hky)
        have HNE : Hid (xs = ys → xs[k] = ys[k]) := Lib.hid (fun e => by subst e; rfl)
        have hlen := HI.out xs[k] (List.getElem_mem _)
        clear hx hy
        generalize xs[k] = x at hc HX HNE hA1 hlen
        generalize ys[k] = y at hd HY HNE hB1
        have hq := fun W (h : Dr wr W) => ints_any A1 B1 x y c1 d1 W (hA1.keep h.below) (hB1.keep h.below) hlen
        by_cases heq : x = y
        · have HQ : Hid (∀ W, Dr wr W → Calls Tryz.prog 25 #[.slice A1 x.length c1, .slice B1 y.length d1] W fun e w' => e = .returned (.bool true) ∧ ∃ m, w' = W.drewN m) := Lib.hid (fun W h => (hq W h).mono fun e w' h2 => ⟨by rw [h2.1, decide_eq_true heq], h2.2⟩)
          have HE := Lib.hid heq; clear heq hq
          go_wp2
          go_quiet ((go_at_call 25; exact Calls.quiet_of (HQ.out _ ⟨_, rfl⟩)))
          go_wp2
          go_roundw
          case rel => exact ⟨k + 1, by omega, by go_num, Lib.hid (by rw [HX.out, HY.out, HT.out, HE.out]), hbw.drewN _⟩
          case measure => simp [intOf]; omega
        · have HF : Hid (decide (xs = ys) = false) := Lib.hid (decide_eq_false (fun e => heq (HNE.out e)))
          have HQ : Hid (∀ W, Dr wr W → Calls Tryz.prog 25 #[.slice A1 x.length c1, .slice B1 y.length d1] W fun e w' => e = .returned (.bool false) ∧ ∃ m, w' = W.drewN m) := Lib.hid (fun W h => (hq W h).mono fun e w' h2 => ⟨by rw [h2.1, decide_eq_false heq], h2.2⟩)
          clear heq hq
          go_wp2
          go_quiet ((go_at_call 25; exact Calls.quiet_of (HQ.out _ ⟨_, rfl⟩)))
          go_wp2
          go_ret
          exact ⟨by rw [HF.out]; rfl, hbw.drewN _⟩
      · have HF : Hid (decide (xs = ys) = true) := Lib.hid (decide_eq_true (by
          have := HT.out
          rwa [List.take_of_length_le (by omega), List.take_of_length_le (by have := HL.out; omega)] at this))
        go_wp2
        go_ret
        exact ⟨by rw [HF.out]; rfl, hbw⟩
  · have hb : ((xs.length : Int) != (ys.length : Int)) = true := by simp; omega
    have HF : Hid (decide (xs = ys) = false) := Lib.hid (decide_eq_false (fun e => hl (by rw [e])))
    clear hl
    go_enter Tryz.func14, Tryz.ntmps14
    go_wp2
    go_ret
    exact ⟨by rw [HF.out]; rfl, Dr.refl _⟩
end Go.Proofs.Tg.Gx
end
section
/- The statements' sanity check: the chapter's first two examples. -/
namespace Go.Gr
def es0 : List (Int × Int) := [(0, 1), (2, 1), (2, 3), (3, 0), (0, 1)]
def es1 : List (Int × Int) := [(0, 1), (0, 3), (1, 2), (2, 3)]
def es2 : List (Int × Int) := [(0, 1), (0, 3), (1, 2), (1, 3), (2, 3)]
theorem w1 : writeEdges (readAll es0) 4 = es1 := by decide +kernel
theorem w2 : writeEdges (extend (readAll es1) 4) 4 = es2 := by decide +kernel
theorem ch1 : isChordal (readAll es1) 4 = false := by decide +kernel
theorem ch2 : isChordal (readAll es2) 4 = true := by decide +kernel
theorem cl2 : (keepLast (cands (readAll es2) 4)).map vertsI = [[0, 1, 3], [1, 2, 3]] := by decide +kernel
theorem tr2 : tree ([[0, 1, 3], [1, 2, 3]].map setOf) = [-1, 0] := by decide +kernel
theorem v1 : valid 4 es1 := by
  refine ⟨by omega, by omega, fun i hi _ => ?_⟩
  have h4 : i < 4 := hi
  have : i = 0 ∨ i = 1 ∨ i = 2 ∨ i = 3 := by omega
  rcases this with rfl | rfl | rfl | rfl <;> exact ⟨⟨by simp [es1], by simp [es1], by simp [es1]⟩, fun h0 => by first | exact absurd h0 (by omega) | simp [es1, cmpE, orI, cmpI]⟩
theorem v2 : valid 4 es2 := by
  refine ⟨by omega, by omega, fun i hi _ => ?_⟩
  have h4 : i < 5 := hi
  have : i = 0 ∨ i = 1 ∨ i = 2 ∨ i = 3 ∨ i = 4 := by omega
  rcases this with rfl | rfl | rfl | rfl | rfl <;> exact ⟨⟨by simp [es2], by simp [es2], by simp [es2]⟩, fun h0 => by first | exact absurd h0 (by omega) | simp [es2, cmpE, orI, cmpI]⟩
theorem r0 : rangeOk 4 es0 ∧ ∀ x ∈ es0, x.1 ≠ x.2 := by
  refine ⟨⟨by omega, fun e he => ?_⟩, by decide⟩
  simp only [es0, List.mem_cons, List.not_mem_nil, or_false] at he
  rcases he with rfl | rfl | rfl | rfl | rfl <;> exact ⟨by decide, by decide, by decide, by decide⟩
theorem two_sorted {ls : List (List Int)} (hp : ls.Perm [[0, 1, 3], [1, 2, 3]]) (hs : Go.Proofs.Tg.Gx.sortedL ls) : ls = [[0, 1, 3], [1, 2, 3]] := by
  have hl := hp.length_eq
  match ls, hl with
  | [x, y], _ =>
    have hx : x = [0, 1, 3] ∨ x = [1, 2, 3] := by have := hp.mem_iff.1 (show x ∈ [x, y] by simp); simpa using this
    have hy : y = [0, 1, 3] ∨ y = [1, 2, 3] := by have := hp.mem_iff.1 (show y ∈ [x, y] by simp); simpa using this
    have h0 := hs 0 1 (by omega) (by simp)
    have m1 : [0, 1, 3] ∈ [x, y] := hp.mem_iff.2 (by simp)
    have m2 : [1, 2, 3] ∈ [x, y] := hp.mem_iff.2 (by simp)
    rcases hx with rfl | rfl <;> rcases hy with rfl | rfl
    · exact absurd m2 (by decide)
    · rfl
    · exact absurd h0 (by decide)
    · exact absurd m1 (by decide)
end Go.Gr
namespace Go.Proofs.Tg.Gx
open Go.RowKit Go.Gr
set_option maxHeartbeats 1000000
set_option maxRecDepth 100000
theorem sl_blk {w : World} {g n sz : Nat} {t : TypeId} {xs : List Value} (h : Blk w g t xs.toArray) (hl : xs.length = n * sz) : Sl w (some ⟨g, 0, none⟩) n sz xs :=
  ⟨hl, fun _ => ⟨_, rfl, h.lt, fun j u hu => by rw [add_lit, Nat.zero_add, h.cell j, List.getElem?_toArray]; exact hu⟩⟩
theorem aw_make (W : World) (g : Nat) (hB : Blk W g 83 (ecells es0).toArray) (hT : Tab W) :
    Calls Tryz.prog 57 #[.int .i64 4, .slice (some ⟨g, 0, none⟩) 5 5] W fun e w' => ∃ F d, e = .returned (.tuple #[.agg #[.int .i64 4, .slice F 4 d], .int .i64 0]) ∧ EdgesAt w' F es1 ∧ Below W.heap.size W w' := by
  refine (make_any 4 (some ⟨g, 0, none⟩) 5 es0 W (sl_blk hB rfl) (by decide) hT).mono fun e w' h => ?_
  rcases h with ⟨h1, _⟩ | ⟨_, ⟨x, hx, he⟩, _⟩ | ⟨_, _, F, d, h1, h2, h3⟩
  · exact absurd r0.1 h1
  · exact absurd he (r0.2 x hx)
  · have e1 : writeEdges (readAll es0) (4 : Int).toNat = es1 := w1
    rw [e1] at h1 h2
    exact ⟨F, d, h1, Sl.own h2, h3⟩
theorem aw_extend (W : World) (F : Option Addr) (d : Nat) (hE : EdgesAt W F es1) (hT : Tab W) :
    Calls Tryz.prog 61 #[.agg #[.int .i64 4, .slice F 4 d]] W fun e w' => ∃ F d, e = .returned (.tuple #[.agg #[.int .i64 4, .slice F 5 d], .int .i64 0]) ∧ EdgesAt w' F es2 ∧ Below W.heap.size W w' := by
  have h := extend_ok 4 F d es1 W hE (by decide) v1 hT
  rw [w2] at h
  exact h.mono fun e w' ⟨F, d, h1, h2, h3⟩ => ⟨F, d, h1, Sl.own h2, h3⟩
theorem aw_cliques (W : World) (F : Option Addr) (d : Nat) (hE : EdgesAt W F es2) (hT : Tab W) :
    Calls Tryz.prog 62 #[.agg #[.int .i64 4, .slice F 5 d]] W fun e w' => ∃ V d, e = .returned (.tuple #[.slice V 2 d, .int .i64 0]) ∧ Lists w' V [[0, 1, 3], [1, 2, 3]] ∧ Below W.heap.size W w' := by
  refine (cliques_ok 4 F d es2 W hE (by decide) v2 hT ch2 (by omega)).mono fun e w' ⟨V, d, ls, h1, h2, h3, h4, h5⟩ => ?_
  rw [cl2] at h3
  obtain rfl := two_sorted h3 h4
  exact ⟨V, d, h1, h2, h5⟩
theorem aw_lists (W : World) (V : Option Addr) (c g1 g2 g3 : Nat) (hV : Lists W V [[0, 1, 3], [1, 2, 3]]) (h1 : Blk W g1 3 #[.int .i64 0, .int .i64 1, .int .i64 3]) (h2 : Blk W g2 3 #[.int .i64 1, .int .i64 2, .int .i64 3])
    (h3 : Blk W g3 36 #[.slice (some ⟨g1, 0, none⟩) 3 3, .slice (some ⟨g2, 0, none⟩) 3 3]) :
    Calls Tryz.prog 14 #[.slice V 2 c, .slice (some ⟨g3, 0, none⟩) 2 2] W fun e w' => e = .returned (.bool true) ∧ Below W.heap.size W w' := by
  have hL : Lists W (some ⟨g3, 0, none⟩) [[0, 1, 3], [1, 2, 3]] := by
    refine ⟨fun i => if i = 0 then (some ⟨g1, 0, none⟩, 3) else (some ⟨g2, 0, none⟩, 3), sl_blk h3 rfl, fun i hi => ?_⟩
    have : i = 0 ∨ i = 1 := by simp at hi; omega
    rcases this with rfl | rfl
    · exact sl_blk h1 rfl
    · exact sl_blk h2 rfl
  exact (lists_any V _ [[0, 1, 3], [1, 2, 3]] [[0, 1, 3], [1, 2, 3]] c 2 W hV hL (by decide) (by simp)).mono fun e w' h => ⟨by rw [h.1]; rfl, h.2.below⟩
theorem aw_ints (W : World) (A : Option Addr) (c g : Nat) (hA : Ints W A [-1, 0]) (h : Blk W g 3 #[.int .i64 (-1), .int .i64 0]) :
    Calls Tryz.prog 25 #[.slice A 2 c, .slice (some ⟨g, 0, none⟩) 2 2] W fun e w' => e = .returned (.bool true) ∧ Below W.heap.size W w' :=
  (ints_any A _ [-1, 0] [-1, 0] c 2 W hA (sl_blk h rfl) (by decide)).mono fun e w' h => ⟨by rw [h.1]; rfl, h.2.below⟩
end Go.Proofs.Tg.Gx
end
section
/- The reference's Tree. -/
namespace Go.Proofs.Tg.Gx
open Go.RowKit Go.Gr
set_option maxHeartbeats 2000000
set_option maxRecDepth 100000
def goodLs (ls : List (List Int)) : Prop := ∀ l ∈ ls, 0 < l.length ∧ asc l
def RetRTree (ls : List (List Int)) (w : World) (e : Ending) (w' : World) : Prop :=
  (¬ goodLs ls ∧ e = .returned (.tuple #[.slice none 0 0, .int .i64 1]) ∧ Below w.heap.size w w') ∨
  (goodLs ls ∧ ∃ A c, e = .returned (.tuple #[.slice A ls.length c, .int .i64 0]) ∧ Ints w' A ((List.range ls.length).map (rtree ls ls.length).2) ∧ Below w.heap.size w w')
theorem farr_upd {n : Nat} {α : Type} (g : α → Value) (f : Nat → α) (i : Nat) (x : α) : (farr n fun k => g (f k)).setIfInBounds i (g x) = farr n fun k => g (updF f i x k) := by
  rw [farr_set]
  apply farr_congr
  intro k _
  unfold updF
  by_cases h : k = i <;> simp [h]
theorem Lists.two {w : World} {V : Option Addr} {ls : List (List Int)} (h : Lists w V ls) {j q : Nat} (hj : j < ls.length) (hq : q < ls.length) :
    ∃ ad A c B d, V = some ad ∧ w.cell? (ad.add j) = some (.slice A ls[j].length c) ∧ Ints w A ls[j] ∧ w.cell? (ad.add q) = some (.slice B ls[q].length d) ∧ Ints w B ls[q] := by
  obtain ⟨ad, A, c, rfl, h1, h2⟩ := Lists.at h hj
  obtain ⟨ad', B, d, e, h3, h4⟩ := Lists.at h hq
  injection e with e
  subst e
  exact ⟨ad, A, c, B, d, rfl, h1, h2, h3, h4⟩
end Go.Proofs.Tg.Gx
end
section
/- The reference's simplicial and Triangulated. -/
namespace Go.Gr
def okp (t : Nat → Nat → Bool) (gone : Nat → Bool) (i a b : Nat) : Bool := !(!gone a && !gone b && t i a && t i b && !t a b)
def simpB (t : Nat → Nat → Bool) (n : Nat) (gone : Nat → Bool) (i : Nat) : Bool := (List.range n).all fun a => (List.range a).all fun b => okp t gone i a b
theorem simpB_iff {t : Nat → Nat → Bool} {n : Nat} {gone : Nat → Bool} {i : Nat} : simpB t n gone i = true ↔ ∀ a, a < n → ∀ b, b < a → okp t gone i a b = true := by
  unfold simpB
  simp only [List.all_eq_true, List.mem_range]
def okV (t : Nat → Nat → Bool) (n : Nat) (gone : Nat → Bool) (i : Nat) : Bool := !gone i && simpB t n gone i
/-- The vertices that are gone after r steps, if there is one to go at each. -/
def triTo (t : Nat → Nat → Bool) (n : Nat) : Nat → Option (Nat → Bool)
  | 0 => some fun _ => false
  | r + 1 => match triTo t n r with
    | none => none
    | some gone => match (List.range n).find? (okV t n gone) with
      | none => none
      | some i => some (updF gone i true)
def triang (t : Nat → Nat → Bool) (n : Nat) : Bool := (triTo t n n).isSome
theorem find_first {p : Nat → Bool} {n j : Nat} (hj : j < n) (hp : p j = true) (hf : ∀ i, i < j → p i = false) : (List.range n).find? p = some j := by
  rw [List.find?_eq_some_iff_getElem]
  refine ⟨hp, j, by simpa using hj, by simp, fun i hi => ?_⟩
  simp [hf i hi]
theorem find_no {p : Nat → Bool} {n : Nat} (hf : ∀ i, i < n → p i = false) : (List.range n).find? p = none := by
  rw [List.find?_eq_none]
  intro i hi
  rw [hf i (by simpa using hi)]; simp
theorem triTo_none {t : Nat → Nat → Bool} {n r : Nat} (h : triTo t n r = none) : ∀ d, triTo t n (r + d) = none
  | 0 => h
  | d + 1 => by
    show (match triTo t n (r + d) with | none => none | some gone => _) = none
    rw [triTo_none h d]
end Go.Gr
namespace Go.Proofs.Tg.Gx
open Go.RowKit Go.Gr
set_option maxHeartbeats 4000000
set_option maxRecDepth 100000
theorem rsimp_any (g gg n i : Nat) (t : Nat → Nat → Bool) (gone : Nat → Bool) (w : World) (hT : TableAt w g n t) (hG : Blk w gg 4 (farr n fun v => .bool (gone v))) (hi : i < n) (hn : n ≤ 64) :
    Calls Tryz.prog 99 #[.slice (some ⟨g, 0, none⟩) n n, .slice (some ⟨gg, 0, none⟩) n n, .int .i64 i] w fun e w' => e = .returned (.bool (simpB t n gone i)) ∧ w = w' := by
  obtain ⟨bv, hbv⟩ : ∃ bv, simpB t n gone i = bv := ⟨_, rfl⟩
  have HV : Hid (bv = true ↔ ∀ a, a < n → ∀ b, b < a → okp t gone i a b = true) := Lib.hid (by rw [← hbv]; exact simpB_iff)
  rw [hbv]
  clear hbv
  have ci := (hT.head.cell i).trans (farr_at n _ hi)
  unfold rowV at ci
  have hin0 : (0 : Int) ≤ (i : Int) := by omega
  have hin1 : (i : Int) < (n : Int) := by omega
  go_enter Tryz.func99, Tryz.ntmps99
  go_wp2
  go_loop [7] (fun x => ∃ k : Nat, x = .int .i64 k ∧ k ≤ n ∧ Hid (∀ a, a < k → ∀ b, b < a → okp t gone i a b = true)) (fun x => n - (intOf x).toNat)
  case atStart => exact ⟨0, rfl, Nat.zero_le _, Lib.hid (fun a h => by omega)⟩
  case round =>
    obtain ⟨k, rfl, hk, HK⟩ := hrel
    by_cases hkn : k < n
    · have hkb : decide ((k : Int) < (n : Int)) = true := by simp; omega
      have cgk := (hG.cell k).trans (farr_at n _ hkn)
      have cik := ((hT.row i hi).cell k).trans (farr_at n _ hkn)
      have ck := (hT.head.cell k).trans (farr_at n _ hkn)
      unfold rowV at ck
      have k0 : (0 : Int) ≤ (k : Int) := by omega
      have k1 : (k : Int) < (n : Int) := by omega
      go_wp2
      go_loop [8] (fun x => ∃ q : Nat, x = .int .i64 q ∧ q ≤ k ∧ Hid (∀ b, b < q → okp t gone i k b = true)) (fun x => k - (intOf x).toNat)
      case atStart => exact ⟨0, rfl, Nat.zero_le _, Lib.hid (fun b h => by omega)⟩
      case round =>
        obtain ⟨q, rfl, hq, HQ⟩ := hrel
        by_cases hqk : q < k
        · have hqb : decide ((q : Int) < (k : Int)) = true := by simp; omega
          have hqn : q < n := by omega
          have cgq := (hG.cell q).trans (farr_at n _ hqn)
          have ciq := ((hT.row i hi).cell q).trans (farr_at n _ hqn)
          have ckq := ((hT.row k hkn).cell q).trans (farr_at n _ hqn)
          have q0 : (0 : Int) ≤ (q : Int) := by omega
          have q1 : (q : Int) < (n : Int) := by omega
          have HN : Hid (okp t gone i k q = true → ∀ b, b < q + 1 → okp t gone i k b = true) := Lib.hid (fun h b hb => by
            by_cases e : b = q
            · rw [e]; exact h
            · exact HQ.out b (by omega))
          have HF : Hid (okp t gone i k q = false → bv = false) := Lib.hid (fun h => by
            cases bv
            · rfl
            · have := HV.out.1 rfl k hkn q hqk
              rw [h] at this; cases this)
          have HD : Hid (okp t gone i k q = !(!gone k && !gone q && t i k && t i q && !t k q)) := Lib.hid rfl
          generalize okp t gone i k q = ok at HN HF HD
          generalize gone k = gk at cgk HD
          generalize gone q = gq at cgq HD
          generalize t i k = tik at cik HD
          generalize t i q = tiq at ciq HD
          generalize t k q = tkq at ckq HD
          have go : ok = true → Hid (∀ b, b < q + 1 → okp t gone i k b = true) := fun h => Lib.hid (HN.out h)
          have GO := Lib.hid go
          clear go HN hT hG
          cases gk
          · cases gq
            · cases tik
              · have HK2 := GO.out (by rw [HD.out]; rfl)
                clear GO HD HF
                go_wp2
                go_round
                case rel => exact ⟨q + 1, by go_num, by omega, HK2⟩
                case measure => simp [intOf]; omega
              · cases tiq
                · have HK2 := GO.out (by rw [HD.out]; rfl)
                  clear GO HD HF
                  go_wp2
                  go_round
                  case rel => exact ⟨q + 1, by go_num, by omega, HK2⟩
                  case measure => simp [intOf]; omega
                · cases tkq
                  · obtain rfl := HF.out (by rw [HD.out]; rfl)
                    clear GO HD HF
                    go_wp2
                    go_ret
                    exact ⟨rfl, rfl⟩
                  · have HK2 := GO.out (by rw [HD.out]; rfl)
                    clear GO HD HF
                    go_wp2
                    go_round
                    case rel => exact ⟨q + 1, by go_num, by omega, HK2⟩
                    case measure => simp [intOf]; omega
            · have HK2 := GO.out (by rw [HD.out]; rfl)
              clear GO HD HF
              go_wp2
              go_round
              case rel => exact ⟨q + 1, by go_num, by omega, HK2⟩
              case measure => simp [intOf]; omega
          · have HK2 := GO.out (by rw [HD.out]; rfl)
            clear GO HD HF
            go_wp2
            go_round
            case rel => exact ⟨q + 1, by go_num, by omega, HK2⟩
            case measure => simp [intOf]; omega
        · obtain rfl : q = k := by omega
          have hqb : decide ((q : Int) < (q : Int)) = false := by simp
          have HK2 : Hid (∀ a, a < q + 1 → ∀ b, b < a → okp t gone i a b = true) := Lib.hid (fun a ha => by
            by_cases e : a = q
            · rw [e]; exact HQ.out
            · exact HK.out a (by omega))
          go_wp2
          go_round
          case rel => exact ⟨q + 1, by go_num, by omega, HK2⟩
          case measure => simp [intOf]; omega
    · obtain rfl : k = n := by omega
      have hkb : decide ((k : Int) < (k : Int)) = false := by simp
      obtain rfl : bv = true := HV.out.2 HK.out
      go_wp2
      go_ret
      exact ⟨rfl, rfl⟩
end Go.Proofs.Tg.Gx
end
