/- Reading a set; the tree of cliques. -/
import Derived.Test.YtamipjpcphghaaaDoorWH
import Derived.Test.YtamipjpcphghaaaDoorSpecT
namespace Go.Proofs.Tg
open Go.RowKit Go.Gr
set_option maxHeartbeats 1000000
set_option maxRecDepth 100000
def RetSet (b : Bool) (l : List Int) (w : World) (e : Ending) (w' : World) : Prop := ∃ s : Nat, e = .returned (.tuple #[.int .u64 s, .bool b]) ∧ (b = true → s = setOf l) ∧ w = w'
theorem readSet_any (V : Option Addr) (c : Nat) (l : List Int) (b : Bool) (w : World) (hV : Ints w V l) (hl : l.length ≤ 1000000) (hv : b = true ↔ 0 < l.length ∧ asc l) :
    Calls Tryd.prog 59 #[.slice V l.length c] w (RetSet b l w) := by
  have HV := Lib.hid hv
  clear hv
  go_enter Tryd.func59, Tryd.ntmps59
  go_wp2
  go_loop [9, 4] (fun i s => ∃ k : Nat, i = .int .i64 k ∧ k ≤ l.length ∧ s = .int .u64 (setOf (l.take k) : Nat) ∧ setOf (l.take k) < 18446744073709551616 ∧ Hid (ascTo l k)) (fun i _ => l.length - (intOf i).toNat)
  case atStart => exact ⟨0, rfl, Nat.zero_le _, rfl, by simp [setOf], Lib.hid (fun i _ h => by omega)⟩
  case round =>
    obtain ⟨k, rfl, hk, rfl, hs, HA⟩ := hrel
    by_cases hkl : k < l.length
    · obtain ⟨ad, rfl, hc⟩ := Ints.at hV hkl
      have hprev : 0 < k → ∃ y : Int, Hid (l[k - 1]'(by omega) = y) ∧ w.cell? (ad.add (k - 1)) = some (.int .i64 y) := by
        intro h0
        obtain ⟨ad', e, g1⟩ := Ints.at hV (k := k - 1) (by omega)
        injection e with e
        subst e
        exact ⟨_, Lib.hid rfl, g1⟩
      have HS : Hid (setOf (l.take (k + 1)) = bset (setOf (l.take k)) l[k].toNat) := Lib.hid (by rw [List.take_succ_eq_append_getElem hkl, setOf_snoc])
      obtain ⟨x, hx⟩ : ∃ x, l[k] = x := ⟨_, rfl⟩
      rw [hx] at hc HS
      have HX := Lib.hid hx
      clear hx
      generalize setOf (l.take k) = s at HS hs ⊢
      have fin : Hid (¬ (0 ≤ x ∧ x < 64 ∧ (0 < k → l[k - 1]'(by omega) < x))) → RetSet b l w (.returned (.tuple #[.int .u64 ((0 : Nat) : Int), .bool false])) w := by
        intro h
        obtain rfl : b = false := by
          cases b
          · rfl
          · have := (HV.out.1 rfl).2 k hkl hkl
            rw [HX.out] at this
            exact absurd ⟨this.1.1, this.1.2, this.2⟩ h.out
        exact ⟨0, rfl, by simp, rfl⟩
      have FIN := Lib.hid fin
      clear fin hV
      by_cases h1 : x < 0
      · have d1 : decide (x < 0) = true := by simpa using h1
        clear hprev
        go_wp2
        go_ret2
        exact FIN.out (Lib.hid (by omega))
      · have d1 : decide (x < 0) = false := by simpa using h1
        by_cases h2 : 64 ≤ x
        · have d2 : decide (64 ≤ x) = true := by simpa using h2
          clear hprev
          go_wp2
          go_ret2
          exact FIN.out (Lib.hid (by omega))
        · have d2 : decide (64 ≤ x) = false := by simpa using h2
          obtain ⟨v, rfl⟩ := Int.eq_ofNat_of_zero_le (show 0 ≤ x by omega)
          have hv64 : v < 64 := by omega
          by_cases hk0 : k = 0
          · have d3 : decide ((0 : Int) < (k : Int)) = false := by simp; omega
            have hk1 : k ≤ 0 := by omega
            clear hprev hk0
            go_wp2_with (go_at_call 51; refine (with_any _ _ _ hs hv64).mono ?_; rintro e w' ⟨rfl, rfl⟩)
            go_round
            case rel => exact ⟨k + 1, by go_num, by omega, by rw [HS.out]; rfl, by rw [HS.out]; exact bset_lt hs hv64, Lib.hid (ascTo_succ hkl HA.out (by rw [HX.out]; omega) (by omega))⟩
            case measure => simp [intOf]; omega
          · have hkp : 0 < k := by omega
            obtain ⟨y, HY, hcy⟩ := hprev hkp
            clear hprev
            have d3 : decide ((0 : Int) < (k : Int)) = true := by simp; omega
            by_cases h3 : (v : Int) ≤ y
            · have d4 : decide ((v : Int) ≤ y) = true := by simpa using h3
              go_wp2
              go_ret2
              refine FIN.out (Lib.hid ?_)
              intro h
              have := h.2.2 hkp
              rw [HY.out] at this
              omega
            · have d4 : decide ((v : Int) ≤ y) = false := by simpa using h3
              go_wp2_with (go_at_call 51; refine (with_any _ _ _ hs hv64).mono ?_; rintro e w' ⟨rfl, rfl⟩)
              go_round
              case rel => exact ⟨k + 1, by go_num, by omega, by rw [HS.out]; rfl, by rw [HS.out]; exact bset_lt hs hv64, Lib.hid (ascTo_succ hkl HA.out (by rw [HX.out]; omega) (fun _ => by rw [HX.out, HY.out]; omega))⟩
              case measure => simp [intOf]; omega
    · obtain rfl : k = l.length := by omega
      rw [List.take_length] at hs ⊢
      obtain rfl : b = decide ((0 : Int) < (l.length : Int)) := by
        rw [Bool.eq_iff_iff, HV.out]
        simp only [decide_eq_true_eq]
        exact ⟨fun h => by omega, fun h => ⟨by omega, HA.out⟩⟩
      clear HV
      go_wp2
      go_ret2
      exact ⟨setOf l, rfl, fun _ => rfl, rfl⟩
/-- A slice of slices of numbers. -/
def Lists (w : World) (V : Option Addr) (ls : List (List Int)) : Prop :=
  ∃ f : Nat → Option Addr × Nat, Sl w V ls.length 1 ((List.range ls.length).map fun i => .slice (f i).1 (ls.getD i []).length (f i).2) ∧ ∀ i, i < ls.length → Ints w (f i).1 (ls.getD i [])
theorem Lists.keep {w w' : World} {V : Option Addr} {ls : List (List Int)} (h : Lists w V ls) (hb : Below w.heap.size w w') : Lists w' V ls := by
  obtain ⟨f, hs, hr⟩ := h
  exact ⟨f, hs.keep hb, fun i hi => (hr i hi).keep hb⟩
theorem Lists.at {w : World} {V : Option Addr} {ls : List (List Int)} (h : Lists w V ls) {k : Nat} (hk : k < ls.length) : ∃ ad A c, V = some ad ∧ w.cell? (ad.add k) = some (.slice A ls[k].length c) ∧ Ints w A ls[k] := by
  obtain ⟨f, hs, hr⟩ := h
  obtain ⟨ad, rfl, hc⟩ := Sl.at1 hs hk
  have e : ls.getD k [] = ls[k] := by simp [hk]
  have hi := hr k hk
  rw [e] at hi
  refine ⟨ad, (f k).1, (f k).2, rfl, ?_, hi⟩
  rw [hc]
  simp [hk]
def iarr (l : List Int) : Array Value := (l.map vi).toArray
theorem iarr_made (n : Nat) : madeCells #[.int .i64 0] n = iarr (List.replicate n 0) := by
  apply Array.ext
  · simp [iarr, size_madeCells]
  · intro i h1 h2
    simp [madeCells, iarr, vi, Nat.mod_one]
theorem iarr_set (l : List Int) (k : Nat) (s : Int) : (iarr l).setIfInBounds k (.int .i64 s) = iarr (l.set k s) := by
  simp [iarr, List.map_set, vi]
theorem iarr_at (l : List Int) {k : Nat} (hk : k < l.length) : (iarr l)[k]? = some (.int .i64 l[k]) := by simp [iarr, hk, vi]
theorem sarr_at (l : List Nat) {k : Nat} (hk : k < l.length) : (sarr l)[k]? = some (.int .u64 (l[k] : Nat)) := by simp [sarr, hk, vs]
theorem own_iarr {w : World} {b g n : Nat} {l : List Int} (h : Blk w g 3 (iarr l)) (hb : b ≤ g) (hn : l.length = n) (hm : n ≤ 1000000) : w.ownsRow b 3 1 (.slice (some ⟨g, 0, none⟩) n n) n (l.map vi) :=
  ⟨by simp [hn], .inr ⟨g, n, _, rfl, hb, h, Nat.le_refl _, by simp only [maxLen]; omega, by simp [iarr, hn], by rw [← hn]; simp only [iarr, Nat.mul_one]; exact List.take_of_length_le (by simp)⟩⟩
def RetTree (ls : List (List Int)) (w : World) (e : Ending) (w' : World) : Prop :=
  ∃ A c, e = .returned (.tuple #[.slice A ls.length c, .int .i64 0]) ∧ w'.ownsRow w.heap.size 3 1 (.slice A ls.length c) ls.length ((tree (ls.map setOf)).map vi) ∧ Below w.heap.size w w'
theorem set_midI (l : List Int) (m k : Nat) (s z : Int) (hk : l.length = k) (hm : 0 < m) : (l ++ List.replicate m z).set k s = (l ++ [s]) ++ List.replicate (m - 1) z := by
  subst hk
  obtain ⟨m, rfl⟩ : ∃ q, m = q + 1 := ⟨m - 1, by omega⟩
  simp [List.replicate_succ]
theorem mid_atI (l : List Int) (m k : Nat) (z : Int) (hk : l.length = k) (hm : 0 < m) : (iarr (l ++ List.replicate m z))[k]? = some (.int .i64 z) := by
  have : (l ++ List.replicate m z)[k]? = some z := by
    rw [List.getElem?_append_right (by omega), hk, Nat.sub_self, List.getElem?_replicate, if_pos (by omega)]
  rw [iarr, List.getElem?_toArray, List.getElem?_map, this]; rfl
theorem mid_atS (l : List Nat) (m k : Nat) (hk : l.length = k) (hm : 0 < m) : (sarr (l ++ List.replicate m 0))[k]? = some (.int .u64 0) := by
  have : (l ++ List.replicate m 0)[k]? = some 0 := by
    rw [List.getElem?_append_right (by omega), hk, Nat.sub_self, List.getElem?_replicate, if_pos (by omega)]
  rw [sarr, List.getElem?_toArray, List.getElem?_map, this]; rfl
theorem with0 (w : World) : Calls Tryd.prog 51 #[.int .u64 0, .int .i64 0] w fun e w' => e = .returned (.int .u64 (bset 0 0 : Nat)) ∧ w = w' := with_any 0 0 w (by omega) (by omega)
theorem treeTo_len (sets : List Nat) : ∀ r, (treeTo sets r).2.length = sets.length
  | 0 => by simp [treeTo]
  | r + 1 => by
    simp only [treeTo]
    split
    · simp [treeTo_len sets r]
    · exact treeTo_len sets r
theorem sarr_getD (l : List Nat) {k : Nat} (hk : k < l.length) : (sarr l)[k]? = some (.int .u64 (l.getD k 0 : Nat)) := by simp [sarr, hk, vs]
theorem tree_ok (V : Option Addr) (c : Nat) (ls : List (List Int)) (w : World) (hV : Lists w V ls) (hl : ls.length ≤ 64) (hll : ∀ l ∈ ls, l.length ≤ 1000000) (hv : ∀ l ∈ ls, 0 < l.length ∧ asc l) :
    Calls Tryd.prog 22 #[.slice V ls.length c] w (RetTree ls w) := by
  have hd : decide ((64 : Int) < (ls.length : Int)) = false := by simp; omega
  have HV := Lib.hid (And.intro hll hv)
  clear hll hv
  go_enter Tryd.func22, Tryd.ntmps22
  go_upto_region 3 with fail
  go_cut [4, 5] (fun a b wx => ∃ g4 g5 : Nat, a = .slice (some ⟨g4, 0, none⟩) ls.length ls.length ∧ b = .slice (some ⟨g5, 0, none⟩) ls.length ls.length ∧ Blk wx g4 54 (sarr (List.replicate ls.length 0)) ∧ Blk wx g5 3 (iarr (List.replicate ls.length 0)) ∧
      w.heap.size ≤ g4 ∧ w.heap.size ≤ g5 ∧ Below w.heap.size w wx)
  case first =>
    have m1 := fun W => make_sets ls.length (by omega) W
    have m2 := fun W => make_ints ls.length ls.length (Nat.le_refl _) (by omega) W
    simp only [sarr_made] at m1
    simp only [iarr_made] at m2
    go_region
    all_goals (go_wp2_with fail; go_meet)
    · refine ⟨w.heap.size, w.heap.size + 1, rfl, rfl, ?_, ?_, by omega, by omega, ?_⟩
      · exact Blk.drew ((Blk.new w 54 (sarr (List.replicate ls.length 0))).alloc _)
      · have := Blk.new (w.alloc (.cells (sarr (List.replicate ls.length 0)) 54)) 3 (iarr (List.replicate ls.length 0))
        exact Blk.drew (by simpa using this)
      · exact (((Below.refl _ _).alloc (Nat.le_refl _) _).alloc (by simp) _).drew
    · refine ⟨w.heap.size + 1, w.heap.size, rfl, rfl, ?_, ?_, by omega, by omega, ?_⟩
      · have := Blk.new (w.alloc (.cells (iarr (List.replicate ls.length 0)) 3)) 54 (sarr (List.replicate ls.length 0))
        exact Blk.drew (by simpa using this)
      · exact Blk.drew ((Blk.new w 3 (iarr (List.replicate ls.length 0))).alloc _)
      · exact (((Below.refl _ _).alloc (Nat.le_refl _) _).alloc (by simp) _).drew
  case rest =>
    obtain ⟨g4, g5, rfl, rfl, hS, hP, hg4, hg5, hb⟩ := hcut
    go_wp2
    go_loopw [28] (fun i wr => ∃ k : Nat, i = .int .i64 k ∧ k ≤ ls.length ∧ Blk wr g4 54 (sarr ((ls.take k).map setOf ++ List.replicate (ls.length - k) 0)) ∧ Blk wr g5 3 (iarr (List.replicate k (-1) ++ List.replicate (ls.length - k) 0)) ∧ Below w.heap.size w wr) (fun i _ => ls.length - (intOf i).toNat)
    case atStart => exact ⟨0, rfl, Nat.zero_le _, by simpa using hS, by simpa using hP, hb⟩
    case round =>
      clear hS hP hb
      obtain ⟨k, rfl, hk, hS, hP, hb⟩ := hrel
      by_cases hkl : k < ls.length
      · obtain ⟨ad, A, cl, rfl, hc, hA⟩ := Lists.at (hV.keep hb) hkl
        have hm := HV.out.2 ls[k] (List.getElem_mem _)
        have hm2 := HV.out.1 ls[k] (List.getElem_mem _)
        have HT : Hid ((ls.take (k + 1)).map setOf = (ls.take k).map setOf ++ [setOf ls[k]]) := Lib.hid (by rw [List.take_succ_eq_append_getElem hkl, List.map_append]; rfl)
        have hsm := setOf_small hm.2
        have hr := readSet_any A cl ls[k] true wr hA hm2 (by simp [hm])
        generalize ls[k] = l at hc hA HT hsm hr
        have HR := Lib.hid hr
        have hlen1 : ((ls.take k).map setOf).length = k := by simp; omega
        have HL1 := Lib.hid hlen1
        have c4 := (hS.cell k).trans (mid_atS _ _ _ hlen1 (by omega))
        have f4 := hS.frozen k
        have c5 := (hP.cell k).trans (mid_atI (List.replicate k (-1)) _ _ _ (by simp) (by omega))
        have f5 := hP.frozen k
        have hne : g4 ≠ g5 := by
          rintro rfl
          unfold Blk at hS hP
          rw [hS] at hP
          injection hP with hP
          injection hP with _ h54
          exact absurd h54 (by decide)
        clear hr hm hlen1 hA hm2
        go_wp2_with (go_at_call 59; refine HR.out.mono ?_; rintro e w1 ⟨s, rfl, hs, rfl⟩; obtain rfl := hs rfl; clear hs)
        go_roundw
        case rel =>
          refine ⟨k + 1, by go_num, by omega, ?_, ?_, ((hb.setCell (by simpa using hg4) _).setCell (by simpa using hg5) _)⟩
          · have := hS.set k (.int .u64 (setOf l : Nat))
            rw [sarr_set, set_mid _ _ _ _ HL1.out (by omega), Nat.sub_sub, ← HT.out] at this
            exact this.far (by simpa using hne) _
          · have := (hP.far (p := ⟨g4, k, none⟩) (by simpa using fun e => hne e.symm) (.int .u64 (setOf l : Nat))).set k (.int .i64 (-1))
            rw [iarr_set, set_midI _ _ _ _ _ (by simp) (by omega), Nat.sub_sub, ← List.replicate_succ'] at this
            exact this
        case measure => simp [intOf]; omega
      · obtain rfl : k = ls.length := by omega
        rw [List.take_length, Nat.sub_self, List.replicate_zero, List.append_nil] at hS
        rw [Nat.sub_self, List.replicate_zero, List.append_nil] at hP
        have hne : g4 ≠ g5 := by
          rintro rfl
          unfold Blk at hS hP
          rw [hS] at hP
          injection hP with hP
          injection hP with _ h54
          exact absurd h54 (by decide)
        have HSM : Hid (∀ x, (ls.map setOf).getD x 0 < 18446744073709551616) := by
          refine Lib.hid fun x => ?_
          by_cases hx : x < ls.length
          · have : (ls.map setOf).getD x 0 = setOf ls[x] := by simp [hx]
            rw [this]; exact setOf_small (HV.out.2 _ (List.getElem_mem _)).2
          · have : (ls.map setOf).getD x 0 = 0 := by simp [show ls.length ≤ x by omega]
            rw [this]; omega
        have HLS : Hid ((ls.map setOf).length = ls.length) := Lib.hid (by simp)
        have HTR : Hid (tree (ls.map setOf) = (treeTo (ls.map setOf) (ls.length - 1)).2) := Lib.hid (by unfold tree; rw [HLS.out])
        have HP0 : Hid (List.replicate ls.length (-1 : Int) = (treeTo (ls.map setOf) 0).2) := Lib.hid (by simp [treeTo])
        rw [HP0.out] at hP
        clear HP0 HV hk hkl
        generalize hst : ls.map setOf = sets at hS HSM HLS HTR hP
        have HST := Lib.hid hst
        clear hst
        go_wp2_with (go_at_call 51; refine (with0 _).mono ?_; rintro e w1 ⟨rfl, rfl⟩)
        go_loopw [52, 10] (fun i t wr => ∃ r : Nat, i = .int .i64 r ∧ r ≤ ls.length - 1 ∧ t = .int .u64 ((treeTo sets r).1 : Nat) ∧ Blk wr g4 54 (sarr sets) ∧ Blk wr g5 3 (iarr (treeTo sets r).2) ∧ Below w.heap.size w wr) (fun i _ _ => ls.length - (intOf i).toNat)
        case atStart => exact ⟨0, rfl, Nat.zero_le _, rfl, hS, hP, hb⟩
        case round =>
          clear hS hP hb
          obtain ⟨r, rfl, hr, rfl, hS, hP, hb⟩ := hrel
          by_cases hrl : r + 1 < ls.length
          · have hrb : decide ((r : Int) < (ls.length : Int) - 1) = true := by simp; omega
            have hgr := grows (sets := sets) (by rw [HLS.out]; exact hl) (by rw [HLS.out]; omega) r (by rw [HLS.out]; omega)
            obtain ⟨i0, k0, c0, hi0, hk0, -, -, he⟩ := tree_best hgr (by rw [HLS.out]; exact hrl)
            have hplen := treeTo_len sets r
            have HN : Hid (treeTo sets (r + 1) = (bset (treeTo sets r).1 i0, if (0 : Int) < (c0 : Int) then (treeTo sets r).2.set i0 (k0 : Int) else (treeTo sets r).2)) := by
              refine Lib.hid ?_
              simp only [treeTo, he]; rfl
            have hsm := hgr.small
            rw [HLS.out] at hi0 hk0 he hplen
            have HE := Lib.hid he
            have HPL := Lib.hid hplen
            clear hgr he hplen
            generalize (treeTo sets r).1 = inT at HN hsm HE ⊢
            generalize (treeTo sets r).2 = ps at HN HPL hP
            go_wp2
            go_loopw [56, 11, 12, 13] (fun i a b m wr => ∃ j : Nat, i = .int .i64 j ∧ j ≤ ls.length ∧ a = .int .i64 (allTo sets inT ls.length j).1 ∧ b = .int .i64 (allTo sets inT ls.length j).2.1 ∧ m = .int .i64 (allTo sets inT ls.length j).2.2 ∧
                Blk wr g4 54 (sarr sets) ∧ Blk wr g5 3 (iarr ps) ∧ Below w.heap.size w wr) (fun i _ _ _ _ => ls.length - (intOf i).toNat)
            case atStart => exact ⟨0, rfl, Nat.zero_le _, rfl, rfl, rfl, hS, hP, hb⟩
            case round =>
              clear hS hP hb
              obtain ⟨j, rfl, hj, rfl, rfl, rfl, hS, hP, hb⟩ := hrel
              by_cases hjl : j < ls.length
              · have HJ : Hid (allTo sets inT ls.length (j + 1) = rowTo sets inT j (allTo sets inT ls.length j) ls.length) := Lib.hid rfl
                generalize allTo sets inT ls.length j = b0 at HJ ⊢
                go_wp2
                go_loopw [61, 11, 12, 13] (fun i a b m wr => ∃ q : Nat, i = .int .i64 q ∧ q ≤ ls.length ∧ a = .int .i64 (rowTo sets inT j b0 q).1 ∧ b = .int .i64 (rowTo sets inT j b0 q).2.1 ∧ m = .int .i64 (rowTo sets inT j b0 q).2.2 ∧
                    Blk wr g4 54 (sarr sets) ∧ Blk wr g5 3 (iarr ps) ∧ Below w.heap.size w wr) (fun i _ _ _ _ => ls.length - (intOf i).toNat)
                case atStart => exact ⟨0, rfl, Nat.zero_le _, rfl, rfl, rfl, hS, hP, hb⟩
                case round =>
                  clear hS hP hb
                  obtain ⟨q, rfl, hq, rfl, rfl, rfl, hS, hP, hb⟩ := hrel
                  by_cases hql : q < ls.length
                  · have HQ : Hid (rowTo sets inT j b0 (q + 1) = pairStep sets inT j (rowTo sets inT j b0 q) q) := Lib.hid (rowTo_succ _ _ _ _ _)
                    obtain ⟨b1, b2, b3, hbb⟩ : ∃ b1 b2 b3 : Int, rowTo sets inT j b0 q = (b1, b2, b3) := ⟨_, _, _, rfl⟩
                    rw [hbb] at HQ ⊢
                    clear hbb
                    unfold pairStep at HQ
                    simp only at HQ ⊢
                    by_cases h1 : inT.testBit j = true
                    · have hN : rowTo sets inT j b0 (q + 1) = (b1, b2, b3) := by rw [HQ.out, if_neg (by simp [h1])]
                      have HN2 := Lib.hid hN
                      clear HQ hN
                      go_wp2_with (go_at_call 60; refine (has_any _ _ _ hsm (by omega)).mono ?_; rintro e w' ⟨rfl, rfl⟩)
                      go_roundw
                      case rel => exact ⟨q + 1, by go_num, by omega, by rw [HN2.out], by rw [HN2.out], by rw [HN2.out], hS, hP, hb⟩
                      case measure => simp [intOf]; omega
                    · have h1' : inT.testBit j = false := by simpa using h1
                      clear h1
                      by_cases h2 : inT.testBit q = false
                      · have hN : rowTo sets inT j b0 (q + 1) = (b1, b2, b3) := by rw [HQ.out, if_neg (by simp [h2])]
                        have HN2 := Lib.hid hN
                        clear HQ hN
                        go_wp2_with (go_at_call 60; refine (has_any _ _ _ hsm (by omega)).mono ?_; rintro e w' ⟨rfl, rfl⟩)
                        go_roundw
                        case rel => exact ⟨q + 1, by go_num, by omega, by rw [HN2.out], by rw [HN2.out], by rw [HN2.out], hS, hP, hb⟩
                        case measure => simp [intOf]; omega
                      · have h2' : inT.testBit q = true := by simpa using h2
                        clear h2
                        have cj := (hS.cell j).trans (sarr_getD sets (by rw [HLS.out]; exact hjl))
                        have cq := (hS.cell q).trans (sarr_getD sets (by rw [HLS.out]; exact hql))
                        have s1 := HSM.out j
                        have s2 := HSM.out q
                        generalize sets.getD j 0 = x at cj s1 HQ
                        generalize sets.getD q 0 = y at cq s2 HQ
                        have hand := u64_and_nat x y s1 s2
                        have hal := and_lt y s1
                        have hsz : size (x &&& y) ≤ 64 := size_le _
                        have hsc := fun W => (size_any (x &&& y) W hal).mono (R' := fun e w' => e = .returned (.int .i64 (size (x &&& y) : Nat)) ∧ w' = W) fun _ _ h => ⟨h.1, h.2.symm⟩
                        generalize size (x &&& y) = z at HQ hsz hsc
                        have HC := Lib.hid hsc
                        clear hsc
                        have hj0 : (0 : Int) ≤ (j : Int) := by omega
                        have hj1 : (j : Int) < (ls.length : Int) := by omega
                        have hq0 : (0 : Int) ≤ (q : Int) := by omega
                        have hq1 : (q : Int) < (ls.length : Int) := by omega
                        by_cases h3 : b3 < (z : Int)
                        · have d3 : decide (b3 < (z : Int)) = true := by simpa using h3
                          have hN : rowTo sets inT j b0 (q + 1) = ((j : Int), (q : Int), (z : Int)) := by rw [HQ.out, if_pos ⟨h1', h2', h3⟩]
                          have HN2 := Lib.hid hN
                          clear HQ hN
                          go_wp2_with (go_at_call 60; refine (has_any _ _ _ hsm (by omega)).mono ?_; rintro e w' ⟨rfl, rfl⟩)
                          go_quiet ((go_at_call 61; exact Calls.quiet_of_same (HC.out _)))
                          go_wp2
                          go_roundw
                          case rel => exact ⟨q + 1, by go_num, by omega, by rw [HN2.out], by rw [HN2.out], by rw [HN2.out], hS, hP, below_drewN hb _⟩
                          case measure => simp [intOf]; omega
                        · have d3 : decide (b3 < (z : Int)) = false := by simpa using h3
                          have hN : rowTo sets inT j b0 (q + 1) = (b1, b2, b3) := by rw [HQ.out, if_neg (fun h => h3 h.2.2)]
                          have HN2 := Lib.hid hN
                          clear HQ hN
                          go_wp2_with (go_at_call 60; refine (has_any _ _ _ hsm (by omega)).mono ?_; rintro e w' ⟨rfl, rfl⟩)
                          go_quiet ((go_at_call 61; exact Calls.quiet_of_same (HC.out _)))
                          go_wp2
                          go_roundw
                          case rel => exact ⟨q + 1, by go_num, by omega, by rw [HN2.out], by rw [HN2.out], by rw [HN2.out], hS, hP, below_drewN hb _⟩
                          case measure => simp [intOf]; omega
                  · obtain rfl : q = ls.length := by omega
                    rw [← HJ.out]
                    go_wp2
                    go_roundw
                    case rel => exact ⟨j + 1, by go_num, by omega, rfl, rfl, rfl, hS, hP, hb⟩
                    case measure => simp [intOf]; omega
              · obtain rfl : j = ls.length := by omega
                rw [HE.out]
                simp only
                by_cases hc0 : (0 : Int) < (c0 : Int)
                · have d0 : decide ((0 : Int) < (c0 : Int)) = true := by simpa using hc0
                  have cp := (hP.cell i0).trans (iarr_at ps (k := i0) (by rw [HPL.out]; exact hi0))
                  have fp := hP.frozen i0
                  have HN2 : Hid (treeTo sets (r + 1) = (bset inT i0, ps.set i0 (k0 : Int))) := Lib.hid (by rw [HN.out, if_pos hc0])
                  generalize ps[i0]'(by rw [HPL.out]; exact hi0) = old at cp
                  clear HN HE
                  go_wp2_with (go_at_call 51; refine (with_any _ _ _ hsm (by omega)).mono ?_; rintro e w' ⟨rfl, rfl⟩)
                  go_roundw
                  case rel =>
                    refine ⟨r + 1, by go_num, by omega, by rw [HN2.out], hS.far (by simpa using hne) _, ?_, hb.setCell (by simpa using hg5) _⟩
                    have := hP.set i0 (.int .i64 (k0 : Int))
                    rw [iarr_set] at this
                    rw [HN2.out]
                    exact this
                  case measure => simp [intOf]; omega
                · have d0 : decide ((0 : Int) < (c0 : Int)) = false := by simpa using hc0
                  have HN2 : Hid (treeTo sets (r + 1) = (bset inT i0, ps)) := Lib.hid (by rw [HN.out, if_neg hc0])
                  clear HN HE
                  go_wp2_with (go_at_call 51; refine (with_any _ _ _ hsm (by omega)).mono ?_; rintro e w' ⟨rfl, rfl⟩)
                  go_roundw
                  case rel => exact ⟨r + 1, by go_num, by omega, by rw [HN2.out], hS, by rw [HN2.out]; exact hP, hb⟩
                  case measure => simp [intOf]; omega
          · have hrb : decide ((r : Int) < (ls.length : Int) - 1) = false := by simp; omega
            have hre : r = ls.length - 1 := by omega
            have HR := Lib.hid hre
            clear hre
            go_wp2
            go_ret2
            refine ⟨some ⟨g5, 0, none⟩, ls.length, rfl, ?_, hb⟩
            rw [HST.out, HTR.out, ← HR.out]
            exact own_iarr hP hg5 (by rw [treeTo_len]; exact HLS.out) (by omega)
end Go.Proofs.Tg
