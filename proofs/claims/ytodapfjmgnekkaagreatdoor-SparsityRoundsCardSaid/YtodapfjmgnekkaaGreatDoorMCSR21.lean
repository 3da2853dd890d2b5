/- Parts of the proof: WD1, WK3, SP5, SP6, SP7, SP8, WK4. -/
import Derived.Deep.RegionHeld3
import Derived.Test.YtodapfjmgnekkaaGreatDoorMCSR2
import Derived.Test.YtodapfjmgnekkaaGreatDoorMCSR3
import Derived.Test.YtodapfjmgnekkaaGreatDoorMCSR17
import Derived.Test.YtodapfjmgnekkaaGreatDoorMCSR19
import Derived.Test.YtodapfjmgnekkaaGreatDoorMCSR20
section
/- Walks: the check of sign vectors and monomials; characters. -/
namespace Go.Proofs.Tg
open Go.RowKit Go.Gr Go.Ev Go.Mo
set_option maxHeartbeats 2000000
set_option maxRecDepth 100000
theorem bit_same (l : List Int) : bit01 l = b01 l := rfl
theorem vld_lit (A : Option Addr) (c : Nat) (m : List Int) (w : World) (hA : Ints w A m) (hn : m.length ≤ 1000) (b : Bool) (hb : vldM m = b) :
    Calls Tryz.prog 66 #[.slice A m.length c] w fun e w' => e = .returned (.bool b) ∧ w = w' := by rw [← hb]; exact valid_any A c m w hA hn
theorem all_take {α : Type} {P : α → Prop} {l : List α} {k : Nat} (hk : k < l.length) (h : ∀ x ∈ l.take k, P x) (h1 : P l[k]) : ∀ x ∈ l.take (k + 1), P x := by
  rw [List.take_succ_eq_append_getElem hk]
  intro x hx
  rcases List.mem_append.1 hx with h2 | h2
  · exact h x h2
  · simp at h2; rw [h2]; exact h1
end Go.Proofs.Tg
end
section
/- The check of a polynomial and a basis. -/
namespace Go.Proofs.Tg
open Go.RowKit Go.Gr Go.Sp Go.Ev Go.Mo
set_option maxHeartbeats 4000000
set_option maxRecDepth 100000
theorem vvld_lit (A : Option Addr) (c : Nat) (m : List Int) (w : World) (hA : Ints w A m) (hn : m.length ≤ 1000) (b : Bool) (hb : vldM m = b) :
    Calls Tryz.prog 66 #[.slice A m.length c] w fun e w' => e = .returned (.bool b) ∧ w = w' := by rw [← hb]; exact valid_any A c m w hA hn
theorem take_mem_succ {α : Type} {l : List α} {k : Nat} (hk : k < l.length) (v : α) : v ∈ l[k] :: l.take k ↔ v ∈ l.take (k + 1) := by
  rw [List.take_succ_eq_append_getElem hk, List.mem_append, List.mem_singleton, List.mem_cons]
  exact Or.comm
theorem take_nodup_succ {α : Type} {l : List α} {k : Nat} (hk : k < l.length) (h : (l.take k).Nodup) (hn : l[k] ∉ l.take k) : (l.take (k + 1)).Nodup := by
  rw [List.take_succ_eq_append_getElem hk, List.nodup_append]
  refine ⟨h, by simp, fun a ha b hb => ?_⟩
  rw [List.mem_singleton.1 hb]
  rintro rfl
  exact hn ha
theorem not_nodup_take {α : Type} {l : List α} {k : Nat} (hk : k < l.length) (hn : l[k] ∈ l.take k) : ¬ l.Nodup := by
  intro h
  obtain ⟨i, hi, e⟩ := List.getElem_of_mem hn
  have hik : i < k := by rw [List.length_take] at hi; omega
  rw [List.getElem_take] at e
  have := (List.getElem_inj h).1 e
  omega
theorem scheck_any (p : PVal) (B : Option Addr) (cb : Nat) (b : List (List Int)) (ok : Bool) (w : World) (hP : TermsAt w p.adr p.tv) (hsm : p.small) (hB : Lists w B b) (hbl : b.length ≤ 64) (hml : ∀ m ∈ b, m.length ≤ 1000) (hok : ok = true ↔ p.ok) (hT : Tab w) :
    Calls Tryz.prog 36 #[.agg #[.int .i64 p.vars, .slice p.adr p.tv.length p.cap], .slice B b.length cb] w fun e w' => e = .returned (.int .i64 (errS ok p.vars b)) ∧ Below w.heap.size w w' := by
  obtain ⟨V, T, cT, tv⟩ := p
  simp only at *
  obtain ⟨W, hW⟩ : ∃ W, w.alloc (.cells #[.int .i64 V, .slice T tv.length cT] 24) = W := ⟨_, rfl⟩
  have hbA : Below w.heap.size w W := by rw [← hW]; exact (Below.refl _ _).alloc (Nat.le_refl _) _
  have B0 : Blk W w.heap.size 24 #[.int .i64 V, .slice T tv.length cT] := by rw [← hW]; exact Blk.new _ _ _
  have HPV := Lib.hid (pvalid_any V T cT tv ok W (hP.keep hbA) hsm.1 hsm.2 hok (hT.below hbA hT.1))
  have HOK := Lib.hid hok
  have HML := Lib.hid hml
  have hBW := hB.keep hbA
  have HWW := Lib.hid hW
  clear hok hml hW hB hP
  obtain ⟨c0, c1, _, _⟩ := B0.two
  go_enter Tryz.func36, Tryz.ntmps36
  go_upto_region 1 with (fail)
  rw [HWW.out]
  clear HWW
  cases ok with
  | false =>
    have HF : Hid (errS false V b = 1) := Lib.hid (errS_bad (.inl rfl))
    go_wp2_with (go_at_call 54; refine HPV.out.mono ?_; rintro e w1 ⟨rfl, hb1⟩)
    go_ret
    exact ⟨by rw [HF.out]; rfl, below_all hbA hb1⟩
  | true =>
    have hv := HOK.out.1 rfl
    obtain ⟨n, rfl⟩ : ∃ n : Nat, V = n := ⟨V.toNat, by have := hv.2.1.1; simp only at this; omega⟩
    have hn6 : n ≤ 6 := by have := hv.2.1.2.1; simp only at this; omega
    clear hv HOK
    go_wp2_with (go_at_call 54; refine HPV.out.mono ?_; rintro e w1 ⟨rfl, hb1⟩)
    have D0 := B0.keep hb1 B0.lt
    have hL := hBW.keep hb1
    have hbw := below_all hbA hb1
    have hgl := D0.lt
    clear c0 c1 B0 hBW hb1 hbA HPV
    obtain ⟨c0, c1, _, _⟩ := D0.two
    go_loop [17] (fun i => ∃ k : Nat, i = .int .i64 k ∧ k ≤ b.length ∧ Hid (∀ m ∈ b.take k, vldM m = true)) (fun i => b.length - (intOf i).toNat)
    case atStart => exact ⟨0, rfl, Nat.zero_le _, Lib.hid (by simp)⟩
    case round =>
      obtain ⟨k, rfl, hk, HG⟩ := hrel
      by_cases hlt : k < b.length
      · obtain ⟨ad, A, c, rfl, hc, hA⟩ := hL.at hlt
        have hml := HML.out b[k] (List.getElem_mem _)
        have HM : Hid (b[k] ∈ b) := Lib.hid (List.getElem_mem _)
        have HN : Hid (vldM b[k] = true → ∀ m ∈ b.take (k + 1), vldM m = true) := Lib.hid (all_take hlt HG.out)
        generalize b[k] = m at *
        by_cases hv : vldM m = true
        · have HV := Lib.hid (vvld_lit A c m w1 hA hml true hv)
          have HG2 := Lib.hid (HN.out hv)
          clear hv
          go_wp2_with (go_at_call 66; refine HV.out.mono ?_; rintro e w' ⟨rfl, rfl⟩)
          go_round
          case rel => exact ⟨k + 1, by go_num, by omega, HG2⟩
          case measure => simp [intOf]; omega
        · have hv : vldM m = false := eq_false_of_ne_true hv
          have HV := Lib.hid (vvld_lit A c m w1 hA hml false hv)
          have HF : Hid (errS true n b = 1) := Lib.hid (errS_bad (.inr ⟨m, HM.out, hv⟩))
          clear hv
          go_wp2_with (go_at_call 66; refine HV.out.mono ?_; rintro e w' ⟨rfl, rfl⟩)
          go_ret
          exact ⟨by rw [HF.out]; rfl, hbw⟩
      · have HAV : Hid (∀ m ∈ b, vldM m = true) := Lib.hid (by have := HG.out; rwa [List.take_of_length_le (by omega)] at this)
        clear HG
        go_wp2
        go_loop [27] (fun i => ∃ k : Nat, i = .int .i64 k ∧ k ≤ b.length ∧ Hid (∀ m ∈ b.take k, (m.length : Int) = n)) (fun i => b.length - (intOf i).toNat)
        case atStart => exact ⟨0, rfl, Nat.zero_le _, Lib.hid (by simp)⟩
        case round =>
          obtain ⟨k', rfl, hk', HG⟩ := hrel
          by_cases hlt' : k' < b.length
          · obtain ⟨ad, A, c, rfl, hc, hA⟩ := hL.at hlt'
            have HM : Hid (b[k'] ∈ b) := Lib.hid (List.getElem_mem _)
            have HN : Hid ((b[k'].length : Int) = n → ∀ m ∈ b.take (k' + 1), (m.length : Int) = n) := Lib.hid (all_take (P := fun m : List Int => (m.length : Int) = n) hlt' HG.out)
            generalize b[k'] = m at *
            by_cases hl : (m.length : Int) = n
            · have hb : ((m.length : Int) != (n : Int)) = false := by simp; omega
              have HG2 := Lib.hid (HN.out hl)
              have HL := Lib.hid hl
              clear hl
              go_wp2
              go_round
              case rel => exact ⟨k' + 1, by go_num, by omega, HG2⟩
              case measure => simp [intOf]; omega
            · have hb : ((m.length : Int) != (n : Int)) = true := by simp; omega
              have HF : Hid (errS true n b = 4) := Lib.hid (errS_shape HAV.out ⟨m, HM.out, hl⟩)
              clear hl
              go_wp2
              go_ret
              exact ⟨by rw [HF.out]; rfl, hbw⟩
          · have HAL : Hid (∀ m ∈ b, (m.length : Int) = n) := Lib.hid (by have := HG.out; rwa [List.take_of_length_le (by omega)] at this)
            have d64 : decide ((64 : Int) < (b.length : Int)) = false := by simp; omega
            have d64' : decide (64 < b.length) = false := by simp; omega
            have hmm := @run_makeMap Tryz.prog
            clear HG c0 c1 D0
            go_wp2
            go_loopw [43] (fun i wr => ∃ k : Nat, i = .int .i64 k ∧ k ≤ b.length ∧ SetM wr w1.heap.size k n (b.take k) ∧ Hid ((b.take k).Nodup) ∧ Below w.heap.size w wr ∧ Lists wr B b) (fun i _ => b.length - (intOf i).toNat)
            case atStart => exact ⟨0, rfl, Nat.zero_le _, SetM.made w1 n, Lib.hid (by simp), hbw.alloc hbw.size _, hL.keep ((Below.refl _ _).alloc (Nat.le_refl _) _)⟩
            case round =>
              obtain ⟨wo, rfl⟩ : ∃ wo : World, wo = wr := ⟨_, rfl⟩
              obtain ⟨j, rfl, hj, hS, HND, hbr, hLr⟩ := hrel
              by_cases hjl : j < b.length
              · obtain ⟨ad, A, c, rfl, hc, hA⟩ := hLr.at hjl
                have HM : Hid (b[j] ∈ b) := Lib.hid (List.getElem_mem _)
                have hdom : domK n 24 b[j] := by
                  have h1 := vld_dom (HAV.out b[j] (List.getElem_mem _))
                  have h2 := HAL.out b[j] (List.getElem_mem _)
                  rwa [show b[j].length = n by omega] at h1
                have HTM : Hid (∀ v, v ∈ b[j] :: b.take j ↔ v ∈ b.take (j + 1)) := Lib.hid (take_mem_succ hjl)
                have HTN : Hid (b[j] ∉ b.take j → (b.take (j + 1)).Nodup) := Lib.hid (take_nodup_succ hjl HND.out)
                have HTB : Hid (b[j] ∈ b.take j → errS true n b = 10) := Lib.hid (fun h => errS_dup HAV.out HAL.out hbl (not_nodup_take hjl h))
                have hLK : ∀ W, Below wo.heap.size wo W → Lists W (some ad) b := fun W h => hLr.keep h
                have HLK := Lib.hid hLK
                generalize b[j] = m at *
                have HKO : Hid (∀ W, Below wo.heap.size wo W → Calls Tryz.prog 56 #[.slice A m.length c] W fun e w' => e = .returned (keyV m) ∧ Below wo.heap.size wo w') := Lib.hid (fun W h => (keyOf_any A c m W (hA.keep h) (by rw [hdom.1]; exact hn6)).mono fun e w' h2 => ⟨h2.1, below_all h h2.2⟩)
                have hdom' : domK n 48 m := hdom.mono (by omega)
                have hml2 : w1.heap.size < wo.heap.size := hS.mapB.lt
                have hbo : Below wo.heap.size wo wo := Below.refl _ _
                clear hLr hLK hA
                by_cases hin : m ∈ b.take j
                · have HF := Lib.hid (HTB.out hin)
                  have hdec : decide (m ∈ b.take j) = true := decide_eq_true hin
                  clear hin
                  go_wp2_with (go_at_call 56; with_reducible refine Calls.mono (HKO.out _ (by assumption)) ?_; rintro e w2 ⟨rfl, hb2⟩; have hrun := (hS.below hb2 hml2).look hdom' hdec)
                  go_ret
                  exact ⟨by rw [HF.out]; rfl, hbr.trans (hb2.mono hbr.size)⟩
                · have HN2 := Lib.hid (HTN.out hin)
                  have hdec : decide (m ∈ b.take j) = false := decide_eq_false hin
                  clear hin
                  go_upto_region 23 with (go_at_call 56; with_reducible refine Calls.mono (HKO.out _ (by assumption)) ?_; rintro e w2 ⟨rfl, hb2⟩; have hrun := (hS.below hb2 hml2).look hdom' hdec)
                  clear hrun
                  go_wp2_with (go_at_call 56; with_reducible refine Calls.mono (HKO.out _ hb2) ?_; rintro e w3 ⟨rfl, hb3⟩; obtain ⟨w4, hrun, hS4, hg4⟩ := (hS.below hb3 hml2).put hn6 (by omega) hdom')
                  go_roundw
                  case rel =>
                    have hL3 := HLK.out _ hb3
                    have hm3 := (hS.below hb3 hml2).mapB
                    refine ⟨j + 1, by go_num, by omega, hS4.congr HTM.out, HN2, ?_, hL3.turn hm3 hg4⟩
                    exact (hbr.trans (hb3.mono hbr.size)).grown hg4 (by have := hbr.size; have := hb3.size; omega) (fun q hq => by injection hq with hq; have := hbw.size; omega)
                  case measure => simp [intOf]; omega
              · have HF : Hid (errS true n b = 0) := Lib.hid (errS_ok HAV.out HAL.out hbl (by have := HND.out; rwa [List.take_of_length_le (by omega)] at this))
                go_wp2
                go_ret
                exact ⟨by rw [HF.out]; rfl, hbr⟩
end Go.Proofs.Tg
end
section
/- The reference's table of a set of monomials: plain. -/
namespace Go.Sp
open Go.Gr Go.Ev Go.Jt
/-- Row i and the rows ahead of it, row i up to column k: who is joined. -/
def tP (b s : List (List Int)) (i k x y : Nat) : Bool := decide (min x y < max x y ∧ (max x y < i ∨ (max x y = i ∧ min x y < k)) ∧ addL (b.getD x []) (b.getD y []) ∈ s)
theorem tP_zero (b s : List (List Int)) : tP b s 0 0 = fun _ _ => false := by
  funext x y
  unfold tP
  exact decide_eq_false (fun h => by rcases h.2.1 with h | h <;> omega)
theorem tP_row (b s : List (List Int)) (i : Nat) : tP b s i i = tP b s (i + 1) 0 := by
  funext x y
  unfold tP
  rw [decide_eq_decide]
  constructor
  · rintro ⟨h1, h2, h3⟩; exact ⟨h1, .inl (by omega), h3⟩
  · rintro ⟨h1, h2, h3⟩; exact ⟨h1, by omega, h3⟩
theorem tP_no {b s : List (List Int)} {i k : Nat} (hk : k < i) (h : addL (b.getD i []) (b.getD k []) ∉ s) : tP b s i (k + 1) = tP b s i k := by
  funext x y
  unfold tP
  rw [decide_eq_decide]
  constructor
  · rintro ⟨h1, h2, h3⟩
    refine ⟨h1, ?_, h3⟩
    rcases h2 with h2 | ⟨h2, h4⟩
    · exact .inl h2
    · by_cases hm : min x y = k
      · exfalso
        have : (x = i ∧ y = k) ∨ (x = k ∧ y = i) := by omega
        rcases this with ⟨rfl, rfl⟩ | ⟨rfl, rfl⟩
        · exact h h3
        · rw [addL_comm] at h3; exact h h3
      · exact .inr ⟨h2, by omega⟩
  · rintro ⟨h1, h2, h3⟩; exact ⟨h1, by omega, h3⟩
theorem tP_yes {b s : List (List Int)} {i k : Nat} (hk : k < i) (h : addL (b.getD i []) (b.getD k []) ∈ s) : tP b s i (k + 1) = setT (setT (tP b s i k) i k) k i := by
  funext x y
  unfold setT
  by_cases h1 : x = k ∧ y = i
  · rw [if_pos h1]
    obtain ⟨rfl, rfl⟩ := h1
    unfold tP
    exact decide_eq_true ⟨by omega, .inr ⟨by omega, by omega⟩, by rw [addL_comm]; exact h⟩
  · rw [if_neg h1]
    by_cases h2 : x = i ∧ y = k
    · rw [if_pos h2]
      obtain ⟨rfl, rfl⟩ := h2
      unfold tP
      exact decide_eq_true ⟨by omega, .inr ⟨by omega, by omega⟩, h⟩
    · rw [if_neg h2]
      unfold tP
      rw [decide_eq_decide]
      constructor
      · rintro ⟨h3, h4, h5⟩; exact ⟨h3, by omega, h5⟩
      · rintro ⟨h3, h4, h5⟩; exact ⟨h3, by omega, h5⟩
theorem tP_full {b s : List (List Int)} {x y : Nat} (hx : x < b.length) (hy : y < b.length) : tP b s b.length 0 x y = decide (x ≠ y ∧ addL (b.getD x []) (b.getD y []) ∈ s) := by
  unfold tP
  rw [decide_eq_decide]
  constructor
  · rintro ⟨h1, h2, h3⟩; exact ⟨by omega, h3⟩
  · rintro ⟨h1, h3⟩; exact ⟨by omega, .inl (by omega), h3⟩
theorem tP_read {b s : List (List Int)} {x y : Nat} (hx : x < b.length) (hy : y < b.length) : tP b s b.length 0 x y = readT (edTo b s b.length) x y := by
  rw [tP_full hx hy, Bool.eq_iff_iff, decide_eq_true_eq, readT_iff]
  constructor
  · rintro ⟨h1, h2⟩
    by_cases hlt : x < y
    · exact ⟨_, edTo_mem.2 ⟨x, y, rfl, hlt, hy, h2⟩, .inl ⟨rfl, rfl⟩⟩
    · exact ⟨_, edTo_mem.2 ⟨y, x, rfl, by omega, hx, by rw [addL_comm]; exact h2⟩, .inr ⟨rfl, rfl⟩⟩
  · rintro ⟨e, he, h⟩
    obtain ⟨i, j, rfl, h1, h2, h3⟩ := edTo_mem.1 he
    simp only [Int.toNat_natCast] at h
    rcases h with ⟨rfl, rfl⟩ | ⟨rfl, rfl⟩
    · exact ⟨by omega, h3⟩
    · exact ⟨by omega, by rw [addL_comm]; exact h3⟩
theorem tP_edges (b s : List (List Int)) : tableEdges (tP b s b.length 0) b.length b.length = edTo b s b.length := by
  unfold tableEdges edTo
  have : ∀ i ∈ List.range b.length, rowT (tP b s b.length 0) i b.length = edRow b s i := by
    intro i hi
    have hi := List.mem_range.1 hi
    unfold rowT edRow
    have hf : ((List.range b.length).filter fun k => decide (i < k) && tP b s b.length 0 i k) = (List.range b.length).filter fun j => decide (i < j) && decide (addL (b.getD i []) (b.getD j []) ∈ s) := by
      refine List.filter_congr (fun j hj => ?_)
      have hj := List.mem_range.1 hj
      by_cases hij : i < j
      · rw [tP_full hi hj, decide_eq_true hij]
        simp only [Bool.true_and]
        rw [decide_eq_decide]
        exact ⟨fun h => h.2, fun h => ⟨by omega, h⟩⟩
      · rw [decide_eq_false hij]; rfl
    rw [hf]
  rw [List.flatMap_def, List.flatMap_def, List.map_congr_left this]
end Go.Sp
end
section
/- The products within blocks, as the reference and the program add them: plain. -/
namespace Go.Sp
open Go.Gr Go.Ev Go.Jt
def Blks (b ls : List (List Int)) (v : List Int) : Prop := ∃ l ∈ ls, ∃ x ∈ l, ∃ y ∈ l, v = addL (b.getD x.toNat []) (b.getD y.toNat [])
theorem blks_nil {b : List (List Int)} {v : List Int} : ¬ Blks b [] v := fun ⟨_, h, _⟩ => by cases h
theorem blks_take_zero {b ls : List (List Int)} {v : List Int} : ¬ Blks b (ls.take 0) v := fun ⟨_, h, _⟩ => by simp at h
theorem blks_succ {b ls : List (List Int)} {v : List Int} {i : Nat} (h : i < ls.length) : Blks b (ls.take (i + 1)) v ↔ Blks b (ls.take i) v ∨ InB b ls[i] ls[i].length v := by
  rw [inB_full, List.take_succ_eq_append_getElem h]
  unfold Blks
  constructor
  · rintro ⟨l, hl, r⟩
    rcases List.mem_append.1 hl with hl | hl
    · exact .inl ⟨l, hl, r⟩
    · rw [List.mem_singleton.1 hl] at r; exact .inr r
  · rintro (⟨l, hl, r⟩ | r)
    · exact ⟨l, List.mem_append_left _ hl, r⟩
    · exact ⟨ls[i], List.mem_append_right _ (by simp), r⟩
theorem setAt_blks {b S : List (List Int)} {t : Nat} {v : List Int} : v ∈ setAt b S (t + 1) ↔ v ∈ setAt b S t ∨ Blks b (comps b (setAt b S t)) v := setAt_mem
/-- The pairs of a block that the reference has met: rows ahead of a, row a up to c. -/
def RB (b : List (List Int)) (l : List Int) (a c : Nat) (v : List Int) : Prop := ∃ x y : Nat, y < x ∧ (x < a ∨ (x = a ∧ y < c)) ∧ x < l.length ∧ v = addL (b.getD (l.getD x 0).toNat []) (b.getD (l.getD y 0).toNat [])
theorem rb_zero {b : List (List Int)} {l v : List Int} : ¬ RB b l 0 0 v := fun ⟨x, y, h1, h2, _⟩ => by omega
theorem rb_row {b : List (List Int)} {l v : List Int} {a : Nat} : RB b l a a v ↔ RB b l (a + 1) 0 v := by
  constructor
  · rintro ⟨x, y, h1, h2, h3⟩; exact ⟨x, y, h1, .inl (by omega), h3⟩
  · rintro ⟨x, y, h1, h2, h3⟩; exact ⟨x, y, h1, by omega, h3⟩
theorem rb_succ {b : List (List Int)} {l v : List Int} {a c : Nat} (hc : c < a) (ha : a < l.length) : RB b l a (c + 1) v ↔ RB b l a c v ∨ v = addL (b.getD (l.getD a 0).toNat []) (b.getD (l.getD c 0).toNat []) := by
  constructor
  · rintro ⟨x, y, h1, h2, h3, h4⟩
    by_cases h : x = a ∧ y = c
    · obtain ⟨rfl, rfl⟩ := h; exact .inr h4
    · exact .inl ⟨x, y, h1, by omega, h3, h4⟩
  · rintro (⟨x, y, h1, h2, h3, h4⟩ | h4)
    · exact ⟨x, y, h1, by omega, h3, h4⟩
    · exact ⟨a, c, hc, .inr ⟨rfl, by omega⟩, ha, h4⟩
theorem rb_full {b : List (List Int)} {l v : List Int} : RB b l l.length 0 v ↔ ∃ x y : Nat, y < x ∧ x < l.length ∧ v = addL (b.getD (l.getD x 0).toNat []) (b.getD (l.getD y 0).toNat []) := by
  constructor
  · rintro ⟨x, y, h1, h2, h3, h4⟩; exact ⟨x, y, h1, h3, h4⟩
  · rintro ⟨x, y, h1, h3, h4⟩; exact ⟨x, y, h1, .inl h3, h3, h4⟩
def RBlks (b ls : List (List Int)) (v : List Int) : Prop := ∃ l ∈ ls, RB b l l.length 0 v
theorem rblks_zero {b ls : List (List Int)} {v : List Int} : ¬ RBlks b (ls.take 0) v := fun ⟨_, h, _⟩ => by simp at h
theorem rblks_succ {b ls : List (List Int)} {v : List Int} {i : Nat} (h : i < ls.length) : RBlks b (ls.take (i + 1)) v ↔ RBlks b (ls.take i) v ∨ RB b ls[i] ls[i].length 0 v := by
  rw [List.take_succ_eq_append_getElem h]
  unfold RBlks
  constructor
  · rintro ⟨l, hl, r⟩
    rcases List.mem_append.1 hl with hl | hl
    · exact .inl ⟨l, hl, r⟩
    · rw [List.mem_singleton.1 hl] at r; exact .inr r
  · rintro (⟨l, hl, r⟩ | r)
    · exact ⟨l, List.mem_append_left _ hl, r⟩
    · exact ⟨ls[i], List.mem_append_right _ (by simp), r⟩
theorem comps_lt {b S : List (List Int)} (hv : valid b.length (edTo b S b.length)) : ∀ l ∈ comps b S, ∀ x ∈ l, ∃ v : Nat, x = (v : Int) ∧ v < b.length := by
  intro l hl x hx
  obtain ⟨r, hr, h⟩ := (made_r (comps_made hv)).each l hl
  obtain ⟨v, rfl, hc⟩ := (h x).1 hx
  exact ⟨v, rfl, conn_lt hv hr hc⟩
theorem rblks_full {b ls S : List (List Int)} (hl : ∀ l ∈ ls, ∀ x ∈ l, ∃ v : Nat, x = (v : Int) ∧ v < b.length) (hsq : ∀ m ∈ b, addL m m ∈ S) {v : List Int} : (v ∈ S ∨ RBlks b ls v) ↔ (v ∈ S ∨ Blks b ls v) := by
  have hg : ∀ (l : List Int) (i : Nat), i < l.length → l.getD i 0 ∈ l := fun l i h => by rw [List.getD_eq_getElem?_getD, List.getElem?_eq_getElem h, Option.getD_some]; exact List.getElem_mem h
  constructor
  · rintro (h | ⟨l, h1, h2⟩)
    · exact .inl h
    · obtain ⟨x, y, hxy, hx, e⟩ := rb_full.1 h2
      exact .inr ⟨l, h1, _, hg l x hx, _, hg l y (by omega), e⟩
  · rintro (h | ⟨l, h1, x, hx, y, hy, rfl⟩)
    · exact .inl h
    · by_cases hxy : x = y
      · subst hxy
        left
        obtain ⟨v, rfl, hv⟩ := hl l h1 x hx
        rw [Int.toNat_natCast, List.getD_eq_getElem?_getD, List.getElem?_eq_getElem hv, Option.getD_some]
        exact hsq _ (List.getElem_mem _)
      · right
        refine ⟨l, h1, rb_full.2 ?_⟩
        obtain ⟨i, hi, rfl⟩ := List.getElem_of_mem hx
        obtain ⟨j, hj, rfl⟩ := List.getElem_of_mem hy
        have e1 : l.getD i 0 = l[i] := by simp [hi]
        have e2 : l.getD j 0 = l[j] := by simp [hj]
        rcases Nat.lt_trichotomy i j with h | h | h
        · exact ⟨j, i, h, hj, by rw [e1, e2, addL_comm]⟩
        · subst h; exact absurd rfl hxy
        · exact ⟨i, j, h, hi, by rw [e1, e2]⟩
theorem s0_sq {es b : List (List Int)} : ∀ m ∈ b, addL m m ∈ S0 es b := fun m hm => List.mem_append_right _ (List.mem_map.2 ⟨m, hm, rfl⟩)
/-- Only what is known decides the blocks. -/
theorem edTo_set {b S S' : List (List Int)} (h : ∀ v, v ∈ S ↔ v ∈ S') : edTo b S b.length = edTo b S' b.length := edTo_congr (fun _ _ _ _ => h _)
theorem comps_set {b S S' : List (List Int)} (h : ∀ v, v ∈ S ↔ v ∈ S') : comps b S = comps b S' := by
  unfold comps
  rw [edTo_set h]
end Go.Sp
end
section
/- Blocks told by a table of classes; the example of the sanity check: plain. -/
namespace Go.Sp
open Go.Gr Go.Ev Go.Jt
section
variable {n : Nat} {es : List (Int × Int)} {cls : Nat → Nat}
theorem cls_conn (h1 : ∀ e ∈ es, cls e.1.toNat = cls e.2.toNat) {a b : Nat} (hc : Conn (Rel es) a b) : cls a = cls b :=
  hc (fun x => cls a = cls x) rfl (fun x y hx hxy => by
    obtain ⟨e, he, h⟩ := (readT_iff _ _ _).1 hxy
    have := h1 e he
    rcases h with ⟨rfl, rfl⟩ | ⟨rfl, rfl⟩
    · exact hx.trans this
    · exact hx.trans this.symm)
theorem conn_cls (hv : valid n es) (h2 : ∀ v, v < n → cls v = v ∨ ((cls v : Int), (v : Int)) ∈ es) {a b : Nat} (ha : a < n) (hb : b < n) (h : cls a = cls b) : Conn (Rel es) a b := by
  have key : ∀ v, v < n → Conn (Rel es) (cls v) v := fun v hvn => by
    rcases h2 v hvn with e | e
    · rw [e]; exact Conn.refl v
    · exact Conn.step ((readT_iff _ _ _).2 ⟨_, e, .inl ⟨by simp, by simp⟩⟩)
  have h3 := key b hb
  rw [← h] at h3
  exact (Conn.symm (rel_sym hv) (key a ha)).trans h3
def clsTo (n : Nat) (cls : Nat → Nat) (k : Nat) : List (List Int) := ((List.range k).filter fun j => decide (cls j = j)).map fun j => ((List.range n).filter fun v => decide (cls v = j)).map fun v : Nat => (v : Int)
theorem made_cls (hv : valid n es) (h1 : ∀ e ∈ es, cls e.1.toNat = cls e.2.toNat) (h2 : ∀ v, v < n → cls v = v ∨ ((cls v : Int), (v : Int)) ∈ es) : ∀ k, k ≤ n → MadeL es k (clsTo n cls k)
  | 0, _ => .zero
  | k + 1, hk => by
    have ih := made_cls hv h1 h2 k (by omega)
    by_cases hc : cls k = k
    · have e : clsTo n cls (k + 1) = clsTo n cls k ++ [((List.range n).filter fun v => decide (cls v = k)).map fun v : Nat => (v : Int)] := by
        unfold clsTo
        rw [List.range_succ, List.filter_append, List.map_append, List.filter_cons_of_pos (by simpa using hc)]
        rfl
      rw [e]
      refine .add ih ?_ ?_ ?_
      · intro m hm hkm
        unfold clsTo at hm
        obtain ⟨j, hj, rfl⟩ := List.mem_map.1 hm
        obtain ⟨v, hv1, hv2⟩ := List.mem_map.1 hkm
        have hv3 := (List.mem_filter.1 hv1).2
        have hj1 := List.mem_range.1 (List.mem_filter.1 hj).1
        obtain rfl : v = k := by omega
        have hv4 : cls v = j := by simpa using hv3
        omega
      · rw [List.pairwise_map]
        exact ((List.pairwise_lt_range (n := n)).filter _).imp (fun hab => by omega)
      · intro x
        rw [List.mem_map]
        constructor
        · rintro ⟨v, hv1, rfl⟩
          obtain ⟨hv2, hv3⟩ := List.mem_filter.1 hv1
          have hv3 : cls v = k := by simpa using hv3
          exact ⟨v, rfl, conn_cls hv h2 (by omega) (List.mem_range.1 hv2) (by rw [hc, hv3])⟩
        · rintro ⟨v, rfl, hc2⟩
          refine ⟨v, List.mem_filter.2 ⟨List.mem_range.2 (conn_lt hv (by omega) hc2), ?_⟩, rfl⟩
          have := cls_conn h1 hc2
          simp; omega
    · have e : clsTo n cls (k + 1) = clsTo n cls k := by
        unfold clsTo
        rw [List.range_succ, List.filter_append, List.filter_cons_of_neg (by simpa using hc)]
        simp
      rw [e]
      refine .skip ih ?_
      rcases h2 k (by omega) with h | h
      · exact absurd h hc
      · have hlt : cls k < k := by
          obtain ⟨i, hi, he⟩ := List.getElem_of_mem h
          have := (hv.2.2 i hi (by omega)).1
          rw [he] at this
          have := this.2.1
          simp only at this
          omega
        have hcc : cls (cls k) = cls k := by have := h1 _ h; simpa using this
        refine ⟨((List.range n).filter fun v => decide (cls v = cls k)).map fun v : Nat => (v : Int), ?_, ?_⟩
        · unfold clsTo
          exact List.mem_map.2 ⟨cls k, List.mem_filter.2 ⟨List.mem_range.2 hlt, by simpa using hcc⟩, rfl⟩
        · exact List.mem_map.2 ⟨k, List.mem_filter.2 ⟨List.mem_range.2 (by omega), by simp⟩, rfl⟩
end
/-- The components, told by a table. -/
theorem comps_cls {b S : List (List Int)} (cls : Nat → Nat) (hb : b.length ≤ 64) (h1 : ∀ e ∈ edTo b S b.length, cls e.1.toNat = cls e.2.toNat) (h2 : ∀ v, v < b.length → cls v = v ∨ ((cls v : Int), (v : Int)) ∈ edTo b S b.length) :
    comps b S = clsTo b.length cls b.length := by
  have hv := ed_valid b S hb
  exact MadeR.same (fun _ _ _ => Iff.rfl) (made_r (comps_made hv)) (made_r (made_cls hv h1 h2 _ (Nat.le_refl _)))
def awB : List (List Int) := [[0, 0], [0, 1], [1, 0], [0, 2], [1, 1], [2, 0]]
def awE : List (List Int) := [[4, 0], [0, 4], [0, 0]]
def awC (v : Nat) : Nat := if v = 3 ∨ v = 5 then 0 else v
theorem aw_ed0 : edTo awB (S0 awE awB) awB.length = [(0, 3), (0, 5), (3, 5)] := by decide +kernel
theorem aw_c0 : comps awB (S0 awE awB) = [[0, 3, 5], [1], [2], [4]] := by
  rw [comps_cls awC (by decide) (by rw [aw_ed0]; decide) (by rw [aw_ed0]; decide)]
  decide +kernel
theorem aw_ed1 : edTo awB (setAt awB (S0 awE awB) 1) awB.length = [(0, 3), (0, 5), (3, 5)] := by
  show edTo awB (S0 awE awB ++ blockAll awB (comps awB (S0 awE awB))) awB.length = _
  rw [aw_c0]
  decide +kernel
theorem aw_c1 : comps awB (setAt awB (S0 awE awB) 1) = [[0, 3, 5], [1], [2], [4]] := by
  rw [comps_cls awC (by decide) (by rw [aw_ed1]; decide) (by rw [aw_ed1]; decide)]
  decide +kernel
end Go.Sp
end
section
/- The monomials of a valid polynomial are valid: plain. -/
namespace Go.Sp
open Go.Gr Go.Ev Go.Mo
theorem ord_pos {a b : List Int} (h : 0 < Mo.ord a b) : b.sum ≤ a.sum := by
  unfold Mo.ord at h
  split at h
  · omega
  · split at h
    · omega
    · omega
theorem vldP_all {v : Int} {ts : List Term} (h : VldP v ts) : ∀ i (hi : i < ts.length), vldM ts[i].2 = true ∧ (ts[i].2.length : Int) = v := by
  obtain ⟨_, ⟨h0, h6, hw⟩, hv⟩ := h
  have hsum : ∀ i (hi : i < ts.length), ts[i].2.sum ≤ 24 := by
    intro i
    induction i with
    | zero => intro hi; exact (vldM_iff.1 (hv hi)).2.2
    | succ i ih =>
      intro hi
      have h1 := (hw (i + 1) hi hi).2 (by omega)
      have h2 := ord_pos h1
      have h3 := ih (by omega)
      rw [show i + 1 - 1 = i by omega, List.getD_eq_getElem?_getD, List.getElem?_eq_getElem (by omega), Option.getD_some] at h2
      omega
  intro i hi
  have h1 := termOk_iff.1 (hw i hi hi).1
  refine ⟨vldM_iff.2 ⟨by have := h1.2.1; omega, fun e he => (low20_iff.1 h1.2.2 e he).1, hsum i hi⟩, h1.2.1⟩
theorem vldP_dom {n : Nat} {ts : List Term} (h : VldP (n : Int) ts) : ∀ t ∈ ts, domK n 24 t.2 := by
  intro t ht
  obtain ⟨i, hi, rfl⟩ := List.getElem_of_mem ht
  have h1 := vldP_all h i hi
  have h2 := vld_dom h1.1
  rwa [show ts[i].2.length = n by have := h1.2; omega] at h2
end Go.Sp
end
section
/- The state of the rounds, made: the known monomials in a map. -/
namespace Go.Proofs.Tg
open Go.RowKit Go.Gr Go.Sp Go.Ev Go.Mo
set_option maxHeartbeats 4000000
set_option maxRecDepth 100000
/-- The state of the rounds: block g leads to the basis and to the map in block mb, which holds the monomials of S. -/
structure ItAt (w : World) (g mb : Nat) (B : Option Addr) (cb : Nat) (b : List (List Int)) (n cnt : Nat) (S : List (List Int)) : Prop where
  blk : Blk w g 121 #[.slice B b.length cb, .map (some mb)]
  lists : Lists w B b
  set : SetM w mb cnt n S
def exsOf (tv : List TV) : List (List Int) := tv.map TV.exps
def RetStart (B : Option Addr) (cb : Nat) (b : List (List Int)) (n : Nat) (tv : List TV) (w : World) (e : Ending) (w' : World) : Prop :=
  ∃ g mb, e = .returned (.pointer (some ⟨g, 0, none⟩)) ∧ w.heap.size ≤ g ∧ w.heap.size ≤ mb ∧ ItAt w' g mb B cb b n (tv.length + b.length) (S0 (exsOf tv) b) ∧ Below w.heap.size w w'
theorem below_turn {w w1 w2 : World} {B mb : Nat} (h : Below B w w1) (hm : MapB w1 mb) (hg : w1.grownBy w2 (some mb)) (hB : B ≤ mb) : Below B w w2 :=
  h.grown hg (by have := hm.lt; omega) (fun q hq => by injection hq with hq; omega)
theorem start_any (V : Int) (T : Option Addr) (cT : Nat) (tv : List TV) (B : Option Addr) (cb : Nat) (b : List (List Int)) (n : Nat) (w : World) (hP : TermsAt w T tv) (hB : Lists w B b) (hn : n ≤ 6) (hl : tv.length ≤ 4096) (hbl : b.length ≤ 64)
    (hd : ∀ t ∈ tv, domK n 24 t.exps) (hdb : ∀ m ∈ b, domK n 24 m) :
    Calls Tryz.prog 38 #[.agg #[.int .i64 V, .slice T tv.length cT], .slice B b.length cb] w (RetStart B cb b n tv w) := by
  have HD := Lib.hid hd
  have HDB := Lib.hid hdb
  obtain ⟨W, hW⟩ : ∃ W, ((w.alloc (.cells #[.int .i64 V, .slice T tv.length cT] 24)).alloc (.map #[] 0)).alloc (.cells #[.slice B b.length cb, .map (some (w.heap.size + 1))] 121) = W := ⟨_, rfl⟩
  have hbW : Below w.heap.size w W := by rw [← hW]; exact (((Below.refl _ _).alloc (Nat.le_refl _) _).alloc (by simp) _).alloc (by simp; omega) _
  have B0 : Blk W w.heap.size 24 #[.int .i64 V, .slice T tv.length cT] := by rw [← hW]; exact ((Blk.new _ _ _).alloc _).alloc _
  have B1 : Blk W (w.heap.size + 1 + 1) 121 #[.slice B b.length cb, .map (some (w.heap.size + 1))] := by
    rw [← hW]; have := Blk.new ((w.alloc (.cells #[.int .i64 V, .slice T tv.length cT] 24)).alloc (.map #[] 0)) 121 #[.slice B b.length cb, .map (some (w.heap.size + 1))]
    simpa using this
  have M1 : SetM W (w.heap.size + 1) 0 n [] := by
    rw [← hW]
    have := SetM.made (w.alloc (.cells #[.int .i64 V, .slice T tv.length cT] 24)) n
    have h2 := this.below ((Below.refl _ _).alloc (Nat.le_refl _) (.cells #[.slice B b.length cb, .map (some (w.heap.size + 1))] 121)) (by simp)
    simpa using h2
  have hPW := hP.keep hbW
  have hBW := hB.keep hbW
  have HWW := Lib.hid hW
  have hmm := @run_makeMap Tryz.prog
  clear hd hdb hW hP hB
  obtain ⟨c0, c1, _, _⟩ := B0.two
  go_enter Tryz.func38, Tryz.ntmps38
  go_upto_region 2 with (fail)
  rw [HWW.out]
  clear HWW hmm
  go_wp2
  clear c0 c1 B0
  go_loopw [17] (fun i wr => ∃ k : Nat, i = .int .i64 k ∧ k ≤ tv.length ∧ Blk wr (w.heap.size + 1 + 1) 121 #[.slice B b.length cb, .map (some (w.heap.size + 1))] ∧ SetM wr (w.heap.size + 1) k n (exsOf (tv.take k)) ∧ Below w.heap.size w wr ∧ TermsAt wr T tv ∧ Lists wr B b) (fun i _ => tv.length - (intOf i).toNat)
  case atStart => exact ⟨0, rfl, Nat.zero_le _, B1, M1, hbW, hPW, hBW⟩
  case round =>
    clear B1 M1 hbW hPW hBW
    obtain ⟨wo, rfl⟩ : ∃ wo : World, wo = wr := ⟨_, rfl⟩
    obtain ⟨k, rfl, hk, D1, hS, hbr, hPr, hLr⟩ := hrel
    by_cases hlt : k < tv.length
    · obtain ⟨ad, rfl, e0, e1, hI⟩ := hPr.at hlt
      have hdm := HD.out tv[k] (List.getElem_mem _)
      have HTM : Hid (∀ v, v ∈ tv[k].exps :: exsOf (tv.take k) ↔ v ∈ exsOf (tv.take (k + 1))) := Lib.hid (fun v => by
        unfold exsOf
        rw [List.take_succ_eq_append_getElem hlt, List.map_append, List.mem_append, List.map_singleton, List.mem_singleton, List.mem_cons]
        exact Or.comm)
      have HPr := Lib.hid hPr
      generalize tv[k] = t at *
      obtain ⟨s, A, c, el⟩ := t
      simp only at e0 e1 hI hdm HTM
      clear hPr
      go_upto_region 5 with (fail)
      have q0 := cell_alloc (D1.cell 1) (.cells #[.string s, .slice A el.length c] 69)
      have q1 := (Blk.new wo 69 #[.string s, .slice A el.length c]).cell 1
      have hal : Below wo.heap.size wo (wo.alloc (.cells #[.string s, .slice A el.length c] 69)) := (Below.refl _ _).alloc (Nat.le_refl _) _
      have hX1 := D1.alloc (.cells #[.string s, .slice A el.length c] 69)
      have hXS := hS.below hal hS.mapB.lt
      have hXb := hbr.alloc hbr.size (.cells #[.string s, .slice A el.length c] 69)
      have hXP := HPr.out.keep hal
      have hXL := hLr.keep hal
      have hXI := hI.keep hal
      have hgl : w.heap.size + 1 < wo.heap.size := hS.mapB.lt
      have hGX : wo.heap.size < (wo.alloc (.cells #[.string s, .slice A el.length c] 69)).heap.size := by simp
      generalize wo.alloc (.cells #[.string s, .slice A el.length c] 69) = X at *
      clear D1 hS hbr HPr hLr hI e0 e1
      have q0 : X.cell? ⟨w.heap.size + 1 + 1, 1, none⟩ = some (.map (some (w.heap.size + 1))) := q0
      have q1 : X.cell? ⟨wo.heap.size, 1, none⟩ = some (.slice A el.length c) := q1
      have hbe : Below X.heap.size X X.drew := (Below.refl _ _).drew
      have hmx : w.heap.size + 1 < X.heap.size := by omega
      have HKO : Hid (∀ W, Below X.heap.size X W → Calls Tryz.prog 56 #[.slice A el.length c] W fun e w' => e = .returned (keyV el) ∧ Below X.heap.size X w') := Lib.hid (fun W h => (keyOf_any A c el W (hXI.keep h) (by rw [hdm.1]; exact hn)).mono fun e w' h2 => ⟨h2.1, below_all h h2.2⟩)
      have hdm' : domK n 48 el := hdm.mono (by omega)
      go_region_held3 (fun w' => w'.cell? ⟨w.heap.size + 1 + 1, 1, none⟩ = some (.map (some (w.heap.size + 1))) ∧ w'.cell? ⟨wo.heap.size, 1, none⟩ = some (.slice A el.length c))
        (first | exact ⟨r0, r1⟩ | exact ⟨keep_cell hbe q0, keep_cell hbe q1⟩)
        (first
          | (go_at_call 56; with_reducible refine Calls.mono (HKO.out _ (by assumption)) ?_; rintro e w2 ⟨rfl, hb2⟩
             have hbe := hb2
             have hm2 := (hXS.below hb2 hmx).mapB
             obtain ⟨w3, hrun, hS3, hg3⟩ := (hXS.below hb2 hmx).put hn (by omega) hdm'
             have r0 := cell_turn hm2 hg3 (keep_cell hb2 q0)
             have r1 := cell_turn hm2 hg3 (keep_cell hb2 q1)))
      all_goals
        go_wp2_with (fail)
        go_roundw
        case rel =>
          exact ⟨k + 1, by go_num, by omega, (hX1.keep hb2 hX1.lt).turn hm2 hg3, hS3.congr HTM.out, below_turn (below_all hXb hb2) hm2 hg3 (by omega), (hXP.keep hb2).turn hm2 hg3, (hXL.keep hb2).turn hm2 hg3⟩
        case measure => simp [intOf]; omega
    · obtain rfl : k = tv.length := by omega
      rw [List.take_length] at hS
      have dk : decide ((tv.length : Int) < (tv.length : Int)) = false := by simp
      have hS : SetM wo (w.heap.size + 1) (tv.length + 0) n (S0 (exsOf tv) (b.take 0)) := hS.congr (fun v => by unfold S0; simp)
      clear hPr
      go_wp2
      go_loopw [31] (fun i wr => ∃ j : Nat, i = .int .i64 j ∧ j ≤ b.length ∧ Blk wr (w.heap.size + 1 + 1) 121 #[.slice B b.length cb, .map (some (w.heap.size + 1))] ∧ SetM wr (w.heap.size + 1) (tv.length + j) n (S0 (exsOf tv) (b.take j)) ∧ Below w.heap.size w wr ∧ Lists wr B b) (fun i _ => b.length - (intOf i).toNat)
      case atStart => exact ⟨0, rfl, Nat.zero_le _, D1, hS, hbr, hLr⟩
      case round =>
        clear D1 hS hbr hLr
        obtain ⟨wp, rfl⟩ : ∃ wp : World, wp = wr := ⟨_, rfl⟩
        obtain ⟨j, rfl, hj, D1, hS, hbr, hLr⟩ := hrel
        by_cases hlt : j < b.length
        · obtain ⟨ad, A, c, rfl, hc, hI⟩ := hLr.at hlt
          have hdm := HDB.out b[j] (List.getElem_mem _)
          have HTM : Hid (∀ v, v ∈ addL b[j] b[j] :: S0 (exsOf tv) (b.take j) ↔ v ∈ S0 (exsOf tv) (b.take (j + 1))) := Lib.hid (fun v => by
            unfold S0
            rw [List.take_succ_eq_append_getElem hlt, List.map_append, List.map_singleton]
            simp only [List.mem_cons, List.mem_append, List.not_mem_nil, or_false]
            constructor
            · rintro (h | h | h)
              · exact .inr (.inr h)
              · exact .inl h
              · exact .inr (.inl h)
            · rintro (h | h | h)
              · exact .inr (.inl h)
              · exact .inr (.inr h)
              · exact .inl h)
          have HLr := Lib.hid hLr
          generalize b[j] = m at *
          clear hLr
          have q0 : wp.cell? ⟨w.heap.size + 1 + 1, 1, none⟩ = some (.map (some (w.heap.size + 1))) := D1.cell 1
          have hmx : w.heap.size + 1 < wp.heap.size := hS.mapB.lt
          have hbe : Below wp.heap.size wp wp.drew := (Below.refl _ _).drew
          have HKO : Hid (∀ W, Below wp.heap.size wp W → Calls Tryz.prog 68 #[.slice A m.length c, .slice A m.length c] W fun e w' => e = .returned (keyV (addL m m)) ∧ Below wp.heap.size wp w') := Lib.hid (fun W h => (product_any A A c c n m m W (hI.keep h) (hI.keep h) hdm hdm hn).mono fun e w' h2 => ⟨h2.1, below_all h h2.2⟩)
          have hdm' : domK n 48 (addL m m) := addL_dom hdm hdm
          generalize addL m m = mm at *
          go_upto_region 10 with (fail)
          go_region_held3 (fun w' => w'.cell? ⟨w.heap.size + 1 + 1, 1, none⟩ = some (.map (some (w.heap.size + 1))))
            (first | exact r0 | exact keep_cell hbe q0)
            (first
              | (go_at_call 68; with_reducible refine Calls.mono (HKO.out _ (by assumption)) ?_; rintro e w2 ⟨rfl, hb2⟩
                 have hbe := hb2
                 have hm2 := (hS.below hb2 hmx).mapB
                 obtain ⟨w3, hrun, hS3, hg3⟩ := (hS.below hb2 hmx).put hn (by omega) hdm'
                 have r0 := cell_turn hm2 hg3 (keep_cell hb2 q0)))
          all_goals
            go_wp2_with (fail)
            go_roundw
            case rel =>
              exact ⟨j + 1, by go_num, by omega, (D1.keep hb2 D1.lt).turn hm2 hg3, hS3.congr HTM.out, below_turn (below_all hbr hb2) hm2 hg3 (by omega), ((HLr.out).keep hb2).turn hm2 hg3⟩
            case measure => simp [intOf]; omega
        · obtain rfl : j = b.length := by omega
          rw [List.take_length] at hS
          have dj : decide ((b.length : Int) < (b.length : Int)) = false := by simp
          go_wp2
          go_ret
          exact ⟨w.heap.size + 1 + 1, w.heap.size + 1, rfl, by omega, by omega, ⟨D1, hLr, hS⟩, hbr⟩
end Go.Proofs.Tg
end
