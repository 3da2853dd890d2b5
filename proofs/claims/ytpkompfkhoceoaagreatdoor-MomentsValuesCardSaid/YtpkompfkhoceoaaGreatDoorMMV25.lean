/- Parts of the proof: WM2, WM3, MO6, CM1, TM1. -/
import Derived.Laws.MakeOwn
import Derived.Test.YtpkompfkhoceoaaGreatDoorMMV2
import Derived.Test.YtpkompfkhoceoaaGreatDoorMMV3
import Derived.Test.YtpkompfkhoceoaaGreatDoorMMV5
import Derived.Test.YtpkompfkhoceoaaGreatDoorMMV8
import Derived.Test.YtpkompfkhoceoaaGreatDoorMMV15
import Derived.Test.YtpkompfkhoceoaaGreatDoorMMV20
import Derived.Test.YtpkompfkhoceoaaGreatDoorMMV24
section
/- Walks: the product of two valid monomials. -/
namespace Go.Proofs.Tg
open Go.RowKit Go.Gr Go.Ev Go.Mo
set_option maxHeartbeats 4000000
set_option maxRecDepth 100000
theorem mulf_any (x y : Int) (w : World) : Calls Tryz.prog 124 #[.int .i64 x, .int .i64 y] w fun e w' => e = .returned (.int .i64 (wrap64 (x + y))) ∧ w = w' := by
  go_enter Tryz.func124, Tryz.ntmps124
  go_wp2
  go_ret
  exact ⟨rfl, rfl⟩
theorem vpair_ok (A B : Option Addr) (c d : Nat) (a b : List Int) (w : World) (hA : Ints w A a) (hB : Ints w B b) (hl : a.length = b.length) (ha : vldM a = true) (hb : vldM b = true) :
    Calls Tryz.prog 154 #[.slice A a.length c, .slice B b.length d] w fun e w' => e = .returned (.bool true) ∧ w = w' := by
  have h6 := (small_of_vld ha).1
  have HA := Lib.hid (valid_any A c a w hA (by omega))
  have HB := Lib.hid (valid_any B d b w hB (by omega))
  rw [ha] at HA
  rw [hb] at HB
  have he : ((a.length : Int) == (b.length : Int)) = true := by simp [hl]
  clear hl ha hb hA hB h6
  go_enter Tryz.func154, Tryz.ntmps154
  go_wp2_with (first
    | (go_at_call 122; with_reducible refine Calls.mono HA.out ?_; rintro e w' ⟨rfl, rfl⟩)
    | (go_at_call 122; with_reducible refine Calls.mono HB.out ?_; rintro e w' ⟨rfl, rfl⟩))
  go_ret
  exact ⟨rfl, rfl⟩
theorem addL_at {a b : List Int} (h : a.length = b.length) {k : Nat} (hk : k < a.length) : (addL a b)[k]'(by rw [addL_len h]; exact hk) = a[k] + b[k]'(by omega) := by simp [addL]
/-- The product, or none. -/
def RetMul (n : Nat) (s : List Int) (ok : Bool) (w : World) (e : Ending) (w' : World) : Prop := Below w.heap.size w w' ∧
  ((ok = false ∧ e = .returned (.tuple #[.slice none 0 0, .bool false])) ∨ (ok = true ∧ ∃ O co, e = .returned (.tuple #[.slice O n co, .bool true]) ∧ Ints w' O s))
theorem comb_ok (A B : Option Addr) (c d : Nat) (a b : List Int) (w : World) (hA : Ints w A a) (hB : Ints w B b) (hl : a.length = b.length) (ha : vldM a = true) (hb : vldM b = true) (ok : Bool) (hok : vldM (addL a b) = ok) :
    Calls Tryz.prog 123 #[.slice A a.length c, .slice B b.length d, .func (.func 124) #[] #[]] w (RetMul a.length (addL a b) ok w) := by
  have h6 := (small_of_vld ha).1
  have HAX := Lib.hid (small_of_vld ha).2
  have HBX := Lib.hid (small_of_vld hb).2
  have HVP := Lib.hid (vpair_ok A B c d a b w hA hB hl ha hb)
  have HAL := Lib.hid (addL_len hl)
  have HAT : Hid (∀ k (h1 : k < a.length) (h2 : k < b.length) (h3 : k < (addL a b).length), (addL a b)[k] = a[k] + b[k]) := Lib.hid (fun k h1 h2 h3 => addL_at hl h1)
  have HVD := Lib.hid (fun W (h : Ints W (some ⟨w.heap.size, 0, none⟩) (addL a b)) => valid_any (some ⟨w.heap.size, 0, none⟩) (addL a b).length (addL a b) W h (by rw [addL_len hl]; omega))
  have HL := Lib.hid hl
  have hmk := fun W => make_ints a.length a.length (Nat.le_refl _) (by omega) W
  rw [hok, addL_len hl] at HVD
  clear ha hb hl hok
  generalize addL a b = s at *
  go_enter Tryz.func123, Tryz.ntmps123
  go_wp2_with (go_at_call 154; refine HVP.out.mono ?_; rintro e w' ⟨rfl, rfl⟩)
  clear hmk
  go_loopw [20] (fun i wr => ∃ k : Nat, k ≤ a.length ∧ i = .int .i64 k ∧ Blk wr w.heap.size 3 (iarr (s.take k ++ List.replicate (a.length - k) 0)) ∧ Below w.heap.size w wr) (fun i _ => a.length - (intOf i).toNat)
  case atStart =>
    refine ⟨0, Nat.zero_le _, rfl, ?_, (Below.refl _ _).alloc (Nat.le_refl _) _⟩
    have e : iarr (s.take 0 ++ List.replicate (a.length - 0) 0) = madeCells #[.int .i64 0] a.length := (iarr_made a.length).symm
    rw [e]
    exact Blk.new w 3 _
  case round =>
    obtain ⟨wo, rfl⟩ : ∃ wo : World, wo = wr := ⟨_, rfl⟩
    obtain ⟨k, hk, rfl, B0, hbw⟩ := hrel
    by_cases hlt : k < a.length
    · obtain ⟨ad, rfl, hca⟩ := Ints.at (hA.keep hbw) hlt
      have hltb : k < b.length := by have := HL.out; omega
      obtain ⟨bd, rfl, hcb⟩ := Ints.at (hB.keep hbw) hltb
      have hx := HAX.out a[k] (List.getElem_mem _)
      have hy := HBX.out b[k] (List.getElem_mem _)
      have hl2 : (s.take k ++ List.replicate (a.length - k) 0).length = a.length := by
        have := HAL.out
        rw [List.length_append, List.length_take, List.length_replicate]; omega
      have HST : Hid ((s.take k ++ List.replicate (a.length - k) 0).set k (a[k] + b[k]) = s.take (k + 1) ++ List.replicate (a.length - (k + 1)) 0) := Lib.hid (fill_set _ k _ _ HAL.out hlt (HAT.out k hlt hltb (by rw [HAL.out]; exact hlt)))
      have c0 := B0.cell k
      have f0 := B0.frozen k
      rw [iarr_at _ (by rw [hl2]; exact hlt)] at c0
      generalize (s.take k ++ List.replicate (a.length - k) 0)[k]'(by rw [hl2]; exact hlt) = old at c0
      have HB0 := Lib.hid B0
      generalize b[k] = y at *
      generalize a[k] = x at *
      have HF := Lib.hid (fun W => mulf_any x y W)
      have hw : wrap64 (x + y) = x + y := by unfold wrap64; omega
      rw [hw] at HF
      have q0 : (0 : Int) ≤ (k : Int) := by omega
      have q1 : (k : Int) < (a.length : Int) := by omega
      have q2 : (k : Int) < (b.length : Int) := by omega
      have q3 : ((k : Int)).toNat = k := by omega
      clear B0 hl2 hw hx hy
      go_wp2_with (go_at_call 124; refine (HF.out _).mono ?_; rintro e w' ⟨rfl, rfl⟩)
      go_roundw
      case rel =>
        refine ⟨k + 1, by omega, by go_num, ?_, hbw.setCell (Nat.le_refl _) _⟩
        have := HB0.out.set k (.int .i64 (x + y))
        rw [iarr_set, HST.out] at this
        exact this
      case measure => simp [intOf]; omega
    · obtain rfl : k = a.length := by omega
      rw [Nat.sub_self, List.replicate_zero, List.append_nil, List.take_of_length_le (by rw [HAL.out]; omega)] at B0
      have hI := sl_new B0
      have HVD2 := Lib.hid (HVD.out wo hI)
      clear HVD B0
      cases ok with
      | true =>
        go_wp2_with (go_at_call 122; refine HVD2.out.mono ?_; rintro e w' ⟨rfl, rfl⟩)
        go_ret2
        exact ⟨hbw, .inr ⟨rfl, _, _, rfl, hI⟩⟩
      | false =>
        go_wp2_with (go_at_call 122; refine HVD2.out.mono ?_; rintro e w' ⟨rfl, rfl⟩)
        go_ret2
        exact ⟨hbw, .inl ⟨rfl, rfl⟩⟩
end Go.Proofs.Tg
end
section
/- Walks: the product of two valid monomials, by its name. -/
namespace Go.Proofs.Tg
open Go.RowKit Go.Gr Go.Ev Go.Mo
set_option maxHeartbeats 4000000
set_option maxRecDepth 100000
theorem mul_ok (A B : Option Addr) (c d : Nat) (a b : List Int) (w : World) (hA : Ints w A a) (hB : Ints w B b) (hl : a.length = b.length) (ha : vldM a = true) (hb : vldM b = true) (ok : Bool) (hok : vldM (addL a b) = ok) :
    Calls Tryz.prog 97 #[.slice A a.length c, .slice B b.length d] w (RetMul a.length (addL a b) ok w) := by
  have HC := Lib.hid (comb_ok A B c d a b w hA hB hl ha hb ok hok)
  clear hl ha hb hok hA hB
  go_enter Tryz.func97, Tryz.ntmps97
  go_wp2_with (fail)
  refine HC.out.mono ?_
  rintro e w1 ⟨hb1, ⟨h, rfl⟩ | ⟨h, O, co, rfl, hO⟩⟩
  · go_wp2_with (fail)
    go_ret2
    exact ⟨hb1, .inl ⟨h, rfl⟩⟩
  · go_wp2_with (fail)
    go_ret2
    exact ⟨hb1, .inr ⟨h, O, co, rfl, hO⟩⟩
end Go.Proofs.Tg
end
section
/- The program's list of all monomials. -/
namespace Go.Proofs.Tg
open Go.RowKit Go.Mm
set_option maxHeartbeats 8000000
set_option maxRecDepth 100000
theorem all_any (n d : Nat) (hn : n ≤ 6) (hd : d ≤ 24) (hc : cnt n d ≤ 4096) (w : World) :
    Calls Tryz.prog 38 #[.int .i64 (n : Nat), .int .i64 (d : Nat)] w (RetMons n d w) := by
  obtain ⟨j0, hj, jz0, jz1, jz2⟩ := info_parts irow_info
  have HCO := Lib.hid (count_any n d hn hd w)
  obtain ⟨k0, hk0⟩ : ∃ k, cnt n d = k := ⟨_, rfl⟩
  have HML := Lib.hid (fun k (h : k ≤ d + 1) => monTo_le n d k h)
  rw [hk0] at HCO hc HML
  have d1 : decide ((4096 : Int) < (k0 : Int)) = false := decide_eq_false (by omega)
  have hmk := fun W => run_make_own (P := Tryz.prog) W W.heap.size 80 41 j0 _ 1 Tryz.underlying80 hj jz0 jz1 .i64 .i64 k0 (by rw [jz2]; omega) (by simp only [maxLen]; omega) (Nat.le_refl _)
  have HMK := Lib.hid hmk
  clear hk0 hmk
  go_enter Tryz.func38, Tryz.ntmps38
  go_wp2_with (fail)
  refine HCO.out.mono ?_
  rintro e w1 ⟨rfl, hb1⟩
  obtain ⟨w2, hrun, hown, hgrow⟩ := HMK.out w1
  have hb2 : Below w.heap.size w w2 := hb1.grown hgrow hb1.size (fun k hk => by cases hk)
  have HST : Hid (OwnI w.heap.size w2 (some ⟨w1.heap.size, 0, none⟩) k0 [] ∧ Below w.heap.size w w2) := Lib.hid ⟨⟨own_base hown hb1.size, fun r hr => absurd hr (by simp)⟩, hb2⟩
  clear hown hgrow HMK HCO
  go_wp2
  go_loopw [8, 24] (fun s8 s24 wr => ∃ (k : Nat) (A : Option Addr) (c : Nat) (rs : List IRow), s8 = .slice A rs.length c ∧ s24 = .int .i64 (k : Nat) ∧ k ≤ d + 1 ∧ Hid (rs.map IRow.l = monTo n k) ∧ Hid (OwnI w.heap.size wr A c rs ∧ Below w.heap.size w wr)) (fun _ s24 _ => d + 1 - (intOf s24).toNat)
  case atStart => exact ⟨0, _, k0, [], rfl, rfl, Nat.zero_le _, Lib.hid rfl, HST⟩
  case round =>
    clear HST hrun
    obtain ⟨wo, rfl⟩ : ∃ wo : World, wo = wr := ⟨_, rfl⟩
    obtain ⟨k, A, c, rs, rfl, rfl, hk, HEQ, HST⟩ := hrel
    by_cases hkd : k = d + 1
    · have e1 : decide ((k : Int) < (d : Int) + 1) = false := decide_eq_false (by omega)
      have HK := Lib.hid hkd
      clear hkd
      go_wp2
      go_ret2
      exact ⟨A, c, rs, rfl, HST.out.1, by rw [HEQ.out, HK.out, monTo_all], HST.out.2⟩
    · have hk2 : k ≤ d := by omega
      have e1 : decide ((k : Int) < (d : Int) + 1) = true := decide_eq_true (by omega)
      have hrl : rs.length + (exactL n k).length ≤ 4096 := by
        have h1 := congrArg List.length HEQ.out
        rw [List.length_map] at h1
        have h2 := HML.out (k + 1) (by omega)
        rw [monTo_len] at h2
        omega
      have HC := appdeg_any n k w.heap.size wo A c rs none 0 [] HST.out.1 HST.out.2.size (World.ownsRow_nil _ _ _ _) (by omega) (by simp; omega) (by omega) (by omega)
      unfold RetApp at HC
      have e2 : (exactL n k).map (· ++ ([] : List Int)) = exactL n k := by simp
      rw [e2, List.length_nil] at HC
      obtain ⟨nr, hnr⟩ : ∃ x, rs.length = x := ⟨_, rfl⟩
      rw [hnr] at HC ⊢
      have HNR := Lib.hid hnr
      have HC := Lib.hid HC
      clear e2 hnr hrl hkd
      go_wp2_with (fail)
      refine HC.out.mono ?_
      rintro e w5 ⟨A5, c5, rs5, rfl, hO5, he5, hg5, hat5⟩
      go_wp2
      go_roundw
      case rel =>
        refine ⟨k + 1, A5, c5, rs5, rfl, by go_num, by omega, Lib.hid (by rw [he5, HEQ.out, monTo_succ]), Lib.hid ⟨hO5, ?_⟩⟩
        refine HST.out.2.grown hg5 HST.out.2.size (fun j hj => ?_)
        have := HST.out.1.own
        rw [HNR.out] at this
        exact (this.lt j hj).1
      case measure => simp [intOf]; omega
end Go.Proofs.Tg
end
section
/- Walks: the program's comparison of valid monomials; the search in a table of monomials; the value at a monomial. -/
namespace Go.Proofs.Tg
open Go.RowKit Go.Gr Go.Ev Go.Mo Go.Mm Go.Rq
open Go.Proofs.Tg.Fi (Txts vq)
set_option maxHeartbeats 8000000
set_option maxRecDepth 100000
theorem vld_low20 {a : List Int} (h : vldM a = true) : low20 a = true := low20_iff.2 (fun e he => by
  have h2 := vldM_iff.1 h
  have h3 := (List.mem_iff_getElem.1 he)
  obtain ⟨i, hi, e1⟩ := h3
  have h4 := sum_take_le a (i + 1) h2.2.1
  rw [sum_take_succ a i hi] at h4
  have h5 := sum_nonneg (a.take i) (fun e he => h2.2.1 e (List.mem_of_mem_take he))
  have h6 := h2.2.1 e he
  omega)
theorem compare_ok (A B : Option Addr) (c d : Nat) (a b : List Int) (w : World) (hA : Ints w A a) (hB : Ints w B b) (hl : a.length = b.length) (ha : vldM a = true) (hb : vldM b = true) :
    Calls Tryz.prog 126 #[.slice A a.length c, .slice B b.length d] w fun e w' => e = .returned (.int .i64 (Mo.ord a b)) ∧ Dr w w' := by
  have HVP := Lib.hid (vpair_ok A B c d a b w hA hB hl ha hb)
  have h6 := (vldM_iff.1 ha).1
  have HO := Lib.hid (order_any A B c d a b w hA hB hl (by omega) (vld_low20 ha) (vld_low20 hb))
  clear hl ha hb hA hB h6
  generalize a.length = n1 at *
  generalize b.length = n2 at *
  generalize Mo.ord a b = z at *
  go_enter Tryz.func126, Tryz.ntmps126
  go_wp2_with (first
    | (go_at_call 154; refine HVP.out.mono ?_; rintro e w' ⟨rfl, rfl⟩)
    | (go_at_call 153; refine HO.out.mono ?_; rintro e w' ⟨rfl, nq, rfl⟩))
  go_ret
  exact ⟨rfl, _, rfl⟩
/-- Rows of integers that can be read. -/
structure MonsAt (w : World) (A : Option Addr) (rows : List IRow) : Prop where
  sl : Sl w A rows.length 1 (rows.map IRow.cell)
  ok : ∀ r ∈ rows, Ints w r.A r.l
theorem MonsAt.keep {w w' : World} {A : Option Addr} {rows : List IRow} (h : MonsAt w A rows) (hb : Below w.heap.size w w') : MonsAt w' A rows := ⟨h.sl.keep hb, fun r hr => (h.ok r hr).keep hb⟩
theorem OwnI.monsAt {base : Nat} {w : World} {A : Option Addr} {c : Nat} {rs : List IRow} (h : OwnI base w A c rs) : MonsAt w A rs := ⟨Sl.own h.own, fun r hr => Sl.own (h.rows r hr)⟩
theorem MonsAt.at {w : World} {A : Option Addr} {rows : List IRow} (h : MonsAt w A rows) {k : Nat} (hk : k < rows.length) : ∃ ad, A = some ad ∧ w.cell? (ad.add k) = some (.slice rows[k].A rows[k].l.length rows[k].c) ∧ Ints w rows[k].A rows[k].l := by
  obtain ⟨ad, e, hc⟩ := Sl.at1 h.sl hk
  exact ⟨ad, e, by simpa [IRow.cell] using hc, h.ok _ (List.getElem_mem hk)⟩
/-- Where the monomial k stands among ascending ones. -/
theorem asc_at {ms : List (List Int)} {n : Nat} (ha : ms.Pairwise (fun a b => Mo.ord a b < 0)) (hl : ∀ x ∈ ms, x.length = n) {k : Nat} (hk : k < ms.length) {j : Nat} (hj : j < ms.length) : (Mo.ord ms[j] ms[k] < 0 ↔ j < k) ∧ (Mo.ord ms[j] ms[k] = 0 ↔ j = k) := by
  have hp := List.pairwise_iff_getElem.1 ha
  rcases Nat.lt_trichotomy j k with h | h | h
  · have := hp j k hj hk h
    omega
  · subst h
    rw [Rs.ord_self]; omega
  · have := hp k j hk hj h
    rw [Rs.ord_anti ((hl _ (List.getElem_mem hk)).trans (hl _ (List.getElem_mem hj)).symm)]
    omega
theorem bsf_any (A : Option Addr) (c n mn : Nat) (rows : List IRow) (M : Option Addr) (cm : Nat) (m : List Int) (k : Nat) (w : World)
    (hR : MonsAt w A rows) (hM : Ints w M m) (hrn : rows.length = n) (hml : m.length = mn) (hk : k < n) (hm : (rows.map IRow.l)[k]? = some m) (hv : ∀ r ∈ rows, vldM r.l = true ∧ r.l.length = mn) (ha : (rows.map IRow.l).Pairwise (fun a b => Mo.ord a b < 0)) (hn : n ≤ 1000000) :
    Calls Tryz.prog 125 #[.slice A n c, .slice M mn cm, .func (.func 126) #[] #[]] w fun e w' => e = .returned (.tuple #[.int .i64 (k : Nat), .bool true]) ∧ Dr w w' := by
  have hkr : k < rows.length := by omega
  have hmk : rows[k].l = m := by
    rw [List.getElem?_map, List.getElem?_eq_getElem hkr] at hm
    exact Option.some.inj hm
  have HS : Hid (∀ j (hj : j < rows.length), (Mo.ord rows[j].l m < 0 ↔ j < k) ∧ (Mo.ord rows[j].l m = 0 ↔ j = k)) := Lib.hid (fun j hj => by
    have h := asc_at ha (n := mn) (fun x hx => by
      obtain ⟨r, hr, rfl⟩ := List.mem_map.1 hx
      exact (hv r hr).2) (k := k) (by rw [List.length_map]; exact hkr) (j := j) (by rw [List.length_map]; exact hj)
    rw [List.getElem_map, List.getElem_map, hmk] at h
    exact h)
  have hvm : vldM m = true := hmk ▸ (hv _ (List.getElem_mem hkr)).1
  have HC : Hid (∀ j (hj : j < rows.length) V, Dr w V → Calls Tryz.prog 126 #[.slice rows[j].A mn rows[j].c, .slice M mn cm] V fun e w' => e = .returned (.int .i64 (Mo.ord rows[j].l m)) ∧ Dr V w') := Lib.hid (fun j hj V hV => by
    have h1 := hv _ (List.getElem_mem hj)
    have h := compare_ok rows[j].A M rows[j].c cm rows[j].l m V ((hR.keep hV.below).ok _ (List.getElem_mem hj)) (hM.keep hV.below) (h1.2.trans hml.symm) h1.1 hvm
    rw [h1.2, hml] at h
    exact h)
  have HAT : Hid (∀ j (hj : j < rows.length) V, Dr w V → ∃ ad, A = some ad ∧ V.cell? (ad.add j) = some (.slice rows[j].A mn rows[j].c)) := Lib.hid (fun j hj V hV => by
    obtain ⟨ad, e, h, _⟩ := (hR.keep hV.below).at hj
    rw [(hv _ (List.getElem_mem hj)).2] at h
    exact ⟨ad, e, h⟩)
  have HRN := Lib.hid hrn
  clear hR hM hm hv ha hmk hvm hkr hrn hml
  go_enter Tryz.func125, Tryz.ntmps125
  go_wp2
  go_loopw [9, 10] (fun s9 s10 wr => ∃ lo hi : Nat, s9 = .int .i64 (lo : Nat) ∧ s10 = .int .i64 (hi : Nat) ∧ lo ≤ hi ∧ hi ≤ n ∧ lo ≤ k ∧ k ≤ hi ∧ Hid (Dr w wr)) (fun s9 s10 _ => (intOf s10).toNat - (intOf s9).toNat)
  case atStart => exact ⟨0, n, rfl, rfl, Nat.zero_le _, Nat.le_refl _, Nat.zero_le _, Nat.le_of_lt hk, Lib.hid (Dr.refl _)⟩
  case round =>
    obtain ⟨wo, rfl⟩ : ∃ wo : World, wo = wr := ⟨_, rfl⟩
    obtain ⟨lo, hi, rfl, rfl, hlh, hin, hlk, hkh, HD⟩ := hrel
    by_cases hlt : lo < hi
    · have e1 : decide ((lo : Int) < (hi : Int)) = true := decide_eq_true (by omega)
      have e1' : decide (lo < hi) = true := decide_eq_true hlt
      have hj : (lo + hi) / 2 < rows.length := by rw [HRN.out]; omega
      obtain ⟨ad, rfl, hc⟩ := HAT.out _ hj wo HD.out
      have HCC := Lib.hid (HC.out _ hj wo HD.out)
      have hs := (HS.out _ hj).1
      generalize Mo.ord rows[(lo + hi) / 2].l m = z at *
      generalize rows[(lo + hi) / 2].A = RA at *
      generalize rows[(lo + hi) / 2].c = rc at *
      by_cases hz : (lo + hi) / 2 < k
      · have e2 : decide (z < 0) = true := decide_eq_true (hs.2 hz)
        clear hs
        go_wp2_with (go_at_call 126; refine HCC.out.mono ?_; rintro e w' ⟨rfl, nq, rfl⟩)
        go_roundw
        case measure => simp [intOf]; omega
        case rel => exact ⟨(lo + hi) / 2 + 1, hi, by rw [show ((lo : Int) + (hi : Int)) / 2 + 1 = (((lo + hi) / 2 + 1 : Nat) : Int) by omega], rfl, by omega, hin, by omega, hkh, Lib.hid (HD.out.drewN _)⟩
      · have e2 : decide (z < 0) = false := decide_eq_false (fun h => hz (hs.1 h))
        clear hs
        go_wp2_with (go_at_call 126; refine HCC.out.mono ?_; rintro e w' ⟨rfl, nq, rfl⟩)
        go_roundw
        case measure => simp [intOf]; omega
        case rel => exact ⟨lo, (lo + hi) / 2, rfl, by first | rfl | (rw [show ((lo : Int) + (hi : Int)) / 2 = (((lo + hi) / 2 : Nat) : Int) by omega]), by omega, by omega, hlk, by omega, Lib.hid (HD.out.drewN _)⟩
    · obtain rfl : lo = k := by omega
      obtain rfl : hi = lo := by omega
      have e1 : decide ((hi : Int) < (hi : Int)) = false := decide_eq_false (by omega)
      have e1' : decide (hi < hi) = false := decide_eq_false (by omega)
      have e3 : decide ((hi : Int) < (n : Int)) = true := decide_eq_true (by omega)
      have e3' : decide (hi < n) = true := decide_eq_true hk
      have hj : hi < rows.length := by rw [HRN.out]; omega
      obtain ⟨ad, rfl, hc⟩ := HAT.out _ hj wo HD.out
      have HCC := Lib.hid (HC.out _ hj wo HD.out)
      have hz0 := (HS.out _ hj).2.2 rfl
      rw [hz0] at HCC
      generalize rows[hi].A = RA at *
      generalize rows[hi].c = rc at *
      clear hz0 hlt
      go_wp2_with (go_at_call 126; refine HCC.out.mono ?_; rintro e w' ⟨rfl, nq, rfl⟩)
      go_ret2
      exact ⟨rfl, HD.out.drewN _⟩
/-- A table in memory: the monomials and the values. -/
structure TbAt (w : World) (A B : Option Addr) (rows : List IRow) (v d n : Nat) (φ : List Int → Rat) : Prop where
  ms : MonsAt w A rows
  txt : Txts w B ((Mm.mons v d).map φ)
  eq : rows.map IRow.l = Mm.mons v d
  len : cnt v d = n
theorem TbAt.keep {w w' : World} {A B : Option Addr} {rows : List IRow} {v d n : Nat} {φ : List Int → Rat} (h : TbAt w A B rows v d n φ) (hb : Below w.heap.size w w') : TbAt w' A B rows v d n φ := ⟨h.ms.keep hb, h.txt.keep hb, h.eq, h.len⟩
theorem TbAt.rows {w : World} {A B : Option Addr} {rows : List IRow} {v d n : Nat} {φ : List Int → Rat} (h : TbAt w A B rows v d n φ) : rows.length = n := by
  rw [← h.len, ← List.length_map (f := IRow.l), h.eq]; rfl
end Go.Proofs.Tg
end
section
/- Walks: the value at a monomial of a table; the value at the product of a polynomial and a monomial. -/
namespace Go.Proofs.Tg
open Go.RowKit Go.Gr Go.Ev Go.Mo Go.Mm Go.Rq Go.Rs
open Go.Proofs.Tg.Fi (Txts vq PT add_q mul_q)
set_option maxHeartbeats 8000000
set_option maxRecDepth 100000
theorem at_any (A B : Option Addr) (cA cB n : Nat) (rows : List IRow) (v d : Nat) (φ : List Int → Rat) (M : Option Addr) (cm : Nat) (m : List Int) (w : World)
    (hT : TbAt w A B rows v d n φ) (hM : Ints w M m) (hm : m ∈ mons v d) (hv : v ≤ 6) (hd : d ≤ 24) (hn : n ≤ 1024) :
    Calls Tryz.prog 98 #[.agg #[.slice A n cA, .slice B n cB], .slice M v cm] w fun e w' => e = .returned (.string (qtx (φ m))) ∧ Below w.heap.size w w' := by
  obtain ⟨k, hk, hkm⟩ := List.getElem_of_mem hm
  have hkn : k < n := by rw [← hT.len]; exact hk
  have hml := (mons_mem hm).1
  have hcv : (((mons v d).map φ)[k]'(by rw [List.length_map]; exact hk)) = φ m := by rw [List.getElem_map, hkm]
  obtain ⟨bd, rfl, hc⟩ := Txts.at hT.txt (k := k) (by rw [List.length_map]; exact hk)
  rw [hcv] at hc
  have hb1 : Below w.heap.size w (w.alloc (.cells #[.slice A n cA, .slice (some bd) n cB] 106)) := (Below.refl _ _).alloc (Nat.le_refl _) _
  have HBS : Hid (∀ V, Below w.heap.size w V → Calls Tryz.prog 125 #[.slice A n cA, .slice M v cm, .func (.func 126) #[] #[]] V fun e w' => e = .returned (.tuple #[.int .i64 (k : Nat), .bool true]) ∧ Below V.heap.size V w') := Lib.hid (fun V hb => by
    have h := bsf_any A cA n v rows M cm m k V (hT.ms.keep hb) (hM.keep hb) hT.rows hml hkn (by rw [hT.eq, List.getElem?_eq_getElem hk, hkm]) (fun r hr => by
      have h1 : r.l ∈ mons v d := by rw [← hT.eq]; exact List.mem_map.2 ⟨r, hr, rfl⟩
      exact ⟨mons_vld h1 hv hd, (mons_mem h1).1⟩) (by rw [hT.eq]; exact mons_asc v d) (by omega)
    exact h.mono fun e w' h => ⟨h.1, h.2.below⟩)
  obtain ⟨W, hW⟩ : ∃ W, w.alloc (.cells #[.slice A n cA, .slice (some bd) n cB] 106) = W := ⟨_, rfl⟩
  rw [hW] at hb1
  have HBW := Lib.hid hb1
  have HB1 : Hid (Blk W w.heap.size 106 #[.slice A n cA, .slice (some bd) n cB]) := Lib.hid (by rw [← hW]; exact Blk.new _ _ _)
  have HWW := Lib.hid hW
  have HCC : Hid (∀ V, Below w.heap.size w V → V.cell? (bd.add k) = some (.string (qtx (φ m)))) := Lib.hid (fun V hb => keep_cell hb hc)
  generalize qtx (φ m) = S at *
  have e1 : decide ((n : Int) ≤ (k : Int)) = false := decide_eq_false (by omega)
  have e1' : decide (n ≤ k) = false := decide_eq_false (by omega)
  have q1 : (0 : Int) ≤ (k : Int) := by omega
  have q2 : (k : Int) < (n : Int) := by omega
  obtain ⟨x0, x1, _, _⟩ := HB1.out.two
  clear hT hM hm hk hkm hml hcv hc hb1 hW
  go_enter Tryz.func98, Tryz.ntmps98
  go_upto_region 1 with (fail)
  rw [HWW.out]
  clear HWW
  go_wp2_with (go_at_call 125; refine (HBS.out _ HBW.out).mono ?_; rintro e w2 ⟨rfl, hb2⟩; have HC2 := Lib.hid (below_all HBW.out hb2); obtain ⟨x0, x1, _, _⟩ := (HB1.out.keep hb2 HB1.out.lt).two; have z0 := HCC.out _ HC2.out; clear hb2)
  go_ret
  exact ⟨rfl, HC2.out⟩
theorem qtx_nil : qtx (0 : Rat) = ⟨#[48]⟩ := by
  rw [show (0 : Rat) = ((0 : Int) : Rat) from rfl, Fi.qtx_int]
  have : Lib.itoa 0 = [48] := by unfold Lib.itoa; rw [if_neg (by omega)]; exact Go.Qn.dec_zero
  rw [this]; rfl
theorem lin_take {ψ : List Int → Rat} {l : List (Rat × List Int)} {k : Nat} (hk : k < l.length) : lin ψ (l.take (k + 1)) = lin ψ (l.take k) + l[k].1 * ψ l[k].2 := by
  rw [List.take_succ_eq_append_getElem hk, lin_append, lin_cons, lin_nil, Rat.add_zero]
/-- What a sum over a table needs of its data. -/
structure SumOk (φ : List Int → Rat) (v d : Nat) (m : List Int) (l : List (Rat × List Int)) : Prop where
  deg : ∃ a b, m ∈ mons v b ∧ (∀ t ∈ l, t.2 ∈ mons v a) ∧ a + b ≤ d
  sh : ∀ t ∈ l, Sh t.1 ∧ Sh (φ (addL t.2 m)) ∧ Sh (t.1 * φ (addL t.2 m))
  part : ∀ k, k ≤ l.length → Sh (lin (fun e => φ (addL e m)) (l.take k))
theorem tsum_any (A B : Option Addr) (cA cB n : Nat) (rows : List IRow) (v d : Nat) (φ : List Int → Rat) (v' : Int) (T : Option Addr) (cT tn : Nat) (tv : List TV) (l : List (Rat × List Int)) (M : Option Addr) (cm : Nat) (m : List Int) (w : World)
    (hT : TbAt w A B rows v d n φ) (hM : Ints w M m) (hP : TermsAt w T tv) (hl : tv.map TV.pl = wrT l) (htn : l.length = tn) (hok : SumOk φ v d m l) (hv : v ≤ 6) (hd : d ≤ 24) (hn : n ≤ 1024) (htn2 : tn ≤ 4096) (hp : PT w) :
    Calls Tryz.prog 60 #[.agg #[.slice A n cA, .slice B n cB], .agg #[.int .i64 v', .slice T tn cT], .slice M v cm] w fun e w' => e = .returned (.string (qtx (lin (fun e => φ (addL e m)) l))) ∧ Below w.heap.size w w' := by
  obtain ⟨a, b, hmb, hla, hab⟩ := hok.deg
  have htl : tv.length = l.length := by
    have := congrArg List.length hl
    rw [List.length_map] at this
    rw [this]; unfold wrT; rw [List.length_map]
  have hpl : ∀ k (h : k < l.length), (tv[k]'(by omega)).coef = qtx l[k].1 ∧ (tv[k]'(by omega)).exps = l[k].2 := fun k h => by
    have h1 : (tv.map TV.pl)[k]? = (wrT l)[k]? := by rw [hl]
    unfold wrT at h1
    rw [List.getElem?_map, List.getElem?_map, List.getElem?_eq_getElem (show k < tv.length by omega), List.getElem?_eq_getElem h] at h1
    have h2 := Option.some.inj h1
    exact ⟨congrArg Prod.fst h2, congrArg Prod.snd h2⟩
  obtain ⟨tE, hE⟩ : ∃ f : Nat → Option Addr, ∀ k (h : k < tv.length), tv[k].adr = f k := ⟨fun k => ((tv[k]?).map TV.adr).getD none, fun k h => by simp [h]⟩
  obtain ⟨tc, hc⟩ : ∃ f : Nat → Nat, ∀ k (h : k < tv.length), tv[k].cap = f k := ⟨fun k => ((tv[k]?).map TV.cap).getD 0, fun k h => by simp [h]⟩
  have hcell : ∀ k (h : k < l.length) V, Below w.heap.size w V → ∃ ad, T = some ad ∧ V.cell? (ad.add (k * 2)) = some (.string (qtx l[k].1)) ∧ V.cell? ⟨(ad.add (k * 2)).block, (ad.add (k * 2)).off + 1, none⟩ = some (.slice (tE k) v (tc k)) := fun k h V hb => by
    obtain ⟨ad, e, h1, h2, _⟩ := TermsAt.at (hP.keep hb) (k := k) (by omega)
    rw [(hpl k h).1] at h1
    rw [(hpl k h).2, (mons_mem (hla _ (List.getElem_mem h))).1, hE k (by omega), hc k (by omega)] at h2
    exact ⟨ad, e, h1, h2⟩
  have HCE := Lib.hid hcell
  have HML : Hid (∀ k (h : k < l.length) V, Below w.heap.size w V → Calls Tryz.prog 97 #[.slice (tE k) v (tc k), .slice M v cm] V fun e w' => ∃ O co, e = .returned (.tuple #[.slice O v co, .bool true]) ∧ Ints w' O (addL l[k].2 m) ∧ Below V.heap.size V w') := Lib.hid (fun k h V hb => by
    have h1 := hla _ (List.getElem_mem h)
    have hsum := addL_mem h1 hmb
    have h2 := mul_ok (tE k) M (tc k) cm l[k].2 m V (by have := (hP.keep hb).ints _ (List.getElem_mem (show k < tv.length by omega)); rwa [(hpl k h).2, hE k (by omega)] at this) (hM.keep hb) ((mons_mem h1).1.trans (mons_mem hmb).1.symm) (mons_vld h1 hv (by omega)) (mons_vld hmb hv (by omega)) true (mons_vld hsum hv (by omega))
    rw [(mons_mem h1).1, (mons_mem hmb).1] at h2
    refine h2.mono ?_
    rintro e w' ⟨hb2, ⟨h3, _⟩ | ⟨_, O, co, e1, h3⟩⟩
    · exact absurd h3 (by decide)
    · exact ⟨O, co, e1, h3, hb2⟩)
  have HAT : Hid (∀ k (h : k < l.length) V O co, Below w.heap.size w V → Ints V O (addL l[k].2 m) → Calls Tryz.prog 98 #[.agg #[.slice A n cA, .slice B n cB], .slice O v co] V fun e w' => e = .returned (.string (qtx (φ (addL l[k].2 m)))) ∧ Below V.heap.size V w') := Lib.hid (fun k h V O co hb hO =>
    at_any A B cA cB n rows v d φ O co _ V (hT.keep hb) hO (mons_le (addL_mem (hla _ (List.getElem_mem h)) hmb) hab) hv hd hn)
  have HMQ : Hid (∀ k (h : k < l.length) V, Below w.heap.size w V → Calls Tryz.prog 40 #[.string (qtx l[k].1), .string (qtx (φ (addL l[k].2 m)))] V fun e w' => e = .returned (.string (qtx (l[k].1 * φ (addL l[k].2 m)))) ∧ Below V.heap.size V w') := Lib.hid (fun k h V hb => by
    have h1 := hok.sh _ (List.getElem_mem h)
    exact mul_q _ _ h1.1 h1.2.1 V (hp.keep hb))
  have HAQ : Hid (∀ k (h : k < l.length) V, Below w.heap.size w V → Calls Tryz.prog 41 #[.string (qtx (lin (fun e => φ (addL e m)) (l.take k))), .string (qtx (l[k].1 * φ (addL l[k].2 m)))] V fun e w' => e = .returned (.string (qtx (lin (fun e => φ (addL e m)) (l.take (k + 1))))) ∧ Below V.heap.size V w') := Lib.hid (fun k h V hb => by
    have h1 := hok.sh _ (List.getElem_mem h)
    have h2 := add_q _ _ (hok.part k (by omega)) h1.2.2 V (hp.keep hb)
    rw [lin_take (ψ := fun e => φ (addL e m)) h]
    exact h2)
  have HF : Hid (l.take tn = l) := Lib.hid (by rw [← htn, List.take_length])
  have HLN := Lib.hid htn
  have hz : qtx (lin (fun e => φ (addL e m)) (l.take 0)) = ⟨#[48]⟩ := qtx_nil
  have HZ := Lib.hid hz
  obtain ⟨W, hW⟩ : ∃ W, (w.alloc (.cells #[.slice A n cA, .slice B n cB] 106)).alloc (.cells #[.int .i64 v', .slice T tn cT] 71) = W := ⟨_, rfl⟩
  have hb1 : Below w.heap.size w W := by rw [← hW]; exact ((Below.refl _ _).alloc (Nat.le_refl _) _).alloc (by simp) _
  have HB1 : Hid (Blk W w.heap.size 106 #[.slice A n cA, .slice B n cB]) := Lib.hid (by rw [← hW]; exact (Blk.new _ _ _).alloc _)
  have HB2 : Hid (Blk W (w.heap.size + 1) 71 #[.int .i64 v', .slice T tn cT]) := Lib.hid (by
    rw [← hW]
    have := Blk.new (w.alloc (.cells #[.slice A n cA, .slice B n cB] 106)) 71 #[.int .i64 v', .slice T tn cT]
    simpa using this)
  have HBW := Lib.hid hb1
  have HWW := Lib.hid hW
  obtain ⟨p0, p1, _, _⟩ := HB2.out.two
  clear hT hM hP hok hmb hla hab hp hcell hz hb1 hW hE hc hpl htl hl htn
  go_enter Tryz.func60, Tryz.ntmps60
  go_upto_region 1 with (fail)
  rw [HWW.out]
  clear HWW
  go_wp2
  go_loopw [7, 15] (fun s7 s15 wr => ∃ k : Nat, s7 = .string (qtx (lin (fun e => φ (addL e m)) (l.take k))) ∧ s15 = .int .i64 (k : Nat) ∧ k ≤ tn ∧ Hid (Below W.heap.size W wr)) (fun _ s15 _ => tn - (intOf s15).toNat)
  case atStart => exact ⟨0, by rw [HZ.out], rfl, Nat.zero_le _, Lib.hid (Below.refl _ _)⟩
  case round =>
    clear p0 p1
    obtain ⟨wo, rfl⟩ : ∃ wo : World, wo = wr := ⟨_, rfl⟩
    obtain ⟨k, rfl, rfl, hk, HB⟩ := hrel
    by_cases hkl : k < tn
    · have e1 : decide ((k : Int) < (tn : Int)) = true := decide_eq_true (by omega)
      have e1' : decide (k < tn) = true := decide_eq_true hkl
      have q0 : (0 : Int) ≤ (k : Int) := by omega
      have q1 : (k : Int) < (tn : Int) := by omega
      have hkn : k < l.length := by rw [HLN.out]; exact hkl
      have HBO := Lib.hid (below_all HBW.out HB.out)
      obtain ⟨ad, hAD, c0, c1⟩ := HCE.out k hkn wo HBO.out
      subst hAD
      have HM1 := Lib.hid (HML.out k hkn)
      have HA1 := Lib.hid (HAT.out k hkn)
      have HM2 := Lib.hid (HMQ.out k hkn)
      have HA2 := Lib.hid (HAQ.out k hkn)
      generalize tE k = E at *
      generalize tc k = ce at *
      generalize qtx (l[k].1 * φ (addL l[k].2 m)) = S3 at *
      generalize qtx (φ (addL l[k].2 m)) = S2 at *
      generalize qtx l[k].1 = S1 at *
      generalize addL l[k].2 m = pm at *
      generalize qtx (lin (fun e => φ (addL e m)) (l.take k)) = S4 at *
      obtain ⟨S5, hS5⟩ : ∃ x, qtx (lin (fun e => φ (addL e m)) (l.take (k + 1))) = x := ⟨_, rfl⟩
      rw [hS5] at HA2
      have HS5 := Lib.hid hS5
      clear hS5
      go_upto_region 5 with (fail)
      obtain ⟨W3, hW3⟩ : ∃ W3, wo.alloc (.cells #[.string S1, .slice E v ce] 110) = W3 := ⟨_, rfl⟩
      have HE9 : Hid (Blk W3 wo.heap.size 110 #[.string S1, .slice E v ce]) := Lib.hid (by rw [← hW3]; exact Blk.new _ _ _)
      have HBE : Hid (Below wo.heap.size wo W3) := Lib.hid (by rw [← hW3]; exact (Below.refl _ _).alloc (Nat.le_refl _) _)
      rw [hW3]
      clear hW3 c0 c1
      obtain ⟨x0, x1, _, _⟩ := HE9.out.two
      go_wp2_with (fail)
      refine (HM1.out _ (below_all HBO.out HBE.out)).mono ?_
      rintro e w4 ⟨O, co, rfl, hO, hb4⟩
      have HB4 := Lib.hid (below_all (below_all HBO.out HBE.out) hb4)
      have HBO4 := Lib.hid (below_all HBE.out hb4)
      have HA5 : Hid (∀ V, Below w4.heap.size w4 V → Calls Tryz.prog 98 #[.agg #[.slice A n cA, .slice B n cB], .slice O v co] V fun e w' => e = .returned (.string S2) ∧ Below V.heap.size V w') := Lib.hid (fun V hb => HA1.out V O co (below_all HB4.out hb) (hO.keep hb))
      have HM5 : Hid (∀ V, Below w4.heap.size w4 V → Calls Tryz.prog 40 #[.string S1, .string S2] V fun e w' => e = .returned (.string S3) ∧ Below V.heap.size V w') := Lib.hid (fun V hb => HM2.out V (below_all HB4.out hb))
      have HT5 : Hid (∀ V, Below w4.heap.size w4 V → Calls Tryz.prog 41 #[.string S4, .string S3] V fun e w' => e = .returned (.string S5) ∧ Below V.heap.size V w') := Lib.hid (fun V hb => HA2.out V (below_all HB4.out hb))
      obtain ⟨x0, _, _, _⟩ := (HE9.out.keep hb4 HE9.out.lt).two
      obtain ⟨y0, y1, _, _⟩ := (HB1.out.keep (below_all HB.out HBO4.out) HB1.out.lt).two
      clear hO hb4 HM1 HA1 HM2 HA2 x1
      go_upto_region 6 with (fail)
      have hbe : Below w4.heap.size w4 w4.drew := (Below.refl _ _).drew
      go_region_held3 (fun w' => w'.cell? ⟨wo.heap.size, 0, none⟩ = some (.string S1) ∧ w'.cell? ⟨w.heap.size, 0, none⟩ = some (.slice A n cA) ∧ w'.cell? ⟨w.heap.size, 1, none⟩ = some (.slice B n cB))
        (first | exact ⟨keep_cell hbe x0, keep_cell hbe y0, keep_cell hbe y1⟩ | go_keep)
        (first
          | (go_at_call 98; with_reducible refine Calls.mono (HA5.out _ (by assumption)) ?_; rintro e w7 ⟨rfl, hb7⟩; have hbe := below_all hbe hb7)
          | (go_at_call 40; with_reducible refine Calls.mono (HM5.out _ (by assumption)) ?_; rintro e w8 ⟨rfl, hb8⟩; have hbe := below_all hbe hb8)
          | (go_at_call 41; with_reducible refine Calls.mono (HT5.out _ (by assumption)) ?_; rintro e w9 ⟨rfl, hb9⟩; have hbe := below_all hbe hb9))
      all_goals
        go_wp2
        go_roundw
        case rel => exact ⟨k + 1, by rw [HS5.out], by go_num, by omega, Lib.hid (below_all HB.out (below_all HBO4.out hbe))⟩
        case measure => simp [intOf]; omega
    · obtain rfl : k = tn := by omega
      rw [HF.out]
      have e1 : decide ((k : Int) < (k : Int)) = false := decide_eq_false (by omega)
      have e1' : decide (k < k) = false := decide_eq_false (by omega)
      go_wp2
      go_ret
      exact ⟨rfl, below_all HBW.out HB.out⟩
end Go.Proofs.Tg
end
