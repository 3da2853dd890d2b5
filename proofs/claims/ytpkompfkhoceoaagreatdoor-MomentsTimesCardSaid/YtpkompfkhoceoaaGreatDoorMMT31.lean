/- Parts of the proof: TM2, WR1, MA1, TI1. -/
import Derived.Deep.RegionHeld3
import Derived.Test.YtpkompfkhoceoaaGreatDoorMMT7
import Derived.Test.YtpkompfkhoceoaaGreatDoorMMT17
import Derived.Test.YtpkompfkhoceoaaGreatDoorMMT25
import Derived.Test.YtpkompfkhoceoaaGreatDoorMMT27
import Derived.Test.YtpkompfkhoceoaaGreatDoorMMT30
section
/- Walks: the table of a functional; the degree of a polynomial; the value of a functional at a polynomial. Printed by mk_tm2.py. -/
namespace Go.Proofs.Tg
open Go.RowKit Go.Gr Go.Ev Go.Mo Go.Mm Go.Rq Go.Rs
open Go.Proofs.Tg.Fi (Txts vq PT fvalid_any)
set_option maxHeartbeats 8000000
set_option maxRecDepth 100000
theorem OwnI.setlow {base : Nat} {w : World} {A : Option Addr} {c : Nat} {rs : List IRow} (h : OwnI base w A c rs) {g : Nat} (hg : g < base) (i : Nat) (u : Value) : OwnI base (w.setCell ⟨g, i, none⟩ u) A c rs :=
  ⟨own_far (p := ⟨g, i, none⟩) h.own (fun e => by have := (h.own.lt _ e.symm).1; simp at this; omega) u, fun r hr => own_far (p := ⟨g, i, none⟩) (h.rows r hr) (fun e => by have := ((h.rows r hr).lt _ e.symm).1; simp at this; omega) u⟩
theorem newtab_any (v d n : Nat) (B : Option Addr) (cB : Nat) (φ : List Int → Rat) (w : World) (hB : Txts w B ((mons v d).map φ)) (hn : cnt v d = n) (hv : v ≤ 6) (hd : d ≤ 24) (hf : n ≤ 1024) :
    Calls Tryz.prog 59 #[.agg #[.int .i64 (v : Nat), .int .i64 (d : Nat), .slice B n cB]] w fun e w' => ∃ A cA rows, e = .returned (.agg #[.slice A n cA, .slice B n cB]) ∧ TbAt w' A B rows v d n φ ∧ Below w.heap.size w w' := by
  have HAL := Lib.hid (fun V => all_any v d hv hd (by omega) V)
  unfold RetMons at HAL
  have HN := Lib.hid hn
  have HBB := Lib.hid hB
  obtain ⟨W, hW⟩ : ∃ W, (w.alloc (.cells #[.int .i64 (v : Nat), .int .i64 (d : Nat), .slice B n cB] 24)).alloc (.cells #[.slice none 0 0, .slice none 0 0] 106) = W := ⟨_, rfl⟩
  have HBW : Hid (Below w.heap.size w W) := Lib.hid (by rw [← hW]; exact ((Below.refl _ _).alloc (Nat.le_refl _) _).alloc (by simp) _)
  have HB1 : Hid (Blk W w.heap.size 24 #[.int .i64 (v : Nat), .int .i64 (d : Nat), .slice B n cB]) := Lib.hid (by rw [← hW]; exact (Blk.new _ _ _).alloc _)
  have HB2 : Hid (Blk W (w.heap.size + 1) 106 #[.slice none 0 0, .slice none 0 0]) := Lib.hid (by
    rw [← hW]
    have := Blk.new (w.alloc (.cells #[.int .i64 (v : Nat), .int .i64 (d : Nat), .slice B n cB] 24)) 106 #[.slice none 0 0, .slice none 0 0]
    simpa using this)
  have HWW := Lib.hid hW
  obtain ⟨x0, x1, x2, _, _, _⟩ := HB1.out.three
  clear hW hB hn
  go_enter Tryz.func59, Tryz.ntmps59
  go_upto_region 1 with (fail)
  rw [HWW.out]
  clear HWW
  go_wp2_with (fail)
  refine (HAL.out _).mono ?_
  rintro e w3 ⟨MA, mc, rs, rfl, hOI, hms, hb3⟩
  have hrl : rs.length = n := by rw [← HN.out]; have := congrArg List.length hms; rw [List.length_map] at this; exact this
  rw [hrl]
  have HOI := Lib.hid hOI
  have HMS := Lib.hid hms
  have HB3 := Lib.hid hb3
  obtain ⟨x0, x1, x2, _, _, _⟩ := (HB1.out.keep hb3 HB1.out.lt).three
  obtain ⟨y0, y1, f0, f1⟩ := (HB2.out.keep hb3 HB2.out.lt).two
  have h2 := HB2.out.lt
  clear hrl hOI hms hb3
  go_wp2
  obtain ⟨t0, t1, _, _⟩ := (((HB2.out.keep HB3.out HB2.out.lt).set 0 (.slice MA n mc)).set 1 (.slice B n cB)).two
  refine bodyPost_ret (v := .agg #[.slice MA n mc, .slice B n cB]) (by simp [results, Tryz.results59, go_sem, t0, t1]) rfl ⟨MA, mc, rs, rfl, ?_, ?_⟩
  · have hb : Below w.heap.size w ((w3.setCell ⟨w.heap.size + 1, 0, none⟩ (.slice MA n mc)).setCell ⟨w.heap.size + 1, 1, none⟩ (.slice B n cB)) := below_far (below_far (below_all HBW.out HB3.out) (by omega) _ _) (by omega) _ _
    exact ⟨((HOI.out.setlow h2 _ _).setlow h2 _ _).monsAt, HBB.out.keep hb, HMS.out, HN.out⟩
  · exact below_far (below_far (below_all HBW.out HB3.out) (by omega) _ _) (by omega) _ _
/-- A valid polynomial in memory. -/
structure PolyAt (w : World) (v d : Nat) (T : Option Addr) (tn : Nat) (tv : List TV) (l : List (Rat × List Int)) : Prop where
  terms : TermsAt w T tv
  pl : tv.map TV.pl = wrT l
  len : l.length = tn
  ok : PolyOk v d l
  sz : ∀ t ∈ l, (qtx t.1).size ≤ 19
theorem PolyAt.keep {w w' : World} {v d tn : Nat} {T : Option Addr} {tv : List TV} {l : List (Rat × List Int)} (h : PolyAt w v d T tn tv l) (hb : Below w.heap.size w w') : PolyAt w' v d T tn tv l := ⟨h.terms.keep hb, h.pl, h.len, h.ok, h.sz⟩
theorem PolyAt.tvl {w : World} {v d tn : Nat} {T : Option Addr} {tv : List TV} {l : List (Rat × List Int)} (h : PolyAt w v d T tn tv l) : tv.length = tn := by
  have := congrArg List.length h.pl
  rw [List.length_map] at this
  rw [this, ← h.len]; unfold wrT; rw [List.length_map]
theorem PolyAt.few {w : World} {v d tn : Nat} {T : Option Addr} {tv : List TV} {l : List (Rat × List Int)} (h : PolyAt w v d T tn tv l) : tn ≤ 4096 := by rw [← h.len]; exact h.ok.few
theorem PolyAt.pl_mem {w : World} {v d tn : Nat} {T : Option Addr} {tv : List TV} {l : List (Rat × List Int)} (h : PolyAt w v d T tn tv l) {t : TV} (ht : t ∈ tv) : ∃ x ∈ l, t.coef = qtx x.1 ∧ t.exps = x.2 := by
  have h1 : t.pl ∈ wrT l := by rw [← h.pl]; exact List.mem_map.2 ⟨t, ht, rfl⟩
  obtain ⟨x, hx, e⟩ := List.mem_map.1 h1
  exact ⟨x, hx, (congrArg Prod.fst e).symm, (congrArg Prod.snd e).symm⟩
theorem PolyAt.valid {w : World} {v d tn : Nat} {T : Option Addr} {tv : List TV} {l : List (Rat × List Int)} (h : PolyAt w v d T tn tv l) (hv : v ≤ 6) (hd : d ≤ 24) (hT : Tab w) (cT : Nat) :
    Calls Tryz.prog 57 #[.agg #[.int .i64 (v : Nat), .slice T tn cT]] w fun e w' => e = .returned (.bool true) ∧ Below w.heap.size w w' := by
  have h1 := pvalid_any (v : Nat) T cT tv true w h.terms (by rw [h.tvl]; exact h.few) (fun t ht => by
    obtain ⟨x, hx, e1, e2⟩ := h.pl_mem ht
    refine ⟨by rw [e1]; exact h.sz x hx, ?_⟩
    rw [e2, (mons_mem (h.ok.mem x hx).2).1]; omega) ⟨fun _ => by rw [h.pl]; exact h.ok.vld hv hd, fun _ => rfl⟩ hT
  rw [h.tvl] at h1
  exact h1
/-- The degree of a polynomial: that of its first term. -/
def topd : List (Rat × List Int) → Int
  | [] => -1
  | t :: _ => t.2.sum
theorem topd_le {v d : Nat} {l : List (Rat × List Int)} (h : PolyOk v d l) : -1 ≤ topd l ∧ topd l ≤ d := by
  match l, h with
  | [], _ => exact ⟨by show (-1 : Int) ≤ -1; omega, by show (-1 : Int) ≤ (d : Int); omega⟩
  | t :: l, h =>
    have := mons_sum (h.mem t (by simp)).2
    exact ⟨by show -1 ≤ t.2.sum; omega, this.2⟩
theorem pdeg_any {w : World} {v d tn : Nat} {T : Option Addr} {tv : List TV} {l : List (Rat × List Int)} (h : PolyAt w v d T tn tv l) (hv : v ≤ 6) (hd : d ≤ 24) (hT : Tab w) (cT : Nat) :
    Calls Tryz.prog 58 #[.agg #[.int .i64 (v : Nat), .slice T tn cT]] w fun e w' => e = .returned (.int .i64 (topd l)) ∧ Below w.heap.size w w' := by
  obtain ⟨W, hW⟩ : ∃ W, w.alloc (.cells #[.int .i64 (v : Nat), .slice T tn cT] 71) = W := ⟨_, rfl⟩
  have hbW : Below w.heap.size w W := by rw [← hW]; exact (Below.refl _ _).alloc (Nat.le_refl _) _
  have HB1 : Hid (Blk W w.heap.size 71 #[.int .i64 (v : Nat), .slice T tn cT]) := Lib.hid (by rw [← hW]; exact Blk.new _ _ _)
  have HWW := Lib.hid hW
  have HBW := Lib.hid hbW
  obtain ⟨x0, x1, _, _⟩ := HB1.out.two
  by_cases h0 : tn = 0
  · subst h0
    have hl : l = [] := List.length_eq_zero_iff.1 h.len
    subst hl
    clear h hT hW hbW
    go_enter Tryz.func58, Tryz.ntmps58
    go_upto_region 1 with (fail)
    rw [HWW.out]
    clear HWW
    go_wp2
    go_ret
    exact ⟨rfl, HBW.out⟩
  · have hl0 : 0 < l.length := by rw [h.len]; omega
    have htv : 0 < tv.length := by rw [h.tvl]; omega
    have HPV : Hid (Calls Tryz.prog 57 #[.agg #[.int .i64 (v : Nat), .slice T tn cT]] W fun e w' => e = .returned (.bool true) ∧ Below W.heap.size W w') := Lib.hid ((h.keep hbW).valid hv hd (hT.below hbW hT.1) cT)
    have htop : topd l = l[0].2.sum := by
      match l, hl0 with
      | t :: _, _ => rfl
    have hmem := (h.ok.mem _ (List.getElem_mem hl0)).2
    have hvd := mons_vld hmem hv hd
    have hex : tv[0].exps = l[0].2 := by
      have h1 : (tv.map TV.pl)[0]? = (wrT l)[0]? := by rw [h.pl]
      unfold wrT at h1
      rw [List.getElem?_map, List.getElem?_map, List.getElem?_eq_getElem htv, List.getElem?_eq_getElem hl0] at h1
      exact congrArg Prod.snd (Option.some.inj h1)
    have HTE : Hid (∀ V, Below w.heap.size w V → ∃ ad, T = some ad ∧ V.cell? ⟨ad.block, ad.off + 1, none⟩ = some (.slice tv[0].adr v tv[0].cap)) := Lib.hid (fun V hb => by
      obtain ⟨ad, e, _, h2, _⟩ := TermsAt.at (h.terms.keep hb) (k := 0) htv
      rw [hex, (mons_mem hmem).1] at h2
      refine ⟨ad, e, ?_⟩
      simpa [Addr.add] using h2)
    have HMD : Hid (∀ V, Below w.heap.size w V → Calls Tryz.prog 96 #[.slice tv[0].adr v tv[0].cap] V fun e w' => e = .returned (.int .i64 (topd l)) ∧ V = w') := Lib.hid (fun V hb => by
      have h1 := (h.terms.keep hb).ints _ (List.getElem_mem htv)
      rw [hex] at h1
      have h2 := deg_any tv[0].adr tv[0].cap l[0].2 V h1 (by rw [(mons_mem hmem).1]; omega)
      rw [(mons_mem hmem).1] at h2
      unfold degM at h2
      rw [if_pos hvd] at h2
      rw [htop]
      exact h2)
    have e1 : decide ((tn : Int) = 0) = false := decide_eq_false (by omega)
    have e1' : ((tn : Int) == 0) = false := beq_eq_false_iff_ne.2 (by omega)
    have e2 : (0 : Int) < (tn : Int) := by omega
    generalize tv[0].adr = E at *
    generalize tv[0].cap = ce at *
    generalize topd l = z at *
    clear h hT hW hbW hl0 htv htop hmem hvd hex h0
    go_enter Tryz.func58, Tryz.ntmps58
    go_upto_region 1 with (fail)
    rw [HWW.out]
    clear HWW
    go_upto_region 3 with (go_at_call 57; refine HPV.out.mono ?_; rintro e w2 ⟨rfl, hb2⟩; have HB2 := Lib.hid (below_all HBW.out hb2); obtain ⟨x0, x1, _, _⟩ := (HB1.out.keep hb2 HB1.out.lt).two; clear hb2)
    obtain ⟨ad, hT, hc⟩ := HTE.out _ HB2.out
    subst hT
    go_wp2_with (go_at_call 96; refine (HMD.out _ HB2.out).mono ?_; rintro e w4 ⟨rfl, rfl⟩)
    go_ret
    exact ⟨rfl, HB2.out⟩
theorem value_any (v d n : Nat) (φ : List Int → Rat) (B : Option Addr) (cB : Nat) (T : Option Addr) (cT tn : Nat) (tv : List TV) (l : List (Rat × List Int)) (w : World) (hB : Txts w B ((mons v d).map φ)) (hn : cnt v d = n) (hP : PolyAt w v d T tn tv l)
    (hsh : ∀ m ∈ mons v d, Sh (φ m)) (hok : SumOk φ v d (List.replicate v 0) l) (hv1 : 1 ≤ v) (hv : v ≤ 6) (hd : d ≤ 24) (hf : n ≤ 1024) (hp : PT w) (hT : Tab w) :
    Calls Tryz.prog 29 #[.agg #[.int .i64 (v : Nat), .int .i64 (d : Nat), .slice B n cB], .agg #[.int .i64 (v : Nat), .slice T tn cT]] w fun e w' => e = .returned (.tuple #[.string (qtx (lin φ l)), .int .i64 0]) ∧ Below w.heap.size w w' := by
  have hlin : lin (fun e => φ (addL e (List.replicate v 0))) l = lin φ l := lin_congr fun t ht => by rw [addL_zeros (mons_mem (hP.ok.mem t ht).2).1]
  have hml : ((mons v d).map φ).length = n := by rw [List.length_map]; exact hn
  have HVA : Hid (∀ V, Below w.heap.size w V → Calls Tryz.prog 11 #[.agg #[.int .i64 (v : Nat), .int .i64 (d : Nat), .slice B n cB]] V fun e w' => e = .returned (.bool true) ∧ Below V.heap.size V w') := Lib.hid (fun V hb => by
    have h := fvalid_any v d B cB _ V hv1 hv hd (by omega) (by rw [hml, hn]) (hB.keep hb) (fun q hq => by
      obtain ⟨m, hm, rfl⟩ := List.mem_map.1 hq
      exact hsh m hm)
    rw [hml] at h
    exact h)
  have HPV : Hid (∀ V, Below w.heap.size w V → Calls Tryz.prog 57 #[.agg #[.int .i64 (v : Nat), .slice T tn cT]] V fun e w' => e = .returned (.bool true) ∧ Below V.heap.size V w') := Lib.hid (fun V hb => (hP.keep hb).valid hv hd (hT.below hb hT.1) cT)
  have HPD : Hid (∀ V, Below w.heap.size w V → Calls Tryz.prog 58 #[.agg #[.int .i64 (v : Nat), .slice T tn cT]] V fun e w' => e = .returned (.int .i64 (topd l)) ∧ Below V.heap.size V w') := Lib.hid (fun V hb => pdeg_any (hP.keep hb) hv hd (hT.below hb hT.1) cT)
  have HNT : Hid (∀ V, Below w.heap.size w V → Calls Tryz.prog 59 #[.agg #[.int .i64 (v : Nat), .int .i64 (d : Nat), .slice B n cB]] V fun e w' => ∃ A cA rows, e = .returned (.agg #[.slice A n cA, .slice B n cB]) ∧ TbAt w' A B rows v d n φ ∧ Below V.heap.size V w') := Lib.hid (fun V hb => newtab_any v d n B cB φ V (hB.keep hb) hn hv hd hf)
  have HSU : Hid (∀ V A cA rows g, Below w.heap.size w V → TbAt V A B rows v d n φ → Blk V g 3 (madeCells #[.int .i64 0] v) → Calls Tryz.prog 60 #[.agg #[.slice A n cA, .slice B n cB], .agg #[.int .i64 (v : Nat), .slice T tn cT], .slice (some ⟨g, 0, none⟩) v v] V fun e w' => e = .returned (.string (qtx (lin φ l))) ∧ Below V.heap.size V w') := Lib.hid (fun V A cA rows g hb hTb hz => by
    have hz2 : Ints V (some ⟨g, 0, none⟩) (List.replicate v 0) := by
      rw [iarr_made] at hz
      exact sl_new hz
    have h := tsum_any A B cA cB n rows v d φ (v : Nat) T cT tn tv l (some ⟨g, 0, none⟩) v (List.replicate v 0) V hTb hz2 (hP.terms.keep hb) hP.pl hP.len hok hv hd hf hP.few (hp.keep hb)
    rw [hlin] at h
    exact h)
  obtain ⟨W, hW⟩ : ∃ W, (w.alloc (.cells #[.int .i64 (v : Nat), .int .i64 (d : Nat), .slice B n cB] 24)).alloc (.cells #[.int .i64 (v : Nat), .slice T tn cT] 71) = W := ⟨_, rfl⟩
  have HBW : Hid (Below w.heap.size w W) := Lib.hid (by rw [← hW]; exact ((Below.refl _ _).alloc (Nat.le_refl _) _).alloc (by simp) _)
  have HB1 : Hid (Blk W w.heap.size 24 #[.int .i64 (v : Nat), .int .i64 (d : Nat), .slice B n cB]) := Lib.hid (by rw [← hW]; exact (Blk.new _ _ _).alloc _)
  have HB2 : Hid (Blk W (w.heap.size + 1) 71 #[.int .i64 (v : Nat), .slice T tn cT]) := Lib.hid (by
    rw [← hW]
    have := Blk.new (w.alloc (.cells #[.int .i64 (v : Nat), .int .i64 (d : Nat), .slice B n cB] 24)) 71 #[.int .i64 (v : Nat), .slice T tn cT]
    simpa using this)
  have HWW := Lib.hid hW
  have htd := (topd_le hP.ok).2
  have d1 : decide ((d : Int) < topd l) = false := decide_eq_false (by omega)
  generalize topd l = z at *
  generalize qtx (lin φ l) = S at *
  obtain ⟨x0, x1, x2, _, _, _⟩ := HB1.out.three
  obtain ⟨y0, y1, _, _⟩ := HB2.out.two
  clear hW hB hn hP hsh hok hp hT hlin hml htd
  go_enter Tryz.func29, Tryz.ntmps29
  go_upto_region 1 with (fail)
  rw [HWW.out]
  clear HWW
  go_upto_region 5 with (first
    | (go_at_call 11; with_reducible refine Calls.mono (HVA.out _ HBW.out) ?_; rintro e w2 ⟨rfl, hb2⟩; have HC2 := Lib.hid hb2; obtain ⟨x0, x1, x2, _, _, _⟩ := (HB1.out.keep hb2 HB1.out.lt).three; obtain ⟨y0, y1, _, _⟩ := (HB2.out.keep hb2 HB2.out.lt).two; clear hb2)
    | (go_at_call 57; with_reducible refine Calls.mono (HPV.out _ (below_all HBW.out HC2.out)) ?_; rintro e w3 ⟨rfl, hb3⟩; have HC3 := Lib.hid (below_all HC2.out hb3); obtain ⟨x0, x1, x2, _, _, _⟩ := (HB1.out.keep HC3.out HB1.out.lt).three; obtain ⟨y0, y1, _, _⟩ := (HB2.out.keep HC3.out HB2.out.lt).two; clear hb3))
  have HPD5 : Hid (∀ V, Below w3.heap.size w3 V → Calls Tryz.prog 58 #[.agg #[.int .i64 (v : Nat), .slice T tn cT]] V fun e w' => e = .returned (.int .i64 z) ∧ Below V.heap.size V w') := Lib.hid (fun V hb => HPD.out V (below_all (below_all HBW.out HC3.out) hb))
  go_cut [23] (fun s23 wx => s23 = .bool false ∧ Hid (Below w3.heap.size w3 wx))
  case first =>
    clear HVA HPV HNT HSU HPD
    have hbe : Below w3.heap.size w3 w3.drew := (Below.refl _ _).drew
    go_region_held3 (fun w' => w'.cell? ⟨w.heap.size, 1, none⟩ = some (.int .i64 (d : Nat)) ∧ w'.cell? ⟨w.heap.size + 1, 0, none⟩ = some (.int .i64 (v : Nat)) ∧ w'.cell? ⟨w.heap.size + 1, 1, none⟩ = some (.slice T tn cT))
      (first | exact ⟨keep_cell hbe x1, keep_cell hbe y0, keep_cell hbe y1⟩ | go_keep)
      (first | (go_at_call 58; with_reducible refine Calls.mono (HPD5.out _ (by assumption)) ?_; rintro e w4 ⟨rfl, hb4⟩; have hbe := below_all hbe hb4))
    all_goals
      go_wp2
      go_meet
      exact ⟨rfl, Lib.hid hbe⟩
  obtain ⟨rfl, HW5⟩ := hcut
  go_upto_region 7 with (fail)
  have HWC : Hid (Below w.heap.size w wc) := Lib.hid (below_all (below_all HBW.out HC3.out) HW5.out)
  obtain ⟨x0, x1, x2, _, _, _⟩ := (HB1.out.keep (below_all HC3.out HW5.out) HB1.out.lt).three
  obtain ⟨y0, y1, _, _⟩ := (HB2.out.keep (below_all HC3.out HW5.out) HB2.out.lt).two
  clear HVA HPV HPD HPD5 d1
  have BZ : Below wc.heap.size wc wc.drew := (Below.refl _ _).drew
  refine wp_region_held_drew (S := (fun w' => w'.cell? ⟨w.heap.size, 0, none⟩ = some (.int .i64 (v : Nat)) ∧ w'.cell? ⟨w.heap.size, 1, none⟩ = some (.int .i64 (d : Nat)) ∧ w'.cell? ⟨w.heap.size, 2, none⟩ = some (.slice B n cB) ∧ w'.cell? ⟨w.heap.size + 1, 0, none⟩ = some (.int .i64 (v : Nat)) ∧ w'.cell? ⟨w.heap.size + 1, 1, none⟩ = some (.slice T tn cT))) (by kernel_rfl) ⟨keep_cell BZ x0, keep_cell BZ x1, keep_cell BZ x2, keep_cell BZ y0, keep_cell BZ y1⟩ (fun hHeld => ?_)
  generalize wc.drew = Z at *
  refine wpAnyH_get 0 (some 24) (.agg #[.int .i64 (v : Nat), .int .i64 (d : Nat), .slice B n cB]) rfl rfl (by kernel_rfl) (by kernel_rfl) (by kernel_rfl) (fun _ _ _ h => h) (by rfl) hHeld ?_ ?_
  · (intro w hSw; (try dsimp only at hSw); go_simp; all_goals (try with_reducible rfl))
  (try simp only [Act.put, List.setIfInBounds_toArray, List.set_cons_zero, List.set_cons_succ])
  refine wpAnyH_get 2 (some 26) (.agg #[.int .i64 (v : Nat), .slice T tn cT]) rfl rfl (by kernel_rfl) (by kernel_rfl) (by kernel_rfl) (fun _ _ _ h => h) (by rfl) hHeld ?_ ?_
  · (intro w hSw; (try dsimp only at hSw); go_simp; all_goals (try with_reducible rfl))
  (try simp only [Act.put, List.setIfInBounds_toArray, List.set_cons_zero, List.set_cons_succ])
  refine wpAnyH_get 3 (some 27) (.pointer (some ⟨w.heap.size, 0, none⟩)) rfl rfl (by kernel_rfl) (by kernel_rfl) (by kernel_rfl) (fun _ _ _ h => h) (by rfl) hHeld ?_ ?_
  · (intro w hSw; (try dsimp only at hSw); go_simp; all_goals (try with_reducible rfl))
  (try simp only [Act.put, List.setIfInBounds_toArray, List.set_cons_zero, List.set_cons_succ])
  refine wpAnyH_get 4 (some 28) (.int .i64 (v : Nat)) rfl rfl (by kernel_rfl) (by kernel_rfl) (by kernel_rfl) (fun _ _ _ h => h) (by rfl) hHeld ?_ ?_
  · (intro w hSw; (try dsimp only at hSw); go_simp; all_goals (try with_reducible rfl))
  (try simp only [Act.put, List.setIfInBounds_toArray, List.set_cons_zero, List.set_cons_succ])
  refine wpAnyH_ready (rs := [1, 5]) (by kernel_rfl) (by simp) ?_
  refine AllReadyH.cons rfl (fun K hK => ?_) (AllReadyH.cons rfl (fun K hK => ?_) AllReadyH.nil)
  · go_simp
    refine (HNT.out _ (below_all HWC.out BZ)).mono ?_
    rintro e Z1 ⟨MA, mc, rs, rfl, hTB, hb⟩
    have HTB := Lib.hid hTB
    have BZ1 := below_all BZ hb
    clear hTB hb
    (try go_simp)
    refine hK.out _ _ ⟨keep_cell BZ1 x0, keep_cell BZ1 x1, keep_cell BZ1 x2, keep_cell BZ1 y0, keep_cell BZ1 y1⟩ (fun hHeld => ?_)
    clear hK K
    (try simp only [Act.put, List.setIfInBounds_toArray, List.set_cons_zero, List.set_cons_succ])
    refine wpAnyH_ready (rs := [5]) (by kernel_rfl) (by simp) ?_
    refine AllReadyH.cons rfl (fun K hK => ?_) AllReadyH.nil
    have hmk := make_ints v v (Nat.le_refl _) (by omega) Z1
    go_simp
    obtain ⟨Z2, hz2⟩ : ∃ x, Z1.alloc (.cells (madeCells #[.int .i64 0] v) 3) = x := ⟨_, rfl⟩
    rw [hz2]
    have hbz : Below Z1.heap.size Z1 Z2 := by rw [← hz2]; exact (Below.refl _ _).alloc (Nat.le_refl _) _
    have HZ : Hid (Blk Z2 Z1.heap.size 3 (madeCells #[.int .i64 0] v)) := Lib.hid (by rw [← hz2]; exact Blk.new _ _ _)
    have BZ2 := below_all BZ1 hbz
    have HTB := Lib.hid (HTB.out.keep hbz)
    clear hmk hz2 hbz
    generalize Z1.heap.size = gmZ1 at HZ ⊢
    refine hK.out _ _ ⟨keep_cell BZ2 x0, keep_cell BZ2 x1, keep_cell BZ2 x2, keep_cell BZ2 y0, keep_cell BZ2 y1⟩ (fun hHeld => ?_)
    clear hK K
    (try simp only [Act.put, List.setIfInBounds_toArray, List.set_cons_zero, List.set_cons_succ])
    refine wpAnyH_ready (rs := [6]) (by kernel_rfl) (by simp) ?_
    refine AllReadyH.cons rfl (fun K hK => ?_) AllReadyH.nil
    go_simp
    refine (HSU.out _ _ _ _ _ (below_all HWC.out BZ2) HTB.out HZ.out).mono ?_
    rintro e Z3 ⟨rfl, hb⟩
    have BZ3 := below_all BZ2 hb
    clear hb
    (try go_simp)
    refine hK.out _ _ ⟨keep_cell BZ3 x0, keep_cell BZ3 x1, keep_cell BZ3 x2, keep_cell BZ3 y0, keep_cell BZ3 y1⟩ (fun hHeld => ?_)
    clear hK K
    (try simp only [Act.put, List.setIfInBounds_toArray, List.set_cons_zero, List.set_cons_succ])
    refine wpAnyH_get 7 (some 4) (.string S) rfl rfl (by kernel_rfl) (by kernel_rfl) (by kernel_rfl) (fun _ _ _ h => h) (by rfl) hHeld ?_ ?_
    · (intro w hSw; (try dsimp only at hSw); go_simp; all_goals (try with_reducible rfl))
    (try simp only [Act.put, List.setIfInBounds_toArray, List.set_cons_zero, List.set_cons_succ])
    refine wpAnyH_get 8 (some 5) (.int .i64 0) rfl rfl (by kernel_rfl) (by kernel_rfl) (by kernel_rfl) (fun _ _ _ h => h) (by rfl) hHeld ?_ ?_
    · (intro w hSw; (try dsimp only at hSw); go_simp; all_goals (try with_reducible rfl))
    (try simp only [Act.put, List.setIfInBounds_toArray, List.set_cons_zero, List.set_cons_succ])
    refine wpAnyH_done (by kernel_rfl) ?_ _
    go_wp2
    go_ret2
    exact ⟨rfl, below_all HWC.out BZ3⟩
  · have hmk := make_ints v v (Nat.le_refl _) (by omega) Z
    go_simp
    obtain ⟨Z4, hz2⟩ : ∃ x, Z.alloc (.cells (madeCells #[.int .i64 0] v) 3) = x := ⟨_, rfl⟩
    rw [hz2]
    have hbz : Below Z.heap.size Z Z4 := by rw [← hz2]; exact (Below.refl _ _).alloc (Nat.le_refl _) _
    have HZ : Hid (Blk Z4 Z.heap.size 3 (madeCells #[.int .i64 0] v)) := Lib.hid (by rw [← hz2]; exact Blk.new _ _ _)
    have BZ4 := below_all BZ hbz
    clear hmk hz2 hbz
    generalize Z.heap.size = gmZ at HZ ⊢
    refine hK.out _ _ ⟨keep_cell BZ4 x0, keep_cell BZ4 x1, keep_cell BZ4 x2, keep_cell BZ4 y0, keep_cell BZ4 y1⟩ (fun hHeld => ?_)
    clear hK K
    (try simp only [Act.put, List.setIfInBounds_toArray, List.set_cons_zero, List.set_cons_succ])
    refine wpAnyH_ready (rs := [1]) (by kernel_rfl) (by simp) ?_
    refine AllReadyH.cons rfl (fun K hK => ?_) AllReadyH.nil
    go_simp
    refine (HNT.out _ (below_all HWC.out BZ4)).mono ?_
    rintro e Z5 ⟨MA, mc, rs, rfl, hTB, hb⟩
    have HTB := Lib.hid hTB
    have BZ5 := below_all BZ4 hb
    have HZ := Lib.hid (HZ.out.keep hb HZ.out.lt)
    clear hTB hb
    (try go_simp)
    refine hK.out _ _ ⟨keep_cell BZ5 x0, keep_cell BZ5 x1, keep_cell BZ5 x2, keep_cell BZ5 y0, keep_cell BZ5 y1⟩ (fun hHeld => ?_)
    clear hK K
    (try simp only [Act.put, List.setIfInBounds_toArray, List.set_cons_zero, List.set_cons_succ])
    refine wpAnyH_ready (rs := [6]) (by kernel_rfl) (by simp) ?_
    refine AllReadyH.cons rfl (fun K hK => ?_) AllReadyH.nil
    go_simp
    refine (HSU.out _ _ _ _ _ (below_all HWC.out BZ5) HTB.out HZ.out).mono ?_
    rintro e Z6 ⟨rfl, hb⟩
    have BZ6 := below_all BZ5 hb
    clear hb
    (try go_simp)
    refine hK.out _ _ ⟨keep_cell BZ6 x0, keep_cell BZ6 x1, keep_cell BZ6 x2, keep_cell BZ6 y0, keep_cell BZ6 y1⟩ (fun hHeld => ?_)
    clear hK K
    (try simp only [Act.put, List.setIfInBounds_toArray, List.set_cons_zero, List.set_cons_succ])
    refine wpAnyH_get 7 (some 4) (.string S) rfl rfl (by kernel_rfl) (by kernel_rfl) (by kernel_rfl) (fun _ _ _ h => h) (by rfl) hHeld ?_ ?_
    · (intro w hSw; (try dsimp only at hSw); go_simp; all_goals (try with_reducible rfl))
    (try simp only [Act.put, List.setIfInBounds_toArray, List.set_cons_zero, List.set_cons_succ])
    refine wpAnyH_get 8 (some 5) (.int .i64 0) rfl rfl (by kernel_rfl) (by kernel_rfl) (by kernel_rfl) (fun _ _ _ h => h) (by rfl) hHeld ?_ ?_
    · (intro w hSw; (try dsimp only at hSw); go_simp; all_goals (try with_reducible rfl))
    (try simp only [Act.put, List.setIfInBounds_toArray, List.set_cons_zero, List.set_cons_succ])
    refine wpAnyH_done (by kernel_rfl) ?_ _
    go_wp2
    go_ret2
    exact ⟨rfl, below_all HWC.out BZ6⟩
end Go.Proofs.Tg
end
section
/- The reference's texts of a functional, and the comparison of two functionals. -/
namespace Go.Proofs.Tg.Fi
open Go.RowKit Go.Gr Go.Bn Go.Rq Go.Qn
set_option maxHeartbeats 8000000
set_option maxRecDepth 100000
theorem blk3 {V : World} {g : Nat} {a b c a' b' c' : Value} {t : TypeId} (h : Blk V g t #[a, b, c]) : Blk (((V.setCell ⟨g, 0, none⟩ a').setCell ⟨g, 1, none⟩ b').setCell ⟨g, 2, none⟩ c') g t #[a', b', c'] := by
  have := ((h.set 0 a').set 1 b').set 2 c'
  simpa using this
theorem txts_far3 {w : World} {g : Nat} {t : TypeId} {x y : Int} {a : Option Addr} {b c : Nat} {B : Option Addr} {qs : List Rat} {p q r : Value} (hT : Txts w B qs) (Y : Blk w g t #[.int .i64 x, .int .i64 y, .slice a b c]) : Txts (((w.setCell ⟨g, 0, none⟩ p).setCell ⟨g, 1, none⟩ q).setCell ⟨g, 2, none⟩ r) B qs := by
  refine ⟨hT.len, fun hp => ?_⟩
  obtain ⟨ad, e, hlt, ha⟩ := hT.lies hp
  have hne : ad.block ≠ g := by
    intro hg
    have h0 := ha 0 (vq (qs[0]'hp)) (by simp [hp])
    unfold World.cell? at h0
    unfold Blk at Y
    rw [show (ad.add 0).block = g from hg, Y] at h0
    simp only at h0
    split at h0
    · cases h0
    · generalize (ad.add 0).off = o at h0
      match o with
      | 0 => simp [vq] at h0
      | 1 => simp [vq] at h0
      | 2 => simp [vq] at h0
      | o + 3 => simp at h0
  refine ⟨ad, e, Nat.lt_of_lt_of_le hlt (below_far (below_far (below_far (Below.refl 0 w) (Nat.zero_le _) _ _) (Nat.zero_le _) _ _) (Nat.zero_le _) _ _).size, fun j u hu => ?_⟩
  have hn : ∀ k, (⟨g, k, none⟩ : Addr) ≠ ad.add j := fun k e => hne (by have := congrArg Addr.block e; rw [add_block] at this; exact this.symm)
  rw [World.cell?_setCell_other _ _ _ _ (hn 2), World.cell?_setCell_other _ _ _ _ (hn 1), World.cell?_setCell_other _ _ _ _ (hn 0)]
  exact ha j u hu
end Go.Proofs.Tg.Fi
end
section
/- The program's sum of two functionals. -/
namespace Go.Proofs.Tg.Fi
open Go.RowKit Go.Gr Go.Bn Go.Rq Go.Qn Go.Mm
set_option maxHeartbeats 8000000
set_option maxRecDepth 100000
/-- What the loop of Add and of Scale holds. -/
structure FuSt (W : World) (gv gf v d n : Nat) (zs : List Rat) (wr : World) (k : Nat) : Prop where
  bv : Blk wr gv 9 (tpart zs n k)
  bf : Blk wr gf 24 #[.int .i64 (v : Nat), .int .i64 (d : Nat), .slice (some ⟨gv, 0, none⟩) n n]
  below : Below W.heap.size W wr
  gvl : W.heap.size ≤ gv
  gfl : W.heap.size ≤ gf
  ne : gv ≠ gf
theorem kb0 (w : World) : Below w.heap.size w w.drew := (Below.refl _ _).drew
theorem kb1 (w : World) (o : Obj) : Below w.heap.size w (w.alloc o).drew := ((Below.refl _ _).alloc (Nat.le_refl _) o).drew
theorem kb2 (w : World) (o o' : Obj) : Below w.heap.size w ((w.alloc o).alloc o').drew := (((Below.refl _ _).alloc (Nat.le_refl _) o).alloc (by simp) o').drew
theorem kb3 (w : World) (o o' : Obj) {a b c : Value} : Below w.heap.size w (((((w.alloc o).alloc o').drew.setCell ⟨w.heap.size, 0, none⟩ a).setCell ⟨w.heap.size, 1, none⟩ b).setCell ⟨w.heap.size, 2, none⟩ c) := below_far (below_far (below_far (kb2 w o o') (Nat.le_refl _) _ _) (Nat.le_refl _) _ _) (Nat.le_refl _) _ _
theorem FuSt.step {W : World} {gv gf v d n : Nat} {zs : List Rat} {wr V : World} {k : Nat} (h : FuSt W gv gf v d n zs wr k) (hb : Below wr.heap.size wr V) (hl : zs.length = n) (hk : k < n) : FuSt W gv gf v d n zs (V.setCell ⟨gv, k, none⟩ (.string (qtx (zs[k]'(by omega))))) (k + 1) := by
  have hv := (h.bv.keep hb h.bv.lt).set k (.string (qtx (zs[k]'(by omega))))
  rw [tpart_set hl hk] at hv
  exact ⟨hv, (h.bf.keep hb h.bf.lt).far (by simpa using h.ne.symm) _, below_far (below_all h.below hb) h.gvl _ _, h.gvl, h.gfl, h.ne⟩
theorem fu_a (w : World) (v d n : Nat) (zs : List Rat) : FuSt w w.heap.size (w.heap.size + 1) v d n zs ((w.alloc (.cells (madeCells #[.string ⟨#[]⟩] n) 9)).alloc (.cells #[.int .i64 (v : Nat), .int .i64 (d : Nat), .slice (some ⟨w.heap.size, 0, none⟩) n n] 24)).drew 0 := by
  have h1 := Blk.new (w.alloc (.cells (madeCells #[.string ⟨#[]⟩] n) 9)) 24 #[.int .i64 (v : Nat), .int .i64 (d : Nat), .slice (some ⟨w.heap.size, 0, none⟩) n n]
  have h2 := (Blk.new w 9 (madeCells #[.string ⟨#[]⟩] n)).alloc (.cells #[.int .i64 (v : Nat), .int .i64 (d : Nat), .slice (some ⟨w.heap.size, 0, none⟩) n n] 24)
  rw [tpart_zero zs n] at h2
  have e : (w.alloc (.cells (madeCells #[.string ⟨#[]⟩] n) 9)).heap.size = w.heap.size + 1 := by simp
  rw [e] at h1
  exact ⟨by rw [tpart_zero zs n]; exact h2, h1, kb2 _ _ _, Nat.le_refl _, by omega, by omega⟩
theorem fu_b (w : World) (v d n : Nat) (zs : List Rat) : FuSt w (w.heap.size + 1) w.heap.size v d n zs ((w.alloc (.cells #[.int .i64 (v : Nat), .int .i64 (d : Nat), .slice (some ⟨w.heap.size + 1, 0, none⟩) n n] 24)).alloc (.cells (madeCells #[.string ⟨#[]⟩] n) 9)).drew 0 := by
  have h1 := (Blk.new w 24 #[.int .i64 (v : Nat), .int .i64 (d : Nat), .slice (some ⟨w.heap.size + 1, 0, none⟩) n n]).alloc (.cells (madeCells #[.string ⟨#[]⟩] n) 9)
  have h2 := Blk.new (w.alloc (.cells #[.int .i64 (v : Nat), .int .i64 (d : Nat), .slice (some ⟨w.heap.size + 1, 0, none⟩) n n] 24)) 9 (madeCells #[.string ⟨#[]⟩] n)
  have h3 : Blk ((w.alloc (.cells #[.int .i64 (v : Nat), .int .i64 (d : Nat), .slice (some ⟨w.heap.size + 1, 0, none⟩) n n] 24)).alloc (.cells (madeCells #[.string ⟨#[]⟩] n) 9)) (w.heap.size + 1) 9 (madeCells #[.string ⟨#[]⟩] n) := by simpa using h2
  exact ⟨by rw [← tpart_zero zs n]; exact h3, h1, kb2 _ _ _, by omega, Nat.le_refl _, by omega⟩
theorem cell_one {V : World} {g i : Nat} {a u : Value} {ad : Addr} (h : V.cell? ad = some u) (hne : ad.block ≠ g) : (V.setCell ⟨g, i, none⟩ a).cell? ad = some u := by
  have e : (⟨g, i, none⟩ : Addr) ≠ ad := fun e => hne (by rw [← e])
  rw [World.cell?_setCell_other _ _ _ _ e]
  exact h
end Go.Proofs.Tg.Fi
end
section
/- Walks: the functional whose value is that at a product. -/
namespace Go.Proofs.Tg
open Go.RowKit Go.Gr Go.Ev Go.Mo Go.Mm Go.Rq Go.Rs
open Go.Proofs.Tg.Fi (Txts vq PT fvalid_any kb0 kb1 kb2 kb3 FuSt fu_a fu_b tpart_at tpart_all txts_of cell_one make_txts RetFun blk3)
set_option maxHeartbeats 16000000
set_option maxRecDepth 100000
theorem mtimes_any (v D d dg n N : Nat) (φ : List Int → Rat) (B : Option Addr) (cB : Nat) (T : Option Addr) (cT tn : Nat) (tv : List TV) (l : List (Rat × List Int)) (w : World) (hB : Txts w B ((mons v D).map φ)) (hn : cnt v D = n) (hN : cnt v d = N) (hP : PolyAt w v 24 T tn tv l)
    (htop : max (topd l) 0 = ((dg : Nat) : Int)) (hD : d + dg = D) (hsh : ∀ m ∈ mons v D, Sh (φ m)) (hok : ∀ m ∈ mons v d, SumOk φ v D m l) (hv1 : 1 ≤ v) (hv : v ≤ 6) (hd : D ≤ 24) (hf : n ≤ 1024) (hp : PT w) (hT : Tab w) :
    Calls Tryz.prog 33 #[.agg #[.int .i64 (v : Nat), .int .i64 (D : Nat), .slice B n cB], .agg #[.int .i64 (v : Nat), .slice T tn cT]] w fun e w' => ∃ A', e = .returned (.tuple #[.agg #[.int .i64 (v : Nat), .int .i64 (d : Nat), .slice A' N N], .int .i64 0]) ∧ Txts w' A' ((mons v d).map fun m => lin (fun e => φ (addL e m)) l) ∧ Below w.heap.size w w' := by
  obtain ⟨zs, hz⟩ : ∃ x, ((mons v d).map fun m => lin (fun e => φ (addL e m)) l) = x := ⟨_, rfl⟩
  have hzl : zs.length = N := by rw [← hz, List.length_map]; exact hN
  have hml : ((mons v D).map φ).length = n := by rw [List.length_map]; exact hn
  have hNn : N ≤ n := by rw [← hN, ← hn]; exact cnt_le_d v d D (by omega)
  have HVA : Hid (∀ V, Below w.heap.size w V → Calls Tryz.prog 11 #[.agg #[.int .i64 (v : Nat), .int .i64 (D : Nat), .slice B n cB]] V fun e w' => e = .returned (.bool true) ∧ Below V.heap.size V w') := Lib.hid (fun V hb => by
    have h := fvalid_any v D B cB _ V hv1 hv hd (by omega) (by rw [hml, hn]) (hB.keep hb) (fun q hq => by
      obtain ⟨m, hm, rfl⟩ := List.mem_map.1 hq
      exact hsh m hm)
    rw [hml] at h
    exact h)
  have HPV : Hid (∀ V, Below w.heap.size w V → Calls Tryz.prog 57 #[.agg #[.int .i64 (v : Nat), .slice T tn cT]] V fun e w' => e = .returned (.bool true) ∧ Below V.heap.size V w') := Lib.hid (fun V hb => (hP.keep hb).valid hv (by omega) (hT.below hb hT.1) cT)
  have HPD : Hid (∀ V, Below w.heap.size w V → Calls Tryz.prog 58 #[.agg #[.int .i64 (v : Nat), .slice T tn cT]] V fun e w' => e = .returned (.int .i64 (topd l)) ∧ Below V.heap.size V w') := Lib.hid (fun V hb => pdeg_any (hP.keep hb) hv (by omega) (hT.below hb hT.1) cT)
  have HNT : Hid (∀ V, Below w.heap.size w V → Calls Tryz.prog 59 #[.agg #[.int .i64 (v : Nat), .int .i64 (D : Nat), .slice B n cB]] V fun e w' => ∃ A cA rows, e = .returned (.agg #[.slice A n cA, .slice B n cB]) ∧ TbAt w' A B rows v D n φ ∧ Below V.heap.size V w') := Lib.hid (fun V hb => newtab_any v D n B cB φ V (hB.keep hb) hn hv hd hf)
  have HAL : Hid (∀ V, Calls Tryz.prog 38 #[.int .i64 (v : Nat), .int .i64 (d : Nat)] V fun e w' => ∃ A c rs, e = .returned (.tuple #[.slice A N c, .int .i64 0]) ∧ OwnI V.heap.size w' A c rs ∧ rs.length = N ∧ rs.map IRow.l = mons v d ∧ Below V.heap.size V w') := Lib.hid (fun V => by
    refine (all_any v d hv (by omega) (by omega) V).mono ?_
    rintro e w' ⟨A, c, rs, rfl, hO, hm, hb⟩
    have hrl : rs.length = N := by rw [← hN]; have := congrArg List.length hm; rw [List.length_map] at this; exact this
    exact ⟨A, c, rs, by rw [hrl], hO, hrl, hm, hb⟩)
  have HSU : Hid (∀ (rs : List IRow) (hm : rs.map IRow.l = mons v d) (k : Nat) (hk : k < rs.length) (hkz : k < zs.length) V A cA rows, Below w.heap.size w V → TbAt V A B rows v D n φ → Ints V rs[k].A rs[k].l → Calls Tryz.prog 60 #[.agg #[.slice A n cA, .slice B n cB], .agg #[.int .i64 (v : Nat), .slice T tn cT], .slice rs[k].A v rs[k].c] V fun e w' => e = .returned (.string (qtx zs[k])) ∧ Below V.heap.size V w') := Lib.hid (fun rs hm k hk hkz V A cA rows hb hTb hI => by
    have hmem : rs[k].l ∈ mons v d := by rw [← hm]; exact List.mem_map.2 ⟨_, List.getElem_mem hk, rfl⟩
    have h := tsum_any A B cA cB n rows v D φ (v : Nat) T cT tn tv l rs[k].A rs[k].c rs[k].l V hTb hI (hP.terms.keep hb) hP.pl hP.len (hok _ hmem) hv hd hf hP.few (hp.keep hb)
    have e : zs[k] = lin (fun e => φ (addL e rs[k].l)) l := by
      have h1 : zs[k]? = some (lin (fun e => φ (addL e rs[k].l)) l) := by
        rw [← hz, List.getElem?_map, ← hm, List.getElem?_map, List.getElem?_eq_getElem hk]; rfl
      rw [List.getElem?_eq_getElem hkz] at h1
      exact Option.some.inj h1
    rw [e]
    exact h)
  have HRD : Hid (∀ (rs : List IRow) (hm : rs.map IRow.l = mons v d) (k : Nat) (hk : k < rs.length), rs[k].l.length = v) := Lib.hid (fun rs hm k hk => (mons_mem (show rs[k].l ∈ mons v d by rw [← hm]; exact List.mem_map.2 ⟨_, List.getElem_mem hk, rfl⟩)).1)
  obtain ⟨W, hW⟩ : ∃ W, ((w.alloc (.cells #[.int .i64 (v : Nat), .int .i64 (D : Nat), .slice B n cB] 24)).alloc (.cells #[.int .i64 (v : Nat), .slice T tn cT] 71)).alloc (.cells #[.int .i64 0, .int .i64 0, .slice none 0 0] 24) = W := ⟨_, rfl⟩
  have HBW : Hid (Below w.heap.size w W) := Lib.hid (by rw [← hW]; exact (((Below.refl _ _).alloc (Nat.le_refl _) _).alloc (by simp) _).alloc (by simp; omega) _)
  have HB1 : Hid (Blk W w.heap.size 24 #[.int .i64 (v : Nat), .int .i64 (D : Nat), .slice B n cB]) := Lib.hid (by rw [← hW]; exact ((Blk.new _ _ _).alloc _).alloc _)
  have HB2 : Hid (Blk W (w.heap.size + 1) 71 #[.int .i64 (v : Nat), .slice T tn cT]) := Lib.hid (by
    rw [← hW]
    have := (Blk.new (w.alloc (.cells #[.int .i64 (v : Nat), .int .i64 (D : Nat), .slice B n cB] 24)) 71 #[.int .i64 (v : Nat), .slice T tn cT]).alloc (.cells #[.int .i64 0, .int .i64 0, .slice none 0 0] 24)
    simpa using this)
  have HB4 : Hid (Blk W (w.heap.size + 2) 24 #[.int .i64 0, .int .i64 0, .slice none 0 0]) := Lib.hid (by
    rw [← hW]
    have := Blk.new ((w.alloc (.cells #[.int .i64 (v : Nat), .int .i64 (D : Nat), .slice B n cB] 24)).alloc (.cells #[.int .i64 (v : Nat), .slice T tn cT] 71)) 24 #[.int .i64 0, .int .i64 0, .slice none 0 0]
    simpa using this)
  have HWW := Lib.hid hW
  have htl := (topd_le hP.ok).2
  have HZL := Lib.hid hzl
  have d1 : decide ((d : Int) < 0) = false := decide_eq_false (by omega)
  have htl0 := (topd_le hP.ok).1
  generalize topd l = z at *
  have hsub : IntKind.i64.wrap ((D : Int) - max z 0) = (d : Int) := by rw [htop]; exact (IntWalk.i64_in _ (by omega)).trans (by omega)
  have HSB := Lib.hid hsub
  have HTOP := Lib.hid htop
  have HDD := Lib.hid hD
  have hmk := make_txts N (by omega)
  rw [hz]
  have HZ := Lib.hid hz
  obtain ⟨x0, x1, x2, _, _, _⟩ := HB1.out.three
  obtain ⟨y0, y1, _, _⟩ := HB2.out.two
  clear hW hB hn hN hP hsh hok hp hT hml hz hzl htop hsub hD
  go_enter Tryz.func33, Tryz.ntmps33
  go_upto_region 1 with (fail)
  rw [HWW.out]
  clear HWW
  go_upto_region 5 with (first
    | (go_at_call 11; with_reducible refine Calls.mono (HVA.out _ HBW.out) ?_; rintro e w2 ⟨rfl, hb2⟩; have HC2 := Lib.hid hb2; obtain ⟨x0, x1, x2, _, _, _⟩ := (HB1.out.keep hb2 HB1.out.lt).three; obtain ⟨y0, y1, _, _⟩ := (HB2.out.keep hb2 HB2.out.lt).two; clear hb2)
    | (go_at_call 57; with_reducible refine Calls.mono (HPV.out _ (below_all HBW.out HC2.out)) ?_; rintro e w3 ⟨rfl, hb3⟩; have HC3 := Lib.hid (below_all HC2.out hb3); obtain ⟨x0, x1, x2, _, _, _⟩ := (HB1.out.keep HC3.out HB1.out.lt).three; obtain ⟨y0, y1, _, _⟩ := (HB2.out.keep HC3.out HB2.out.lt).two; clear hb3))
  have HPD5 : Hid (∀ V, Below w3.heap.size w3 V → Calls Tryz.prog 58 #[.agg #[.int .i64 (v : Nat), .slice T tn cT]] V fun e w' => e = .returned (.int .i64 z) ∧ Below V.heap.size V w') := Lib.hid (fun V hb => HPD.out V (below_all (below_all HBW.out HC3.out) hb))
  go_cut [6] (fun s6 wx => s6 = .int .i64 (d : Nat) ∧ Hid (Below w3.heap.size w3 wx))
  case first =>
    clear HVA HPV HNT HSU HPD HAL hmk
    have hbe : Below w3.heap.size w3 w3.drew := (Below.refl _ _).drew
    go_region_held3 (fun w' => w'.cell? ⟨w.heap.size, 1, none⟩ = some (.int .i64 (D : Nat)) ∧ w'.cell? ⟨w.heap.size + 1, 0, none⟩ = some (.int .i64 (v : Nat)) ∧ w'.cell? ⟨w.heap.size + 1, 1, none⟩ = some (.slice T tn cT))
      (first | exact ⟨keep_cell hbe x1, keep_cell hbe y0, keep_cell hbe y1⟩ | go_keep)
      (first | (go_at_call 58; with_reducible refine Calls.mono (HPD5.out _ (by assumption)) ?_; rintro e w4 ⟨rfl, hb4⟩; have hbe := below_all hbe hb4))
    all_goals
      go_wp2
      go_meet
      exact ⟨by rw [HSB.out], Lib.hid hbe⟩
  obtain ⟨rfl, HW5⟩ := hcut
  have HWC : Hid (Below W.heap.size W wc) := Lib.hid (below_all HC3.out HW5.out)
  obtain ⟨x0, x1, x2, _, _, _⟩ := (HB1.out.keep HWC.out HB1.out.lt).three
  obtain ⟨y0, y1, _, _⟩ := (HB2.out.keep HWC.out HB2.out.lt).two
  clear HVA HPV HPD HPD5
  go_upto_region 8 with (fail)
  go_wp2_with (fail)
  refine (HAL.out _).mono ?_
  rintro e w6 ⟨MA, mc, rs, rfl, hOI, hrl, hms, hb6⟩
  have HOI := Lib.hid hOI
  have HRL := Lib.hid hrl
  have HMS := Lib.hid hms
  have HC6 := Lib.hid (below_all HWC.out hb6)
  obtain ⟨x0, x1, x2, _, _, _⟩ := (HB1.out.keep HC6.out HB1.out.lt).three
  clear hOI hrl hms hb6 HAL
  go_upto_region 11 with (fail)
  go_wp2_with (fail)
  refine (HNT.out _ (below_all HBW.out HC6.out)).mono ?_
  rintro e w7 ⟨A2, c2, rows, rfl, hTb, hb7⟩
  have HOI := Lib.hid (HOI.out.keep hb7)
  have HTB := Lib.hid hTb
  have HC7 := Lib.hid (below_all HC6.out hb7)
  obtain ⟨x0, x1, x2, _, _, _⟩ := (HB1.out.keep HC7.out HB1.out.lt).three
  clear hTb hb7 HNT
  go_upto_region 12 with (fail)
  obtain ⟨W8, hW8⟩ : ∃ x, w7.alloc (.cells #[.slice A2 n c2, .slice B n cB] 106) = x := ⟨_, rfl⟩
  rw [hW8]
  have hb8 : Below w7.heap.size w7 W8 := by rw [← hW8]; exact (Below.refl _ _).alloc (Nat.le_refl _) _
  have HB9 : Hid (Blk W8 w7.heap.size 106 #[.slice A2 n c2, .slice B n cB]) := Lib.hid (by rw [← hW8]; exact Blk.new _ _ _)
  have HC8 := Lib.hid (below_all HC7.out hb8)
  have HOI := Lib.hid (HOI.out.keep hb8)
  have HTB := Lib.hid (HTB.out.keep hb8)
  obtain ⟨x0, x1, x2, _, _, _⟩ := (HB1.out.keep HC8.out HB1.out.lt).three
  have h79 : w.heap.size + 2 < w7.heap.size := Nat.lt_of_lt_of_le HB4.out.lt HC7.out.size
  generalize w7.heap.size = g9 at *
  clear hW8 hb8
  go_cut [10] (fun s10 wx => ∃ gv gf : Nat, s10 = .pointer (some ⟨gf, 0, none⟩) ∧ Hid (FuSt W8 gv gf v d N zs wx 0))
  case first =>
    clear HSU HRD
    have hbe := kb0 W8
    go_region_held3 (fun w' => w'.cell? ⟨w.heap.size, 0, none⟩ = some (.int .i64 (v : Nat)) ∧ w'.cell? ⟨w.heap.size, 1, none⟩ = some (.int .i64 (D : Nat)) ∧ w'.cell? ⟨w.heap.size, 2, none⟩ = some (.slice B n cB))
      (first | exact ⟨keep_cell (kb0 _) x0, keep_cell (kb0 _) x1, keep_cell (kb0 _) x2⟩ | exact ⟨keep_cell (kb1 _ _) x0, keep_cell (kb1 _ _) x1, keep_cell (kb1 _ _) x2⟩ | exact ⟨keep_cell (kb2 _ _ _) x0, keep_cell (kb2 _ _ _) x1, keep_cell (kb2 _ _ _) x2⟩ | exact ⟨keep_cell (kb3 _ _ _) x0, keep_cell (kb3 _ _ _) x1, keep_cell (kb3 _ _ _) x2⟩ | go_keep)
      (fail)
    all_goals
      go_wp2
      go_meet
      first
        | exact ⟨_, _, rfl, Lib.hid (fu_a W8 v d N zs)⟩
        | exact ⟨_, _, rfl, Lib.hid (fu_b W8 v d N zs)⟩
  obtain ⟨gv, gf, rfl, HF0⟩ := hcut
  have HW8 : Hid (Below w.heap.size w W8) := Lib.hid (below_all HBW.out HC8.out)
  have HWs : w.heap.size + 2 < W8.heap.size := Nat.lt_of_lt_of_le HB4.out.lt HC8.out.size
  clear hmk
  go_wp2
  go_loopw [59] (fun s59 wr => ∃ k : Nat, s59 = .int .i64 (k : Nat) ∧ k ≤ N ∧ Hid (FuSt W8 gv gf v d N zs wr k)) (fun s59 _ => N - (intOf s59).toNat)
  case atStart => exact ⟨0, rfl, Nat.zero_le _, HF0⟩
  case round =>
    clear HF0
    obtain ⟨wo, rfl⟩ : ∃ wo : World, wo = wr := ⟨_, rfl⟩
    obtain ⟨k, rfl, hk, HST⟩ := hrel
    obtain ⟨z0, z1, z2, _, _, _⟩ := HST.out.bf.three
    have HCO := Lib.hid (below_all HC8.out HST.out.below)
    by_cases hkn : k = N
    · have e1 : decide ((k : Int) < (N : Int)) = false := decide_eq_false (by omega)
      have e1' : decide (k < N) = false := decide_eq_false (by omega)
      have HKN := Lib.hid hkn
      clear hkn
      have HO := Lib.hid (HB4.out.keep HCO.out HB4.out.lt)
      obtain ⟨r0, r1, r2, f0, f1, f2⟩ := HO.out.three
      have hgv : w.heap.size + 2 ≠ gv := by have := HST.out.gvl; omega
      go_wp2
      obtain ⟨p0, p1, p2, _⟩ := (blk3 (a' := .int .i64 (v : Nat)) (b' := .int .i64 (d : Nat)) (c' := .slice (some ⟨gv, 0, none⟩) N N) HO.out).three
      refine bodyPost_ret (v := .tuple #[.agg #[.int .i64 (v : Nat), .int .i64 (d : Nat), .slice (some ⟨gv, 0, none⟩) N N], .int .i64 0]) (by simp [results, Tryz.results33, go_sem, p0, p1, p2]) rfl ⟨some ⟨gv, 0, none⟩, ?_, ?_, ?_⟩
      · rfl
      · have hv := HST.out.bv
        rw [HKN.out, tpart_all HZL.out] at hv
        exact txts_of (((hv.far (by simpa using hgv.symm) _).far (by simpa using hgv.symm) _).far (by simpa using hgv.symm) _)
      · exact below_far (below_far (below_far (below_all HW8.out HST.out.below) (by omega) _ _) (by omega) _ _) (by omega) _ _
    · have hkl : k < N := by omega
      have e1 : decide ((k : Int) < (N : Int)) = true := decide_eq_true (by omega)
      have e1' : decide (k < N) = true := decide_eq_true hkl
      have q1 : (0 : Int) ≤ (k : Int) := by omega
      have q2 : (k : Int) < (N : Int) := by omega
      have hkr : k < rs.length := by rw [HRL.out]; exact hkl
      have hkz : k < zs.length := by rw [HZL.out]; exact hkl
      have HBO := Lib.hid (below_all HW8.out HST.out.below)
      obtain ⟨ad, hAD, c1, hI⟩ := (HOI.out.keep HST.out.below).lists hkr
      rw [HRD.out rs HMS.out k hkr] at c1
      have HSU1 : Hid (∀ V, Below wo.heap.size wo V → Calls Tryz.prog 60 #[.agg #[.slice A2 n c2, .slice B n cB], .agg #[.int .i64 (v : Nat), .slice T tn cT], .slice rs[k].A v rs[k].c] V fun e w' => e = .returned (.string (qtx zs[k])) ∧ Below V.heap.size V w') := Lib.hid (fun V h => HSU.out rs HMS.out k hkr hkz V A2 c2 rows (below_all HBO.out h) (HTB.out.keep (below_all HST.out.below h)) (hI.keep h))
      subst hAD
      obtain ⟨x0, x1, x2, _, _, _⟩ := (HB1.out.keep HCO.out HB1.out.lt).three
      obtain ⟨y0, y1, _, _⟩ := (HB2.out.keep HCO.out HB2.out.lt).two
      obtain ⟨u0, u1, _, _⟩ := (HB9.out.keep HST.out.below HB9.out.lt).two
      have HNX : Hid (∀ V, Below wo.heap.size wo V → FuSt W8 gv gf v d N zs (V.setCell ⟨gv, k, none⟩ (.string (qtx zs[k]))) (k + 1)) := Lib.hid (fun V h => HST.out.step h HZL.out hkl)
      obtain ⟨t, htz⟩ := tpart_at HZL.out hkl
      have HVT : Hid (∀ V, Below wo.heap.size wo V → V.cell? ⟨gv, k, none⟩ = some t ∧ V.frozen? ⟨gv, k, none⟩ = false) := Lib.hid (fun V h => by
        have hv := HST.out.bv.keep h HST.out.bv.lt
        exact ⟨by rw [hv.cell k]; exact htz, hv.frozen k⟩)
      have hfv : gf ≠ gv := HST.out.ne.symm
      have hgv8 : W8.heap.size ≤ gv := HST.out.gvl
      have hg9 : g9 < W8.heap.size := HB9.out.lt
      clear htz hkn hI
      generalize rs[k].A = E at *
      generalize rs[k].c = ce at *
      generalize qtx zs[k] = s3 at *
      clear hkr hkz
      have hbe := kb0 wo
      go_upto_region 16 with (fail)
      go_region_held3 (fun w' => w'.cell? ⟨gf, 2, none⟩ = some (.slice (some ⟨gv, 0, none⟩) N N) ∧ w'.cell? ⟨g9, 0, none⟩ = some (.slice A2 n c2) ∧ w'.cell? ⟨g9, 1, none⟩ = some (.slice B n cB) ∧ w'.cell? ⟨w.heap.size + 1, 0, none⟩ = some (.int .i64 (v : Nat)) ∧ w'.cell? ⟨w.heap.size + 1, 1, none⟩ = some (.slice T tn cT))
        (first | exact ⟨keep_cell hbe z2, keep_cell hbe u0, keep_cell hbe u1, keep_cell hbe y0, keep_cell hbe y1⟩ | exact ⟨cell_one (keep_cell hbe z2) hfv, cell_one (keep_cell hbe u0) (by simp; omega), cell_one (keep_cell hbe u1) (by simp; omega), cell_one (keep_cell hbe y0) (by simp; omega), cell_one (keep_cell hbe y1) (by simp; omega)⟩ | go_keep)
        (first | (go_at_call 60; with_reducible refine Calls.mono (HSU1.out _ (by assumption)) ?_; rintro e w10 ⟨rfl, hb10⟩; have hbe := below_all hbe hb10; obtain ⟨t0, t1⟩ := HVT.out _ hbe))
      all_goals
        go_wp2
        go_roundw
        case rel => exact ⟨k + 1, by go_num, by omega, Lib.hid (HNX.out _ hbe)⟩
        case measure => simp [intOf]; omega
end Go.Proofs.Tg
end
