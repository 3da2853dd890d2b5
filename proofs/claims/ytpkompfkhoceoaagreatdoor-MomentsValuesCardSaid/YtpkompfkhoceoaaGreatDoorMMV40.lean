/- Parts of the proof: VL3. -/
import Derived.Test.YtpkompfkhoceoaaGreatDoorMMV32
import Derived.Test.YtpkompfkhoceoaaGreatDoorMMV34
import Derived.Test.YtpkompfkhoceoaaGreatDoorMMV35
import Derived.Test.YtpkompfkhoceoaaGreatDoorMMV39
section
/- The statement MomentsValues. Printed by mk_vl3.py. -/
namespace Go.Proofs.Tg
open Go.RowKit Go.Gr Go.Bn Go.Rq Go.Mo Go.Rs Go.Mm Go.Ev
open Go.Proofs.Tg.Fi (QsAt Txts vq write_q known_any PT)
set_option maxHeartbeats 16000000
set_option maxRecDepth 100000
theorem cnt_three (v : Nat) (h1 : 1 ≤ v) (h3 : v ≤ 3) : cnt v 5 ≤ 56 := by
  have : v = 1 ∨ v = 2 ∨ v = 3 := by omega
  rcases this with rfl | rfl | rfl <;> decide +kernel
/-- A polynomial of at most four terms from the tape. -/
structure DrawnV (v : Nat) (l : List (Rat × List Int)) (D : Nat) : Prop where
  ok : PolyOk v 5 l
  nm : Rs.Nm D l 279
  d0 : 0 < D
  d12 : D ≤ 12
theorem drawn4_of {v : Nat} {ts : List TQ} {out : List (Rat × List Int)} (h4 : ts.length ≤ 4) (hc : ∀ t ∈ ts, CoefT t.r.q ∧ t.el ∈ mons v 5) (ho : out = col ((msrt leT ts.length ts).map TQ.qe)) (hn : out.length ≤ 4096) : ∃ D, DrawnV v out D := by
  obtain ⟨D, hD, hD12, hnm⟩ := nm_coefs (l := ts.map TQ.qe) (by rw [List.length_map]; omega) (fun t ht => by
    obtain ⟨x, hx, rfl⟩ := List.mem_map.1 ht
    exact (hc x hx).1)
  have hnm2 : Rs.Nm D (ts.map TQ.qe) 279 := hnm.mono (by split <;> omega)
  refine ⟨D, polyOk_of (fun t ht => (hc t ht).2) ho hn, ?_, hD, hD12⟩
  rw [ho]
  exact (eqv_col (fun t ht => (mons_mem (hc t ht).2).1) ts.length).nm D 279 hD hnm2
theorem DrawnV.sh {v D : Nat} {l : List (Rat × List Int)} (h : DrawnV v l D) : ∀ t ∈ l, Sh t.1 ∧ t.1 ≠ 0 ∧ (qtx t.1).size ≤ 19 := fun t ht => by
  have h1 := h.nm.mem t ht
  have h2 := h.d12
  exact ⟨h1.sh h.d0 (by omega) (by decide), (h.ok.mem t ht).1, qtx_size19 h1 h.d0 (by omega) (by decide)⟩
/-- The values as those of a function. -/
theorem vals_fun {v d n : Nat} {rs : List RVal} (hn : cnt v d = n) (hl : rs.length = n) (hb : ∀ r ∈ rs, FnV r) : ∃ φ : List Int → Rat, rs.map RVal.q = (mons v d).map φ ∧ ∀ m ∈ mons v d, Bd 12 1769472 (φ m) := by
  obtain ⟨φ, e⟩ := fun_of (mons v d) (rs.map RVal.q) (mons_nodup v d) (by rw [List.length_map, hl, ← hn]; rfl)
  refine ⟨φ, e, fun m hm => ?_⟩
  have h1 : φ m ∈ rs.map RVal.q := by rw [e]; exact List.mem_map.2 ⟨m, hm, rfl⟩
  obtain ⟨r, hr, e2⟩ := List.mem_map.1 h1
  rw [← e2]
  exact hb r hr
theorem lvok_of {v d D : Nat} {φ : List Int → Rat} {out : List TQ} (hD : DrawnV v (out.map TQ.qe) D) (hm : ∀ t ∈ out, t.el ∈ mons v d) (hφ : ∀ m ∈ mons v d, Bd 12 1769472 (φ m)) : LvOk v d φ out := by
  have h0 := hD.d0
  have h12 := hD.d12
  have hq : ∀ t ∈ out, Bd D 279 t.r.q := fun t ht => hD.nm.mem t.qe (qe_mem ht)
  have hDE : 0 < D * 12 := Nat.mul_pos h0 (by decide)
  exact ⟨hm, fun t ht => bd_qs (hq t ht) h0 (by omega) (by decide), fun m hm => bd_qs (hφ m hm) (by decide) (by decide) (by decide), fun t ht => bd_qs ((hq t ht).mul (hφ _ (hm t ht))) hDE (by omega) (by decide), fun k _ => bd_qs ((hD.nm.take k).lin h0 (by decide) (fun t ht => by
    obtain ⟨x, hx, rfl⟩ := List.mem_map.1 (List.mem_of_mem_take ht)
    exact hφ _ (hm x hx))) hDE (by omega) (by decide)⟩
/-- The program's value of a functional at a polynomial: the number, or an error. -/
theorem value_cases (v d n u tn D : Nat) (φ : List Int → Rat) (oP : List TQ) (w : World) (hn : cnt v d = n) (hφ : ∀ m ∈ mons v d, Bd 12 1769472 (φ m)) (hD : DrawnV u (oP.map TQ.qe) D) (hv1 : 1 ≤ v) (hv : v ≤ 3) (hu : u ≤ 3) (hd : d ≤ 4) (hn35 : n ≤ 35) (hp : PT w) (hT : Tab w) :
    ∃ (S : ByteArray) (E : Int), (∀ V B T cT tv, Below w.heap.size w V → Txts V B ((mons v d).map φ) → PolyAt V u 5 T tn tv (oP.map TQ.qe) → Calls Tryz.prog 29 #[.agg #[.int .i64 (v : Nat), .int .i64 (d : Nat), .slice B n n], .agg #[.int .i64 (u : Nat), .slice T tn cT]] V fun e w' => e = .returned (.tuple #[.string S, .int .i64 E]) ∧ Below V.heap.size V w') ∧
      ((u ≠ v ∧ S = ⟨#[]⟩ ∧ E = 4) ∨ (u = v ∧ (d : Int) < topd (oP.map TQ.qe) ∧ S = ⟨#[]⟩ ∧ E = 3) ∨ (u = v ∧ topd (oP.map TQ.qe) ≤ d ∧ S = qtx (lin φ (oP.map TQ.qe)) ∧ E = 0 ∧ (∀ t ∈ oP, t.el ∈ mons v d) ∧ Sh (lin φ (oP.map TQ.qe)))) := by
  have hsh : ∀ m ∈ mons v d, Sh (φ m) := fun m hm => (hφ m hm).sh (by decide) (by decide) (by decide)
  by_cases huv : u = v
  · subst huv
    by_cases hdeg : (d : Int) < topd (oP.map TQ.qe)
    · exact ⟨⟨#[]⟩, 3, fun V B T cT tv hb htx hP => value_range u d n φ B n T cT tn tv _ V htx hn (hP.le (by omega)) hdeg hsh hv1 (by omega) (by omega) (by omega) (hp.keep hb) (hT.below hb hT.1), .inr (.inl ⟨rfl, hdeg, rfl, rfl⟩)⟩
    · obtain ⟨dg, htop, _, hall⟩ := top_all hD.ok
      have hdgd : dg ≤ d := by omega
      have hmem : ∀ t ∈ oP.map TQ.qe, t.2 ∈ mons u d := fun t ht => mons_le (hall t ht) hdgd
      have hpo : PolyOk u d (oP.map TQ.qe) := ⟨hD.ok.desc, fun t ht => ⟨(hD.ok.mem t ht).1, hmem t ht⟩, hD.ok.few⟩
      have h0 := hD.d0
      have h12 := hD.d12
      have hDE : 0 < D * 12 := Nat.mul_pos h0 (by decide)
      have hso : SumOk φ u d (List.replicate u 0) (oP.map TQ.qe) := sumOk_of (a := d) (b := 0) (zeros_mem u) hmem (by omega) h0 (by decide) hD.nm hφ (by omega) (by decide) (by omega) (by decide) (by decide) (by decide)
      refine ⟨qtx (lin φ (oP.map TQ.qe)), 0, fun V B T cT tv hb htx hP => value_any u d n φ B n T cT tn tv _ V htx hn ⟨hP.terms, hP.pl, hP.len, hpo, hP.sz⟩ hsh hso hv1 (by omega) (by omega) (by omega) (hp.keep hb) (hT.below hb hT.1), .inr (.inr ⟨rfl, by omega, rfl, rfl, fun t ht => hmem t.qe (qe_mem ht), ?_⟩)⟩
      exact (hD.nm.lin h0 (by decide) (fun t ht => hφ _ (hmem t ht))).sh hDE (by omega) (by decide)
  · exact ⟨⟨#[]⟩, 4, fun V B T cT tv hb htx hP => value_shape v u d n φ B n T cT tn tv _ V htx hn (hP.le (by omega)) (by omega) huv hsh hv1 (by omega) (by omega) (by omega) (hp.keep hb) (hT.below hb hT.1), .inl ⟨huv, rfl, rfl⟩⟩
theorem law_values (A : Option Addr) (c : Nat) (l : List Int) (w : World) (hA : Ints w A l) (hc : l.length ≤ c) (hx : ∀ x ∈ l, -9223372036854775808 ≤ x ∧ x < 9223372036854775808) (hn : l.length < 9223372036854775808) (hT : PT w) (hTab : Tab w) :
    Calls Tryz.prog 6 #[.slice A l.length c] w fun e w' => e = .returned (.bool true) ∧ Below w.heap.size w w' := by
  have HNEW := Lib.hid (new_any A c l w hA hc hx hn)
  have HN5 : Hid (∀ V g, TapeAt V g → Calls Tryz.prog 16 #[.pointer (some ⟨g, 0, none⟩), .int .i64 5] V (RetT g (fun v _ => ∃ k : Nat, k < 5 ∧ v = .int .i64 (k : Nat)) V)) := Lib.hid (fun V g h => next_any g 5 V h (by omega) (by omega))
  have HN3 : Hid (∀ V g, TapeAt V g → Calls Tryz.prog 16 #[.pointer (some ⟨g, 0, none⟩), .int .i64 3] V (RetT g (fun v _ => ∃ k : Nat, k < 3 ∧ v = .int .i64 (k : Nat)) V)) := Lib.hid (fun V g h => next_any g 3 V h (by omega) (by omega))
  have HFN : Hid (∀ V g, TapeAt V g → Calls Tryz.prog 27 #[.pointer (some ⟨g, 0, none⟩)] V (RetT g (RetFn g V) V)) := Lib.hid (fun V g h => functional_any g V h)
  have HPOL : Hid (∀ V g (v : Nat), TapeAt V g → 1 ≤ v → v ≤ 3 → Calls Tryz.prog 28 #[.pointer (some ⟨g, 0, none⟩), .int .i64 (v : Nat), .int .i64 5, .int .i64 4] V (RetT g (fun x w' => ∃ R c out D, x = .agg #[.int .i64 (v : Nat), .slice R (List.length out) c] ∧ TQs w' R out ∧ out.length ≤ 4 ∧ DrawnV v (out.map TQ.qe) D) V)) := Lib.hid (fun V g v h h1 h2 => by
    obtain ⟨vp, rfl⟩ : ∃ vp, v = vp + 1 := ⟨v - 1, by omega⟩
    have hc1 : cnt (vp + 1) 5 ≤ 56 := cnt_three (vp + 1) (by omega) h2
    have hc2 : 1 ≤ cnt (vp + 1) 5 := by
      have h4 := cnt_le_d (vp + 1) 0 5 (Nat.zero_le _)
      rw [cnt_d0] at h4
      exact h4
    refine (tpoly_any g vp 5 4 V h (by omega) (by omega) (by omega) hc2 (by omega)).mono ?_
    rintro e w' ⟨x, rfl, ⟨R, c, out, rfl, hQ, _, hl, ha, ts, hts, htm, ho⟩, h5, h6⟩
    obtain ⟨D, hD⟩ := drawn4_of hts htm ho (by rw [List.length_map]; omega)
    exact ⟨_, rfl, ⟨R, c, out, D, rfl, hQ, hl, hD⟩, h5, h6⟩)
  have HPT := Lib.hid hT
  have HTA := Lib.hid hTab
  clear hA hc hx hn hT hTab
  go_enter Tryz.func6, Tryz.ntmps6
  go_wp2_with (fail)
  refine HNEW.out.mono ?_
  rintro e w1 ⟨g, rfl, hgw, hT1, hb1⟩
  have HT1 := Lib.hid hT1
  have HB1 := Lib.hid hb1
  have hg1 : g < w1.heap.size := hT1.lt
  clear hT1 hb1 HNEW
  go_wp2_with (fail)
  refine (HFN.out _ _ HT1.out).mono ?_
  rintro e w2 ⟨_, rfl, ⟨v, d, n, AL, cL, rs, rfl, hv1, hv3, hd4, hcn, hrl, hO, hbd⟩, hT2, ht2⟩
  have HT2 := Lib.hid hT2
  have HBT2 : Hid (Below w.heap.size w w2) := Lib.hid (Tk.below HB1.out ht2 hgw)
  have HO2 := Lib.hid hO
  have HCN := Lib.hid hcn
  have HRL := Lib.hid hrl
  obtain ⟨φ, hφ, hφb⟩ := vals_fun hcn hrl hbd
  have HFI := Lib.hid hφ
  have HFB := Lib.hid hφb
  have hn35 : n ≤ 35 := by rw [← hcn]; exact cnt_small v d hv3 hd4
  clear hT2 ht2 hO hcn hrl hφ hφb hbd HFN HT1 HB1
  go_upto_region 4 with (fail)
  obtain ⟨W2, hW2⟩ : ∃ x, w2.alloc (.cells #[.int .i64 (v : Nat), .int .i64 (d : Nat), .slice AL n cL] 29) = x := ⟨_, rfl⟩
  rw [hW2]
  have hb2 : Below w2.heap.size w2 W2 := by rw [← hW2]; exact (Below.refl _ _).alloc (Nat.le_refl _) _
  have HB4 : Hid (Blk W2 w2.heap.size 29 #[.int .i64 (v : Nat), .int .i64 (d : Nat), .slice AL n cL]) := Lib.hid (by rw [← hW2]; exact Blk.new _ _ _)
  have HT2 := Lib.hid (HT2.out.keep hb2)
  have HBT2 := Lib.hid (below_all HBT2.out hb2)
  have HO2 := Lib.hid (HO2.out.keep hb2)
  have hg4 : g < w2.heap.size := by have := HB4.out; have h2 := HT2.out.lt; apply Classical.byContradiction; intro hge; have h3 : W2.heap.size = w2.heap.size + 1 := (by rw [← hW2]; simp); have h4 : g = w2.heap.size := (by omega); obtain ⟨cs, B⟩ := HT2.out.blk; rw [h4] at B; unfold Blk at B this; rw [this] at B; injection B with B; injection B with _ B; exact absurd B (by decide)
  generalize w2.heap.size = g4 at *
  clear hW2 hb2
  go_wp2_with (fail)
  refine (HN5.out _ _ HT2.out).mono ?_
  rintro e w3 ⟨_, rfl, ⟨k3, hk3, rfl⟩, hT3, ht3⟩
  have HT3 := Lib.hid hT3
  have HK3 := Lib.hid ht3
  clear hT3 ht3 hk3 HN5
  by_cases hk0 : k3 = 0
  · subst hk0
    go_wp2_with (fail)
    refine (HN3.out _ _ HT3.out).mono ?_
    rintro e w4 ⟨_, rfl, ⟨k4, hk4, rfl⟩, hT4, ht4⟩
    have HT4 := Lib.hid hT4
    have HK4 := Lib.hid (HK3.out.trans ht4)
    obtain ⟨u, hu⟩ : ∃ u : Nat, 1 + k4 = u := ⟨_, rfl⟩
    have huI : (1 : Int) + (k4 : Int) = (u : Int) := by omega
    have hu1 : 1 ≤ u := by omega
    have hu3 : u ≤ 3 := by omega
    clear hT4 ht4 HT3 HK3 HN3
    go_upto_region 6 with (fail)
    try rw [huI]
    clear huI hu hk4
    go_wp2_with (fail)
    refine (HPOL.out _ g u HT4.out hu1 hu3).mono ?_
    rintro e w5 ⟨_, rfl, ⟨RP, cP, oP, DP, rfl, hQP, hlP, hDP⟩, hT5, ht5⟩
    have HK5 := Lib.hid (HK4.out.trans ht5)
    have HQP := Lib.hid hQP
    have HDP := Lib.hid hDP
    have HBT5 : Hid (Below w.heap.size w w5) := Lib.hid (Tk.below HBT2.out HK5.out hgw)
    have HB5 : Hid (Blk w5 g4 29 #[.int .i64 (v : Nat), .int .i64 (d : Nat), .slice AL n cL]) := Lib.hid ((HK5.out.block _ HB4.out.lt (fun e => by injection e with e; omega)).trans HB4.out)
    have HO5 : Hid (QsAt w5 AL rs) := Lib.hid (by
      obtain ⟨cs, B⟩ := HT2.out.blk
      exact Fi.OwnQ.qs (HO2.out.tk HK5.out hg1 B (by decide)))
    obtain ⟨nP, hnP⟩ : ∃ x, oP.length = x := ⟨_, rfl⟩
    rw [hnP]
    rw [hnP] at hlP
    have HNP := Lib.hid hnP
    clear hQP hDP hT5 ht5 hnP HK4 HK5 HT4 HT2 HB4 HO2 HPOL HBT2
    go_upto_region 7 with (fail)
    obtain ⟨W5, hW5⟩ : ∃ x, w5.alloc (.cells #[.int .i64 (u : Nat), .slice RP nP cP] 65) = x := ⟨_, rfl⟩
    rw [hW5]
    have hb5 : Below w5.heap.size w5 W5 := by rw [← hW5]; exact (Below.refl _ _).alloc (Nat.le_refl _) _
    have HB6 : Hid (Blk W5 w5.heap.size 65 #[.int .i64 (u : Nat), .slice RP nP cP]) := Lib.hid (by rw [← hW5]; exact Blk.new _ _ _)
    have HB5 := Lib.hid (HB5.out.keep hb5 HB5.out.lt)
    have HO5 := Lib.hid (HO5.out.keep hb5)
    have HQP := Lib.hid (HQP.out.keep hb5)
    have HBT5 := Lib.hid (below_all HBT5.out hb5)
    generalize w5.heap.size = g6 at *
    clear hW5 hb5
    have HWR : Hid (∀ V, Below W5.heap.size W5 V → Calls Tryz.prog 24 #[.agg #[.int .i64 (v : Nat), .int .i64 (d : Nat), .slice AL n cL]] V fun e w' => ∃ B, e = .returned (.agg #[.int .i64 (v : Nat), .int .i64 (d : Nat), .slice B n n]) ∧ Txts w' B ((mons v d).map φ) ∧ Below V.heap.size V w') := Lib.hid (fun V hb => by
      have h := write_q v d AL cL rs V (HO5.out.keep hb) (fun r hr => by
        have h1 : r.q ∈ (mons v d).map φ := by rw [← HFI.out]; exact List.mem_map.2 ⟨r, hr, rfl⟩
        obtain ⟨m, hm, e⟩ := List.mem_map.1 h1
        rw [← e]; exact (HFB.out m hm).sh (by decide) (by decide) (by decide)) (by have := HRL.out; omega)
      rw [HRL.out, HFI.out] at h
      exact h)
    have HWP : Hid (∀ V, Below W5.heap.size W5 V → Calls Tryz.prog 30 #[.agg #[.int .i64 (u : Nat), .slice RP nP cP]] V fun e w' => ∃ T cT tv, e = .returned (.agg #[.int .i64 (u : Nat), .slice T nP cT]) ∧ PolyAt w' u 5 T nP tv (oP.map TQ.qe) ∧ Below V.heap.size V w') := Lib.hid (fun V hb => wr_poly u 5 oP RP cP nP V (HQP.out.keep hb) HNP.out HDP.out.ok HDP.out.sh (by omega))
    have HPT5 : Hid (PT W5) := Lib.hid (HPT.out.keep HBT5.out)
    have HTA5 : Hid (Tab W5) := Lib.hid (HTA.out.below HBT5.out HTA.out.1)
    obtain ⟨S7, EV, hVV, hcase⟩ := value_cases v d n u nP DP φ oP W5 HCN.out HFB.out HDP.out hv1 hv3 hu3 hd4 hn35 HPT5.out HTA5.out
    have HVV := Lib.hid hVV
    have HCASE := Lib.hid hcase
    have HKN : Hid (∀ V, Below W5.heap.size W5 V → Calls Tryz.prog 9 #[] V fun e w' => e = .returned (.bool true) ∧ Below V.heap.size V w') := Lib.hid (fun V hb => known_any V (HPT5.out.keep hb))
    clear hVV hcase HPT HTA HPT5 HTA5
    obtain ⟨x0, x1, x2, _, _, _⟩ := HB5.out.three
    obtain ⟨y0, y1, _, _⟩ := HB6.out.two
    go_cut [7, 8] (fun s7 s8 wx => s7 = .string S7 ∧ s8 = .int .i64 EV ∧ Hid (Below W5.heap.size W5 wx))
    case first =>
      have BZ : Below W5.heap.size W5 W5.drew := (Below.refl _ _).drew
      refine wp_region_held_drew (S := (fun w' => w'.cell? ⟨g4, 0, none⟩ = some (.int .i64 (v : Nat)) ∧ w'.cell? ⟨g4, 1, none⟩ = some (.int .i64 (d : Nat)) ∧ w'.cell? ⟨g4, 2, none⟩ = some (.slice AL n cL) ∧ w'.cell? ⟨g6, 0, none⟩ = some (.int .i64 (u : Nat)) ∧ w'.cell? ⟨g6, 1, none⟩ = some (.slice RP nP cP))) (by kernel_rfl) ⟨keep_cell BZ x0, keep_cell BZ x1, keep_cell BZ x2, keep_cell BZ y0, keep_cell BZ y1⟩ (fun hHeld => ?_)
      generalize W5.drew = Z at *
      refine wpAnyH_get 0 (some 25) (.agg #[.int .i64 (v : Nat), .int .i64 (d : Nat), .slice AL n cL]) rfl rfl (by kernel_rfl) (by kernel_rfl) (by kernel_rfl) (fun _ _ _ h => h) (by rfl) hHeld ?_ ?_
      · (intro w hSw; (try dsimp only at hSw); go_simp; all_goals (try with_reducible rfl))
      (try simp only [Act.put, List.setIfInBounds_toArray, List.set_cons_zero, List.set_cons_succ])
      refine wpAnyH_get 2 (some 27) (.agg #[.int .i64 (u : Nat), .slice RP nP cP]) rfl rfl (by kernel_rfl) (by kernel_rfl) (by kernel_rfl) (fun _ _ _ h => h) (by rfl) hHeld ?_ ?_
      · (intro w hSw; (try dsimp only at hSw); go_simp; all_goals (try with_reducible rfl))
      (try simp only [Act.put, List.setIfInBounds_toArray, List.set_cons_zero, List.set_cons_succ])
      refine wpAnyH_ready (rs := [1]) (by kernel_rfl) (by simp) ?_
      refine AllReadyH.cons rfl (fun K hK => ?_) AllReadyH.nil
      go_simp
      refine (HWR.out _ BZ).mono ?_
      rintro e Z1 ⟨B7, rfl, hTX, hb⟩
      have HTX := Lib.hid hTX
      have BZ1 := below_all BZ hb
      clear hTX hb
      (try go_simp)
      refine hK.out _ _ ⟨keep_cell BZ1 x0, keep_cell BZ1 x1, keep_cell BZ1 x2, keep_cell BZ1 y0, keep_cell BZ1 y1⟩ (fun hHeld => ?_)
      clear hK K
      (try simp only [Act.put, List.setIfInBounds_toArray, List.set_cons_zero, List.set_cons_succ])
      refine wpAnyH_ready (rs := [3]) (by kernel_rfl) (by simp) ?_
      refine AllReadyH.cons rfl (fun K hK => ?_) AllReadyH.nil
      go_simp
      refine (HWP.out _ BZ1).mono ?_
      rintro e Z2 ⟨TP, cTP, tvP, rfl, hPP, hb⟩
      have HPP := Lib.hid hPP
      have BZ2 := below_all BZ1 hb
      have HTX := Lib.hid (HTX.out.keep hb)
      clear hPP hb
      (try go_simp)
      refine hK.out _ _ ⟨keep_cell BZ2 x0, keep_cell BZ2 x1, keep_cell BZ2 x2, keep_cell BZ2 y0, keep_cell BZ2 y1⟩ (fun hHeld => ?_)
      clear hK K
      (try simp only [Act.put, List.setIfInBounds_toArray, List.set_cons_zero, List.set_cons_succ])
      refine wpAnyH_ready (rs := [4]) (by kernel_rfl) (by simp) ?_
      refine AllReadyH.cons rfl (fun K hK => ?_) AllReadyH.nil
      go_simp
      refine (HVV.out _ _ _ _ _ BZ2 HTX.out HPP.out).mono ?_
      rintro e Z3 ⟨rfl, hb⟩
      have BZ3 := below_all BZ2 hb
      clear hb
      (try go_simp)
      refine hK.out _ _ ⟨keep_cell BZ3 x0, keep_cell BZ3 x1, keep_cell BZ3 x2, keep_cell BZ3 y0, keep_cell BZ3 y1⟩ (fun hHeld => ?_)
      clear hK K
      (try simp only [Act.put, List.setIfInBounds_toArray, List.set_cons_zero, List.set_cons_succ])
      refine wpAnyH_get 5 (some 24) (.tuple #[.string S7, .int .i64 EV]) rfl rfl (by kernel_rfl) (by kernel_rfl) (by kernel_rfl) (fun _ _ _ h => h) (by rfl) hHeld ?_ ?_
      · (intro w hSw; (try dsimp only at hSw); go_simp; all_goals (try with_reducible rfl))
      (try simp only [Act.put, List.setIfInBounds_toArray, List.set_cons_zero, List.set_cons_succ])
      refine wpAnyH_get 6 (some 30) (.string S7) rfl rfl (by kernel_rfl) (by kernel_rfl) (by kernel_rfl) (fun _ _ _ h => h) (by rfl) hHeld ?_ ?_
      · (intro w hSw; (try dsimp only at hSw); go_simp; all_goals (try with_reducible rfl))
      (try simp only [Act.put, List.setIfInBounds_toArray, List.set_cons_zero, List.set_cons_succ])
      refine wpAnyH_get 7 (some 31) (.int .i64 EV) rfl rfl (by kernel_rfl) (by kernel_rfl) (by kernel_rfl) (fun _ _ _ h => h) (by rfl) hHeld ?_ ?_
      · (intro w hSw; (try dsimp only at hSw); go_simp; all_goals (try with_reducible rfl))
      (try simp only [Act.put, List.setIfInBounds_toArray, List.set_cons_zero, List.set_cons_succ])
      refine wpAnyH_get 8 (some 7) (.string S7) rfl rfl (by kernel_rfl) (by kernel_rfl) (by kernel_rfl) (fun _ _ _ h => h) (by rfl) hHeld ?_ ?_
      · (intro w hSw; (try dsimp only at hSw); go_simp; all_goals (try with_reducible rfl))
      (try simp only [Act.put, List.setIfInBounds_toArray, List.set_cons_zero, List.set_cons_succ])
      refine wpAnyH_get 9 (some 8) (.int .i64 EV) rfl rfl (by kernel_rfl) (by kernel_rfl) (by kernel_rfl) (fun _ _ _ h => h) (by rfl) hHeld ?_ ?_
      · (intro w hSw; (try dsimp only at hSw); go_simp; all_goals (try with_reducible rfl))
      (try simp only [Act.put, List.setIfInBounds_toArray, List.set_cons_zero, List.set_cons_succ])
      refine wpAnyH_done (by kernel_rfl) ?_ _
      go_wp2
      go_meet
      exact ⟨rfl, rfl, Lib.hid BZ3⟩
    obtain ⟨rfl, rfl, HBC⟩ := hcut
    obtain ⟨x0, x1, x2, _, _, _⟩ := (HB5.out.keep HBC.out HB5.out.lt).three
    obtain ⟨y0, y1, _, _⟩ := (HB6.out.keep HBC.out HB6.out.lt).two
    clear HWR HWP HVV
    rcases HCASE.out with ⟨huv, hS, hE⟩ | ⟨huv, hdeg, hS, hE⟩ | ⟨huv, hdeg, hS, hE, hmem, hsh⟩
    · subst hS hE
      have e1 : decide ((u : Int) = (v : Int)) = false := decide_eq_false (by omega)
      have e1' : ((u : Int) = (v : Int)) = False := eq_false (by omega)
      have e1'' : (u = v) = False := eq_false huv
      have e1b : ((u : Int) == (v : Int)) = false := beq_eq_false_iff_ne.2 (by omega)
      clear huv
      go_wp2_with (go_at_call 9; refine (HKN.out _ HBC.out).mono ?_; rintro e wz ⟨rfl, hbz⟩)
      go_ret
      exact ⟨rfl, below_all HBT5.out (below_all HBC.out hbz)⟩
    · subst hS hE
      subst huv
      have HDG : Hid (∀ V, Below wc.heap.size wc V → Calls Tryz.prog 31 #[.agg #[.int .i64 (u : Nat), .slice RP nP cP]] V fun e w' => e = .returned (.int .i64 (topd (oP.map TQ.qe))) ∧ Below V.heap.size V w') := Lib.hid (fun V hb => rdeg6_any u 5 nP RP cP oP V (HQP.out.keep (below_all HBC.out hb)) HNP.out (fun t ht => (HDP.out.ok.mem t.qe (qe_mem ht)).2) (by omega) (by omega))
      generalize topd (oP.map TQ.qe) = z at *
      have dz : decide ((d : Int) < z) = true := decide_eq_true hdeg
      have hzb : Hid (z = z) := Lib.hid rfl
      clear hdeg
      go_upto_region 10 with (fail)
      go_cut [49] (fun s49 wx => s49 = .bool true ∧ Hid (Below W5.heap.size W5 wx))
      case first =>
        clear HKN
        have hbe : Below wc.heap.size wc wc.drew := (Below.refl _ _).drew
        go_region_held3 (fun w' => w'.cell? ⟨g4, 1, none⟩ = some (.int .i64 (d : Nat)) ∧ w'.cell? ⟨g6, 0, none⟩ = some (.int .i64 (u : Nat)) ∧ w'.cell? ⟨g6, 1, none⟩ = some (.slice RP nP cP))
          (first | exact ⟨keep_cell hbe x1, keep_cell hbe y0, keep_cell hbe y1⟩ | go_keep)
          (first | (go_at_call 31; with_reducible refine Calls.mono (HDG.out _ (by assumption)) ?_; rintro e w7 ⟨rfl, hb7⟩; have hbe := below_all hbe hb7))
        all_goals
          go_wp2
          go_meet
          exact ⟨rfl, Lib.hid (below_all HBC.out hbe)⟩
      obtain ⟨rfl, HBD⟩ := hcut
      go_wp2_with (go_at_call 9; refine (HKN.out _ HBD.out).mono ?_; rintro e wz ⟨rfl, hbz⟩)
      go_ret
      exact ⟨rfl, below_all HBT5.out (below_all HBD.out hbz)⟩
    · subst hE
      subst huv
      have HLV : Hid (∀ V, Below W5.heap.size W5 V → Calls Tryz.prog 32 #[.agg #[.int .i64 (u : Nat), .int .i64 (d : Nat), .slice AL n cL], .agg #[.int .i64 (u : Nat), .slice RP nP cP]] V fun e w' => ∃ r : RVal, r.q = lin φ (oP.map TQ.qe) ∧ e = .returned (.agg #[.bool (decide (r.q.num < 0)), .slice r.N (dg r.q.num.natAbs).length r.cn, .bool false, .slice r.D (dg (dnz r.q.den)).length r.cd]) ∧ r.Ok w' ∧ Below V.heap.size V w') := Lib.hid (fun V hb => lval_any u d n φ AL cL rs (u : Nat) RP cP nP oP V (HO5.out.keep hb) HRL.out HCN.out HFI.out (HQP.out.keep hb) HNP.out (lvok_of HDP.out hmem HFB.out) hu1 (by omega) (by omega) (by omega))
      have HTX : Hid (∀ (r : RVal) V, r.q = lin φ (oP.map TQ.qe) → r.Ok V → Calls Tryz.prog 22 #[.agg #[.bool (decide (r.q.num < 0)), .slice r.N (dg r.q.num.natAbs).length r.cn, .bool false, .slice r.D (dg (dnz r.q.den)).length r.cd]] V fun e w' => e = .returned (.string S7) ∧ Below V.heap.size V w') := Lib.hid (fun r V hq hok => by
        have h := text_q r.q r.val V hok.at (by rw [hq]; exact hsh)
        rw [hq, ← hS] at h
        exact h)
      clear hmem hsh hS
      have HDG : Hid (∀ V, Below wc.heap.size wc V → Calls Tryz.prog 31 #[.agg #[.int .i64 (u : Nat), .slice RP nP cP]] V fun e w' => e = .returned (.int .i64 (topd (oP.map TQ.qe))) ∧ Below V.heap.size V w') := Lib.hid (fun V hb => rdeg6_any u 5 nP RP cP oP V (HQP.out.keep (below_all HBC.out hb)) HNP.out (fun t ht => (HDP.out.ok.mem t.qe (qe_mem ht)).2) (by omega) (by omega))
      generalize topd (oP.map TQ.qe) = z at *
      have dz : decide ((d : Int) < z) = false := decide_eq_false (by omega)
      have hzb : Hid (z = z) := Lib.hid rfl
      clear hdeg
      go_upto_region 10 with (fail)
      go_cut [49] (fun s49 wx => s49 = .bool false ∧ Hid (Below W5.heap.size W5 wx))
      case first =>
        clear HKN
        have hbe : Below wc.heap.size wc wc.drew := (Below.refl _ _).drew
        go_region_held3 (fun w' => w'.cell? ⟨g4, 1, none⟩ = some (.int .i64 (d : Nat)) ∧ w'.cell? ⟨g6, 0, none⟩ = some (.int .i64 (u : Nat)) ∧ w'.cell? ⟨g6, 1, none⟩ = some (.slice RP nP cP))
          (first | exact ⟨keep_cell hbe x1, keep_cell hbe y0, keep_cell hbe y1⟩ | go_keep)
          (first | (go_at_call 31; with_reducible refine Calls.mono (HDG.out _ (by assumption)) ?_; rintro e w7 ⟨rfl, hb7⟩; have hbe := below_all hbe hb7))
        all_goals
          go_wp2
          go_meet
          exact ⟨rfl, Lib.hid (below_all HBC.out hbe)⟩
      obtain ⟨rfl, HBD⟩ := hcut
      obtain ⟨x0, x1, x2, _, _, _⟩ := (HB5.out.keep HBD.out HB5.out.lt).three
      obtain ⟨y0, y1, _, _⟩ := (HB6.out.keep HBD.out HB6.out.lt).two
      go_wp2_with (first
        | (go_at_call 9; refine (HKN.out _ HBD.out).mono ?_; rintro e wz ⟨rfl, hbz⟩; have HBZ := Lib.hid (below_all HBD.out hbz); obtain ⟨x0, x1, x2, _, _, _⟩ := (HB5.out.keep HBZ.out HB5.out.lt).three; obtain ⟨y0, y1, _, _⟩ := (HB6.out.keep HBZ.out HB6.out.lt).two)
        | (go_at_call 32; refine (HLV.out _ HBZ.out).mono ?_; rintro e wy ⟨r, hrq, rfl, hrok, hby⟩; have HTX1 := Lib.hid (HTX.out r wy hrq hrok); have HBY := Lib.hid (below_all HBZ.out hby); clear hrq hrok hby)
        | (go_at_call 22; refine HTX1.out.mono ?_; rintro e wx ⟨rfl, hbx⟩))
      go_ret
      exact ⟨rfl, below_all HBT5.out (below_all HBY.out hbx)⟩
  · have e0 : decide ((k3 : Int) = 0) = false := decide_eq_false (by omega)
    have e0' : ((k3 : Int) == 0) = false := beq_eq_false_iff_ne.2 (by omega)
    have e0'' : ((k3 : Int) = 0) = False := eq_false (by omega)
    have e0n : (k3 = 0) = False := eq_false hk0
    have HT4 := HT3
    have HK4 := HK3
    clear hk0 HN3 HT3 HK3
    go_upto_region 6 with (fail)
    go_wp2_with (fail)
    refine (HPOL.out _ g v HT4.out hv1 hv3).mono ?_
    rintro e w5 ⟨_, rfl, ⟨RP, cP, oP, DP, rfl, hQP, hlP, hDP⟩, hT5, ht5⟩
    have HK5 := Lib.hid (HK4.out.trans ht5)
    have HQP := Lib.hid hQP
    have HDP := Lib.hid hDP
    have HBT5 : Hid (Below w.heap.size w w5) := Lib.hid (Tk.below HBT2.out HK5.out hgw)
    have HB5 : Hid (Blk w5 g4 29 #[.int .i64 (v : Nat), .int .i64 (d : Nat), .slice AL n cL]) := Lib.hid ((HK5.out.block _ HB4.out.lt (fun e => by injection e with e; omega)).trans HB4.out)
    have HO5 : Hid (QsAt w5 AL rs) := Lib.hid (by
      obtain ⟨cs, B⟩ := HT2.out.blk
      exact Fi.OwnQ.qs (HO2.out.tk HK5.out hg1 B (by decide)))
    obtain ⟨nP, hnP⟩ : ∃ x, oP.length = x := ⟨_, rfl⟩
    rw [hnP]
    rw [hnP] at hlP
    have HNP := Lib.hid hnP
    clear hQP hDP hT5 ht5 hnP HK4 HK5 HT4 HT2 HB4 HO2 HPOL HBT2
    go_upto_region 7 with (fail)
    obtain ⟨W5, hW5⟩ : ∃ x, w5.alloc (.cells #[.int .i64 (v : Nat), .slice RP nP cP] 65) = x := ⟨_, rfl⟩
    rw [hW5]
    have hb5 : Below w5.heap.size w5 W5 := by rw [← hW5]; exact (Below.refl _ _).alloc (Nat.le_refl _) _
    have HB6 : Hid (Blk W5 w5.heap.size 65 #[.int .i64 (v : Nat), .slice RP nP cP]) := Lib.hid (by rw [← hW5]; exact Blk.new _ _ _)
    have HB5 := Lib.hid (HB5.out.keep hb5 HB5.out.lt)
    have HO5 := Lib.hid (HO5.out.keep hb5)
    have HQP := Lib.hid (HQP.out.keep hb5)
    have HBT5 := Lib.hid (below_all HBT5.out hb5)
    generalize w5.heap.size = g6 at *
    clear hW5 hb5
    have HWR : Hid (∀ V, Below W5.heap.size W5 V → Calls Tryz.prog 24 #[.agg #[.int .i64 (v : Nat), .int .i64 (d : Nat), .slice AL n cL]] V fun e w' => ∃ B, e = .returned (.agg #[.int .i64 (v : Nat), .int .i64 (d : Nat), .slice B n n]) ∧ Txts w' B ((mons v d).map φ) ∧ Below V.heap.size V w') := Lib.hid (fun V hb => by
      have h := write_q v d AL cL rs V (HO5.out.keep hb) (fun r hr => by
        have h1 : r.q ∈ (mons v d).map φ := by rw [← HFI.out]; exact List.mem_map.2 ⟨r, hr, rfl⟩
        obtain ⟨m, hm, e⟩ := List.mem_map.1 h1
        rw [← e]; exact (HFB.out m hm).sh (by decide) (by decide) (by decide)) (by have := HRL.out; omega)
      rw [HRL.out, HFI.out] at h
      exact h)
    have HWP : Hid (∀ V, Below W5.heap.size W5 V → Calls Tryz.prog 30 #[.agg #[.int .i64 (v : Nat), .slice RP nP cP]] V fun e w' => ∃ T cT tv, e = .returned (.agg #[.int .i64 (v : Nat), .slice T nP cT]) ∧ PolyAt w' v 5 T nP tv (oP.map TQ.qe) ∧ Below V.heap.size V w') := Lib.hid (fun V hb => wr_poly v 5 oP RP cP nP V (HQP.out.keep hb) HNP.out HDP.out.ok HDP.out.sh (by omega))
    have HPT5 : Hid (PT W5) := Lib.hid (HPT.out.keep HBT5.out)
    have HTA5 : Hid (Tab W5) := Lib.hid (HTA.out.below HBT5.out HTA.out.1)
    obtain ⟨S7, EV, hVV, hcase⟩ := value_cases v d n v nP DP φ oP W5 HCN.out HFB.out HDP.out hv1 hv3 hv3 hd4 hn35 HPT5.out HTA5.out
    have HVV := Lib.hid hVV
    have HCASE := Lib.hid hcase
    have HKN : Hid (∀ V, Below W5.heap.size W5 V → Calls Tryz.prog 9 #[] V fun e w' => e = .returned (.bool true) ∧ Below V.heap.size V w') := Lib.hid (fun V hb => known_any V (HPT5.out.keep hb))
    clear hVV hcase HPT HTA HPT5 HTA5
    obtain ⟨x0, x1, x2, _, _, _⟩ := HB5.out.three
    obtain ⟨y0, y1, _, _⟩ := HB6.out.two
    go_cut [7, 8] (fun s7 s8 wx => s7 = .string S7 ∧ s8 = .int .i64 EV ∧ Hid (Below W5.heap.size W5 wx))
    case first =>
      have BZ : Below W5.heap.size W5 W5.drew := (Below.refl _ _).drew
      refine wp_region_held_drew (S := (fun w' => w'.cell? ⟨g4, 0, none⟩ = some (.int .i64 (v : Nat)) ∧ w'.cell? ⟨g4, 1, none⟩ = some (.int .i64 (d : Nat)) ∧ w'.cell? ⟨g4, 2, none⟩ = some (.slice AL n cL) ∧ w'.cell? ⟨g6, 0, none⟩ = some (.int .i64 (v : Nat)) ∧ w'.cell? ⟨g6, 1, none⟩ = some (.slice RP nP cP))) (by kernel_rfl) ⟨keep_cell BZ x0, keep_cell BZ x1, keep_cell BZ x2, keep_cell BZ y0, keep_cell BZ y1⟩ (fun hHeld => ?_)
      generalize W5.drew = Z at *
      refine wpAnyH_get 0 (some 25) (.agg #[.int .i64 (v : Nat), .int .i64 (d : Nat), .slice AL n cL]) rfl rfl (by kernel_rfl) (by kernel_rfl) (by kernel_rfl) (fun _ _ _ h => h) (by rfl) hHeld ?_ ?_
      · (intro w hSw; (try dsimp only at hSw); go_simp; all_goals (try with_reducible rfl))
      (try simp only [Act.put, List.setIfInBounds_toArray, List.set_cons_zero, List.set_cons_succ])
      refine wpAnyH_get 2 (some 27) (.agg #[.int .i64 (v : Nat), .slice RP nP cP]) rfl rfl (by kernel_rfl) (by kernel_rfl) (by kernel_rfl) (fun _ _ _ h => h) (by rfl) hHeld ?_ ?_
      · (intro w hSw; (try dsimp only at hSw); go_simp; all_goals (try with_reducible rfl))
      (try simp only [Act.put, List.setIfInBounds_toArray, List.set_cons_zero, List.set_cons_succ])
      refine wpAnyH_ready (rs := [1]) (by kernel_rfl) (by simp) ?_
      refine AllReadyH.cons rfl (fun K hK => ?_) AllReadyH.nil
      go_simp
      refine (HWR.out _ BZ).mono ?_
      rintro e Z1 ⟨B7, rfl, hTX, hb⟩
      have HTX := Lib.hid hTX
      have BZ1 := below_all BZ hb
      clear hTX hb
      (try go_simp)
      refine hK.out _ _ ⟨keep_cell BZ1 x0, keep_cell BZ1 x1, keep_cell BZ1 x2, keep_cell BZ1 y0, keep_cell BZ1 y1⟩ (fun hHeld => ?_)
      clear hK K
      (try simp only [Act.put, List.setIfInBounds_toArray, List.set_cons_zero, List.set_cons_succ])
      refine wpAnyH_ready (rs := [3]) (by kernel_rfl) (by simp) ?_
      refine AllReadyH.cons rfl (fun K hK => ?_) AllReadyH.nil
      go_simp
      refine (HWP.out _ BZ1).mono ?_
      rintro e Z2 ⟨TP, cTP, tvP, rfl, hPP, hb⟩
      have HPP := Lib.hid hPP
      have BZ2 := below_all BZ1 hb
      have HTX := Lib.hid (HTX.out.keep hb)
      clear hPP hb
      (try go_simp)
      refine hK.out _ _ ⟨keep_cell BZ2 x0, keep_cell BZ2 x1, keep_cell BZ2 x2, keep_cell BZ2 y0, keep_cell BZ2 y1⟩ (fun hHeld => ?_)
      clear hK K
      (try simp only [Act.put, List.setIfInBounds_toArray, List.set_cons_zero, List.set_cons_succ])
      refine wpAnyH_ready (rs := [4]) (by kernel_rfl) (by simp) ?_
      refine AllReadyH.cons rfl (fun K hK => ?_) AllReadyH.nil
      go_simp
      refine (HVV.out _ _ _ _ _ BZ2 HTX.out HPP.out).mono ?_
      rintro e Z3 ⟨rfl, hb⟩
      have BZ3 := below_all BZ2 hb
      clear hb
      (try go_simp)
      refine hK.out _ _ ⟨keep_cell BZ3 x0, keep_cell BZ3 x1, keep_cell BZ3 x2, keep_cell BZ3 y0, keep_cell BZ3 y1⟩ (fun hHeld => ?_)
      clear hK K
      (try simp only [Act.put, List.setIfInBounds_toArray, List.set_cons_zero, List.set_cons_succ])
      refine wpAnyH_get 5 (some 24) (.tuple #[.string S7, .int .i64 EV]) rfl rfl (by kernel_rfl) (by kernel_rfl) (by kernel_rfl) (fun _ _ _ h => h) (by rfl) hHeld ?_ ?_
      · (intro w hSw; (try dsimp only at hSw); go_simp; all_goals (try with_reducible rfl))
      (try simp only [Act.put, List.setIfInBounds_toArray, List.set_cons_zero, List.set_cons_succ])
      refine wpAnyH_get 6 (some 30) (.string S7) rfl rfl (by kernel_rfl) (by kernel_rfl) (by kernel_rfl) (fun _ _ _ h => h) (by rfl) hHeld ?_ ?_
      · (intro w hSw; (try dsimp only at hSw); go_simp; all_goals (try with_reducible rfl))
      (try simp only [Act.put, List.setIfInBounds_toArray, List.set_cons_zero, List.set_cons_succ])
      refine wpAnyH_get 7 (some 31) (.int .i64 EV) rfl rfl (by kernel_rfl) (by kernel_rfl) (by kernel_rfl) (fun _ _ _ h => h) (by rfl) hHeld ?_ ?_
      · (intro w hSw; (try dsimp only at hSw); go_simp; all_goals (try with_reducible rfl))
      (try simp only [Act.put, List.setIfInBounds_toArray, List.set_cons_zero, List.set_cons_succ])
      refine wpAnyH_get 8 (some 7) (.string S7) rfl rfl (by kernel_rfl) (by kernel_rfl) (by kernel_rfl) (fun _ _ _ h => h) (by rfl) hHeld ?_ ?_
      · (intro w hSw; (try dsimp only at hSw); go_simp; all_goals (try with_reducible rfl))
      (try simp only [Act.put, List.setIfInBounds_toArray, List.set_cons_zero, List.set_cons_succ])
      refine wpAnyH_get 9 (some 8) (.int .i64 EV) rfl rfl (by kernel_rfl) (by kernel_rfl) (by kernel_rfl) (fun _ _ _ h => h) (by rfl) hHeld ?_ ?_
      · (intro w hSw; (try dsimp only at hSw); go_simp; all_goals (try with_reducible rfl))
      (try simp only [Act.put, List.setIfInBounds_toArray, List.set_cons_zero, List.set_cons_succ])
      refine wpAnyH_done (by kernel_rfl) ?_ _
      go_wp2
      go_meet
      exact ⟨rfl, rfl, Lib.hid BZ3⟩
    obtain ⟨rfl, rfl, HBC⟩ := hcut
    obtain ⟨x0, x1, x2, _, _, _⟩ := (HB5.out.keep HBC.out HB5.out.lt).three
    obtain ⟨y0, y1, _, _⟩ := (HB6.out.keep HBC.out HB6.out.lt).two
    clear HWR HWP HVV
    rcases HCASE.out with ⟨huv, hS, hE⟩ | ⟨huv, hdeg, hS, hE⟩ | ⟨huv, hdeg, hS, hE, hmem, hsh⟩
    · exact absurd rfl huv
    · subst hS hE
      clear huv
      have HDG : Hid (∀ V, Below wc.heap.size wc V → Calls Tryz.prog 31 #[.agg #[.int .i64 (v : Nat), .slice RP nP cP]] V fun e w' => e = .returned (.int .i64 (topd (oP.map TQ.qe))) ∧ Below V.heap.size V w') := Lib.hid (fun V hb => rdeg6_any v 5 nP RP cP oP V (HQP.out.keep (below_all HBC.out hb)) HNP.out (fun t ht => (HDP.out.ok.mem t.qe (qe_mem ht)).2) (by omega) (by omega))
      generalize topd (oP.map TQ.qe) = z at *
      have dz : decide ((d : Int) < z) = true := decide_eq_true hdeg
      have hzb : Hid (z = z) := Lib.hid rfl
      clear hdeg
      go_upto_region 10 with (fail)
      go_cut [49] (fun s49 wx => s49 = .bool true ∧ Hid (Below W5.heap.size W5 wx))
      case first =>
        clear HKN
        have hbe : Below wc.heap.size wc wc.drew := (Below.refl _ _).drew
        go_region_held3 (fun w' => w'.cell? ⟨g4, 1, none⟩ = some (.int .i64 (d : Nat)) ∧ w'.cell? ⟨g6, 0, none⟩ = some (.int .i64 (v : Nat)) ∧ w'.cell? ⟨g6, 1, none⟩ = some (.slice RP nP cP))
          (first | exact ⟨keep_cell hbe x1, keep_cell hbe y0, keep_cell hbe y1⟩ | go_keep)
          (first | (go_at_call 31; with_reducible refine Calls.mono (HDG.out _ (by assumption)) ?_; rintro e w7 ⟨rfl, hb7⟩; have hbe := below_all hbe hb7))
        all_goals
          go_wp2
          go_meet
          exact ⟨rfl, Lib.hid (below_all HBC.out hbe)⟩
      obtain ⟨rfl, HBD⟩ := hcut
      go_wp2_with (go_at_call 9; refine (HKN.out _ HBD.out).mono ?_; rintro e wz ⟨rfl, hbz⟩)
      go_ret
      exact ⟨rfl, below_all HBT5.out (below_all HBD.out hbz)⟩
    · subst hE
      clear huv
      have HLV : Hid (∀ V, Below W5.heap.size W5 V → Calls Tryz.prog 32 #[.agg #[.int .i64 (v : Nat), .int .i64 (d : Nat), .slice AL n cL], .agg #[.int .i64 (v : Nat), .slice RP nP cP]] V fun e w' => ∃ r : RVal, r.q = lin φ (oP.map TQ.qe) ∧ e = .returned (.agg #[.bool (decide (r.q.num < 0)), .slice r.N (dg r.q.num.natAbs).length r.cn, .bool false, .slice r.D (dg (dnz r.q.den)).length r.cd]) ∧ r.Ok w' ∧ Below V.heap.size V w') := Lib.hid (fun V hb => lval_any v d n φ AL cL rs (v : Nat) RP cP nP oP V (HO5.out.keep hb) HRL.out HCN.out HFI.out (HQP.out.keep hb) HNP.out (lvok_of HDP.out hmem HFB.out) hv1 (by omega) (by omega) (by omega))
      have HTX : Hid (∀ (r : RVal) V, r.q = lin φ (oP.map TQ.qe) → r.Ok V → Calls Tryz.prog 22 #[.agg #[.bool (decide (r.q.num < 0)), .slice r.N (dg r.q.num.natAbs).length r.cn, .bool false, .slice r.D (dg (dnz r.q.den)).length r.cd]] V fun e w' => e = .returned (.string S7) ∧ Below V.heap.size V w') := Lib.hid (fun r V hq hok => by
        have h := text_q r.q r.val V hok.at (by rw [hq]; exact hsh)
        rw [hq, ← hS] at h
        exact h)
      clear hmem hsh hS
      have HDG : Hid (∀ V, Below wc.heap.size wc V → Calls Tryz.prog 31 #[.agg #[.int .i64 (v : Nat), .slice RP nP cP]] V fun e w' => e = .returned (.int .i64 (topd (oP.map TQ.qe))) ∧ Below V.heap.size V w') := Lib.hid (fun V hb => rdeg6_any v 5 nP RP cP oP V (HQP.out.keep (below_all HBC.out hb)) HNP.out (fun t ht => (HDP.out.ok.mem t.qe (qe_mem ht)).2) (by omega) (by omega))
      generalize topd (oP.map TQ.qe) = z at *
      have dz : decide ((d : Int) < z) = false := decide_eq_false (by omega)
      have hzb : Hid (z = z) := Lib.hid rfl
      clear hdeg
      go_upto_region 10 with (fail)
      go_cut [49] (fun s49 wx => s49 = .bool false ∧ Hid (Below W5.heap.size W5 wx))
      case first =>
        clear HKN
        have hbe : Below wc.heap.size wc wc.drew := (Below.refl _ _).drew
        go_region_held3 (fun w' => w'.cell? ⟨g4, 1, none⟩ = some (.int .i64 (d : Nat)) ∧ w'.cell? ⟨g6, 0, none⟩ = some (.int .i64 (v : Nat)) ∧ w'.cell? ⟨g6, 1, none⟩ = some (.slice RP nP cP))
          (first | exact ⟨keep_cell hbe x1, keep_cell hbe y0, keep_cell hbe y1⟩ | go_keep)
          (first | (go_at_call 31; with_reducible refine Calls.mono (HDG.out _ (by assumption)) ?_; rintro e w7 ⟨rfl, hb7⟩; have hbe := below_all hbe hb7))
        all_goals
          go_wp2
          go_meet
          exact ⟨rfl, Lib.hid (below_all HBC.out hbe)⟩
      obtain ⟨rfl, HBD⟩ := hcut
      obtain ⟨x0, x1, x2, _, _, _⟩ := (HB5.out.keep HBD.out HB5.out.lt).three
      obtain ⟨y0, y1, _, _⟩ := (HB6.out.keep HBD.out HB6.out.lt).two
      go_wp2_with (first
        | (go_at_call 9; refine (HKN.out _ HBD.out).mono ?_; rintro e wz ⟨rfl, hbz⟩; have HBZ := Lib.hid (below_all HBD.out hbz); obtain ⟨x0, x1, x2, _, _, _⟩ := (HB5.out.keep HBZ.out HB5.out.lt).three; obtain ⟨y0, y1, _, _⟩ := (HB6.out.keep HBZ.out HB6.out.lt).two)
        | (go_at_call 32; refine (HLV.out _ HBZ.out).mono ?_; rintro e wy ⟨r, hrq, rfl, hrok, hby⟩; have HTX1 := Lib.hid (HTX.out r wy hrq hrok); have HBY := Lib.hid (below_all HBZ.out hby); clear hrq hrok hby)
        | (go_at_call 22; refine HTX1.out.mono ?_; rintro e wx ⟨rfl, hbx⟩))
      go_ret
      exact ⟨rfl, below_all HBT5.out (below_all HBY.out hbx)⟩
end Go.Proofs.Tg
end
