/- Parts of the proof: WK7, WK8, RS2, RS3, XK2, XR4, RV2, RV3. -/
import Derived.Test.YtodapfjmgnekkaaGreatDoorMU14
import Derived.Test.YtodapfjmgnekkaaGreatDoorMU15
import Derived.Test.YtodapfjmgnekkaaGreatDoorMU19
section
/- The rounds, run. -/
namespace Go.Proofs.Tg
open Go.RowKit Go.Gr Go.Sp Go.Ev Go.Mo Go.Jt
set_option maxHeartbeats 4000000
set_option maxRecDepth 100000
/-- The rounds of a basis and a set of monomials. -/
noncomputable def rnd (b S : List (List Int)) (hb : b.length ≤ 64) : Rounds b.length := rounds b S (fun S' => ed_valid b S' hb)
theorem rnd_B (b S : List (List Int)) (hb : b.length ≤ 64) (t : Nat) : (rnd b S hb).B t = comps b (setAt b S t) := rfl
def RetRun (k : Nat) (b S : List (List Int)) (hb : b.length ≤ 64) (w : World) (e : Ending) (w' : World) : Prop :=
  ∃ m R c, (rnd b S hb).Final k m ∧ e = .returned (.tuple #[.slice R ((rnd b S hb).B (m - 1)).length c, .int .i64 (m : Nat), .int .i64 0]) ∧ Gx.ListsC w' R ((rnd b S hb).B (m - 1)) ∧ Below w.heap.size w w'
theorem run_any (V : Int) (T : Option Addr) (cT : Nat) (tv : List TV) (B : Option Addr) (cb : Nat) (b : List (List Int)) (n : Nat) (K : Nat) (w : World) (hP : TermsAt w T tv) (hB : Lists w B b) (hn : n ≤ 6) (hl : tv.length ≤ 4096) (hbl : b.length ≤ 64)
    (hd : ∀ t ∈ tv, domK n 24 t.exps) (hdb : ∀ m ∈ b, domK n 24 m) (hK : 1 ≤ K) (hT : Tab w) :
    Calls Tryz.prog 37 #[.agg #[.int .i64 V, .slice T tv.length cT], .slice B b.length cb, .int .i64 K] w (RetRun K b (S0 (exsOf tv) b) hbl w) := by
  have hbA : Below w.heap.size w (w.alloc (.cells #[.int .i64 V, .slice T tv.length cT] 24)) := (Below.refl _ _).alloc (Nat.le_refl _) _
  have HST := Lib.hid (start_any V T cT tv B cb b n _ (hP.keep hbA) (hB.keep hbA) hn hl hbl hd hdb)
  have HSZ : Hid (tv.length + b.length ≤ 5000) := Lib.hid (by omega)
  obtain ⟨S, hS⟩ : ∃ S, S0 (exsOf tv) b = S := ⟨_, rfl⟩
  have hST2 : ∃ c0, c0 ≤ 5000 ∧ ∀ e w', RetStart B cb b n tv (w.alloc (.cells #[.int .i64 V, .slice T tv.length cT] 24)) e w' → ∃ g mb, e = .returned (.pointer (some ⟨g, 0, none⟩)) ∧ w.heap.size ≤ mb ∧ ItAt w' g mb B cb b n c0 S ∧ Below w.heap.size w w' := by
    refine ⟨tv.length + b.length, HSZ.out, ?_⟩
    rintro e w' ⟨g, mb, h1, h2, h3, h4, h5⟩
    rw [hS] at h4
    refine ⟨g, mb, h1, ?_, h4, below_all hbA h5⟩
    have := hbA.size
    omega
  rw [hS]
  obtain ⟨c0, hc0, hST2⟩ := hST2
  have HST2 := Lib.hid hST2
  obtain ⟨R, hR⟩ : ∃ R, rnd b S hbl = R := ⟨_, rfl⟩
  have HRD : Hid (∀ W g mb cnt S' t, ItAt W g mb B cb b n cnt S' → cnt ≤ 100000000 → Tab W → (∀ v, v ∈ S' ↔ v ∈ setAt b S t) → Calls Tryz.prog 67 #[.pointer (some ⟨g, 0, none⟩)] W fun e w' =>
      ∃ R' c, e = .returned (.tuple #[.slice R' (R.B t).length c, .int .i64 0]) ∧ Gx.ListsC w' R' (R.B t) ∧ (∃ S'', ItAt w' g mb B cb b n (cnt + 270000) S'' ∧ ∀ v, v ∈ S'' ↔ v ∈ setAt b S (t + 1)) ∧ W.grownBy w' (some mb)) := Lib.hid (fun W g mb cnt S' t h1 h2 h3 h4 => by
    have hc : comps b S' = R.B t := by rw [← hR, rnd_B]; exact comps_set h4
    have := round_any g mb B cb n cnt b S' W h1 hn hbl hdb h2 h3
    unfold RetRound at this
    rw [hc] at this
    refine this.mono ?_
    rintro e w' ⟨R', c, q1, q2, ⟨S'', q3, q4⟩, q5⟩
    refine ⟨R', c, q1, q2, ⟨S'', q3, fun v => ?_⟩, q5⟩
    rw [q4, setAt_blks, h4, ← hR, rnd_B])
  have HM1 : Hid (R.Fell 1) := Lib.hid (fun t ht => by omega)
  have HMS : Hid (∀ m, R.Fell m → 1 ≤ m → (R.B m).length ≠ (R.B (m - 1)).length → R.Fell (m + 1)) := Lib.hid (fun m h1 h2 h3 => R.fell_succ h1 h2 h3)
  have HML : Hid (∀ m, R.Fell m → m ≤ 65) := Lib.hid (fun m h => by have := R.fell_le h; omega)
  have HBL : Hid (∀ t, (R.B t).length ≤ 64) := Lib.hid (fun t => by rw [← hR, rnd_B]; exact comps_len hbl)
  unfold RetRun
  rw [hR]
  have HT := Lib.hid hT
  clear hST2 hS hR hd hdb hbA hP hB hT HSZ
  go_enter Tryz.func37, Tryz.ntmps37
  go_upto_region 2 with (go_at_call 38; refine HST.out.mono ?_; rintro e w1 hst; obtain ⟨g, mb, rfl, hmb, hI1, hb1⟩ := HST2.out _ _ hst; clear hst)
  have HR0 := Lib.hid (HRD.out w1 g mb c0 S 0 hI1 (by omega) (HT.out.below hb1 HT.out.1) (fun v => Iff.rfl))
  have hmbl := hI1.set.mapB
  clear hI1 HST HST2
  go_upto_region 3 with (go_at_call 67; refine HR0.out.mono ?_; rintro e w2 ⟨R0, cr0, rfl, hL0, ⟨S1, hI2, hS1⟩, hg2⟩)
  have hb2 := below_turn hb1 hmbl hg2 hmb
  clear hmbl hg2 HR0 hb1
  go_wp2
  go_loopw [12, 10] (fun s12 s10 wr => ∃ (m : Nat) (R1 : Option Addr) (cr : Nat) (S1 : List (List Int)), s12 = .int .i64 m ∧ 1 ≤ m ∧ m ≤ K ∧ s10 = .slice R1 (R.B (m - 1)).length cr ∧ Hid (R.Fell m) ∧ ItAt wr g mb B cb b n (c0 + 270000 * m) S1 ∧ (∀ v, v ∈ S1 ↔ v ∈ setAt b S m) ∧ Gx.ListsC wr R1 (R.B (m - 1)) ∧ Below w.heap.size w wr) (fun s12 _ _ => K - (intOf s12).toNat)
  case atStart => exact ⟨1, R0, cr0, S1, rfl, by omega, hK, rfl, HM1, hI2, hS1, hL0, hb2⟩
  case round =>
    clear hI2 hS1 hL0 hb2
    obtain ⟨wo, rfl⟩ : ∃ wo : World, wo = wr := ⟨_, rfl⟩
    obtain ⟨m, R1, cr, S1, rfl, hm1, hmK, rfl, HF, hI, hS, hL, hb⟩ := hrel
    have hm65 := HML.out m HF.out
    by_cases hlt : m < K
    · have HR1 := Lib.hid (HRD.out wo g mb _ S1 m hI (by omega) (HT.out.below hb HT.out.1) hS)
      have hmbl := hI.set.mapB
      have dk : decide ((m : Int) < (K : Int)) = true := by simp; omega
      clear hI hS
      go_upto_region 8 with (go_at_call 67; refine HR1.out.mono ?_; rintro e w3 ⟨R2, cr2, rfl, hL2, ⟨S2, hI2, hS2⟩, hg3⟩)
      have hb3 := below_turn hb hmbl hg3 hmb
      have hL3 := listsC_turn hL hmbl hg3
      by_cases heq : (R.B m).length = (R.B (m - 1)).length
      · have hbq : (((R.B m).length : Int) == ((R.B (m - 1)).length : Int)) = true := by simp [heq]
        have HFN : Hid (R.Final K m) := Lib.hid ⟨hm1, hmK, HF.out, .inr heq⟩
        have HEQ := Lib.hid heq
        clear heq
        go_wp2
        refine bodyPost_ret (v := .tuple #[.slice R1 (R.B (m - 1)).length cr, .int .i64 (m : Nat), .int .i64 0]) (by simp [results, Tryz.results37, go_sem]) rfl ?_
        exact ⟨m, R1, cr, HFN.out, rfl, hL3, hb3⟩
      · have hbq : (((R.B m).length : Int) == ((R.B (m - 1)).length : Int)) = false := by simp; omega
        have HF2 := Lib.hid (HMS.out m HF.out hm1 heq)
        clear heq
        go_wp2
        go_roundw
        case rel => exact ⟨m + 1, R2, cr2, S2, by go_num, by omega, by omega, rfl, HF2, by rw [show c0 + 270000 * (m + 1) = c0 + 270000 * m + 270000 by omega]; exact hI2, hS2, hL2, hb3⟩
        case measure => simp [intOf]; omega
    · obtain rfl : m = K := by omega
      have dk : decide ((m : Int) < (m : Int)) = false := by simp
      have HFN : Hid (R.Final m m) := Lib.hid ⟨hm1, hmK, HF.out, .inl rfl⟩
      go_wp2
      refine bodyPost_ret (v := .tuple #[.slice R1 (R.B (m - 1)).length cr, .int .i64 (m : Nat), .int .i64 0]) (by simp [results, Tryz.results37, go_sem]) rfl ?_
      exact ⟨m, R1, cr, HFN.out, rfl, hL, hb⟩
end Go.Proofs.Tg
end
section
/- The exported functions: Graph, Blocks, Stable. -/
namespace Go.Proofs.Tg
open Go.RowKit Go.Gr Go.Sp Go.Ev Go.Mo Go.Jt
set_option maxHeartbeats 4000000
set_option maxRecDepth 100000
theorem dom_of {p : PVal} {ok : Bool} {b : List (List Int)} (hok : ok = true ↔ p.ok) (h : errS ok p.vars b = 0) : ∃ n : Nat, p.vars = n ∧ n ≤ 6 ∧ p.tv.length ≤ 4096 ∧ (∀ t ∈ p.tv, domK n 24 t.exps) ∧ (∀ m ∈ b, domK n 24 m) ∧ b.length ≤ 64 := by
  obtain ⟨h1, h2, h3, h4, _⟩ := errS_zero h
  have hp := hok.1 h1
  have h0 := hp.2.1.1
  have h6 := hp.2.1.2.1
  obtain ⟨n, hn⟩ : ∃ n : Nat, p.vars = n := ⟨p.vars.toNat, by omega⟩
  refine ⟨n, hn, by omega, by have := hp.1; rwa [List.length_map] at this, fun t ht => ?_, fun m hm => ?_, h4⟩
  · have hp' : VldP (n : Int) (p.tv.map TV.pl) := by rw [← hn]; exact hp
    exact vldP_dom hp' (TV.pl t) (List.mem_map.2 ⟨t, ht, rfl⟩)
  · have h5 := vld_dom (h2 m hm)
    have h7 := h3 m hm
    rwa [show m.length = n by omega] at h5
/-- The known monomials of a polynomial and a basis. -/
abbrev kn (p : PVal) (b : List (List Int)) : List (List Int) := S0 (exsOf p.tv) b
def RetSG (p : PVal) (b : List (List Int)) (er : Int) (w : World) (e : Ending) (w' : World) : Prop := Below w.heap.size w w' ∧
  ((er ≠ 0 ∧ e = .returned (.tuple #[Gx.zeroG, .int .i64 er])) ∨ (er = 0 ∧ ∃ F d, e = .returned (.tuple #[.agg #[.int .i64 b.length, .slice F (edTo b (kn p b) b.length).length d], .int .i64 0]) ∧ Gx.EdgesAt w' F (edTo b (kn p b) b.length)))
def RetSB (p : PVal) (b : List (List Int)) (hb : b.length ≤ 64) (er K : Int) (w : World) (e : Ending) (w' : World) : Prop := Below w.heap.size w w' ∧
  ((er ≠ 0 ∧ e = .returned (.tuple #[.slice none 0 0, .int .i64 er])) ∨ (er = 0 ∧ K < 1 ∧ e = .returned (.tuple #[.slice none 0 0, .int .i64 3])) ∨
    (er = 0 ∧ 1 ≤ K ∧ ∃ m R c, (rnd b (kn p b) hb).Final K.toNat m ∧ e = .returned (.tuple #[.slice R ((rnd b (kn p b) hb).B (m - 1)).length c, .int .i64 0]) ∧ Lists w' R ((rnd b (kn p b) hb).B (m - 1))))
def bigK : Nat := 9223372036854775807
def RetSS (p : PVal) (b : List (List Int)) (hb : b.length ≤ 64) (er : Int) (w : World) (e : Ending) (w' : World) : Prop := Below w.heap.size w w' ∧
  ((er ≠ 0 ∧ e = .returned (.tuple #[.slice none 0 0, .int .i64 0, .int .i64 er])) ∨
    (er = 0 ∧ ∃ m R c, (rnd b (kn p b) hb).Final bigK m ∧ e = .returned (.tuple #[.slice R ((rnd b (kn p b) hb).B (m - 1)).length c, .int .i64 (m : Nat), .int .i64 0]) ∧ Lists w' R ((rnd b (kn p b) hb).B (m - 1))))
theorem sstable_any (p : PVal) (B : Option Addr) (cb : Nat) (b : List (List Int)) (ok : Bool) (w : World) (hP : TermsAt w p.adr p.tv) (hsm : p.small) (hB : Lists w B b) (hbl : b.length ≤ 64) (hml : ∀ m ∈ b, m.length ≤ 1000) (hok : ok = true ↔ p.ok) (hT : Tab w) :
    Calls Tryz.prog 13 #[.agg #[.int .i64 p.vars, .slice p.adr p.tv.length p.cap], .slice B b.length cb] w (RetSS p b hbl (errS ok p.vars b) w) := by
  obtain ⟨W, hW⟩ : ∃ W, w.alloc (.cells #[.int .i64 p.vars, .slice p.adr p.tv.length p.cap] 24) = W := ⟨_, rfl⟩
  have hbA : Below w.heap.size w W := by rw [← hW]; exact (Below.refl _ _).alloc (Nat.le_refl _) _
  have B0 : Blk W w.heap.size 24 #[.int .i64 p.vars, .slice p.adr p.tv.length p.cap] := by rw [← hW]; exact Blk.new _ _ _
  have HCK := Lib.hid (scheck_any p B cb b ok W (hP.keep hbA) hsm (hB.keep hbA) hbl hml hok (hT.below hbA hT.1))
  have HRUN : Hid (∀ V, Below w.heap.size w V → errS ok p.vars b = 0 → Calls Tryz.prog 37 #[.agg #[.int .i64 p.vars, .slice p.adr p.tv.length p.cap], .slice B b.length cb, .int .i64 9223372036854775807] V (RetRun bigK b (kn p b) hbl V)) := Lib.hid (fun V hV he => by
    obtain ⟨n, hn, h6, hl, hd, hdb, _⟩ := dom_of hok he
    exact run_any p.vars p.adr p.cap p.tv B cb b n bigK V (hP.keep hV) (hB.keep hV) h6 hl hbl hd hdb (by decide) (hT.below hV hT.1))
  generalize errS ok p.vars b = er at *
  have HWW := Lib.hid hW
  obtain ⟨P, T, cT, tv⟩ := p
  simp only at *
  obtain ⟨c0, c1, _, _⟩ := B0.two
  clear hW hP hB hok hml hsm
  go_enter Tryz.func13, Tryz.ntmps13
  go_upto_region 1 with (fail)
  rw [HWW.out]
  clear HWW
  by_cases her : er = 0
  · subst her
    go_wp2_with (first
      | (go_at_call 36; refine HCK.out.mono ?_; rintro e w1 ⟨rfl, hb1⟩
         have C0 := B0.keep hb1 B0.lt
         obtain ⟨d0, d1, _, _⟩ := C0.two
         have hb2 := below_all hbA hb1)
      | (go_at_call 37; refine (HRUN.out _ hb2 (by trivial)).mono ?_; rintro e w3 ⟨m, R, c, hF, rfl, hL, hb3⟩))
    refine bodyPost_ret (v := _) (results_tmp3 rfl _ _ _) rfl ?_
    exact ⟨below_all hb2 hb3, .inr ⟨rfl, m, R, c, hF, rfl, hL.lists⟩⟩
  · have hne : (er != 0) = true := by simp [her]
    go_wp2_with (go_at_call 36; refine HCK.out.mono ?_; rintro e w1 ⟨rfl, hb1⟩)
    refine bodyPost_ret (v := _) (results_tmp3 rfl _ _ _) rfl ?_
    exact ⟨below_all hbA hb1, .inl ⟨her, rfl⟩⟩
theorem sblocks_any (p : PVal) (B : Option Addr) (cb : Nat) (b : List (List Int)) (ok : Bool) (w : World) (hP : TermsAt w p.adr p.tv) (hsm : p.small) (hB : Lists w B b) (hbl : b.length ≤ 64) (hml : ∀ m ∈ b, m.length ≤ 1000) (hok : ok = true ↔ p.ok) (hT : Tab w) (K : Int) :
    Calls Tryz.prog 12 #[.agg #[.int .i64 p.vars, .slice p.adr p.tv.length p.cap], .slice B b.length cb, .int .i64 K] w (RetSB p b hbl (errS ok p.vars b) K w) := by
  obtain ⟨W, hW⟩ : ∃ W, w.alloc (.cells #[.int .i64 p.vars, .slice p.adr p.tv.length p.cap] 24) = W := ⟨_, rfl⟩
  have hbA : Below w.heap.size w W := by rw [← hW]; exact (Below.refl _ _).alloc (Nat.le_refl _) _
  have B0 : Blk W w.heap.size 24 #[.int .i64 p.vars, .slice p.adr p.tv.length p.cap] := by rw [← hW]; exact Blk.new _ _ _
  have HCK := Lib.hid (scheck_any p B cb b ok W (hP.keep hbA) hsm (hB.keep hbA) hbl hml hok (hT.below hbA hT.1))
  have HRUN : Hid (∀ V, Below w.heap.size w V → errS ok p.vars b = 0 → 1 ≤ K → Calls Tryz.prog 37 #[.agg #[.int .i64 p.vars, .slice p.adr p.tv.length p.cap], .slice B b.length cb, .int .i64 K] V (RetRun K.toNat b (kn p b) hbl V)) := Lib.hid (fun V hV he hK => by
    obtain ⟨n, hn, h6, hl, hd, hdb, _⟩ := dom_of hok he
    have := run_any p.vars p.adr p.cap p.tv B cb b n K.toNat V (hP.keep hV) (hB.keep hV) h6 hl hbl hd hdb (by omega) (hT.below hV hT.1)
    rwa [show ((K.toNat : Nat) : Int) = K by omega] at this)
  generalize errS ok p.vars b = er at *
  have HWW := Lib.hid hW
  obtain ⟨P, T, cT, tv⟩ := p
  simp only at *
  obtain ⟨c0, c1, _, _⟩ := B0.two
  clear hW hP hB hok hml hsm
  go_enter Tryz.func12, Tryz.ntmps12
  go_upto_region 1 with (fail)
  rw [HWW.out]
  clear HWW
  by_cases her : er = 0
  · subst her
    by_cases hK : K < 1
    · have hk : decide (K < 1) = true := by simpa using hK
      go_wp2_with (go_at_call 36; refine HCK.out.mono ?_; rintro e w1 ⟨rfl, hb1⟩)
      go_ret2
      exact ⟨below_all hbA hb1, .inr (.inl ⟨rfl, hK, rfl⟩)⟩
    · have hk : decide (K < 1) = false := by simpa using hK
      have hK1 : 1 ≤ K := by omega
      go_wp2_with (first
        | (go_at_call 36; refine HCK.out.mono ?_; rintro e w1 ⟨rfl, hb1⟩
           have C0 := B0.keep hb1 B0.lt
           obtain ⟨d0, d1, _, _⟩ := C0.two
           have hb2 := below_all hbA hb1)
        | (go_at_call 37; refine (HRUN.out _ hb2 (by trivial) hK1).mono ?_; rintro e w3 ⟨m, R, c, hF, rfl, hL, hb3⟩))
      go_ret2
      exact ⟨below_all hb2 hb3, .inr (.inr ⟨rfl, hK1, m, R, c, hF, rfl, hL.lists⟩)⟩
  · have hne : (er != 0) = true := by simp [her]
    go_wp2_with (go_at_call 36; refine HCK.out.mono ?_; rintro e w1 ⟨rfl, hb1⟩)
    go_ret2
    exact ⟨below_all hbA hb1, .inl ⟨her, rfl⟩⟩
theorem sgraph_any (p : PVal) (B : Option Addr) (cb : Nat) (b : List (List Int)) (ok : Bool) (w : World) (hP : TermsAt w p.adr p.tv) (hsm : p.small) (hB : Lists w B b) (hbl : b.length ≤ 64) (hml : ∀ m ∈ b, m.length ≤ 1000) (hok : ok = true ↔ p.ok) (hT : Tab w) :
    Calls Tryz.prog 16 #[.agg #[.int .i64 p.vars, .slice p.adr p.tv.length p.cap], .slice B b.length cb] w (RetSG p b (errS ok p.vars b) w) := by
  obtain ⟨W, hW⟩ : ∃ W, (w.alloc (.cells #[.int .i64 p.vars, .slice p.adr p.tv.length p.cap] 24)).alloc (.cells #[.int .i64 0, .slice none 0 0] 40) = W := ⟨_, rfl⟩
  have hbA : Below w.heap.size w W := by rw [← hW]; exact ((Below.refl _ _).alloc (Nat.le_refl _) _).alloc (by simp) _
  have B0 : Blk W w.heap.size 24 #[.int .i64 p.vars, .slice p.adr p.tv.length p.cap] := by rw [← hW]; exact (Blk.new _ _ _).alloc _
  have B1 : Blk W (w.heap.size + 1) 40 #[.int .i64 0, .slice none 0 0] := by
    rw [← hW]; have := Blk.new (w.alloc (.cells #[.int .i64 p.vars, .slice p.adr p.tv.length p.cap] 24)) 40 #[.int .i64 0, .slice none 0 0]
    simpa using this
  have HCK := Lib.hid (scheck_any p B cb b ok W (hP.keep hbA) hsm (hB.keep hbA) hbl hml hok (hT.below hbA hT.1))
  have HST : Hid (∀ V, Below w.heap.size w V → errS ok p.vars b = 0 → Calls Tryz.prog 38 #[.agg #[.int .i64 p.vars, .slice p.adr p.tv.length p.cap], .slice B b.length cb] V fun e w' => ∃ g, e = .returned (.pointer (some ⟨g, 0, none⟩)) ∧ Below V.heap.size V w' ∧
      Calls Tryz.prog 39 #[.pointer (some ⟨g, 0, none⟩)] w' (RetEd b (kn p b) w')) := Lib.hid (fun V hV he => by
    obtain ⟨n, hn, h6, hl, hd, hdb, _⟩ := dom_of hok he
    refine (start_any p.vars p.adr p.cap p.tv B cb b n V (hP.keep hV) (hB.keep hV) h6 hl hbl hd hdb).mono ?_
    rintro e w' ⟨g, mb, h1, _, _, h4, h5⟩
    have hT2 : Tab w' := hT.below (below_all hV h5) hT.1
    exact ⟨g, h1, h5, igraph_any g mb B cb n _ b _ w' h4 h6 hbl hdb hT2⟩)
  generalize errS ok p.vars b = er at *
  have HWW := Lib.hid hW
  obtain ⟨P, T, cT, tv⟩ := p
  simp only at *
  obtain ⟨c0, c1, _, _⟩ := B0.two
  clear hW hP hB hok hml hsm
  go_enter Tryz.func16, Tryz.ntmps16
  go_upto_region 1 with (fail)
  rw [HWW.out]
  clear HWW
  by_cases her : er = 0
  · subst her
    go_wp2_with (first
      | (go_at_call 36; refine HCK.out.mono ?_; rintro e w1 ⟨rfl, hb1⟩
         have C0 := B0.keep hb1 B0.lt
         have C1 := B1.keep hb1 B1.lt
         obtain ⟨d0, d1, _, _⟩ := C0.two
         have hb2 := below_all hbA hb1)
      | (go_at_call 38; refine (HST.out _ hb2 (by trivial)).mono ?_; rintro e w3 ⟨g, rfl, hb3, HGR⟩
         have C3 := C1.keep hb3 C1.lt)
      | (go_at_call 39; refine HGR.mono ?_; rintro e w4 ⟨F, d, rfl, hF, hb4⟩
         have C4 := C3.keep hb4 C3.lt
         obtain ⟨z0, z1, y0, y1⟩ := C4.two
         have hl4 := C4.lt))
    refine bodyPost_ret (v := _) (Gx.results_g (p := 4) (q := 5) rfl _ _ (w.heap.size + 1) _ _ rfl (Gx.blk_two C4)) rfl ?_
    have hne := own_blk_ne hF C4 (by decide)
    exact ⟨below_far (below_far (below_all (below_all hb2 hb3) hb4) (by omega) _ _) (by omega) _ _, .inr ⟨rfl, F, d, rfl, Sl.own (own_far (own_far hF hne _) hne _)⟩⟩
  · have hne : (er != 0) = true := by simp [her]
    go_wp2_with (go_at_call 36; refine HCK.out.mono ?_; rintro e w1 ⟨rfl, hb1⟩
                 have C1 := B1.keep hb1 B1.lt
                 obtain ⟨z0, z1, y0, y1⟩ := C1.two
                 have hl4 := C1.lt)
    refine bodyPost_ret (v := _) (Gx.results_g (p := 4) (q := 5) rfl _ _ (w.heap.size + 1) _ _ rfl (Gx.blk_two C1)) rfl ?_
    exact ⟨below_far (below_far (below_all hbA hb1) (by omega) _ _) (by omega) _ _, .inl ⟨her, rfl⟩⟩
end Go.Proofs.Tg
end
section
/- The reference's check of a polynomial and a basis. -/
namespace Go.Proofs.Tg.Sx
open Go.RowKit Go.Gr Go.Sp Go.Ev Go.Mo Go.Qn
set_option maxHeartbeats 4000000
set_option maxRecDepth 100000
theorem take_all_iff {α : Type} {l : List α} {k : Nat} {P : α → Prop} (hk : k < l.length) : (∀ x ∈ l.take (k + 1), P x) ↔ (∀ x ∈ l.take k, P x) ∧ P l[k] := by
  constructor
  · exact fun h => ⟨fun x hx => h x ((take_mem_succ hk x).1 (List.mem_cons_of_mem _ hx)), h _ ((take_mem_succ hk _).1 (List.mem_cons_self ..))⟩
  · rintro ⟨h1, h2⟩ x hx
    rcases List.mem_cons.1 ((take_mem_succ hk x).2 hx) with rfl | h
    · exact h2
    · exact h1 x h
theorem rbasis_any (V : Int) (O : Option Addr) (no co : Nat) (ok : Bool) (B : Option Addr) (cb : Nat) (b : List (List Int)) (w : World) (hB : Lists w B b) (hbl : b.length ≤ 64) (hml : ∀ m ∈ b, m.length ≤ 1000) :
    Calls Tryz.prog 69 #[.agg #[.int .i64 V, .slice O no co], .bool ok, .slice B b.length cb] w fun e w' => e = .returned (.int .i64 (errS ok V b)) ∧ Below w.heap.size w w' := by
  obtain ⟨W, hW⟩ : ∃ W, w.alloc (.cells #[.int .i64 V, .slice O no co] 47) = W := ⟨_, rfl⟩
  have hbA : Below w.heap.size w W := by rw [← hW]; exact (Below.refl _ _).alloc (Nat.le_refl _) _
  have B0 : Blk W w.heap.size 47 #[.int .i64 V, .slice O no co] := by rw [← hW]; exact Blk.new _ _ _
  have HML := Lib.hid hml
  have hL := hB.keep hbA
  have HWW := Lib.hid hW
  have hgl := B0.lt
  clear hml hW hB
  obtain ⟨c0, c1, _, _⟩ := B0.two
  go_enter Tryz.func69, Tryz.ntmps69
  go_upto_region 1 with (fail)
  rw [HWW.out]
  clear HWW
  go_wp2
  go_loop [7, 1] (fun s7 s1 => ∃ (k : Nat) (q : Bool), s7 = .int .i64 k ∧ k ≤ b.length ∧ s1 = .bool q ∧ Hid (q = true ↔ ok = true ∧ ∀ m ∈ b.take k, vldM m = true)) (fun s7 _ => b.length - (intOf s7).toNat)
  case atStart => exact ⟨0, ok, rfl, Nat.zero_le _, rfl, Lib.hid (by simp)⟩
  case round =>
    obtain ⟨k, q, rfl, hk, rfl, HG⟩ := hrel
    by_cases hlt : k < b.length
    · obtain ⟨ad, A, c, rfl, hc, hA⟩ := hL.at hlt
      have hml := HML.out b[k] (List.getElem_mem _)
      have HN : Hid ((∀ m ∈ b.take (k + 1), vldM m = true) ↔ (∀ m ∈ b.take k, vldM m = true) ∧ vldM b[k] = true) := Lib.hid (take_all_iff (P := fun m => vldM m = true) hlt)
      generalize b[k] = m at *
      have w1 : IntKind.i64.wrap ((k : Int) + 1) = (k : Int) + 1 := IntWalk.i64_in _ (by omega)
      cases q with
      | false =>
        have HG2 : Hid (¬ (ok = true ∧ ∀ m ∈ b.take (k + 1), vldM m = true)) := Lib.hid (fun h => by
          have := HG.out.2 ⟨h.1, (HN.out.1 h.2).1⟩
          cases this)
        go_wp2
        go_round
        case rel => exact ⟨k + 1, false, by go_num, by omega, rfl, Lib.hid (iff_of_false (by decide) HG2.out)⟩
        case measure => simp [intOf]; omega
      | true =>
        have hG := HG.out.1 rfl
        cases hv : vldM m with
        | true =>
          have HV := Lib.hid (rvld_lit A c m W hA hml true hv)
          have HG2 : Hid (ok = true ∧ ∀ m ∈ b.take (k + 1), vldM m = true) := Lib.hid ⟨hG.1, HN.out.2 ⟨hG.2, hv⟩⟩
          clear hv hG
          go_wp2_with (go_at_call 50; refine HV.out.mono ?_; rintro e w' ⟨rfl, rfl⟩)
          go_round
          case rel => exact ⟨k + 1, true, by go_num, by omega, rfl, Lib.hid (iff_of_true rfl HG2.out)⟩
          case measure => simp [intOf]; omega
        | false =>
          have HV := Lib.hid (rvld_lit A c m W hA hml false hv)
          have HG2 : Hid (¬ (ok = true ∧ ∀ m ∈ b.take (k + 1), vldM m = true)) := Lib.hid (fun h => by
            have := (HN.out.1 h.2).2
            rw [hv] at this
            cases this)
          clear hv hG
          go_wp2_with (go_at_call 50; refine HV.out.mono ?_; rintro e w' ⟨rfl, rfl⟩)
          go_round
          case rel => exact ⟨k + 1, false, by go_num, by omega, rfl, Lib.hid (iff_of_false (by decide) HG2.out)⟩
          case measure => simp [intOf]; omega
    · obtain rfl : k = b.length := by omega
      have dk : decide ((b.length : Int) < (b.length : Int)) = false := by simp
      rw [List.take_length] at HG
      cases q with
      | false =>
        have HF : Hid (errS ok V b = 1) := Lib.hid (by
          unfold errS
          rw [if_neg]
          intro h
          have := HG.out.2 h
          cases this)
        go_wp2
        go_ret
        exact ⟨by rw [HF.out]; rfl, hbA⟩
      | true =>
        obtain ⟨rfl, hall⟩ := HG.out.1 rfl
        have HAV := Lib.hid hall
        clear HG hall
        go_wp2
        go_loopw [8] (fun s8 wr => ∃ k : Nat, s8 = .int .i64 k ∧ k ≤ b.length ∧ Hid (∀ m ∈ b.take k, (m.length : Int) = V) ∧ Dr W wr) (fun s8 _ => b.length - (intOf s8).toNat)
        case atStart => exact ⟨0, rfl, Nat.zero_le _, Lib.hid (by simp), Dr.refl _⟩
        case round =>
          obtain ⟨wo, rfl⟩ : ∃ wo : World, wo = wr := ⟨_, rfl⟩
          obtain ⟨k, rfl, hk, HG, hdr⟩ := hrel
          by_cases hlt : k < b.length
          · obtain ⟨ad, A, c, rfl, hc, hA⟩ := (hL.keep hdr.below).at hlt
            have HM : Hid (b[k] ∈ b) := Lib.hid (List.getElem_mem _)
            have HN : Hid ((b[k].length : Int) = V → ∀ m ∈ b.take (k + 1), (m.length : Int) = V) := Lib.hid (all_take (P := fun m : List Int => (m.length : Int) = V) hlt HG.out)
            generalize b[k] = m at *
            have d0 := keep_cell hdr.below c0
            have p0 : (0 : Int) ≤ (k : Int) := by omega
            have p1 : (k : Int) < (b.length : Int) := by omega
            have p3 : ((k : Int)).toNat = k := by omega
            by_cases hl : (m.length : Int) = V
            · have hb : ((m.length : Int) != V) = false := by simp [hl]
              have HG2 := Lib.hid (HN.out hl)
              have HL := Lib.hid hl
              clear hl
              go_wp2
              go_quiet (fail)
              go_wp2
              go_roundw
              case rel => exact ⟨k + 1, by go_num, by omega, HG2, hdr.drewN _⟩
              case measure => simp [intOf]; omega
            · have hb : ((m.length : Int) != V) = true := by simp [hl]
              have HF : Hid (errS true V b = 4) := Lib.hid (errS_shape HAV.out ⟨m, HM.out, hl⟩)
              clear hl
              go_wp2
              go_quiet (fail)
              go_wp2
              go_ret
              exact ⟨by rw [HF.out]; rfl, below_all hbA (hdr.drewN _).below⟩
          · obtain rfl : k = b.length := by omega
            have HAL : Hid (∀ m ∈ b, (m.length : Int) = V) := Lib.hid (by have := HG.out; rwa [List.take_length] at this)
            have dk : decide ((b.length : Int) < (b.length : Int)) = false := by simp
            have d64 : decide ((64 : Int) < (b.length : Int)) = false := by simp; omega
            have d64' : decide (64 < b.length) = false := by simp; omega
            clear HG
            go_wp2
            go_loopw [9] (fun s9 wr => ∃ k : Nat, s9 = .int .i64 k ∧ k ≤ b.length ∧ Hid ((b.take k).Nodup) ∧ Dr W wr) (fun s9 _ => b.length - (intOf s9).toNat)
            case atStart => exact ⟨0, rfl, Nat.zero_le _, Lib.hid (by simp), hdr⟩
            case round =>
              clear hdr
              obtain ⟨wp, rfl⟩ : ∃ wp : World, wp = wr := ⟨_, rfl⟩
              obtain ⟨i, rfl, hi, HND, hdr⟩ := hrel
              by_cases hil : i < b.length
              · have HIN : Hid (b[i] ∉ b.take i → (b.take (i + 1)).Nodup) := Lib.hid (take_nodup_succ hil HND.out)
                have HIB : Hid (b[i] ∈ b.take i → errS true V b = 10) := Lib.hid (fun h => errS_dup HAV.out HAL.out hbl (not_nodup_take hil h))
                obtain ⟨ad, A, c, rfl, hcA0, hIA⟩ := hL.at hil
                have hla := HML.out b[i] (List.getElem_mem _)
                generalize b[i] = x at *
                go_wp2
                go_loopw [10] (fun s10 wr => ∃ k : Nat, s10 = .int .i64 k ∧ k ≤ i ∧ Hid (x ∉ b.take k) ∧ Dr W wr) (fun s10 _ => i - (intOf s10).toNat)
                case atStart => exact ⟨0, rfl, Nat.zero_le _, Lib.hid (by simp), hdr⟩
                case round =>
                  clear hdr
                  obtain ⟨wq, rfl⟩ : ∃ wq : World, wq = wr := ⟨_, rfl⟩
                  obtain ⟨k, rfl, hk, HX, hdr⟩ := hrel
                  by_cases hkl : k < i
                  · have hkb : k < b.length := by omega
                    obtain ⟨ad2, A2, c2, he, hcB0, hIB⟩ := hL.at hkb
                    injection he with he
                    subst he
                    have hcA := keep_cell hdr.below hcA0
                    have hcB := keep_cell hdr.below hcB0
                    have HX2 : Hid (x ≠ b[k] → x ∉ b.take (k + 1)) := Lib.hid (fun h hm => by
                      rcases List.mem_cons.1 ((take_mem_succ hkb x).2 hm) with e | e
                      · exact h e
                      · exact HX.out e)
                    have HXI : Hid (x = b[k] → x ∈ b.take i) := Lib.hid (fun h => by
                      rw [h]
                      exact List.mem_take_iff_getElem.2 ⟨k, by omega, rfl⟩)
                    generalize b[k] = y at *
                    have p0 : (0 : Int) ≤ (i : Int) := by omega
                    have p1 : (i : Int) < (b.length : Int) := by omega
                    have p3 : ((i : Int)).toNat = i := by omega
                    have q0 : (0 : Int) ≤ (k : Int) := by omega
                    have q1 : (k : Int) < (b.length : Int) := by omega
                    have q3 : ((k : Int)).toNat = k := by omega
                    by_cases hxy : x = y
                    · have HSQ : Hid (∀ V, Dr wq V → Calls Tryz.prog 103 #[.slice A x.length c, .slice A2 y.length c2] V fun e w' => e = .returned (.bool true) ∧ ∃ z, w' = V.drewN z) := Lib.hid (fun V h =>
                        seq_any A A2 x y c c2 V (hIA.keep (below_all hdr.below h.below)) (hIB.keep (below_all hdr.below h.below)) (by omega) true (decide_eq_true hxy))
                      have HF := Lib.hid (HIB.out (HXI.out hxy))
                      clear hxy hcB0 hIB
                      go_wp2
                      go_quiet ((go_at_call 103; exact Calls.quiet_of (HSQ.out _ ⟨_, rfl⟩)))
                      go_wp2
                      go_ret
                      exact ⟨by rw [HF.out]; rfl, below_all hbA (hdr.drewN _).below⟩
                    · have HSQ : Hid (∀ V, Dr wq V → Calls Tryz.prog 103 #[.slice A x.length c, .slice A2 y.length c2] V fun e w' => e = .returned (.bool false) ∧ ∃ z, w' = V.drewN z) := Lib.hid (fun V h =>
                        seq_any A A2 x y c c2 V (hIA.keep (below_all hdr.below h.below)) (hIB.keep (below_all hdr.below h.below)) (by omega) false (decide_eq_false hxy))
                      have HF := Lib.hid (HX2.out hxy)
                      clear hxy hcB0 hIB
                      go_wp2
                      go_quiet ((go_at_call 103; exact Calls.quiet_of (HSQ.out _ ⟨_, rfl⟩)))
                      go_wp2
                      go_roundw
                      case rel => exact ⟨k + 1, by go_num, by omega, HF, hdr.drewN _⟩
                      case measure => simp [intOf]; omega
                  · obtain rfl : k = i := by omega
                    have dk : decide ((k : Int) < (k : Int)) = false := by simp
                    have HN2 := Lib.hid (HIN.out HX.out)
                    go_wp2
                    go_roundw
                    case rel => exact ⟨k + 1, by go_num, by omega, HN2, hdr⟩
                    case measure => simp [intOf]; omega
              · obtain rfl : i = b.length := by omega
                have HF : Hid (errS true V b = 0) := Lib.hid (errS_ok HAV.out HAL.out hbl (by have := HND.out; rwa [List.take_length] at this))
                go_wp2
                go_ret
                exact ⟨by rw [HF.out]; rfl, below_all hbA hdr.below⟩
end Go.Proofs.Tg.Sx
end
section
/- The reference's check, and the set of the round 0. -/
namespace Go.Proofs.Tg.Sx
open Go.RowKit Go.Gr Go.Sp Go.Ev Go.Mo Go.Qn
set_option maxHeartbeats 4000000
set_option maxRecDepth 100000
def RetRC (p : PVal) (er : Int) (w : World) (e : Ending) (w' : World) : Prop := Below w.heap.size w w' ∧
  ((er ≠ 0 ∧ ∃ v O no co, e = .returned (.tuple #[.agg #[.int .i64 v, .slice O no co], .int .i64 er])) ∨
    (er = 0 ∧ ∃ O co ts, e = .returned (.tuple #[.agg #[.int .i64 p.vars, .slice O (List.length ts) co], .int .i64 0]) ∧ RTermsAt w' O ts ∧ ts.map RT.core = p.tv.map TV.core))
/-- What the reading gives, in one form. -/
theorem read_one (p : PVal) (ok : Bool) (w : World) (hP : TermsAt w p.adr p.tv) (hn : p.tv.length ≤ 4096) (hs : ∀ t ∈ p.tv, t.coef.size ≤ 8 ∧ t.exps.length ≤ 64) (hok : ok = true ↔ p.ok) :
    Calls Tryz.prog 22 #[.agg #[.int .i64 p.vars, .slice p.adr p.tv.length p.cap]] w fun e w' => Below w.heap.size w w' ∧ ∃ v O no co, e = .returned (.tuple #[.agg #[.int .i64 v, .slice O no co], .bool ok]) ∧
      (ok = true → v = p.vars ∧ ∃ ts : List RT, no = ts.length ∧ Sl w' O ts.length 5 (ts.flatMap RT.cells) ∧ (∀ g, g < w.heap.size → Off O ts.length g) ∧ ts.map RT.core = p.tv.map TV.core) := by
  refine (readP_any p.vars p.adr p.cap p.tv w hP hn hs).mono ?_
  rintro e w' ⟨hb, ⟨h1, rfl⟩ | ⟨h1, O, co, ts, rfl, hown, hcore, _⟩⟩
  · have : ok = false := eq_false_of_ne_true (fun h => h1 (hok.1 h))
    subst this
    exact ⟨hb, 0, none, 0, 0, rfl, fun h => by cases h⟩
  · have : ok = true := hok.2 h1
    subst this
    refine ⟨hb, p.vars, O, _, co, rfl, fun _ => ⟨rfl, ts, rfl, Sl.own hown, fun g hg hn ad he hgg => ?_, hcore⟩⟩
    subst he
    rcases hown.2 with ⟨h2, _⟩ | ⟨g', cap, cur, h2, h3, _⟩
    · cases h2
    · injection h2 with h2
      injection h2 with h2
      subst h2
      simp only at hgg
      omega
theorem results_p {fn : Func} {p q : Tmp} (h : fn.results = #[.cell p 47, .tmp q]) (tmps : Array Value) (w : World) (g : Nat) (a b : Value)
    (hp : tmps.getD p undef = .pointer (some ⟨g, 0, none⟩)) (hg : Blk w g 47 #[a, b]) :
    (results fn tmps).run Tryz.prog w = .ok (.tuple #[.agg #[a, b], tmps.getD q undef]) w := by
  have hp' : tmps[p]?.getD undef = .pointer (some ⟨g, 0, none⟩) := by simpa using hp
  have hi : (Tryz.prog.info? 47).map (·.size) = some (#[a, b] : Array Value).size := by
    show _ = some 2
    kernel_rfl
  simp [results, h, hp', asAddr, run_loadVar_row w g 47 47 #[a, b] (0, 0) _ hg Tryz.underlying47 rfl hi]
theorem blk_two_p {w : World} {g : Nat} {a b c d : Value} {t : TypeId} (h : Blk w g t #[a, b]) : Blk ((w.setCell ⟨g, 0, none⟩ c).setCell ⟨g, 1, none⟩ d) g t #[c, d] := by
  have := (h.set 0 c).set 1 d
  simpa using this
theorem errS_false (v v' : Int) (b : List (List Int)) : errS false v b = errS false v' b := by rw [errS_bad (.inl rfl), errS_bad (.inl rfl)]
theorem rcheck16_any (p : PVal) (B : Option Addr) (cb : Nat) (b : List (List Int)) (ok : Bool) (w : World) (hP : TermsAt w p.adr p.tv) (hn : p.tv.length ≤ 4096) (hs : ∀ t ∈ p.tv, t.coef.size ≤ 8 ∧ t.exps.length ≤ 64) (hB : Lists w B b) (hbl : b.length ≤ 64) (hml : ∀ m ∈ b, m.length ≤ 1000) (hok : ok = true ↔ p.ok) :
    Calls Tryz.prog 40 #[.agg #[.int .i64 p.vars, .slice p.adr p.tv.length p.cap], .slice B b.length cb] w (RetRC p (errS ok p.vars b) w) := by
  obtain ⟨W, hW⟩ : ∃ W, (w.alloc (.cells #[.int .i64 p.vars, .slice p.adr p.tv.length p.cap] 24)).alloc (.cells #[.int .i64 0, .slice none 0 0] 47) = W := ⟨_, rfl⟩
  have hbA : Below w.heap.size w W := by rw [← hW]; exact ((Below.refl _ _).alloc (Nat.le_refl _) _).alloc (by simp) _
  have B0 : Blk W w.heap.size 24 #[.int .i64 p.vars, .slice p.adr p.tv.length p.cap] := by rw [← hW]; exact (Blk.new _ _ _).alloc _
  have B1 : Blk W (w.heap.size + 1) 47 #[.int .i64 0, .slice none 0 0] := by
    rw [← hW]; have := Blk.new (w.alloc (.cells #[.int .i64 p.vars, .slice p.adr p.tv.length p.cap] 24)) 47 #[.int .i64 0, .slice none 0 0]
    simpa using this
  have HRD := Lib.hid (read_one p ok W (hP.keep hbA) hn hs hok)
  have HBS : Hid (∀ V v O no co, Below w.heap.size w V → Calls Tryz.prog 69 #[.agg #[.int .i64 v, .slice O no co], .bool ok, .slice B b.length cb] V fun e w' => e = .returned (.int .i64 (errS ok v b)) ∧ Below V.heap.size V w') := Lib.hid (fun V v O no co h => rbasis_any v O no co ok B cb b V (hB.keep h) hbl hml)
  have HER : Hid (∀ v, (ok = true → v = p.vars) → errS ok v b = errS ok p.vars b) := Lib.hid (fun v h => by
    cases ok with
    | true => rw [h rfl]
    | false => exact errS_false _ _ _)
  have HE0 : Hid (errS ok p.vars b = 0 → ok = true) := Lib.hid (fun h => (errS_zero h).1)
  have HPI : Hid (∀ V, Below w.heap.size w V → ∀ t ∈ p.tv, Ints V t.adr t.exps) := Lib.hid (fun V h t ht => (hP.ints t ht).keep h)
  have HWW := Lib.hid hW
  have hz : W.heap.size = w.heap.size + 2 := by rw [← hW]; simp
  unfold RetRC
  generalize hPE : errS ok p.vars b = er at *
  clear hPE hW hP hB hok
  obtain ⟨P, T, cT, tv⟩ := p
  simp only at *
  obtain ⟨c0, c1, _, _⟩ := B0.two
  go_enter Tryz.func40, Tryz.ntmps40
  go_upto_region 1 with (fail)
  rw [HWW.out]
  clear HWW
  go_upto_region 2 with (go_at_call 22; refine HRD.out.mono ?_; rintro e w1 ⟨hb1, v, O, no, co, rfl, hts⟩)
  have C1 := B1.keep hb1 B1.lt
  have hbw := below_all hbA hb1
  have hsz := hb1.size
  have D1 := C1.alloc (.cells #[.int .i64 v, .slice O no co] 47)
  have D6 := Blk.new w1 47 #[.int .i64 v, .slice O no co]
  have hbx := hbw.alloc hbw.size (.cells #[.int .i64 v, .slice O no co] 47)
  have hb1x := Below.alloc (Below.refl w1.heap.size w1) (Nat.le_refl _) (.cells #[.int .i64 v, .slice O no co] 47)
  generalize w1.alloc (.cells #[.int .i64 v, .slice O no co] 47) = X at *
  have HB2 : Hid (∀ V, Below X.heap.size X V → Calls Tryz.prog 69 #[.agg #[.int .i64 v, .slice O no co], .bool ok, .slice B b.length cb] V fun e w' => e = .returned (.int .i64 er) ∧ Below X.heap.size X w') := Lib.hid (fun V h => by
    have := HBS.out V v O no co (below_all hbx h)
    rw [HER.out v (fun hk => (hts hk).1)] at this
    exact this.mono fun e w' h2 => ⟨h2.1, below_all h h2.2⟩)
  have HD1 := Lib.hid D1
  have HD6 := Lib.hid D6
  clear HBS B0 B1 C1 c0 c1 hb1 hbA
  have hbe : Below X.heap.size X X.drew := (Below.refl _ _).drew
  obtain ⟨d0, d1, g0, g1⟩ := D1.two
  obtain ⟨e0, e1, _, _⟩ := D6.two
  have hl1 := D1.lt
  have hl6 := D6.lt
  clear D1 D6
  go_region_with (go_at_call 69; refine (HB2.out _ (by assumption)).mono ?_; rintro e w3 ⟨rfl, hbe⟩; have E1 := HD1.out.keep hbe hl1; have E6 := HD6.out.keep hbe hl6; obtain ⟨d0, d1, g0, g1⟩ := E1.two; obtain ⟨e0, e1, _, _⟩ := E6.two; have hl1 := E1.lt; have hl6 := E6.lt)
  all_goals
    go_wp2_with (fail)
    refine bodyPost_ret (v := _) (results_p (p := 4) (q := 5) rfl _ _ (w.heap.size + 1) _ _ rfl (blk_two_p E1)) rfl ?_
    have hfin : Below w.heap.size w ((w3.setCell ⟨w.heap.size + 1, 0, none⟩ (.int .i64 v)).setCell ⟨w.heap.size + 1, 1, none⟩ (.slice O no co)) := below_far (below_far (below_all hbx hbe) (by omega) _ _) (by omega) _ _
    refine ⟨hfin, ?_⟩
    by_cases her : er = 0
    · subst her
      obtain ⟨hv, ts, hno, hSl, hoff, hcore⟩ := hts (HE0.out (by trivial))
      subst hv hno
      refine .inr ⟨rfl, O, co, ts, rfl, ⟨?_, core_ints hcore (HPI.out _ hfin)⟩, hcore⟩
      have ho := hoff (w.heap.size + 1) (by omega)
      exact (((hSl.keep hb1x).keep hbe).far ho _ _).far ho _ _
    · exact .inl ⟨her, v, O, no, co, rfl⟩
end Go.Proofs.Tg.Sx
end
section
/- The harness's SmallPolys. -/
namespace Go.Proofs.Tg
open Go.RowKit Go.Gr Go.Ev Go.Mo
set_option maxHeartbeats 4000000
set_option maxRecDepth 100000
theorem spolys_any (L : Option Addr) (c n t m : Nat) (ps : List PVal) (b : Bool) (w : World) (hL : PolysAt w L ps) (hv : b = true ↔ ps.length ≤ n ∧ ∀ p ∈ ps, p.few t m) (hn : n ≤ 1000) (ht : t ≤ 1000) (hm : m ≤ 1000) :
    Calls Tryz.prog 28 #[.slice L ps.length c, .int .i64 n, .int .i64 t, .int .i64 m] w fun e w' => e = .returned (.bool b) ∧ Below w.heap.size w w' := by
  have HV := Lib.hid hv
  clear hv
  by_cases hl : ps.length ≤ n
  · have hd : decide ((n : Int) < (ps.length : Int)) = false := by simp; omega
    have hd' : decide (n < ps.length) = false := by simp; omega
    go_enter Tryz.func28, Tryz.ntmps28
    go_wp2
    go_loopw [9] (fun i wr => ∃ k : Nat, i = .int .i64 k ∧ k ≤ ps.length ∧ Hid (∀ p ∈ ps.take k, p.few t m) ∧ Below w.heap.size w wr) (fun i _ => ps.length - (intOf i).toNat)
    case atStart => exact ⟨0, rfl, Nat.zero_le _, Lib.hid (by simp), Below.refl _ _⟩
    case round =>
      obtain ⟨k, rfl, hk, HI, hbw⟩ := hrel
      by_cases hkl : k < ps.length
      · obtain ⟨ad, rfl, hc1, hc2, hT⟩ := PolysAt.at (hL.keep hbw) hkl
        have HM : Hid (ps[k] ∈ ps) := Lib.hid (List.getElem_mem _)
        have HT0 : Hid (ps.take (k + 1) = ps.take k ++ [ps[k]]) := Lib.hid (List.take_succ_eq_append_getElem hkl)
        generalize ps[k] = p at *
        by_cases h1 : p.few t m
        · have HS := Lib.hid (spoly_any p t m true wr hT (by simp [h1]) ht hm)
          have HG2 : Hid (∀ p ∈ ps.take (k + 1), p.few t m) := Lib.hid (by
            rw [HT0.out]
            intro l' hl'
            rcases List.mem_append.1 hl' with h | h
            · exact HI.out l' h
            · simp at h; subst h; exact h1)
          clear h1 hT
          obtain ⟨P, T, cp, tv⟩ := p
          simp only at *
          go_wp2_with (go_at_call 27; refine HS.out.mono ?_; rintro e w2 ⟨rfl, hb2⟩)
          go_roundw
          case rel => exact ⟨k + 1, by go_num, by omega, HG2, below_all hbw hb2⟩
          case measure => simp [intOf]; omega
        · have HS := Lib.hid (spoly_any p t m false wr hT (by simp [h1]) ht hm)
          obtain rfl : b = false := by
            cases b
            · rfl
            · exact absurd ((HV.out.1 rfl).2 _ HM.out) h1
          clear h1 hT
          obtain ⟨P, T, cp, tv⟩ := p
          simp only at *
          go_wp2_with (go_at_call 27; refine HS.out.mono ?_; rintro e w2 ⟨rfl, hb2⟩)
          go_ret
          exact ⟨rfl, below_all hbw hb2⟩
      · obtain rfl : k = ps.length := by omega
        obtain rfl : b = true := HV.out.2 ⟨hl, by have := HI.out; rwa [List.take_length] at this⟩
        go_wp2
        go_ret
        exact ⟨rfl, hbw⟩
  · have hd : decide ((n : Int) < (ps.length : Int)) = true := by simp; omega
    have hd' : decide (n < ps.length) = true := by simp; omega
    obtain rfl : b = false := by
      cases b
      · rfl
      · exact absurd (HV.out.1 rfl).1 hl
    go_enter Tryz.func28, Tryz.ntmps28
    go_wp2
    go_ret
    exact ⟨rfl, Below.refl _ _⟩
end Go.Proofs.Tg
end
section
/- The reference's reading of all polynomials. -/
namespace Go.Proofs.Tg
open Go.RowKit Go.Gr Go.Mo Go.Qn
set_option maxHeartbeats 4000000
set_option maxRecDepth 100000
def RP.core (p : RP) : Int × List (Option Addr × Nat × List Int) := (p.vars, p.ts.map RT.core)
def PVal.core (p : PVal) : Int × List (Option Addr × Nat × List Int) := (p.vars, p.tv.map TV.core)
theorem key_core {rp : List RP} {ps : List PVal} (h : rp.map RP.core = ps.map PVal.core) : rp.map RP.key = ps.map PVal.key := by
  have e1 : rp.map RP.key = (rp.map RP.core).map (fun c => (c.1, c.2.map (fun x => x.2.2))) := by
    rw [List.map_map]
    refine List.map_congr_left fun p _ => ?_
    simp [RP.key, RP.core, RT.core, Function.comp_def]
  have e2 : ps.map PVal.key = (ps.map PVal.core).map (fun c => (c.1, c.2.map (fun x => x.2.2))) := by
    rw [List.map_map]
    refine List.map_congr_left fun p _ => ?_
    simp [PVal.key, PVal.core, TV.core, Function.comp_def]
  rw [e1, e2, h]
theorem core_terms {w : World} {rp : List RP} {ps : List PVal} (h : rp.map RP.core = ps.map PVal.core) (hA : ∀ p ∈ ps, ∀ t ∈ p.tv, Ints w t.adr t.exps) : ∀ p ∈ rp, ∀ t ∈ p.ts, Ints w t.adr t.exps := by
  intro p hp
  have h1 : RP.core p ∈ ps.map PVal.core := by rw [← h]; exact List.mem_map_of_mem hp
  obtain ⟨q, hq, he⟩ := List.mem_map.1 h1
  have h2 : p.ts.map RT.core = q.tv.map TV.core := (congrArg Prod.snd he).symm
  exact core_ints h2 (hA q hq)
theorem rp_info : (Tryz.prog.info? 47).map (fun i => (i.zero, i.size, i.bytes)) = some (some (.agg #[.int .i64 0, .slice none 0 0]), 2, 32) := by kernel_rfl
/-- What the reading of all has made after k polynomials. -/
structure AllSt (w : World) (ps : List PVal) (wr : World) (k : Nat) (O : Option Addr) (co : Nat) (rp : List RP) : Prop where
  core : rp.map RP.core = (ps.take k).map PVal.core
  ok : ∀ p ∈ ps.take k, p.ok
  below : Below w.heap.size w wr
  own : wr.ownsRow w.heap.size 47 2 (.slice O rp.length co) rp.length (rp.flatMap RP.cells)
  rows : ∀ p ∈ rp, wr.ownsRow w.heap.size 58 5 (.slice p.adr p.ts.length p.cap) p.ts.length (p.ts.flatMap RT.cells)
theorem readall_any (L : Option Addr) (c : Nat) (ps : List PVal) (w : World) (hL : PolysAt w L ps) (hn : ps.length ≤ 1000) (hs : ∀ p ∈ ps, p.few 8 8) :
    Calls Tryz.prog 58 #[.slice L ps.length c] w (RetAll ps w) := by
  have HS : Hid (∀ p ∈ ps, p.tv.length ≤ 4096 ∧ ∀ t ∈ p.tv, t.coef.size ≤ 8 ∧ t.exps.length ≤ 64) := Lib.hid (fun p hp => ⟨by have := (hs p hp).1; omega, fun t ht => by have := (hs p hp).2 t ht; omega⟩)
  clear hs
  obtain ⟨j0, hj, jz0, jz1, jz2⟩ := info_parts rp_info
  go_enter Tryz.func58, Tryz.ntmps58
  go_wp2
  go_loopw [4, 5] (fun s4 s5 wr => ∃ (k : Nat) (O : Option Addr) (co : Nat) (rp : List RP), s5 = .int .i64 k ∧ k ≤ ps.length ∧ s4 = .slice O rp.length co ∧ Hid (AllSt w ps wr k O co rp)) (fun _ s5 _ => ps.length - (intOf s5).toNat)
  case atStart => exact ⟨0, none, 0, [], rfl, Nat.zero_le _, rfl, Lib.hid ⟨rfl, by simp, Below.refl _ _, World.ownsRow_nil _ _ _ _, by simp⟩⟩
  case round =>
    obtain ⟨wo, rfl⟩ : ∃ wo : World, wo = wr := ⟨_, rfl⟩
    obtain ⟨k, O, co, rp, rfl, hk, rfl, HST⟩ := hrel
    have hbw := HST.out.below
    have hrl : rp.length ≤ 1000 := by
      have := congrArg List.length HST.out.core
      simp at this; omega
    have hz : w.heap.size ≤ wo.heap.size := hbw.size
    by_cases hkl : k < ps.length
    · obtain ⟨ad, rfl, hc0, hc1, hT⟩ := PolysAt.at (hL.keep hbw) hkl
      have HT1 : Hid (ps.take (k + 1) = ps.take k ++ [ps[k]]) := Lib.hid (List.take_succ_eq_append_getElem hkl)
      have HM : Hid (ps[k] ∈ ps) := Lib.hid (List.getElem_mem _)
      have hsk := HS.out ps[k] (List.getElem_mem _)
      generalize ps[k] = p at *
      obtain ⟨v, T, cT, tv⟩ := p
      simp only at *
      have HR := Lib.hid (fun V (h : Below wo.heap.size wo V) => readP_any v T cT tv V (hT.keep h) hsk.1 hsk.2)
      have htv : tv.length ≤ 4096 := hsk.1
      have q0 : (0 : Int) ≤ (k : Int) := by omega
      have q1 : (k : Int) < (ps.length : Int) := by omega
      have q3 : ((k : Int)).toNat = k := by omega
      clear hsk hT
      go_wp2_with (fail)
      refine (HR.out _ (Below.refl _ _)).mono ?_
      rintro e w1 ⟨hb1, ⟨hno, rfl⟩ | ⟨hok, O1, co1, ts, rfl, hown1, hcore, _⟩⟩
      · have HNO : Hid (¬ ∀ p ∈ ps, p.ok) := Lib.hid (fun h => hno (h _ HM.out))
        have hbE := below_all hbw hb1
        clear hno
        go_wp2
        go_ret2
        exact ⟨hbE.alloc hbE.size _, .inl ⟨HNO.out, rfl⟩⟩
      · have HC := Lib.hid hcore
        have HOK := Lib.hid hok
        have htl : ts.length ≤ 4096 := by rw [core_len hcore]; exact htv
        clear hcore hok hc0 hc1
        go_upto_region 6 with (fail)
        obtain ⟨W1, hW1⟩ : ∃ W1, w1.alloc (.cells #[.int .i64 v, .slice O1 ts.length co1] 47) = W1 := ⟨_, rfl⟩
        have D4 : Blk W1 w1.heap.size 47 #[.int .i64 v, .slice O1 ts.length co1] := by rw [← hW1]; exact Blk.new _ _ _
        have hbA : Below wo.heap.size wo W1 := by rw [← hW1]; exact hb1.alloc hb1.size _
        have hownD : W1.ownsRow w.heap.size 58 5 (.slice O1 ts.length co1) ts.length (ts.flatMap RT.cells) := by rw [← hW1]; exact own_base (hown1.alloc _) hz
        try rw [hW1]
        clear hW1 hb1 hown1
        have hbD := below_all hbw hbA
        have hown := own_below HST.out.own hbA (Nat.le_refl _)
        have HROW : Hid (∀ p ∈ rp, W1.ownsRow w.heap.size 58 5 (.slice p.adr p.ts.length p.cap) p.ts.length (p.ts.flatMap RT.cells)) := Lib.hid (fun p hp => own_below (HST.out.rows p hp) hbA (Nat.le_refl _))
        have hz1 := D4.lt
        have hz2 := hbA.size
        obtain ⟨b0, b1, b2, b3⟩ := D4.two
        have HNW := Lib.hid (cells_new W1 47 [.int .i64 v, .slice O1 ts.length co1])
        go_wp2_with (first
          | (at_builtin; refine wpList_append_own _ rfl _ _ 108 rfl w.heap.size 47 j0 _ 2 32 Tryz.underlying108 hj jz0 jz1 jz2 rfl (by decide) (.slice O rp.length co) rp.length _ rfl (hown.alloc _) ⟨W1.heap.size, 0, none⟩ 1 1 [.int .i64 v, .slice O1 ts.length co1] rfl rfl ?c1 ?c2 ?c3 ?c4 ?c5 ?_
             case c1 => exact HNW.out
             case c2 => simp [Value.oneCell']
             case c3 => simp only [maxLen]; omega
             case c4 => omega
             case c5 => simp; omega
             intro v' w5 hown' hgrow _))
        obtain ⟨A2, cs2, hv2, _, _⟩ := Sl.of_own hown'
        subst hv2
        go_roundw
        case rel =>
          refine ⟨k + 1, A2, cs2, rp ++ [⟨v, O1, co1, ts⟩], by go_num, by omega, by simp, Lib.hid ⟨?_, ?_, ?_, ?_, ?_⟩⟩
          · rw [HT1.out, List.map_append, List.map_append, HST.out.core]
            simp [RP.core, PVal.core, HC.out]
          · rw [HT1.out]
            intro p hp
            rcases List.mem_append.1 hp with h | h
            · exact HST.out.ok p h
            · rw [List.mem_singleton.1 h]; exact HOK.out
          · exact (hbD.alloc hbD.size _).grown hgrow (by simp; omega) (fun j hj => by have := (hown.lt j hj).1; omega)
          · rw [List.length_append, List.flatMap_append]; exact hown'
          · intro p hp
            rcases List.mem_append.1 hp with h | h
            · exact ((HROW.out p h).alloc _).kept hgrow (own_ne (HROW.out p h) hown (by decide))
            · rw [List.mem_singleton.1 h]
              exact (hownD.alloc _).kept hgrow (own_ne hownD hown (by decide))
        case measure => simp [intOf]; omega
    · obtain rfl : k = ps.length := by omega
      have HC := Lib.hid HST.out.core
      have HOK := Lib.hid HST.out.ok
      rw [List.take_length] at HC HOK
      have HP : Hid (RPolysAt wo O rp) := Lib.hid ⟨Sl.own HST.out.own, fun p hp => ⟨Sl.own (HST.out.rows p hp), core_terms HC.out (fun q hq t ht => ((hL.tms q hq).ints t ht).keep hbw) p hp⟩⟩
      go_wp2
      go_ret2
      exact ⟨hbw, .inr ⟨HOK.out, O, co, rp, rfl, HP.out, key_core HC.out⟩⟩
end Go.Proofs.Tg
end
section
/- The reference's graph of the variables. -/
namespace Go.Proofs.Tg.Sx
open Go.RowKit Go.Gr Go.Sp Go.Ev Go.Mo
set_option maxHeartbeats 4000000
set_option maxRecDepth 100000
theorem tab_lt {w : World} {g n : Nat} {t : Nat → Nat → Bool} (h : Gx.TableAt w g n t) : g + n < w.heap.size := by
  cases n with
  | zero => have := h.head.lt; omega
  | succ k => have := (h.row k (by omega)).lt; omega
/-- The table holds just the pairs of R. -/
def JT (n : Nat) (t : Nat → Nat → Bool) (R : Nat → Nat → Prop) : Prop := ∀ a b, a < n → b < n → (t a b = true ↔ a ≠ b ∧ R a b)
theorem JT.link {n : Nat} {t t2 : Nat → Nat → Bool} {R : Nat → Nat → Prop} {m : Nat → Bool} (h : JT n t R) (h2 : ∀ a b, a < n → b < n → (t2 a b = true ↔ t a b = true ∨ (m a = true ∧ m b = true ∧ a ≠ b))) : JT n t2 (fun a b => R a b ∨ (m a = true ∧ m b = true)) := by
  intro a b ha hb
  rw [h2 a b ha hb, h a b ha hb]
  constructor
  · rintro (⟨h1, h3⟩ | ⟨h1, h3, h4⟩)
    · exact ⟨h1, .inl h3⟩
    · exact ⟨h4, .inr ⟨h1, h3⟩⟩
  · rintro ⟨h1, h3 | ⟨h3, h4⟩⟩
    · exact .inl ⟨h1, h3⟩
    · exact .inr ⟨h3, h4, h1⟩
theorem JT.congr {n : Nat} {t : Nat → Nat → Bool} {R S : Nat → Nat → Prop} (h : JT n t R) (hrs : ∀ a b, a < n → b < n → (R a b ↔ S a b)) : JT n t S := fun a b ha hb => by rw [h a b ha hb, hrs a b ha hb]
theorem JT.edges {n : Nat} {t : Nat → Nat → Bool} {p : PVal} {ps : List PVal} (h : JT n t fun a b => inT p.tv a b ∨ inC ps a b) : tableEdges t n n = tableEdges (jV p ps) n n :=
  tableEdges_congr (fun i k hi hk hik => by
    rw [Bool.eq_iff_iff, jV_iff, h i k hi hk]
    exact ⟨fun h => h.2, fun h => ⟨by omega, h⟩⟩)
/-- The marks of a term's first variables. -/
def mk (el : List Int) (v k : Nat) : Bool := decide (k < v) && decide (0 < el.getD k 0)
def mk1 (el : List Int) (k : Nat) : Bool := decide (0 < el.getD k 0)
theorem mk_start (n : Nat) (el : List Int) : (Gx.farr n fun k => Value.bool (mk el 0 k)) = Gx.farr n fun _ => .bool false := Gx.farr_congr (fun k _ => by simp [mk])
theorem mk_end (n : Nat) (el : List Int) : (Gx.farr n fun k => Value.bool (mk el n k)) = Gx.farr n fun k => .bool (mk1 el k) := Gx.farr_congr (fun k hk => by simp [mk, mk1, hk])
theorem mk_set (n : Nat) (el : List Int) {v : Nat} (hv : v < el.length) {q : Bool} (hq : decide (0 < el[v]) = q) : (Gx.farr n fun k => Value.bool (mk el v k)).setIfInBounds v (.bool q) = Gx.farr n fun k => .bool (mk el (v + 1) k) := by
  rw [Gx.farr_set]
  refine Gx.farr_congr (fun k _ => ?_)
  by_cases h : k = v
  · subst h
    have : el.getD k 0 = el[k] := by simp [hv]
    have e : mk el (k + 1) k = decide (0 < el[k]) := by
      unfold mk
      rw [this, decide_eq_true (Nat.lt_succ_self k), Bool.true_and]
    rw [if_pos rfl, e, hq]
  · have : k < v + 1 ↔ k < v := by omega
    simp [mk, h, this]
theorem mk1_pair {t : TV} {x y : Nat} : (mk1 t.exps x = true ∧ mk1 t.exps y = true) ↔ (0 < t.exps.getD x 0 ∧ 0 < t.exps.getD y 0) := by simp [mk1]
noncomputable def occB (ts : List TV) (x : Nat) : Bool := @decide (occ ts x) (Classical.propDecidable _)
theorem occB_iff {ts : List TV} {x : Nat} : occB ts x = true ↔ occ ts x := by unfold occB; exact @decide_eq_true_iff _ (Classical.propDecidable _)
/-- The marks of the first terms, and of the next one's first variables. -/
noncomputable def oc (ts : List TV) (k v x : Nat) : Bool := occB (ts.take (if x < v then k + 1 else k)) x
theorem oc_start (n : Nat) (ts : List TV) : (Gx.farr n fun x => Value.bool (oc ts 0 0 x)) = Gx.farr n fun _ => .bool false := Gx.farr_congr (fun x _ => by
  have : oc ts 0 0 x = false := by
    apply eq_false_of_ne_true
    unfold oc
    rw [occB_iff]
    rintro ⟨t, ht, _⟩
    simp at ht
  rw [this])
theorem oc_row (n : Nat) (ts : List TV) (k : Nat) : (Gx.farr n fun x => Value.bool (oc ts k n x)) = Gx.farr n fun x => .bool (oc ts (k + 1) 0 x) := Gx.farr_congr (fun x hx => by unfold oc; rw [if_pos hx, if_neg (by omega)])
theorem oc_end (n : Nat) (ts : List TV) : (Gx.farr n fun x => Value.bool (oc ts ts.length 0 x)) = Gx.farr n fun x => .bool (occB ts x) := Gx.farr_congr (fun x hx => by unfold oc; rw [if_neg (by omega), List.take_length])
theorem oc_set (n : Nat) {ts : List TV} {k : Nat} (hk : k < ts.length) {v : Nat} {b : Bool} (hb : b = true ↔ oc ts k v v = true ∨ 0 < ts[k].exps.getD v 0) : (Gx.farr n fun x => Value.bool (oc ts k v x)).setIfInBounds v (.bool b) = Gx.farr n fun x => .bool (oc ts k (v + 1) x) := by
  rw [Gx.farr_set]
  refine Gx.farr_congr (fun x _ => ?_)
  by_cases h : x = v
  · subst h
    rw [if_pos rfl]
    congr 1
    rw [Bool.eq_iff_iff, hb]
    unfold oc
    rw [if_neg (by omega), if_pos (by omega), occB_iff, occB_iff, occ_succ hk]
  · have : x < v + 1 ↔ x < v := by omega
    simp [oc, h, this]
end Go.Proofs.Tg.Sx
end
section
/- The reference's graph of the variables, walked. -/
namespace Go.Proofs.Tg.Sx
open Go.RowKit Go.Gr Go.Sp Go.Ev Go.Mo
set_option maxHeartbeats 4000000
set_option maxRecDepth 100000
theorem rvars_any (p : PVal) (L : Option Addr) (cl : Nat) (ps : List PVal) (w : World) (hP : TermsAt w p.adr p.tv) (hL : PolysAt w L ps) (hn : p.tv.length ≤ 4096) (hs : ∀ t ∈ p.tv, t.coef.size ≤ 8 ∧ t.exps.length ≤ 64) (hls : ∀ c ∈ ps, c.few 8 8) (hfw : ps.length ≤ 1000) :
    Calls Tryz.prog 30 #[.agg #[.int .i64 p.vars, .slice p.adr p.tv.length p.cap], .slice L ps.length cl] w (RetVar p ps w) := by
  obtain ⟨W, hW⟩ : ∃ W, (w.alloc (.cells #[.int .i64 p.vars, .slice p.adr p.tv.length p.cap] 24)).alloc (.cells #[.int .i64 0, .slice none 0 0] 40) = W := ⟨_, rfl⟩
  have hbA : Below w.heap.size w W := by rw [← hW]; exact ((Below.refl _ _).alloc (Nat.le_refl _) _).alloc (by simp) _
  have B0 : Blk W w.heap.size 24 #[.int .i64 p.vars, .slice p.adr p.tv.length p.cap] := by rw [← hW]; exact (Blk.new _ _ _).alloc _
  have B1 : Blk W (w.heap.size + 1) 40 #[.int .i64 0, .slice none 0 0] := by
    rw [← hW]; have := Blk.new (w.alloc (.cells #[.int .i64 p.vars, .slice p.adr p.tv.length p.cap] 24)) 40 #[.int .i64 0, .slice none 0 0]
    simpa using this
  obtain ⟨ok, hok⟩ : ∃ ok : Bool, ok = true ↔ p.ok := by classical exact ⟨decide p.ok, decide_eq_true_iff⟩
  have HRD := Lib.hid (read_one p ok W (hP.keep hbA) hn hs hok)
  have HRA : Hid (∀ V, Below w.heap.size w V → Calls Tryz.prog 58 #[.slice L ps.length cl] V (RetAll ps V)) := Lib.hid (fun V h => readall_any L cl ps V (hL.keep h) hfw hls)
  have HPI : Hid (∀ V, Below w.heap.size w V → ∀ t ∈ p.tv, Ints V t.adr t.exps) := Lib.hid (fun V h t ht => (hP.ints t ht).keep h)
  have HOK := Lib.hid hok
  have HWW := Lib.hid hW
  have HTN := Lib.hid hn
  have HFW := Lib.hid (And.intro hfw hls)
  obtain ⟨P, T, cT, tv⟩ := p
  simp only at *
  obtain ⟨c0, c1, _, _⟩ := B0.two
  clear hW hP hL hok hls hs hn hfw
  go_enter Tryz.func30, Tryz.ntmps30
  go_upto_region 1 with (fail)
  rw [HWW.out]
  clear HWW
  go_wp2_with (fail)
  refine HRD.out.mono ?_
  rintro e w1 ⟨hb1, v, O, no, co, rfl, hfac⟩
  have HFC := Lib.hid hfac
  have C1 := (B1.keep hb1 B1.lt).alloc (.cells #[.int .i64 v, .slice O no co] 47)
  have C6 := Blk.new w1 47 #[.int .i64 v, .slice O no co]
  have hbx := (below_all hbA hb1).alloc (below_all hbA hb1).size (.cells #[.int .i64 v, .slice O no co] 47)
  have hb1x := (Below.refl w1.heap.size w1).alloc (Nat.le_refl _) (.cells #[.int .i64 v, .slice O no co] 47)
  have hb1w := (below_all hbA hb1).size
  clear B0 B1 hbA hfac c0 c1 HRD
  go_upto_region 2 with (fail)
  generalize w1.alloc (.cells #[.int .i64 v, .slice O no co] 47) = X at *
  have HRA2 := Lib.hid (HRA.out X hbx)
  obtain ⟨z0, z1, y0, y1⟩ := C1.two
  have hl1 := C1.lt
  go_wp2_with (fail)
  refine HRA2.out.mono ?_
  rintro e w2 ⟨hb2, ⟨hnok, rfl⟩ | ⟨hoks, LL, cL, rp, rfl, hRP, hkey⟩⟩
  · have HE : Hid (errV ⟨P, T, cT, tv⟩ ps = 1) := Lib.hid (errV_bad (fun h => hnok h.2))
    have D1 := C1.keep hb2 hl1
    have hb3 := below_all hbx hb2
    clear z0 z1 y0 y1
    obtain ⟨z0, z1, y0, y1⟩ := D1.two
    have hl2 := D1.lt
    cases ok
    all_goals
      go_wp2
      refine bodyPost_ret (v := _) (Gx.results_g (p := 4) (q := 5) rfl _ _ (w.heap.size + 1) _ _ rfl (Gx.blk_two D1)) rfl ?_
      exact ⟨below_far (below_far hb3 (by omega) _ _) (by omega) _ _, .inl ⟨by rw [HE.out]; decide, by rw [HE.out]; rfl⟩⟩
  · cases ok with
    | false =>
      have HE : Hid (errV ⟨P, T, cT, tv⟩ ps = 1) := Lib.hid (errV_bad (fun h => by have := HOK.out.2 h.1; cases this))
      have D1 := C1.keep hb2 hl1
      have hb3 := below_all hbx hb2
      clear z0 z1 y0 y1
      obtain ⟨z0, z1, y0, y1⟩ := D1.two
      have hl2 := D1.lt
      go_wp2
      refine bodyPost_ret (v := _) (Gx.results_g (p := 4) (q := 5) rfl _ _ (w.heap.size + 1) _ _ rfl (Gx.blk_two D1)) rfl ?_
      exact ⟨below_far (below_far hb3 (by omega) _ _) (by omega) _ _, .inl ⟨by rw [HE.out]; decide, by rw [HE.out]; rfl⟩⟩
    | true =>
      have hpok := HOK.out.1 rfl
      obtain ⟨rfl, ts, rfl, hsl, -, hcore⟩ := HFC.out rfl
      obtain ⟨n, rfl⟩ : ∃ n : Nat, v = n := ⟨v.toNat, by have := hpok.2.1.1; simp only at this; omega⟩
      have hn6 : n ≤ 6 := by have := hpok.2.1.2.1; simp only at this; omega
      have HDT : Hid (∀ t ∈ tv, domK n 24 t.exps) := Lib.hid (fun t ht => vldP_dom hpok (TV.pl t) (List.mem_map.2 ⟨t, ht, rfl⟩))
      have HOKA : Hid (PVal.ok ⟨n, T, cT, tv⟩ ∧ ∀ c ∈ ps, c.ok) := Lib.hid ⟨hpok, hoks⟩
      have htl : ts.length = tv.length := core_len hcore
      have HCR := Lib.hid hcore
      have hKL : rp.length = ps.length := by have := congrArg List.length hkey; simpa using this
      have HTE0 := Lib.hid htl
      have HKL0 := Lib.hid hKL
      have hta : ts.length ≤ tv.length := by omega
      have htb : tv.length ≤ ts.length := by omega
      have hka : rp.length ≤ ps.length := by omega
      have hkb : ps.length ≤ rp.length := by omega
      have HKY : Hid (∀ (i : Nat) (h1 : i < rp.length) (h2 : i < ps.length), rp[i].vars = ps[i].vars ∧ rp[i].ts.map RT.exps = ps[i].tv.map TV.exps) := Lib.hid (fun i h1 h2 => by
        have h : (rp.map RP.key)[i]? = (ps.map PVal.key)[i]? := by rw [hkey]
        rw [List.getElem?_map, List.getElem?_map, List.getElem?_eq_getElem h1, List.getElem?_eq_getElem h2] at h
        simp only [Option.map_some, RP.key, PVal.key, Option.some.injEq, Prod.mk.injEq] at h
        exact h)
      have D1 := C1.keep hb2 hl1
      have D6 := C6.keep hb2 C6.lt
      have hb3 := below_all hbx hb2
      have HTA : Hid (RTermsAt w2 O ts) := Lib.hid ⟨hsl.keep (below_all hb1x hb2), fun t ht => by
        obtain ⟨i, hi, rfl⟩ := List.getElem_of_mem ht
        obtain ⟨e1, e2, e3⟩ := core_get hcore hi (by omega)
        rw [e1, e3]
        exact HPI.out w2 hb3 _ (List.getElem_mem _)⟩
      have HRP := Lib.hid hRP
      have hzz := hb3.size
      have hb22 : Below w2.heap.size w2 w2 := Below.refl _ _
      have hl6 := D6.lt
      have hl1' := D1.lt
      clear htl hKL HRA2 HRA HFC HOK hpok hoks hRP hkey hsl hcore hb1 hb1x hb2 C1 C6 z0 z1 y0 y1 hl1 hbx HPI hb1w
      go_wp2
      go_loopw [10] (fun s10 wr => ∃ i : Nat, s10 = .int .i64 i ∧ i ≤ rp.length ∧ Hid (∀ c ∈ ps.take i, c.vars = n) ∧ Below w2.heap.size w2 wr) (fun s10 _ => rp.length - (intOf s10).toNat)
      case atStart => exact ⟨0, rfl, Nat.zero_le _, Lib.hid (by simp), hb22⟩
      case round =>
        clear hb22
        obtain ⟨wo, rfl⟩ : ∃ wo : World, wo = wr := ⟨_, rfl⟩
        obtain ⟨i, rfl, hi, HV, hb⟩ := hrel
        have E6 := D6.keep hb hl6
        have E1 := D1.keep hb hl1'
        obtain ⟨k0, k1, _, _⟩ := E6.two
        obtain ⟨z0, z1, y0, y1⟩ := E1.two
        have hb4 := below_all hb3 hb
        have hle1 := E1.lt
        by_cases hlt : i < rp.length
        · obtain ⟨rd, rfl, e0, e1, hI⟩ := (HRP.out.keep hb).at hlt
          have hlt2 : i < ps.length := by omega
          have hky := (HKY.out i hlt hlt2).1
          have HVS : Hid (ps[i].vars = n → ∀ c ∈ ps.take (i + 1), c.vars = n) := Lib.hid (fun h c hc => by
            rcases List.mem_cons.1 ((take_mem_succ hlt2 c).2 hc) with rfl | h2
            · exact h
            · exact HV.out c h2)
          have HVN : Hid (ps[i].vars ≠ n → ¬ ∀ c ∈ ps, c.vars = (n : Int)) := Lib.hid (fun h h2 => h (h2 _ (List.getElem_mem _)))
          rw [hky] at e0
          generalize ps[i].vars = u at *
          clear hky e1 hI
          have p0 : (0 : Int) ≤ (i : Int) := by omega
          have p1 : (i : Int) < (rp.length : Int) := by omega
          have p3 : ((i : Int)).toNat = i := by omega
          have hfw := HFW.out.1
          have wi : IntKind.i64.wrap ((i : Int) + 1) = (i : Int) + 1 := IntWalk.i64_in _ (by omega)
          by_cases hu : u = n
          · have HV2 := Lib.hid (HVS.out hu)
            have hne : (u != (n : Int)) = false := by simp [hu]
            clear hu HVS HVN
            go_wp2
            go_quiet (fail)
            go_wp2
            go_roundw
            case rel => exact ⟨i + 1, by go_num, by omega, HV2, below_drewN hb _⟩
            case measure => simp [intOf]; omega
          · have HV2 := Lib.hid (HVN.out hu)
            have hne : (u != (n : Int)) = true := by simp [hu]
            have HE : Hid (errV ⟨n, T, cT, tv⟩ ps = 4) := Lib.hid (errV_shape HOKA.out HV2.out)
            clear hu HVS HVN
            go_wp2
            go_quiet (fail)
            go_wp2
            refine bodyPost_ret (v := _) (Gx.results_g (p := 4) (q := 5) rfl _ _ (w.heap.size + 1) _ _ rfl (Gx.blk_two (E1.drewN _))) rfl ?_
            exact ⟨below_far (below_far (below_drewN hb4 _) (by omega) _ _) (by omega) _ _, .inl ⟨by rw [HE.out]; decide, by rw [HE.out]; rfl⟩⟩
        · obtain rfl : i = rp.length := by omega
          have di : decide ((rp.length : Int) < (rp.length : Int)) = false := by simp
          rw [HKL0.out, List.take_length] at HV
          by_cases h32 : rp.length ≤ 32
          · have d32 : decide ((32 : Int) < (rp.length : Int)) = false := by simp; omega
            have d32' : decide (32 < rp.length) = false := by simp; omega
            have HE : Hid (errV ⟨n, T, cT, tv⟩ ps = 0) := Lib.hid (errV_ok HOKA.out HV.out (by omega))
            have m2 := fun W => Gx.make_bools n (by omega) W
            have HVA := Lib.hid HV.out
            clear z0 z1 y0 y1 E1 E6 hle1 hb4 HV
            go_wp2_with (go_at_call 59; refine (Gx.blank_any n wo (by omega)).mono ?_; rintro e w3 ⟨rfl, hTb, hb5⟩)
            clear k0 k1
            go_loopw [12] (fun s12 wr => ∃ (i : Nat) (t1 : Nat → Nat → Bool), s12 = .int .i64 i ∧ i ≤ ts.length ∧ Gx.TableAt wr wo.heap.size n t1 ∧ Hid (JT n t1 (inT (tv.take i))) ∧ Below wo.heap.size wo wr) (fun s12 _ => ts.length - (intOf s12).toNat)
            case atStart => exact ⟨0, _, rfl, Nat.zero_le _, hTb, Lib.hid (fun a b _ _ => ⟨(fun h => by cases h), (fun h => by obtain ⟨_, t, ht, _⟩ := h; simp at ht)⟩), hb5⟩
            case round =>
              clear hTb hb5
              obtain ⟨wp, rfl⟩ : ∃ wp : World, wp = wr := ⟨_, rfl⟩
              obtain ⟨i, t1, rfl, hi, hA, HJ, hb5⟩ := hrel
              have hb6 := below_all hb hb5
              have F6 := D6.keep hb6 hl6
              obtain ⟨k0, k1, _, _⟩ := F6.two
              have htn := HTN.out
              by_cases hlt : i < ts.length
              · have hlt2 : i < tv.length := by omega
                have hel : ts[i].exps.length = n := by rw [(core_get HCR.out hlt hlt2).2.2]; exact (HDT.out _ (List.getElem_mem _)).1
                have HJS : Hid (∀ a b, inT (tv.take (i + 1)) a b ↔ inT (tv.take i) a b ∨ (mk1 ts[i].exps a = true ∧ mk1 ts[i].exps b = true)) := Lib.hid (fun a b => by rw [inT_succ hlt2, (core_get HCR.out hlt hlt2).2.2, mk1_pair])
                have HT2 : Hid (∀ V, Below w2.heap.size w2 V → ∃ ad, O = some ad ∧ V.cell? ⟨(ad.add (i * 5)).block, (ad.add (i * 5)).off + 4, none⟩ = some (.slice ts[i].adr ts[i].exps.length ts[i].cap) ∧ Ints V ts[i].adr ts[i].exps) := Lib.hid (fun V h => (HTA.out.keep h).at hlt)
                generalize ts[i] = t at *
                obtain ⟨c0, c1, c2, c3, E, ce, el⟩ := t
                simp only at hel HJS HT2
                have p0 : (0 : Int) ≤ (i : Int) := by omega
                have p1 : (i : Int) < (ts.length : Int) := by omega
                have p3 : ((i : Int)).toNat = i := by omega
                have wi : IntKind.i64.wrap ((i : Int) + 1) = (i : Int) + 1 := IntWalk.i64_in _ (by omega)
                have hgl := tab_lt hA
                go_wp2
                clear k0 k1 F6 hb6
                go_loopw [14] (fun s14 wx => ∃ v : Nat, s14 = .int .i64 v ∧ v ≤ n ∧ Blk wx wp.heap.size 4 (Gx.farr n fun k => .bool (mk el v k)) ∧ Gx.TableAt wx wo.heap.size n t1 ∧ Below wo.heap.size wo wx) (fun s14 _ => n - (intOf s14).toNat)
                case atStart =>
                  refine ⟨0, rfl, Nat.zero_le _, ?_, hA.keep ((Below.refl wp.heap.size wp).alloc (Nat.le_refl _) _) (Nat.le_refl _), hb5.alloc hb5.size _⟩
                  rw [mk_start]; exact Blk.new _ _ _
                case round =>
                  clear hA hb5
                  obtain ⟨wy, rfl⟩ : ∃ wy : World, wy = wr := ⟨_, rfl⟩
                  obtain ⟨v, rfl, hv, hM, hA, hb7⟩ := hrel
                  have hb8 := below_all hb hb7
                  have G6 := D6.keep hb8 hl6
                  obtain ⟨k0, k1, _, _⟩ := G6.two
                  by_cases hvn : v < n
                  · obtain ⟨td, rfl, e0, hI⟩ := HT2.out _ hb8
                    have hve : v < el.length := by omega
                    obtain ⟨Ed, rfl, hce⟩ := Ints.at hI hve
                    obtain ⟨q, hq⟩ : ∃ q, decide (0 < el[v]) = q := ⟨_, rfl⟩
                    have HMS := Lib.hid (mk_set n el hve hq)
                    clear hI
                    generalize el[v] = x at *
                    have cv := (hM.cell v).trans (Gx.farr_at _ _ hvn)
                    have fv := hM.frozen v
                    generalize mk el v v = r at cv
                    have HM := Lib.hid hM
                    have HA := Lib.hid hA
                    have v0 : (0 : Int) ≤ (v : Int) := by omega
                    have v1 : (v : Int) < (el.length : Int) := by omega
                    have v2 : (v : Int) < (n : Int) := by omega
                    have v3 : ((v : Int)).toNat = v := by omega
                    have wv : IntKind.i64.wrap ((v : Int) + 1) = (v : Int) + 1 := IntWalk.i64_in _ (by omega)
                    clear hM hA
                    go_wp2
                    go_roundw
                    case rel =>
                      refine ⟨v + 1, by go_num, by omega, ?_, HA.out.far (by simp; omega) (fun i hi => by simp; omega) _, hb7.setCell (by simp; omega) _⟩
                      have := HM.out.set v (.bool q)
                      rw [HMS.out] at this
                      exact this
                    case measure => simp [intOf]; omega
                  · obtain rfl : v = n := by omega
                    have dv : decide ((v : Int) < (v : Int)) = false := by simp
                    rw [mk_end] at hM
                    have HLK := Lib.hid (link_any wo.heap.size wp.heap.size v t1 (mk1 el) wy hA hM (by omega) hgl)
                    have HJ2 := Lib.hid (fun t2 h2 => (HJ.out.link (t2 := t2) (m := mk1 el) h2).congr (S := inT (tv.take (i + 1))) (fun a b _ _ => (HJS.out a b).symm))
                    go_wp2_with (go_at_call 60; refine HLK.out.mono ?_; rintro e w5 ⟨rfl, ⟨t2, hA2, ht2⟩, hb9⟩)
                    go_roundw
                    case rel => exact ⟨i + 1, t2, by go_num, by omega, hA2, Lib.hid (HJ2.out t2 ht2), hb7.trans hb9⟩
                    case measure => simp [intOf]; omega
              · obtain rfl : i = ts.length := by omega
                have di2 : decide ((ts.length : Int) < (ts.length : Int)) = false := by simp
                rw [HTE0.out, List.take_length] at HJ
                clear F6 hb6 hlt
                go_wp2
                clear k0 k1
                go_loopw [15] (fun s15 wr => ∃ (i : Nat) (t1 : Nat → Nat → Bool), s15 = .int .i64 i ∧ i ≤ rp.length ∧ Gx.TableAt wr wo.heap.size n t1 ∧ Hid (JT n t1 fun a b => inT tv a b ∨ inC (ps.take i) a b) ∧ Below wo.heap.size wo wr) (fun s15 _ => rp.length - (intOf s15).toNat)
                case atStart => exact ⟨0, t1, rfl, Nat.zero_le _, hA, Lib.hid (HJ.out.congr (fun a b _ _ => ⟨.inl, fun h => h.elim id (fun ⟨c, hc, _⟩ => by simp at hc)⟩)), hb5⟩
                case round =>
                  clear hA hb5 HJ di2
                  obtain ⟨wp, rfl⟩ : ∃ wp : World, wp = wr := ⟨_, rfl⟩
                  obtain ⟨i, t1, rfl, hi, hA, HJ, hb5⟩ := hrel
                  have hb6 := below_all hb hb5
                  by_cases hlt : i < rp.length
                  · have hlt2 : i < ps.length := by omega
                    have F6 := D6.keep hb6 hl6
                    obtain ⟨k0, k1, _, _⟩ := F6.two
                    have hky := (HKY.out i hlt hlt2).2
                    have hlen : rp[i].ts.length = ps[i].tv.length := by have := congrArg List.length hky; simpa using this
                    have hdm : ∀ t ∈ ps[i].tv, t.exps.length = n := fun t ht => by
                      have h1 : VldP (n : Int) (ps[i].tv.map TV.pl) := by rw [← HVA.out _ (List.getElem_mem hlt2)]; exact HOKA.out.2 _ (List.getElem_mem hlt2)
                      exact (vldP_dom h1 (TV.pl t) (List.mem_map.2 ⟨t, ht, rfl⟩)).1
                    have HCX : Hid (∀ (k : Nat) (h1 : k < rp[i].ts.length) (h2 : k < ps[i].tv.length), rp[i].ts[k].exps.length = n ∧ ps[i].tv[k].exps = rp[i].ts[k].exps) := Lib.hid (fun k h1 h2 => by
                      have h : (rp[i].ts.map RT.exps)[k]? = (ps[i].tv.map TV.exps)[k]? := by rw [hky]
                      rw [List.getElem?_map, List.getElem?_map, List.getElem?_eq_getElem h1, List.getElem?_eq_getElem h2] at h
                      simp only [Option.map_some, Option.some.injEq] at h
                      exact ⟨by rw [h]; exact hdm _ (List.getElem_mem _), h.symm⟩)
                    have HRQ : Hid (∀ V, Below w2.heap.size w2 V → ∃ ad, LL = some ad ∧ V.cell? ⟨(ad.add (i * 2)).block, (ad.add (i * 2)).off + 1, none⟩ = some (.slice rp[i].adr rp[i].ts.length rp[i].cap) ∧ RTermsAt V rp[i].adr rp[i].ts) := Lib.hid (fun V h => by
                      obtain ⟨ad, h1, _, h2, h3⟩ := (HRP.out.keep h).at hlt
                      exact ⟨ad, h1, h2, h3⟩)
                    have HCS : Hid (∀ a b, inC (ps.take (i + 1)) a b ↔ inC (ps.take i) a b ∨ (occB ps[i].tv a = true ∧ occB ps[i].tv b = true)) := Lib.hid (fun a b => by rw [inC_succ hlt2, occB_iff, occB_iff])
                    have hsh : ps[i].tv.length ≤ 8 := (HFW.out.2 _ (List.getElem_mem hlt2)).1
                    clear hky hdm
                    generalize ps[i].tv = cv at *
                    generalize rp[i] = c at *
                    obtain ⟨cvars, A, ca, us⟩ := c
                    simp only at hlen HCX HRQ
                    have HLEN := Lib.hid hlen
                    have hla : us.length ≤ cv.length := by omega
                    have hlb : cv.length ≤ us.length := by omega
                    clear hlen
                    have p0 : (0 : Int) ≤ (i : Int) := by omega
                    have p1 : (i : Int) < (rp.length : Int) := by omega
                    have p3 : ((i : Int)).toNat = i := by omega
                    have wi : IntKind.i64.wrap ((i : Int) + 1) = (i : Int) + 1 := IntWalk.i64_in _ (by omega)
                    have hgl := tab_lt hA
                    go_wp2
                    clear k0 k1 F6 hb6
                    go_loopw [17] (fun s17 wx => ∃ k : Nat, s17 = .int .i64 k ∧ k ≤ us.length ∧ Blk wx wp.heap.size 4 (Gx.farr n fun x => .bool (oc cv k 0 x)) ∧ Gx.TableAt wx wo.heap.size n t1 ∧ Below wo.heap.size wo wx) (fun s17 _ => us.length - (intOf s17).toNat)
                    case atStart =>
                      refine ⟨0, rfl, Nat.zero_le _, ?_, hA.keep ((Below.refl wp.heap.size wp).alloc (Nat.le_refl _) _) (Nat.le_refl _), hb5.alloc hb5.size _⟩
                      rw [oc_start]; exact Blk.new _ _ _
                    case round =>
                      clear hA hb5
                      obtain ⟨wx, rfl⟩ : ∃ wx : World, wx = wr := ⟨_, rfl⟩
                      obtain ⟨k, rfl, hk, hM, hA, hb7⟩ := hrel
                      have hb8 := below_all hb hb7
                      obtain ⟨rd, rfl, e0, hRT⟩ := HRQ.out _ hb8
                      by_cases hkl : k < us.length
                      · have hk2 : k < cv.length := by omega
                        obtain ⟨hel, hce⟩ := HCX.out k hkl hk2
                        have HRE : Hid (∀ V, Below w2.heap.size w2 V → ∃ ad, A = some ad ∧ V.cell? ⟨(ad.add (k * 5)).block, (ad.add (k * 5)).off + 4, none⟩ = some (.slice us[k].adr us[k].exps.length us[k].cap) ∧ Ints V us[k].adr us[k].exps) := Lib.hid (fun V h => by
                          obtain ⟨_, _, _, h3⟩ := HRQ.out V h
                          exact h3.at hkl)
                        have HOS := Lib.hid (fun v b h => oc_set n hk2 (v := v) (b := b) h)
                        rw [hce] at HOS
                        have HORow := Lib.hid (oc_row n cv k)
                        clear hRT hce
                        generalize us[k] = u at *
                        obtain ⟨d0, d1, d2, d3, E, ce, el⟩ := u
                        simp only at hel HRE HOS
                        have wk : IntKind.i64.wrap ((k : Int) + 1) = (k : Int) + 1 := IntWalk.i64_in _ (by omega)
                        go_wp2
                        clear e0
                        go_loopw [18] (fun s18 wx => ∃ v : Nat, s18 = .int .i64 v ∧ v ≤ n ∧ Blk wx wp.heap.size 4 (Gx.farr n fun x => .bool (oc cv k v x)) ∧ Gx.TableAt wx wo.heap.size n t1 ∧ Below wo.heap.size wo wx) (fun s18 _ => n - (intOf s18).toNat)
                        case atStart => exact ⟨0, rfl, Nat.zero_le _, hM, hA, hb7⟩
                        case round =>
                          clear hM hA hb7 hb8
                          obtain ⟨wy, rfl⟩ : ∃ wy : World, wy = wr := ⟨_, rfl⟩
                          obtain ⟨v, rfl, hv, hM, hA, hb7⟩ := hrel
                          have hb8 := below_all hb hb7
                          have G6 := D6.keep hb8 hl6
                          obtain ⟨k0, k1, _, _⟩ := G6.two
                          by_cases hvn : v < n
                          · obtain ⟨rd', hrd, e0, _⟩ := HRQ.out _ hb8
                            injection hrd with hrd
                            subst hrd
                            obtain ⟨td, rfl, e1, hI⟩ := HRE.out _ hb8
                            have hve : v < el.length := by omega
                            obtain ⟨Ed, rfl, hce⟩ := Ints.at hI hve
                            have hgd : el.getD v 0 = el[v] := by simp [hve]
                            obtain ⟨q, hq⟩ : ∃ q, decide (0 < el[v]) = q := ⟨_, rfl⟩
                            have HOS2 := Lib.hid (HOS.out v)
                            rw [hgd] at HOS2
                            clear hI hgd
                            generalize el[v] = x at *
                            have HQ : Hid (q = true ↔ 0 < x) := Lib.hid (by rw [← hq]; exact decide_eq_true_iff)
                            have cv' := (hM.cell v).trans (Gx.farr_at _ _ hvn)
                            have fv := hM.frozen v
                            obtain ⟨r, hr⟩ : ∃ r, oc cv k v v = r := ⟨_, rfl⟩
                            rw [hr] at cv' HOS2
                            have HM := Lib.hid hM
                            have HA := Lib.hid hA
                            have v0 : (0 : Int) ≤ (v : Int) := by omega
                            have v1 : (v : Int) < (el.length : Int) := by omega
                            have v2 : (v : Int) < (n : Int) := by omega
                            have v3 : ((v : Int)).toNat = v := by omega
                            have q0 : (0 : Int) ≤ (k : Int) := by omega
                            have q1 : (k : Int) < (us.length : Int) := by omega
                            have q3 : ((k : Int)).toNat = k := by omega
                            have wv : IntKind.i64.wrap ((v : Int) + 1) = (v : Int) + 1 := IntWalk.i64_in _ (by omega)
                            clear hM hA hr
                            cases r with
                            | true =>
                              have HMS := Lib.hid (HOS2.out true (iff_of_true rfl (.inl rfl)))
                              go_wp2
                              go_roundw
                              case rel =>
                                refine ⟨v + 1, by go_num, by omega, ?_, HA.out.far (by simp; omega) (fun i hi => by simp; omega) _, hb7.setCell (by simp; omega) _⟩
                                have := HM.out.set v (.bool true)
                                rw [HMS.out] at this
                                exact this
                              case measure => simp [intOf]; omega
                            | false =>
                              have HMS := Lib.hid (HOS2.out q (by rw [HQ.out]; exact ⟨.inr, fun h => h.elim (fun h => by cases h) id⟩))
                              go_wp2
                              go_roundw
                              case rel =>
                                refine ⟨v + 1, by go_num, by omega, ?_, HA.out.far (by simp; omega) (fun i hi => by simp; omega) _, hb7.setCell (by simp; omega) _⟩
                                have := HM.out.set v (.bool q)
                                rw [HMS.out] at this
                                exact this
                              case measure => simp [intOf]; omega
                          · obtain rfl : v = n := by omega
                            have dv : decide ((v : Int) < (v : Int)) = false := by simp
                            rw [HORow.out] at hM
                            go_wp2
                            go_roundw
                            case rel => exact ⟨k + 1, by go_num, by omega, hM, hA, hb7⟩
                            case measure => simp [intOf]; omega
                      · obtain rfl : k = us.length := by omega
                        have dk : decide ((us.length : Int) < (us.length : Int)) = false := by simp
                        rw [show us.length = cv.length from HLEN.out, oc_end] at hM
                        have HLK := Lib.hid (link_any wo.heap.size wp.heap.size n t1 (occB cv) wx hA hM (by omega) hgl)
                        have HJ2 := Lib.hid (fun t2 h2 => (HJ.out.link (t2 := t2) (m := occB cv) h2).congr (S := fun a b => inT tv a b ∨ inC (ps.take (i + 1)) a b) (fun a b _ _ => by rw [HCS.out, or_assoc]))
                        go_wp2_with (go_at_call 60; refine HLK.out.mono ?_; rintro e w5 ⟨rfl, ⟨t2, hA2, ht2⟩, hb9⟩)
                        go_roundw
                        case rel => first | exact ⟨i + 1, t2, by go_num, by omega, hA2, Lib.hid (HJ2.out t2 ht2), hb7.trans hb9⟩ | ((repeat apply Exists.intro); exact ⟨⟨i + 1, t2, by go_num, by omega, hA2, Lib.hid (HJ2.out t2 ht2), hb7.trans hb9⟩, rfl⟩)
                        case measure => simp [intOf]; omega
                  · obtain rfl : i = rp.length := by omega
                    have di2 : decide ((rp.length : Int) < (rp.length : Int)) = false := by simp
                    rw [HKL0.out, List.take_length] at HJ
                    have HTE : Hid (tableEdges t1 n n = tableEdges (jV ⟨n, T, cT, tv⟩ ps) n n) := Lib.hid (JT.edges (p := ⟨n, T, cT, tv⟩) HJ.out)
                    have HWR := Lib.hid (Gx.rwrite_any wo.heap.size n t1 wp hA (by omega))
                    have F1 := D1.keep hb6 hl1'
                    have hlf := F1.lt
                    have hb10 := below_all hb3 hb6
                    go_wp2_with (go_at_call 41; refine HWR.out.mono ?_; rintro e w4 ⟨F, d, rfl, _, hF, hb11⟩
                                 have C4 := F1.keep hb11 hlf
                                 obtain ⟨z0, z1, y0, y1⟩ := C4.two
                                 have hl4 := C4.lt)
                    refine bodyPost_ret (v := _) (Gx.results_g (p := 4) (q := 5) rfl _ _ (w.heap.size + 1) _ _ rfl (Gx.blk_two C4)) rfl ?_
                    have hne := own_blk_ne hF C4 (by decide)
                    refine ⟨below_far (below_far (below_all hb10 hb11) (by omega) _ _) (by omega) _ _, .inr ⟨HE.out, n, rfl, hn6, F, d, ?_, ?_⟩⟩
                    · rw [← HTE.out]; rfl
                    · rw [← HTE.out]; exact Sl.own (own_far (own_far hF hne _) hne _)
          · have d32 : decide ((32 : Int) < (rp.length : Int)) = true := by simp; omega
            have d32' : decide (32 < rp.length) = true := by simp; omega
            have HE : Hid (errV ⟨n, T, cT, tv⟩ ps = 2) := Lib.hid (errV_lim HOKA.out HV.out (by omega))
            go_wp2
            refine bodyPost_ret (v := _) (Gx.results_g (p := 4) (q := 5) rfl _ _ (w.heap.size + 1) _ _ rfl (Gx.blk_two E1)) rfl ?_
            exact ⟨below_far (below_far hb4 (by omega) _ _) (by omega) _ _, .inl ⟨by rw [HE.out]; decide, by rw [HE.out]; rfl⟩⟩
end Go.Proofs.Tg.Sx
end
