/- Parts of the proof: WK7, WK8, WD2, WD3, WD4, WD5, XD1. -/
import Derived.Laws.OwnMore
import Derived.Maps.AppendAt
import Derived.Maps.OwnOps
import Derived.Maps.OwnSet
import Derived.Maps.Views
import Derived.Laws.IdiomStrings
import Derived.Laws.BytesArg
import Derived.Carry
import Derived.Test.YtodapfjmgnekkaaGreatDoorMCSR0
import Derived.Test.YtodapfjmgnekkaaGreatDoorMCSR17
import Derived.Test.YtodapfjmgnekkaaGreatDoorMCSR21
import Derived.Test.YtodapfjmgnekkaaGreatDoorMCSR22
section
/- The rounds, run. -/
namespace Go.Proofs.Tg
open Go.RowKit Go.Gr Go.Sp Go.Ev Go.Mo Go.Jt
set_option maxHeartbeats 4000000
set_option maxRecDepth 100000
/-- The rounds of a basis and a set of monomials. -/
noncomputable def rnd (b S : List (List Int)) (hb : b.length ≤ 64) : Rounds b.length := rounds b S (fun S' => ed_valid b S' hb)
theorem rnd_B (b S : List (List Int)) (hb : b.length ≤ 64) (t : Nat) : (rnd b S hb).B t = comps b (setAt b S t) := rfl
def RetRun (k : Nat) (b S : List (List Int)) (hb : b.length ≤ 64) (w : World) (e : Ending) (w' : World) : Prop :=
  ∃ m R c, (rnd b S hb).Final k m ∧ e = .returned (.tuple #[.slice R ((rnd b S hb).B (m - 1)).length c, .int .i64 (m : Nat), .int .i64 0]) ∧ Gx.ListsC w' R ((rnd b S hb).B (m - 1)) ∧ Below w.heap.size w w'
theorem run_any (V : Int) (T : Option Addr) (cT : Nat) (tv : List TV) (B : Option Addr) (cb : Nat) (b : List (List Int)) (n : Nat) (K : Nat) (w : World) (hP : TermsAt w T tv) (hB : Lists w B b) (hn : n ≤ 6) (hl : tv.length ≤ 4096) (hbl : b.length ≤ 64)
    (hd : ∀ t ∈ tv, domK n 24 t.exps) (hdb : ∀ m ∈ b, domK n 24 m) (hK : 1 ≤ K) (hT : Tab w) :
    Calls Tryz.prog 37 #[.agg #[.int .i64 V, .slice T tv.length cT], .slice B b.length cb, .int .i64 K] w (RetRun K b (S0 (exsOf tv) b) hbl w) := by
  have hbA : Below w.heap.size w (w.alloc (.cells #[.int .i64 V, .slice T tv.length cT] 24)) := (Below.refl _ _).alloc (Nat.le_refl _) _
  have HST := Lib.hid (start_any V T cT tv B cb b n _ (hP.keep hbA) (hB.keep hbA) hn hl hbl hd hdb)
  have HSZ : Hid (tv.length + b.length ≤ 5000) := Lib.hid (by omega)
  obtain ⟨S, hS⟩ : ∃ S, S0 (exsOf tv) b = S := ⟨_, rfl⟩
  have hST2 : ∃ c0, c0 ≤ 5000 ∧ ∀ e w', RetStart B cb b n tv (w.alloc (.cells #[.int .i64 V, .slice T tv.length cT] 24)) e w' → ∃ g mb, e = .returned (.pointer (some ⟨g, 0, none⟩)) ∧ w.heap.size ≤ mb ∧ ItAt w' g mb B cb b n c0 S ∧ Below w.heap.size w w' := by
    refine ⟨tv.length + b.length, HSZ.out, ?_⟩
    rintro e w' ⟨g, mb, h1, h2, h3, h4, h5⟩
    rw [hS] at h4
    refine ⟨g, mb, h1, ?_, h4, below_all hbA h5⟩
    have := hbA.size
    omega
  rw [hS]
  obtain ⟨c0, hc0, hST2⟩ := hST2
  have HST2 := Lib.hid hST2
  obtain ⟨R, hR⟩ : ∃ R, rnd b S hbl = R := ⟨_, rfl⟩
  have HRD : Hid (∀ W g mb cnt S' t, ItAt W g mb B cb b n cnt S' → cnt ≤ 100000000 → Tab W → (∀ v, v ∈ S' ↔ v ∈ setAt b S t) → Calls Tryz.prog 67 #[.pointer (some ⟨g, 0, none⟩)] W fun e w' =>
      ∃ R' c, e = .returned (.tuple #[.slice R' (R.B t).length c, .int .i64 0]) ∧ Gx.ListsC w' R' (R.B t) ∧ (∃ S'', ItAt w' g mb B cb b n (cnt + 270000) S'' ∧ ∀ v, v ∈ S'' ↔ v ∈ setAt b S (t + 1)) ∧ W.grownBy w' (some mb)) := Lib.hid (fun W g mb cnt S' t h1 h2 h3 h4 => by
    have hc : comps b S' = R.B t := by rw [← hR, rnd_B]; exact comps_set h4
    have := round_any g mb B cb n cnt b S' W h1 hn hbl hdb h2 h3
    unfold RetRound at this
    rw [hc] at this
    refine this.mono ?_
    rintro e w' ⟨R', c, q1, q2, ⟨S'', q3, q4⟩, q5⟩
    refine ⟨R', c, q1, q2, ⟨S'', q3, fun v => ?_⟩, q5⟩
    rw [q4, setAt_blks, h4, ← hR, rnd_B])
  have HM1 : Hid (R.Fell 1) := Lib.hid (fun t ht => by omega)
  have HMS : Hid (∀ m, R.Fell m → 1 ≤ m → (R.B m).length ≠ (R.B (m - 1)).length → R.Fell (m + 1)) := Lib.hid (fun m h1 h2 h3 => R.fell_succ h1 h2 h3)
  have HML : Hid (∀ m, R.Fell m → m ≤ 65) := Lib.hid (fun m h => by have := R.fell_le h; omega)
  have HBL : Hid (∀ t, (R.B t).length ≤ 64) := Lib.hid (fun t => by rw [← hR, rnd_B]; exact comps_len hbl)
  unfold RetRun
  rw [hR]
  have HT := Lib.hid hT
  clear hST2 hS hR hd hdb hbA hP hB hT HSZ
  go_enter Tryz.func37, Tryz.ntmps37
  go_upto_region 2 with (go_at_call 38; refine HST.out.mono ?_; rintro e w1 hst; obtain ⟨g, mb, rfl, hmb, hI1, hb1⟩ := HST2.out _ _ hst; clear hst)
  have HR0 := Lib.hid (HRD.out w1 g mb c0 S 0 hI1 (by omega) (HT.out.below hb1 HT.out.1) (fun v => Iff.rfl))
  have hmbl := hI1.set.mapB
  clear hI1 HST HST2
  go_upto_region 3 with (go_at_call 67; refine HR0.out.mono ?_; rintro e w2 ⟨R0, cr0, rfl, hL0, ⟨S1, hI2, hS1⟩, hg2⟩)
  have hb2 := below_turn hb1 hmbl hg2 hmb
  clear hmbl hg2 HR0 hb1
  go_wp2
  go_loopw [12, 10] (fun s12 s10 wr => ∃ (m : Nat) (R1 : Option Addr) (cr : Nat) (S1 : List (List Int)), s12 = .int .i64 m ∧ 1 ≤ m ∧ m ≤ K ∧ s10 = .slice R1 (R.B (m - 1)).length cr ∧ Hid (R.Fell m) ∧ ItAt wr g mb B cb b n (c0 + 270000 * m) S1 ∧ (∀ v, v ∈ S1 ↔ v ∈ setAt b S m) ∧ Gx.ListsC wr R1 (R.B (m - 1)) ∧ Below w.heap.size w wr) (fun s12 _ _ => K - (intOf s12).toNat)
  case atStart => exact ⟨1, R0, cr0, S1, rfl, by omega, hK, rfl, HM1, hI2, hS1, hL0, hb2⟩
  case round =>
    clear hI2 hS1 hL0 hb2
    obtain ⟨wo, rfl⟩ : ∃ wo : World, wo = wr := ⟨_, rfl⟩
    obtain ⟨m, R1, cr, S1, rfl, hm1, hmK, rfl, HF, hI, hS, hL, hb⟩ := hrel
    have hm65 := HML.out m HF.out
    by_cases hlt : m < K
    · have HR1 := Lib.hid (HRD.out wo g mb _ S1 m hI (by omega) (HT.out.below hb HT.out.1) hS)
      have hmbl := hI.set.mapB
      have dk : decide ((m : Int) < (K : Int)) = true := by simp; omega
      clear hI hS
      go_upto_region 8 with (go_at_call 67; refine HR1.out.mono ?_; rintro e w3 ⟨R2, cr2, rfl, hL2, ⟨S2, hI2, hS2⟩, hg3⟩)
      have hb3 := below_turn hb hmbl hg3 hmb
      have hL3 := listsC_turn hL hmbl hg3
      by_cases heq : (R.B m).length = (R.B (m - 1)).length
      · have hbq : (((R.B m).length : Int) == ((R.B (m - 1)).length : Int)) = true := by simp [heq]
        have HFN : Hid (R.Final K m) := Lib.hid ⟨hm1, hmK, HF.out, .inr heq⟩
        have HEQ := Lib.hid heq
        clear heq
        go_wp2
        refine bodyPost_ret (v := .tuple #[.slice R1 (R.B (m - 1)).length cr, .int .i64 (m : Nat), .int .i64 0]) (by simp [results, Tryz.results37, go_sem]) rfl ?_
        exact ⟨m, R1, cr, HFN.out, rfl, hL3, hb3⟩
      · have hbq : (((R.B m).length : Int) == ((R.B (m - 1)).length : Int)) = false := by simp; omega
        have HF2 := Lib.hid (HMS.out m HF.out hm1 heq)
        clear heq
        go_wp2
        go_roundw
        case rel => exact ⟨m + 1, R2, cr2, S2, by go_num, by omega, by omega, rfl, HF2, by rw [show c0 + 270000 * (m + 1) = c0 + 270000 * m + 270000 by omega]; exact hI2, hS2, hL2, hb3⟩
        case measure => simp [intOf]; omega
    · obtain rfl : m = K := by omega
      have dk : decide ((m : Int) < (m : Int)) = false := by simp
      have HFN : Hid (R.Final m m) := Lib.hid ⟨hm1, hmK, HF.out, .inl rfl⟩
      go_wp2
      refine bodyPost_ret (v := .tuple #[.slice R1 (R.B (m - 1)).length cr, .int .i64 (m : Nat), .int .i64 0]) (by simp [results, Tryz.results37, go_sem]) rfl ?_
      exact ⟨m, R1, cr, HFN.out, rfl, hL, hb⟩
end Go.Proofs.Tg
end
section
/- The exported functions: Graph, Blocks, Stable. -/
namespace Go.Proofs.Tg
open Go.RowKit Go.Gr Go.Sp Go.Ev Go.Mo Go.Jt
set_option maxHeartbeats 4000000
set_option maxRecDepth 100000
theorem dom_of {p : PVal} {ok : Bool} {b : List (List Int)} (hok : ok = true ↔ p.ok) (h : errS ok p.vars b = 0) : ∃ n : Nat, p.vars = n ∧ n ≤ 6 ∧ p.tv.length ≤ 4096 ∧ (∀ t ∈ p.tv, domK n 24 t.exps) ∧ (∀ m ∈ b, domK n 24 m) ∧ b.length ≤ 64 := by
  obtain ⟨h1, h2, h3, h4, _⟩ := errS_zero h
  have hp := hok.1 h1
  have h0 := hp.2.1.1
  have h6 := hp.2.1.2.1
  obtain ⟨n, hn⟩ : ∃ n : Nat, p.vars = n := ⟨p.vars.toNat, by omega⟩
  refine ⟨n, hn, by omega, by have := hp.1; rwa [List.length_map] at this, fun t ht => ?_, fun m hm => ?_, h4⟩
  · have hp' : VldP (n : Int) (p.tv.map TV.pl) := by rw [← hn]; exact hp
    exact vldP_dom hp' (TV.pl t) (List.mem_map.2 ⟨t, ht, rfl⟩)
  · have h5 := vld_dom (h2 m hm)
    have h7 := h3 m hm
    rwa [show m.length = n by omega] at h5
/-- The known monomials of a polynomial and a basis. -/
abbrev kn (p : PVal) (b : List (List Int)) : List (List Int) := S0 (exsOf p.tv) b
def RetSG (p : PVal) (b : List (List Int)) (er : Int) (w : World) (e : Ending) (w' : World) : Prop := Below w.heap.size w w' ∧
  ((er ≠ 0 ∧ e = .returned (.tuple #[Gx.zeroG, .int .i64 er])) ∨ (er = 0 ∧ ∃ F d, e = .returned (.tuple #[.agg #[.int .i64 b.length, .slice F (edTo b (kn p b) b.length).length d], .int .i64 0]) ∧ Gx.EdgesAt w' F (edTo b (kn p b) b.length)))
def RetSB (p : PVal) (b : List (List Int)) (hb : b.length ≤ 64) (er K : Int) (w : World) (e : Ending) (w' : World) : Prop := Below w.heap.size w w' ∧
  ((er ≠ 0 ∧ e = .returned (.tuple #[.slice none 0 0, .int .i64 er])) ∨ (er = 0 ∧ K < 1 ∧ e = .returned (.tuple #[.slice none 0 0, .int .i64 3])) ∨
    (er = 0 ∧ 1 ≤ K ∧ ∃ m R c, (rnd b (kn p b) hb).Final K.toNat m ∧ e = .returned (.tuple #[.slice R ((rnd b (kn p b) hb).B (m - 1)).length c, .int .i64 0]) ∧ Lists w' R ((rnd b (kn p b) hb).B (m - 1))))
def bigK : Nat := 9223372036854775807
def RetSS (p : PVal) (b : List (List Int)) (hb : b.length ≤ 64) (er : Int) (w : World) (e : Ending) (w' : World) : Prop := Below w.heap.size w w' ∧
  ((er ≠ 0 ∧ e = .returned (.tuple #[.slice none 0 0, .int .i64 0, .int .i64 er])) ∨
    (er = 0 ∧ ∃ m R c, (rnd b (kn p b) hb).Final bigK m ∧ e = .returned (.tuple #[.slice R ((rnd b (kn p b) hb).B (m - 1)).length c, .int .i64 (m : Nat), .int .i64 0]) ∧ Lists w' R ((rnd b (kn p b) hb).B (m - 1))))
theorem sstable_any (p : PVal) (B : Option Addr) (cb : Nat) (b : List (List Int)) (ok : Bool) (w : World) (hP : TermsAt w p.adr p.tv) (hsm : p.small) (hB : Lists w B b) (hbl : b.length ≤ 64) (hml : ∀ m ∈ b, m.length ≤ 1000) (hok : ok = true ↔ p.ok) (hT : Tab w) :
    Calls Tryz.prog 13 #[.agg #[.int .i64 p.vars, .slice p.adr p.tv.length p.cap], .slice B b.length cb] w (RetSS p b hbl (errS ok p.vars b) w) := by
  obtain ⟨W, hW⟩ : ∃ W, w.alloc (.cells #[.int .i64 p.vars, .slice p.adr p.tv.length p.cap] 24) = W := ⟨_, rfl⟩
  have hbA : Below w.heap.size w W := by rw [← hW]; exact (Below.refl _ _).alloc (Nat.le_refl _) _
  have B0 : Blk W w.heap.size 24 #[.int .i64 p.vars, .slice p.adr p.tv.length p.cap] := by rw [← hW]; exact Blk.new _ _ _
  have HCK := Lib.hid (scheck_any p B cb b ok W (hP.keep hbA) hsm (hB.keep hbA) hbl hml hok (hT.below hbA hT.1))
  have HRUN : Hid (∀ V, Below w.heap.size w V → errS ok p.vars b = 0 → Calls Tryz.prog 37 #[.agg #[.int .i64 p.vars, .slice p.adr p.tv.length p.cap], .slice B b.length cb, .int .i64 9223372036854775807] V (RetRun bigK b (kn p b) hbl V)) := Lib.hid (fun V hV he => by
    obtain ⟨n, hn, h6, hl, hd, hdb, _⟩ := dom_of hok he
    exact run_any p.vars p.adr p.cap p.tv B cb b n bigK V (hP.keep hV) (hB.keep hV) h6 hl hbl hd hdb (by decide) (hT.below hV hT.1))
  generalize errS ok p.vars b = er at *
  have HWW := Lib.hid hW
  obtain ⟨P, T, cT, tv⟩ := p
  simp only at *
  obtain ⟨c0, c1, _, _⟩ := B0.two
  clear hW hP hB hok hml hsm
  go_enter Tryz.func13, Tryz.ntmps13
  go_upto_region 1 with (fail)
  rw [HWW.out]
  clear HWW
  by_cases her : er = 0
  · subst her
    go_wp2_with (first
      | (go_at_call 36; refine HCK.out.mono ?_; rintro e w1 ⟨rfl, hb1⟩
         have C0 := B0.keep hb1 B0.lt
         obtain ⟨d0, d1, _, _⟩ := C0.two
         have hb2 := below_all hbA hb1)
      | (go_at_call 37; refine (HRUN.out _ hb2 (by trivial)).mono ?_; rintro e w3 ⟨m, R, c, hF, rfl, hL, hb3⟩))
    refine bodyPost_ret (v := _) (results_tmp3 rfl _ _ _) rfl ?_
    exact ⟨below_all hb2 hb3, .inr ⟨rfl, m, R, c, hF, rfl, hL.lists⟩⟩
  · have hne : (er != 0) = true := by simp [her]
    go_wp2_with (go_at_call 36; refine HCK.out.mono ?_; rintro e w1 ⟨rfl, hb1⟩)
    refine bodyPost_ret (v := _) (results_tmp3 rfl _ _ _) rfl ?_
    exact ⟨below_all hbA hb1, .inl ⟨her, rfl⟩⟩
theorem sblocks_any (p : PVal) (B : Option Addr) (cb : Nat) (b : List (List Int)) (ok : Bool) (w : World) (hP : TermsAt w p.adr p.tv) (hsm : p.small) (hB : Lists w B b) (hbl : b.length ≤ 64) (hml : ∀ m ∈ b, m.length ≤ 1000) (hok : ok = true ↔ p.ok) (hT : Tab w) (K : Int) :
    Calls Tryz.prog 12 #[.agg #[.int .i64 p.vars, .slice p.adr p.tv.length p.cap], .slice B b.length cb, .int .i64 K] w (RetSB p b hbl (errS ok p.vars b) K w) := by
  obtain ⟨W, hW⟩ : ∃ W, w.alloc (.cells #[.int .i64 p.vars, .slice p.adr p.tv.length p.cap] 24) = W := ⟨_, rfl⟩
  have hbA : Below w.heap.size w W := by rw [← hW]; exact (Below.refl _ _).alloc (Nat.le_refl _) _
  have B0 : Blk W w.heap.size 24 #[.int .i64 p.vars, .slice p.adr p.tv.length p.cap] := by rw [← hW]; exact Blk.new _ _ _
  have HCK := Lib.hid (scheck_any p B cb b ok W (hP.keep hbA) hsm (hB.keep hbA) hbl hml hok (hT.below hbA hT.1))
  have HRUN : Hid (∀ V, Below w.heap.size w V → errS ok p.vars b = 0 → 1 ≤ K → Calls Tryz.prog 37 #[.agg #[.int .i64 p.vars, .slice p.adr p.tv.length p.cap], .slice B b.length cb, .int .i64 K] V (RetRun K.toNat b (kn p b) hbl V)) := Lib.hid (fun V hV he hK => by
    obtain ⟨n, hn, h6, hl, hd, hdb, _⟩ := dom_of hok he
    have := run_any p.vars p.adr p.cap p.tv B cb b n K.toNat V (hP.keep hV) (hB.keep hV) h6 hl hbl hd hdb (by omega) (hT.below hV hT.1)
    rwa [show ((K.toNat : Nat) : Int) = K by omega] at this)
  generalize errS ok p.vars b = er at *
  have HWW := Lib.hid hW
  obtain ⟨P, T, cT, tv⟩ := p
  simp only at *
  obtain ⟨c0, c1, _, _⟩ := B0.two
  clear hW hP hB hok hml hsm
  go_enter Tryz.func12, Tryz.ntmps12
  go_upto_region 1 with (fail)
  rw [HWW.out]
  clear HWW
  by_cases her : er = 0
  · subst her
    by_cases hK : K < 1
    · have hk : decide (K < 1) = true := by simpa using hK
      go_wp2_with (go_at_call 36; refine HCK.out.mono ?_; rintro e w1 ⟨rfl, hb1⟩)
      go_ret2
      exact ⟨below_all hbA hb1, .inr (.inl ⟨rfl, hK, rfl⟩)⟩
    · have hk : decide (K < 1) = false := by simpa using hK
      have hK1 : 1 ≤ K := by omega
      go_wp2_with (first
        | (go_at_call 36; refine HCK.out.mono ?_; rintro e w1 ⟨rfl, hb1⟩
           have C0 := B0.keep hb1 B0.lt
           obtain ⟨d0, d1, _, _⟩ := C0.two
           have hb2 := below_all hbA hb1)
        | (go_at_call 37; refine (HRUN.out _ hb2 (by trivial) hK1).mono ?_; rintro e w3 ⟨m, R, c, hF, rfl, hL, hb3⟩))
      go_ret2
      exact ⟨below_all hb2 hb3, .inr (.inr ⟨rfl, hK1, m, R, c, hF, rfl, hL.lists⟩)⟩
  · have hne : (er != 0) = true := by simp [her]
    go_wp2_with (go_at_call 36; refine HCK.out.mono ?_; rintro e w1 ⟨rfl, hb1⟩)
    go_ret2
    exact ⟨below_all hbA hb1, .inl ⟨her, rfl⟩⟩
theorem sgraph_any (p : PVal) (B : Option Addr) (cb : Nat) (b : List (List Int)) (ok : Bool) (w : World) (hP : TermsAt w p.adr p.tv) (hsm : p.small) (hB : Lists w B b) (hbl : b.length ≤ 64) (hml : ∀ m ∈ b, m.length ≤ 1000) (hok : ok = true ↔ p.ok) (hT : Tab w) :
    Calls Tryz.prog 16 #[.agg #[.int .i64 p.vars, .slice p.adr p.tv.length p.cap], .slice B b.length cb] w (RetSG p b (errS ok p.vars b) w) := by
  obtain ⟨W, hW⟩ : ∃ W, (w.alloc (.cells #[.int .i64 p.vars, .slice p.adr p.tv.length p.cap] 24)).alloc (.cells #[.int .i64 0, .slice none 0 0] 40) = W := ⟨_, rfl⟩
  have hbA : Below w.heap.size w W := by rw [← hW]; exact ((Below.refl _ _).alloc (Nat.le_refl _) _).alloc (by simp) _
  have B0 : Blk W w.heap.size 24 #[.int .i64 p.vars, .slice p.adr p.tv.length p.cap] := by rw [← hW]; exact (Blk.new _ _ _).alloc _
  have B1 : Blk W (w.heap.size + 1) 40 #[.int .i64 0, .slice none 0 0] := by
    rw [← hW]; have := Blk.new (w.alloc (.cells #[.int .i64 p.vars, .slice p.adr p.tv.length p.cap] 24)) 40 #[.int .i64 0, .slice none 0 0]
    simpa using this
  have HCK := Lib.hid (scheck_any p B cb b ok W (hP.keep hbA) hsm (hB.keep hbA) hbl hml hok (hT.below hbA hT.1))
  have HST : Hid (∀ V, Below w.heap.size w V → errS ok p.vars b = 0 → Calls Tryz.prog 38 #[.agg #[.int .i64 p.vars, .slice p.adr p.tv.length p.cap], .slice B b.length cb] V fun e w' => ∃ g, e = .returned (.pointer (some ⟨g, 0, none⟩)) ∧ Below V.heap.size V w' ∧
      Calls Tryz.prog 39 #[.pointer (some ⟨g, 0, none⟩)] w' (RetEd b (kn p b) w')) := Lib.hid (fun V hV he => by
    obtain ⟨n, hn, h6, hl, hd, hdb, _⟩ := dom_of hok he
    refine (start_any p.vars p.adr p.cap p.tv B cb b n V (hP.keep hV) (hB.keep hV) h6 hl hbl hd hdb).mono ?_
    rintro e w' ⟨g, mb, h1, _, _, h4, h5⟩
    have hT2 : Tab w' := hT.below (below_all hV h5) hT.1
    exact ⟨g, h1, h5, igraph_any g mb B cb n _ b _ w' h4 h6 hbl hdb hT2⟩)
  generalize errS ok p.vars b = er at *
  have HWW := Lib.hid hW
  obtain ⟨P, T, cT, tv⟩ := p
  simp only at *
  obtain ⟨c0, c1, _, _⟩ := B0.two
  clear hW hP hB hok hml hsm
  go_enter Tryz.func16, Tryz.ntmps16
  go_upto_region 1 with (fail)
  rw [HWW.out]
  clear HWW
  by_cases her : er = 0
  · subst her
    go_wp2_with (first
      | (go_at_call 36; refine HCK.out.mono ?_; rintro e w1 ⟨rfl, hb1⟩
         have C0 := B0.keep hb1 B0.lt
         have C1 := B1.keep hb1 B1.lt
         obtain ⟨d0, d1, _, _⟩ := C0.two
         have hb2 := below_all hbA hb1)
      | (go_at_call 38; refine (HST.out _ hb2 (by trivial)).mono ?_; rintro e w3 ⟨g, rfl, hb3, HGR⟩
         have C3 := C1.keep hb3 C1.lt)
      | (go_at_call 39; refine HGR.mono ?_; rintro e w4 ⟨F, d, rfl, hF, hb4⟩
         have C4 := C3.keep hb4 C3.lt
         obtain ⟨z0, z1, y0, y1⟩ := C4.two
         have hl4 := C4.lt))
    refine bodyPost_ret (v := _) (Gx.results_g (p := 4) (q := 5) rfl _ _ (w.heap.size + 1) _ _ rfl (Gx.blk_two C4)) rfl ?_
    have hne := own_blk_ne hF C4 (by decide)
    exact ⟨below_far (below_far (below_all (below_all hb2 hb3) hb4) (by omega) _ _) (by omega) _ _, .inr ⟨rfl, F, d, rfl, Sl.own (own_far (own_far hF hne _) hne _)⟩⟩
  · have hne : (er != 0) = true := by simp [her]
    go_wp2_with (go_at_call 36; refine HCK.out.mono ?_; rintro e w1 ⟨rfl, hb1⟩
                 have C1 := B1.keep hb1 B1.lt
                 obtain ⟨z0, z1, y0, y1⟩ := C1.two
                 have hl4 := C1.lt)
    refine bodyPost_ret (v := _) (Gx.results_g (p := 4) (q := 5) rfl _ _ (w.heap.size + 1) _ _ rfl (Gx.blk_two C1)) rfl ?_
    exact ⟨below_far (below_far (below_all hbA hb1) (by omega) _ _) (by omega) _ _, .inl ⟨her, rfl⟩⟩
end Go.Proofs.Tg
end
section
/- Walks: characters. -/
namespace Go.Proofs.Tg
open Go.RowKit Go.Gr Go.Ev Go.Mo
set_option maxHeartbeats 2000000
set_option maxRecDepth 100000
theorem fill_zero (L : List Int) (k n : Nat) (hn : L.length = n) (hk : k < n) (h : L[k] = 0) : L.take k ++ List.replicate (n - k) 0 = L.take (k + 1) ++ List.replicate (n - (k + 1)) 0 := by
  rw [List.take_succ_eq_append_getElem (by omega), h, show n - k = (n - (k + 1)) + 1 by omega, List.replicate_succ]; simp
theorem fill_set (L : List Int) (k n : Nat) (x : Int) (hn : L.length = n) (hk : k < n) (h : L[k] = x) : (L.take k ++ List.replicate (n - k) 0).set k x = L.take (k + 1) ++ List.replicate (n - (k + 1)) 0 := by
  have hl : (L.take k).length = k := by rw [List.length_take]; omega
  rw [List.take_succ_eq_append_getElem (by omega), h, show n - k = (n - (k + 1)) + 1 by omega, List.replicate_succ, List.set_append_right _ _ (by omega), hl, Nat.sub_self, List.set_cons_zero]; simp
theorem small_of_vld {m : List Int} (h : vldM m = true) : m.length ≤ 6 ∧ ∀ x ∈ m, 0 ≤ x ∧ x ≤ 24 := by
  obtain ⟨h1, h2, h3⟩ := vldM_iff.1 h
  refine ⟨h1, fun x hx => ⟨h2 x hx, ?_⟩⟩
  obtain ⟨i, hi, rfl⟩ := List.mem_iff_getElem.1 hx
  have a := sum_take_le m (i + 1) h2
  rw [sum_take_succ m i hi] at a
  have b := sum_nonneg (m.take i) (fun e he => h2 e (List.mem_of_mem_take he))
  omega
/-- What the character of a monomial is, or the error. -/
def RetChar (s : List (List Int)) (m : List Int) (w : World) (e : Ending) (w' : World) : Prop :=
  ∃ A c, e = .returned (.tuple #[.slice A (if chk s [m] = 0 then chr s m else []).length c, .int .i64 (chk s [m])]) ∧ Ints w' A (if chk s [m] = 0 then chr s m else []) ∧ Below w.heap.size w w'
theorem sl_new {w : World} {g : Nat} {l : List Int} (h : Blk w g 3 (iarr l)) : Ints w (some ⟨g, 0, none⟩) l :=
  ⟨by simp, fun _ => ⟨_, rfl, h.lt, fun j u hu => by rw [add_lit, Nat.zero_add, h.cell j]; simpa [iarr] using hu⟩⟩
theorem lists_one {w : World} {g c : Nat} {A : Option Addr} {m : List Int} (hA : Ints w A m) (h : w.cell? ⟨g, 0, none⟩ = some (.slice A m.length c)) : Lists w (some ⟨g, 0, none⟩) [m] := by
  refine ⟨fun _ => (A, c), ⟨by simp, fun _ => ⟨_, rfl, World.block_lt_of_cell? w _ h, fun j u hu => ?_⟩⟩, fun i hi => ?_⟩
  · match j with
    | 0 =>
      have e : u = .slice A m.length c := by simpa using hu.symm
      subst e
      exact h
    | j + 1 => simp at hu
  · have : i = 0 := by simpa using hi
    subst this
    exact hA
end Go.Proofs.Tg
end
section
/- A slice of slices of numbers that a call makes and lets grow: the outer row, the inner rows, all apart. -/
namespace Go.Proofs.Tg
open Go.RowKit
/-- The outer row holds the slices val j; each is a row of the call's own; no two share a block. -/
structure Fam (base : Nat) (C : Option Addr) (cc : Nat) (Cl : List (List Nat)) (val : Nat → Value) (w : World) : Prop where
  row : w.ownsRow base 36 1 (.slice C Cl.length cc) Cl.length ((List.range Cl.length).map val)
  own : ∀ j, j < Cl.length → w.ownsRow base 3 1 (val j) (Cl.getD j []).length ((Cl.getD j []).map vn)
  sep : ∀ i j, i < Cl.length → j < Cl.length → i ≠ j → (val i).ownBlock = none ∨ (val i).ownBlock ≠ (val j).ownBlock
theorem Fam.nil (base : Nat) (w : World) : Fam base none 0 [] (fun _ => .slice none 0 0) w :=
  ⟨World.ownsRow_nil _ _ _ _, fun j h => absurd h (by simp), fun i j h => absurd h (by simp)⟩
theorem Fam.keep {base : Nat} {C : Option Addr} {cc : Nat} {Cl : List (List Nat)} {val : Nat → Value} {w w' : World} (h : Fam base C cc Cl val w) (hb : Below w.heap.size w w') : Fam base C cc Cl val w' :=
  ⟨own_below h.row hb (Nat.le_refl _), fun j hj => own_below (h.own j hj) hb (Nat.le_refl _), h.sep⟩
theorem Fam.alloc {base : Nat} {C : Option Addr} {cc : Nat} {Cl : List (List Nat)} {val : Nat → Value} {w : World} (h : Fam base C cc Cl val w) (o : Obj) : Fam base C cc Cl val (w.alloc o) :=
  h.keep ((Below.refl _ _).alloc (Nat.le_refl _) o)
/-- Another block was written. -/
theorem Fam.other {base : Nat} {C : Option Addr} {cc : Nat} {Cl : List (List Nat)} {val : Nat → Value} {w w' : World} {row : Option Nat} (h : Fam base C cc Cl val w) (hg : w.grownBy w' row)
    (h1 : (Value.slice C Cl.length cc).ownBlock = none ∨ (Value.slice C Cl.length cc).ownBlock ≠ row) (h2 : ∀ j, j < Cl.length → (val j).ownBlock = none ∨ (val j).ownBlock ≠ row) : Fam base C cc Cl val w' :=
  ⟨h.row.kept hg h1, fun j hj => (h.own j hj).kept hg (h2 j hj), h.sep⟩
/-- A new, empty class. -/
theorem Fam.push {base : Nat} {C C' : Option Addr} {cc cc' : Nat} {Cl : List (List Nat)} {val : Nat → Value} {w w' : World} (h : Fam base C cc Cl val w)
    (hr : w'.ownsRow base 36 1 (.slice C' (Cl.length + 1) cc') (Cl.length + 1) ((List.range Cl.length).map val ++ [.slice none 0 0])) (hg : w.grownBy w' (Value.slice C Cl.length cc).ownBlock) :
    Fam base C' cc' (Cl ++ [[]]) (fun j => if j = Cl.length then .slice none 0 0 else val j) w' := by
  have hlen : (Cl ++ [[]]).length = Cl.length + 1 := by simp
  refine ⟨?_, fun j hj => ?_, fun i j hi hj hne => ?_⟩
  · rw [hlen]
    have e : (List.range (Cl.length + 1)).map (fun j => if j = Cl.length then Value.slice none 0 0 else val j) = (List.range Cl.length).map val ++ [.slice none 0 0] := by
      rw [List.range_succ, List.map_append]
      congr 1
      · refine List.map_congr_left fun j hj => ?_
        have := List.mem_range.1 hj
        rw [if_neg (by omega)]
      · simp
    rw [e]; exact hr
  · rw [hlen] at hj
    by_cases e : j = Cl.length
    · subst e
      rw [if_pos rfl]
      simp only [List.getD_eq_getElem?_getD, List.getElem?_append_right (Nat.le_refl _), Nat.sub_self]
      exact World.ownsRow_nil _ _ _ _
    · rw [if_neg e]
      have e2 : (Cl ++ [[]]).getD j [] = Cl.getD j [] := by
        simp only [List.getD_eq_getElem?_getD, List.getElem?_append_left (show j < Cl.length by omega)]
      rw [e2]
      exact (h.own j (by omega)).kept hg (own_ne (h.own j (by omega)) h.row (by decide))
  · rw [hlen] at hi hj
    by_cases e1 : i = Cl.length
    · rw [if_pos e1]; exact .inl rfl
    · rw [if_neg e1]
      by_cases e2 : j = Cl.length
      · rw [if_pos e2]
        cases hb : (val i).ownBlock with
        | none => exact .inl rfl
        | some g => exact .inr (by simp [Value.ownBlock])
      · rw [if_neg e2]
        exact h.sep i j (by omega) (by omega) hne
/-- A number is appended to class k and the new slice is stored. -/
theorem Fam.add {base : Nat} {g : Nat} {cc : Nat} {Cl : List (List Nat)} {val : Nat → Value} {w w' : World} {k i : Nat} {v' : Value} (h : Fam base (some ⟨g, 0, none⟩) cc Cl val w) (hk : k < Cl.length)
    (hr : w'.ownsRow base 3 1 v' ((Cl.getD k []).length + 1) ((Cl.getD k []).map vn ++ [vn i])) (hg : w.grownBy w' (val k).ownBlock) (hat : v'.ownBlock = (val k).ownBlock ∨ v'.ownBlock = some w.heap.size) :
    Fam base (some ⟨g, 0, none⟩) cc (Cl.set k (Cl.getD k [] ++ [i])) (fun j => if j = k then v' else val j) (w'.setCell ⟨g, k, none⟩ v') := by
  have hlen : (Cl.set k (Cl.getD k [] ++ [i])).length = Cl.length := by simp
  have hrow' := h.row.kept hg (own_ne h.row (h.own k hk) (by decide))
  have hst := hrow'.stored k v'
  have hgd : ∀ j, (Cl.set k (Cl.getD k [] ++ [i])).getD j [] = if j = k then Cl.getD k [] ++ [i] else Cl.getD j [] := by
    intro j
    simp only [List.getD_eq_getElem?_getD, List.getElem?_set]
    by_cases e : k = j
    · subst e; simp [hk]
    · simp [e, Ne.symm e]
  refine ⟨?_, fun j hj => ?_, fun a b ha hb hne => ?_⟩
  · rw [hlen]
    have e : (List.range Cl.length).map (fun j => if j = k then v' else val j) = ((List.range Cl.length).map val).set k v' := by
      refine List.ext_getElem (by simp) fun j h1 h2 => ?_
      simp only [List.getElem_map, List.getElem_range, List.getElem_set]
      by_cases e : k = j
      · subst e; simp
      · simp [e, Ne.symm e]
    rw [e]
    exact hst.1
  · rw [hlen] at hj
    rw [hgd]
    by_cases e : j = k
    · rw [if_pos e, if_pos e]
      have hr2 : w'.ownsRow base 3 1 v' (Cl.getD k [] ++ [i]).length ((Cl.getD k [] ++ [i]).map vn) := by simpa using hr
      exact hr2.kept hst.2 (own_ne hr2 hrow' (by decide))
    · rw [if_neg e, if_neg e]
      have h1 := (h.own j hj).kept hg (h.sep j k hj hk e)
      exact h1.kept hst.2 (own_ne h1 hrow' (by decide))
  · rw [hlen] at ha hb
    have hlt : ∀ j, j < Cl.length → (val j).ownBlock ≠ some w.heap.size := by
      intro j hj e
      have := ((h.own j hj).lt _ e).2
      omega
    by_cases e1 : a = k
    · rw [if_pos e1, if_neg (by omega)]
      rcases hat with hx | hx
      · rw [hx, ← e1]
        exact h.sep a b ha hb hne
      · right; rw [hx]; exact fun e => hlt b hb e.symm
    · rw [if_neg e1]
      by_cases e2 : b = k
      · rw [if_pos e2]
        rcases hat with hx | hx
        · rw [hx, ← e2]
          exact h.sep a b ha hb hne
        · right; rw [hx]; exact hlt a ha
      · rw [if_neg e2]
        exact h.sep a b ha hb hne
def toI (l : List Nat) : List Int := l.map fun x : Nat => (x : Int)
theorem Fam.lists {base : Nat} {C : Option Addr} {cc : Nat} {Cl : List (List Nat)} {val : Nat → Value} {w : World} (h : Fam base C cc Cl val w) : Lists w C (Cl.map toI) := by
  have hsl : ∀ j, j < Cl.length → ∃ A c, val j = .slice A (Cl.getD j []).length c ∧ Sl w A (Cl.getD j []).length 1 ((Cl.getD j []).map vn) := by
    intro j hj
    obtain ⟨A, c, h1, _, h3⟩ := Sl.of_own (h.own j hj)
    exact ⟨A, c, h1, h3⟩
  have hch : ∃ f : Nat → Option Addr × Nat, ∀ j, j < Cl.length → val j = .slice (f j).1 (Cl.getD j []).length (f j).2 ∧ Sl w (f j).1 (Cl.getD j []).length 1 ((Cl.getD j []).map vn) := by
    have : ∀ j, ∃ p : Option Addr × Nat, j < Cl.length → val j = .slice p.1 (Cl.getD j []).length p.2 ∧ Sl w p.1 (Cl.getD j []).length 1 ((Cl.getD j []).map vn) := by
      intro j
      by_cases hj : j < Cl.length
      · obtain ⟨A, c, h1⟩ := hsl j hj
        exact ⟨(A, c), fun _ => h1⟩
      · exact ⟨(none, 0), fun h => absurd h hj⟩
    exact ⟨fun j => Classical.choose (this j), fun j => Classical.choose_spec (this j)⟩
  obtain ⟨f, hf⟩ := hch
  have hgd : ∀ j, j < Cl.length → (Cl.map toI).getD j [] = toI (Cl.getD j []) := by
    intro j hj; simp [hj]
  refine ⟨f, ?_, fun j hj => ?_⟩
  · have := Sl.own h.row
    have e : ((List.range (Cl.map toI).length).map fun i => Value.slice (f i).1 ((Cl.map toI).getD i []).length (f i).2) = (List.range Cl.length).map val := by
      rw [List.length_map]
      refine List.map_congr_left fun j hj => ?_
      have hj := List.mem_range.1 hj
      rw [hgd j hj, (hf j hj).1]
      simp [toI]
    rw [e, List.length_map]
    exact this
  · have hj' : j < Cl.length := by simpa using hj
    rw [hgd j hj']
    have := (hf j hj').2
    have e : (toI (Cl.getD j [])).map vi = (Cl.getD j []).map vn := by simp [toI, vi, vn]
    show Sl w (f j).1 (toI (Cl.getD j [])).length 1 ((toI (Cl.getD j [])).map vi)
    rw [e, show (toI (Cl.getD j [])).length = (Cl.getD j []).length by simp [toI]]
    exact this
end Go.Proofs.Tg
end
section
/- Walks: classes of monomials. -/
namespace Go.Proofs.Tg
open Go.RowKit Go.Gr Go.Ev Go.Mo
open Go.ChangeShapes Go.WideShapes
set_option maxHeartbeats 4000000
set_option maxRecDepth 100000
/-- A character as a key. -/
def kb (q : List Int) : List UInt8 := q.map fun x => UInt8.ofNat x.toNat
theorem kb_inj : ∀ {p q : List Int}, Bit01 p → Bit01 q → kb p = kb q → p = q
  | [], [], _, _, _ => rfl
  | [], _ :: _, _, _, h => by simp [kb] at h
  | _ :: _, [], _, _, h => by simp [kb] at h
  | x :: p, y :: q, hp, hq, h => by
    simp only [kb, List.map_cons, List.cons.injEq] at h
    have h2 := kb_inj (p := p) (q := q) (fun z hz => hp z (by simp [hz])) (fun z hz => hq z (by simp [hz])) h.2
    have hx := hp x (by simp)
    have hy := hq y (by simp)
    have h1 := h.1
    rw [h2]
    congr 1
    rcases hx with rfl | rfl <;> rcases hy with rfl | rfl
    · rfl
    · exact absurd h1 (by decide)
    · exact absurd h1 (by decide)
    · rfl
def MapOK (K : List (List Int)) (D : DataW Unit) : Prop :=
  Maps.IsMap D ∧ ∀ q, Bit01 q → (Maps.has D (.string (kb q)) = decide (q ∈ K)) ∧ (q ∈ K → D.atKey (.string (kb q)) (.lit (.int .i64 0)) = .lit (.int .i64 (K.idxOf q : Nat)))
theorem MapOK.nil : MapOK [] (.map []) := ⟨Maps.isMap_empty, fun q _ => ⟨by simp [Maps.has_eq], fun h => by cases h⟩⟩
theorem MapOK.put {K : List (List Int)} {D : DataW Unit} (h : MapOK K D) (_hK : ∀ k ∈ K, Bit01 k) {q : List Int} (hq : Bit01 q) (hn : q ∉ K) : MapOK (K ++ [q]) (D.put (.string (kb q)) (.lit (.int .i64 (K.length : Nat)))) := by
  refine ⟨h.1.put _ _, fun p hp => ?_⟩
  by_cases e : p = q
  · subst e
    refine ⟨by rw [Maps.has_put_same h.1 (by simp [WideAt.IsKeyLit])]; simp, fun _ => ?_⟩
    rw [Maps.atKey_put_same h.1 (by simp [WideAt.IsKeyLit]), List.idxOf_append, if_neg hn]
    simp
  · have hne : (Lit.string (kb p)) ≠ .string (kb q) := fun e2 => by
      injection e2 with e2
      exact e (kb_inj hp hq e2)
    refine ⟨by rw [Maps.has_put_other hne, (h.2 p hp).1]; simp [e], fun hm => ?_⟩
    have hm' : p ∈ K := by simpa [e] using hm
    rw [Maps.atKey_put_other hne, (h.2 p hp).2 hm', List.idxOf_append, if_pos hm']
theorem own_map_ne {w : World} {base : Nat} {t : TypeId} {sz n : Nat} {v : Value} {xs : List Value} {P : Program} {k : TypeId} {R : Value → Option (DataW Unit × List MemPlace)} {b m : Nat} {D : DataW Unit} (h : w.ownsRow base t sz v n xs) (hm : w.ownsMap P k R b m D) : v.ownBlock = none ∨ v.ownBlock ≠ some b := by
  rcases h.2 with ⟨rfl, _⟩ | ⟨g, cap, cur, rfl, _, hg, _⟩
  · exact .inl rfl
  · right
    intro e
    have : g = b := by simpa [Value.ownBlock] using e
    subst this
    obtain ⟨es, cl, hb, _⟩ := hm
    rw [hg] at hb
    cases hb
theorem map_ne_own {w : World} {base : Nat} {t : TypeId} {sz n : Nat} {v : Value} {xs : List Value} {P : Program} {k : TypeId} {R : Value → Option (DataW Unit × List MemPlace)} {b m : Nat} {D : DataW Unit} (h : w.ownsRow base t sz v n xs) (hm : w.ownsMap P k R b m D) : some b ≠ v.ownBlock := by
  rcases own_map_ne h hm with e | e
  · rw [e]; simp
  · exact fun e2 => e e2.symm
theorem map_keep {w w' : World} {P : Program} {k : TypeId} {R : Value → Option (DataW Unit × List MemPlace)} {b m : Nat} {D : DataW Unit} (hm : w.ownsMap P k R b m D) (hb : Below w.heap.size w w') : w'.ownsMap P k R b m D :=
  hm.kept (row := none) ⟨hb.os, hb.tape, hb.output, hb.size, fun k hk _ => hb.block k hk⟩ (by simp)
def vb (c : UInt8) : Value := .int .u8 (c.toNat : Int)
theorem byte_info : (Tryz.prog.info? 5).map (fun i => (i.zero, i.size, i.bytes)) = some (some (.int .u8 0), 1, 1) := by kernel_rfl
/-- The bytes of a slice as a text. -/
theorem conv_name (w : World) (A : Option Addr) (c : Nat) (l : List UInt8) (h : Sl w A l.length 1 (l.map vb)) : (convert 193 9 (.slice A l.length c)).run Tryz.prog w = .ok (.string (bs l)) w := by
  by_cases h0 : l = []
  · subst h0
    cases A with
    | none => exact run_convert_bytes_nil w _ 5 Tryz.underlying193 Tryz.underlying5 0 c _ Tryz.underlying9
    | some ad => exact run_convert_bytes_back w _ _ 5 ad c [] Tryz.underlying193 Tryz.underlying5 Tryz.underlying9 (fun j hj => by simp at hj)
  · obtain ⟨ad, rfl, _, ha⟩ := h.lies (List.length_pos_iff.2 h0)
    exact run_convert_bytes_back w _ _ 5 ad c l Tryz.underlying193 Tryz.underlying5 Tryz.underlying9 (fun j hj => ha j _ (by simp [hj, vb]))
theorem zero_int (w : World) : (zeroValue 3).run Tryz.prog w = .ok (.int .i64 0) w := by kernel_rfl
end Go.Proofs.Tg
end
section
/- Walks: classes of monomials. -/
namespace Go.Proofs.Tg
open Go.RowKit Go.Gr Go.Ev Go.Mo
open Go.ChangeShapes Go.WideShapes
set_option maxHeartbeats 4000000
set_option maxRecDepth 100000
theorem clsSt_bits {ks : List (List Int)} (h : ∀ k ∈ ks, Bit01 k) : ∀ i, i ≤ ks.length → ∀ k ∈ (clsSt ks i).1, Bit01 k
  | 0, _, k, hk => by simp [clsSt] at hk
  | i + 1, hi, k, hk => by
    have ih := clsSt_bits h i (by omega)
    by_cases hc : (clsSt ks i).1.idxOf (ks.getD i []) < (clsSt ks i).1.length
    · rw [clsSt_old hc] at hk; exact ih k hk
    · rw [clsSt_new hc] at hk
      rcases List.mem_append.1 hk with h2 | h2
      · exact ih k h2
      · simp only [List.mem_cons, List.not_mem_nil, or_false] at h2
        subst h2
        have hi' : i < ks.length := by omega
        rw [List.getD_eq_getElem?_getD, List.getElem?_eq_getElem hi', Option.getD_some]
        exact h _ (List.getElem_mem _)
def RetCls (L : List (List Int)) (code : Int) (w : World) (e : Ending) (w' : World) : Prop :=
  ∃ A c, e = .returned (.tuple #[.slice A L.length c, .int .i64 code]) ∧ Lists w' A L ∧ Below w.heap.size w w'
end Go.Proofs.Tg
end
section
/- Walks of the reference: monomials, sign vectors, inner products, the check. -/
namespace Go.Proofs.Tg
open Go.RowKit Go.Gr Go.Ev Go.Mo
set_option maxHeartbeats 2000000
set_option maxRecDepth 100000
theorem rdeg_any (A : Option Addr) (c : Nat) (m : List Int) (w : World) (hA : Ints w A m) (hn : m.length ≤ 1000) :
    Calls Tryz.prog 79 #[.slice A m.length c] w fun e w' => e = .returned (.int .i64 (degM m)) ∧ w = w' := by
  by_cases hl : m.length ≤ 6
  · have hd : decide ((6 : Int) < (m.length : Int)) = false := by simp; omega
    go_enter Tryz.func79, Tryz.ntmps79
    go_wp2
    go_loop [3, 4] (fun s i => ∃ k : Nat, k ≤ m.length ∧ i = .int .i64 k ∧ ∃ z : Int, s = .int .i64 z ∧ 0 ≤ z ∧ z ≤ 24 ∧ Hid (z = (m.take k).sum ∧ ∀ e ∈ m.take k, 0 ≤ e)) (fun _ i => m.length - (intOf i).toNat)
    case atStart => exact ⟨0, Nat.zero_le _, rfl, 0, rfl, by omega, by omega, Lib.hid ⟨rfl, by simp⟩⟩
    case round =>
      obtain ⟨k, hk, rfl, z, rfl, hz0, hz1, HZ⟩ := hrel
      by_cases hlt : k < m.length
      · obtain ⟨ad, rfl, hc⟩ := Ints.at hA hlt
        have HS : Hid ((m.take (k + 1)).sum = z + m[k]) := Lib.hid (by rw [sum_take_succ m k hlt, ← HZ.out.1])
        have HB : Hid (m[k] < 0 ∨ 24 - z < m[k] → vldM m = false) := Lib.hid (fun h => vldM_bad hlt (by rw [← HZ.out.1]; exact h))
        have HT : Hid (m.take (k + 1) = m.take k ++ [m[k]]) := Lib.hid (List.take_succ_eq_append_getElem hlt)
        clear hA
        generalize m[k] = x at hc HS HB HT
        by_cases h1 : x < 0
        · have b1 : decide (x < 0) = true := by simpa using h1
          have HF : Hid (degM m = -1) := Lib.hid (by unfold degM; rw [HB.out (.inl h1)]; rfl)
          go_wp2
          go_ret
          exact ⟨by rw [HF.out]; rfl, rfl⟩
        · have b1 : decide (x < 0) = false := by simpa using h1
          by_cases h2 : 24 - z < x
          · have b2 : decide (24 - z < x) = true := by simpa using h2
            have HF : Hid (degM m = -1) := Lib.hid (by unfold degM; rw [HB.out (.inr h2)]; rfl)
            go_wp2
            go_ret
            exact ⟨by rw [HF.out]; rfl, rfl⟩
          · have b2 : decide (24 - z < x) = false := by simpa using h2
            go_wp2
            go_round
            case rel =>
              refine ⟨k + 1, by omega, by go_num, z + x, rfl, by omega, by omega, Lib.hid ⟨HS.out.symm, fun e he => ?_⟩⟩
              rw [HT.out] at he
              rcases List.mem_append.1 he with he | he
              · exact HZ.out.2 e he
              · simp at he; omega
            case measure => simp [intOf]; omega
      · obtain rfl : k = m.length := by omega
        have HF : Hid (degM m = z) := Lib.hid (by
          have h := HZ.out
          rw [List.take_length] at h
          unfold degM
          rw [if_pos (vldM_iff.2 ⟨hl, h.2, by omega⟩), h.1])
        go_wp2
        go_ret
        exact ⟨by rw [HF.out]; rfl, rfl⟩
  · have hd : decide ((6 : Int) < (m.length : Int)) = true := by simp; omega
    have HF : Hid (degM m = -1) := Lib.hid (by
      unfold degM
      rw [if_neg (by rw [vldM_iff]; exact fun h => hl h.1)])
    go_enter Tryz.func79, Tryz.ntmps79
    go_wp2
    go_ret
    exact ⟨by rw [HF.out]; rfl, rfl⟩
theorem rvalid_any (A : Option Addr) (c : Nat) (m : List Int) (w : World) (hA : Ints w A m) (hn : m.length ≤ 1000) :
    Calls Tryz.prog 50 #[.slice A m.length c] w fun e w' => e = .returned (.bool (vldM m)) ∧ w = w' := by
  have HD : Hid (decide (0 ≤ degM m) = vldM m) := Lib.hid degM_ge
  have HC := Lib.hid (rdeg_any A c m w hA hn)
  by_cases hl : m.length ≤ 6
  · have hd : decide ((m.length : Int) ≤ 6) = true := by simp; omega
    generalize degM m = z at *
    go_enter Tryz.func50, Tryz.ntmps50
    go_wp2_with (go_at_call 79; refine HC.out.mono ?_; rintro e w' ⟨rfl, rfl⟩)
    go_ret
    exact ⟨by rw [← HD.out]; rfl, rfl⟩
  · have hd : decide ((m.length : Int) ≤ 6) = false := by simp; omega
    have HF : Hid (vldM m = false) := Lib.hid (eq_false_of_ne_true (by rw [vldM_iff]; exact fun h => hl h.1))
    go_enter Tryz.func50, Tryz.ntmps50
    go_wp2
    go_ret
    exact ⟨by rw [HF.out]; rfl, rfl⟩
theorem rvld_lit (A : Option Addr) (c : Nat) (m : List Int) (w : World) (hA : Ints w A m) (hn : m.length ≤ 1000) (b : Bool) (hb : vldM m = b) :
    Calls Tryz.prog 50 #[.slice A m.length c] w fun e w' => e = .returned (.bool b) ∧ w = w' := by rw [← hb]; exact rvalid_any A c m w hA hn
end Go.Proofs.Tg
end
