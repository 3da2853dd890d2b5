/- Parts of the proof: LF1. -/
import Derived.Test.YtpiedheafppnhaaGreatDoorMSF19
import Derived.Test.YtpiedheafppnhaaGreatDoorMSF20
import Derived.Test.YtpiedheafppnhaaGreatDoorMSF21
section
/- The statement SparsityFirst, walked. -/
namespace Go.Proofs.Tg.Sx
open Go.RowKit Go.Gr Go.Sp Go.Ev Go.Mo Go.Bn Go.Qn
set_option maxHeartbeats 8000000
set_option maxRecDepth 100000
/-- The blocks of the first round. -/
noncomputable def LF (p : PVal) (b : List (List Int)) (er : Int) : List (List Int) := if er = 0 then comps b (kn p b) else []
theorem fb_one {p : PVal} {b : List (List Int)} {hb : b.length ≤ 64} {er : Int} {w w' : World} {e : Ending} (h : RetSB p b hb er 1 w e w') : ∃ R c, e = .returned (.tuple #[.slice R (LF p b er).length c, .int .i64 er]) ∧ Lists w' R (LF p b er) ∧ Below w.heap.size w w' := by
  obtain ⟨hbw, ⟨h1, h2⟩ | ⟨rfl, h1, h2⟩ | ⟨rfl, h1, m, R, c, h2, h3, h4⟩⟩ := h
  · have e1 : LF p b er = [] := by unfold LF; rw [if_neg h1]
    rw [e1]
    exact ⟨none, 0, h2, ⟨fun _ => (none, 0), Sl.nil _ _ _, fun i hi => by simp at hi⟩, hbw⟩
  · omega
  · have e1 : LF p b 0 = (rnd b (kn p b) hb).B (m - 1) := by unfold LF; rw [if_pos rfl, first_comps h2]
    rw [e1]
    exact ⟨R, c, h3, h4, hbw⟩
theorem LF_lens (p : PVal) (b : List (List Int)) (hb : b.length ≤ 64) (er : Int) : (LF p b er).length ≤ 64 ∧ ∀ l ∈ LF p b er, l.length ≤ 64 := by
  unfold LF
  split
  · have := B_lens (S := kn p b) hb 0
    exact this
  · exact ⟨by simp, fun l hl => by cases hl⟩
/-- What lies in memory from the loops on. -/
structure LfSt (B : Option Addr) (b : List (List Int)) (n : Nat) (g5 g13 : Nat) (N : Int) (F : Option Addr) (d : Nat) (es : List (Int × Int)) (O : Option Addr) (co : Nat) (ts : List RT) (w : World) : Prop where
  b5 : Blk w g5 30 #[.int .i64 N, .slice F es.length d]
  b13 : Blk w g13 39 #[.int .i64 n, .slice O ts.length co]
  sl : Sl w O ts.length 5 (ts.flatMap RT.cells)
  ints : ∀ t ∈ ts, Ints w t.adr t.exps
  bs : Lists w B b
  eds : Gx.EdgesAt w F es
theorem LfSt.keep {B F O : Option Addr} {b : List (List Int)} {n g5 g13 d co : Nat} {N : Int} {es : List (Int × Int)} {ts : List RT} {w w' : World} (h : LfSt B b n g5 g13 N F d es O co ts w) (hb : Below w.heap.size w w') : LfSt B b n g5 g13 N F d es O co ts w' :=
  ⟨h.b5.keep hb h.b5.lt, h.b13.keep hb h.b13.lt, h.sl.keep hb, fun t ht => (h.ints t ht).keep hb, h.bs.keep hb, Sl.keep h.eds hb⟩
/-- What Shift has made, in memory. -/
structure AfSt (n g17 : Nat) (R : Option Addr) (c : Nat) (A' : Option Addr) (ca' g : Nat) (s : List Int) (w : World) : Prop where
  b17 : Blk w g17 39 #[.int .i64 n, .slice R 1 c]
  row : Sl w R 1 5 (one1 A' ca' (some ⟨g, 0, none⟩) n s).cells
  blk : Blk w g 3 (iarr s)
theorem AfSt.keep {n g17 c ca' g : Nat} {R A' : Option Addr} {s : List Int} {w w' : World} (h : AfSt n g17 R c A' ca' g s w) (hb : Below w.heap.size w w') : AfSt n g17 R c A' ca' g s w' := ⟨h.b17.keep hb h.b17.lt, h.row.keep hb, h.blk.keep hb h.blk.lt⟩
theorem blk_ne {w : World} {g g' : Nat} {t t' : TypeId} {a b : Array Value} (h : Blk w g t a) (h' : Blk w g' t' b) (hne : t ≠ t') : g ≠ g' := fun e => by
  rw [e] at h
  unfold Blk at h h'
  rw [h'] at h
  injection h with h
  injection h with _ h2
  exact hne h2.symm
theorem sl_five {w : World} {g : Nat} {t : TypeId} {a b c d e : Value} (h : Blk w g t #[a, b, c, d, e]) : Sl w (some ⟨g, 0, none⟩) 1 5 [a, b, c, d, e] :=
  ⟨by simp, fun _ => ⟨_, rfl, h.lt, fun j u hu => by rw [add_lit, Nat.zero_add, h.cell j]; simpa using hu⟩⟩
theorem law_first (p : PVal) (B : Option Addr) (cb : Nat) (b : List (List Int)) (w : World) (hP : TermsAt w p.adr p.tv) (hB : Lists w B b) (hT : Tab w) :
    Calls Tryz.prog 3 #[.agg #[.int .i64 p.vars, .slice p.adr p.tv.length p.cap], .slice B b.length cb] w fun e w' => e = .returned (.bool true) ∧ Below w.heap.size w w' := by
  obtain ⟨W, hW⟩ : ∃ W, w.alloc (.cells #[.int .i64 p.vars, .slice p.adr p.tv.length p.cap] 24) = W := ⟨_, rfl⟩
  have hbA : Below w.heap.size w W := by rw [← hW]; exact (Below.refl _ _).alloc (Nat.le_refl _) _
  have B0 : Blk W w.heap.size 24 #[.int .i64 p.vars, .slice p.adr p.tv.length p.cap] := by rw [← hW]; exact Blk.new _ _ _
  obtain ⟨sm, hsm⟩ : ∃ sm : Bool, sm = true ↔ p.few 8 8 ∧ b.length ≤ 10 ∧ ∀ l ∈ b, l.length ≤ 8 := by classical exact ⟨decide (p.few 8 8 ∧ b.length ≤ 10 ∧ ∀ l ∈ b, l.length ≤ 8), decide_eq_true_iff⟩
  have HSM := Lib.hid (small16_any p B cb b sm W (hP.keep hbA) (hB.keep hbA) hsm)
  have HAW : Hid (∀ V, Below w.heap.size w V → Calls Tryz.prog 5 #[] V fun e w' => e = .returned (.bool true) ∧ Below V.heap.size V w') := Lib.hid (fun V h => awake_any V (hT.below h hT.1))
  have HWW := Lib.hid hW
  obtain ⟨c0, c1, _, _⟩ := B0.two
  cases sm with
  | false =>
    clear hsm hP hB hW
    generalize p.vars = P at *
    generalize p.adr = T at *
    generalize p.tv.length = L at *
    generalize p.cap = cT at *
    go_enter Tryz.func3, Tryz.ntmps3
    go_upto_region 1 with (fail)
    rw [HWW.out]
    go_wp2_with (first
      | (go_at_call 4; refine HSM.out.mono ?_; rintro e w1 ⟨rfl, hb1⟩
         have hb2 := below_all hbA hb1)
      | (go_at_call 5; refine (HAW.out _ hb2).mono ?_; rintro e w3 ⟨rfl, hb3⟩))
    go_ret
    exact ⟨rfl, below_all hb2 hb3⟩
  | true =>
    obtain ⟨hfew, hbl, hml⟩ := hsm.1 rfl
    obtain ⟨ok, hok⟩ : ∃ ok : Bool, ok = true ↔ p.ok := by classical exact ⟨decide p.ok, decide_eq_true_iff⟩
    have hbl64 : b.length ≤ 64 := by omega
    have hml2 : ∀ m ∈ b, m.length ≤ 1000 := fun m hm => by have := hml m hm; omega
    have hs8 : ∀ t ∈ p.tv, t.coef.size ≤ 8 ∧ t.exps.length ≤ 64 := fun t ht => by have := hfew.2 t ht; omega
    have HG1 : Hid (∀ V, Below w.heap.size w V → Calls Tryz.prog 6 #[.agg #[.int .i64 p.vars, .slice p.adr p.tv.length p.cap], .slice B b.length cb] V fun e w' => ∃ F d, e = .returned (.tuple #[.agg #[.int .i64 (gN b (errS ok p.vars b)), .slice F (gE p b (errS ok p.vars b)).length d], .int .i64 (errS ok p.vars b)]) ∧ Gx.EdgesAt w' F (gE p b (errS ok p.vars b)) ∧ Below V.heap.size V w') := Lib.hid (fun V h =>
      (sgraph_any p B cb b ok V (hP.keep h) (few_small hfew) (hB.keep h) hbl64 hml2 hok (hT.below h hT.1)).mono fun e w' h2 => sg_one h2)
    have HG2 : Hid (∀ V, Below w.heap.size w V → Calls Tryz.prog 8 #[.agg #[.int .i64 p.vars, .slice p.adr p.tv.length p.cap], .slice B b.length cb] V fun e w' => ∃ N F m d, e = .returned (.tuple #[.agg #[.int .i64 N, .slice F m d], .int .i64 (errS ok p.vars b)]) ∧ Below V.heap.size V w') := Lib.hid (fun V h =>
      (rgraph16_any p B cb b ok V (hP.keep h) hs8 (few_small hfew).1 (hB.keep h) hbl64 hml2 hok).mono fun e w' h2 => by
        obtain ⟨F, d, h3, _, h4⟩ := sg_one h2
        exact ⟨_, F, _, d, h3, h4⟩)
    have HB1 := Lib.hid (fun V (h : Below w.heap.size w V) => (sblocks_any p B cb b ok V (hP.keep h) (few_small hfew) (hB.keep h) hbl64 hml2 hok (hT.below h hT.1) 1).mono fun e w' h2 => fb_one h2)
    have HRD := Lib.hid (fun V (h : Below w.heap.size w V) => read_one p ok V (hP.keep h) (few_small hfew).1 hs8 hok)
    have HE0 : Hid (errS ok p.vars b = 0 → ok = true ∧ ∃ n : Nat, p.vars = n ∧ n ≤ 6 ∧ ∀ m ∈ b, domK n 24 m) := Lib.hid (fun h => by
      obtain ⟨n, h1, h2, _, _, h3, _⟩ := dom_of hok h
      exact ⟨(errS_zero h).1, n, h1, h2, h3⟩)
    have HV : Hid (∀ n : Nat, b.length = n → valid n (edTo b (kn p b) b.length)) := Lib.hid (fun n hn => by subst hn; exact ed_valid b (kn p b) hbl64)
    have HL := Lib.hid (LF_lens p b hbl64 (errS ok p.vars b))
    have HMD : Hid (∀ ls, MadeL (edTo b (kn p b) b.length) b.length ls → ls = comps b (kn p b)) := Lib.hid (fun ls h => first_made hbl64 h)
    have HFE : Hid (∀ t ∈ p.tv, ∀ i j, i < b.length → j < i → addL (b.getD i []) (b.getD j []) = t.exps → (readAll (edTo b (kn p b) b.length) i).testBit j = true) := Lib.hid (fun t ht i j hi hj h => first_edge ht hi hj h)
    have HEL : Hid ((edTo b (kn p b) b.length).length ≤ 1000000) := Lib.hid (by
      have := edTo_len b (kn p b) b.length
      have : b.length * b.length ≤ 64 * 64 := Nat.mul_le_mul hbl64 hbl64
      omega)
    have HPI : Hid (∀ V, Below w.heap.size w V → ∀ t ∈ p.tv, Ints V t.adr t.exps) := Lib.hid (fun V h t ht => (hP.ints t ht).keep h)
    have HBW := Lib.hid hB
    have HTW := Lib.hid hT
    have htn : p.tv.length ≤ 4096 := (few_small hfew).1
    have HSZ := Lib.hid hs8
    have HGE : Hid (errS ok p.vars b = 0 → gN b (errS ok p.vars b) = b.length ∧ gE p b (errS ok p.vars b) = edTo b (kn p b) b.length ∧ LF p b (errS ok p.vars b) = comps b (kn p b)) := Lib.hid (fun h => by
      rw [h]; exact ⟨if_pos rfl, if_pos rfl, if_pos rfl⟩)
    generalize gN b (errS ok p.vars b) = nn at *
    generalize gE p b (errS ok p.vars b) = es at *
    generalize LF p b (errS ok p.vars b) = l1 at *
    generalize errS ok p.vars b = er at *
    have hne : (er != er) = false := by simp
    clear hsm hP hB hW hfew hml hml2 hok hs8 hT
    go_enter Tryz.func3, Tryz.ntmps3
    go_upto_region 1 with (fail)
    rw [HWW.out]
    clear HWW
    go_wp2_with (go_at_call 4; refine HSM.out.mono ?_; rintro e w1 ⟨rfl, hb1⟩
                 have C0 := B0.keep hb1 B0.lt
                 obtain ⟨d0, d1, _, _⟩ := C0.two
                 have hb2 := below_all hbA hb1)
    refine (HG1.out _ hb2).mono ?_
    rintro e w3 ⟨F, d, rfl, hF, hb3⟩
    have hb3w := below_all hb2 hb3
    have D0 := (C0.keep hb3 C0.lt).alloc (.cells #[.int .i64 nn, .slice F es.length d] 30)
    have D5 := Blk.new w3 30 #[.int .i64 nn, .slice F es.length d]
    have hFx := Sl.alloc hF (.cells #[.int .i64 nn, .slice F es.length d] 30)
    have hbx := hb3w.alloc hb3w.size (.cells #[.int .i64 nn, .slice F es.length d] 30)
    clear hF hb3w hb3 C0 d0 d1 hb2 hb1 hbA c0 c1 B0 HG1 HSM
    go_upto_region 4 with (fail)
    generalize w3.alloc (.cells #[.int .i64 nn, .slice F es.length d] 30) = X at *
    generalize w3.heap.size = g5 at *
    obtain ⟨d0, d1, _, _⟩ := D0.two
    go_wp2_with (fail)
    refine (HB1.out _ hbx).mono ?_
    rintro e w4 ⟨R1, r1, rfl, hL1, hb4⟩
    have E0 := D0.keep hb4 D0.lt
    have E5 := D5.keep hb4 D5.lt
    have hFy := Sl.keep hFx hb4
    have hby := below_all hbx hb4
    clear hFx D0 D5 hbx hb4 d0 d1 HB1
    obtain ⟨d0, d1, _, _⟩ := E0.two
    go_wp2_with (fail)
    refine (HG2.out _ hby).mono ?_
    rintro e w5 ⟨N2, F2, m2, d2, rfl, hb5⟩
    have hb5w := below_all hby hb5
    have F0 := (E0.keep hb5 E0.lt).alloc (.cells #[.int .i64 N2, .slice F2 m2 d2] 30)
    have F5 := (E5.keep hb5 E5.lt).alloc (.cells #[.int .i64 N2, .slice F2 m2 d2] 30)
    have hFz := Sl.alloc (Sl.keep hFy hb5) (.cells #[.int .i64 N2, .slice F2 m2 d2] 30)
    have hL1z := (hL1.keep hb5).keep ((Below.refl _ _).alloc (Nat.le_refl _) (.cells #[.int .i64 N2, .slice F2 m2 d2] 30))
    have hbz := hb5w.alloc hb5w.size (.cells #[.int .i64 N2, .slice F2 m2 d2] 30)
    clear hFy hL1 E0 E5 hby hb5 hb5w d0 d1 HG2
    go_upto_region 6 with (fail)
    generalize w5.alloc (.cells #[.int .i64 N2, .slice F2 m2 d2] 30) = Z at *
    generalize w5.heap.size = g9 at *
    obtain ⟨d0, d1, _, _⟩ := F0.two
    obtain ⟨e0, e1, _, _⟩ := F5.two
    by_cases her : er = 0
    · have hz0 : (er != 0) = false := by rw [her]; rfl
      obtain ⟨hok, n, hpn, hn6, hdb⟩ := HE0.out her
      obtain ⟨hnn, hes, hl1⟩ := HGE.out her
      have HNN := Lib.hid hnn
      subst hnn hes hl1
      subst hok
      clear HE0 HGE
      have HCM := Lib.hid (Gx.components_made b.length F d (edTo b (kn p b) b.length) Z hFz HEL.out (HV.out _ rfl) (HTW.out.below hbz HTW.out.1))
      have hes8 := HEL.out
      generalize edTo b (kn p b) b.length = es at *
      generalize comps b (kn p b) = cs at *
      have HQ : Hid (∀ V X D, Lists V R1 cs → Lists V X cs → Calls Tryz.prog 11 #[.slice R1 cs.length r1, .slice X cs.length D] V fun e w' => e = .returned (.bool true) ∧ Below V.heap.size V w') := Lib.hid (fun V X D h1 h2 => (lists_any R1 X cs cs r1 D V h1 h2 (by have := HL.out.1; omega) (fun l hl => by have := HL.out.2 l hl; omega)).mono fun e w' h => ⟨by rw [h.1, decide_eq_true rfl], h.2.below⟩)
      obtain ⟨pv, T, cT, tv⟩ := p
      simp only at hpn HRD HPI HFE HSZ htn d0 d1 F0 ⊢
      subst hpn
      go_wp2_with (fail)
      refine HCM.out.mono ?_
      rintro e w6 ⟨ls, V, dv, hmade, rfl, hLs, _, _, hb6⟩
      obtain rfl := HMD.out ls hmade
      have hb6w := below_all hbz hb6
      have G0 := F0.keep hb6 F0.lt
      have G5 := F5.keep hb6 F5.lt
      have hFa := Sl.keep hFz hb6
      have hL1a := hL1z.keep hb6
      clear hmade HCM HMD F0 F5 hFz hL1z d0 d1 e0 e1 hb6 hbz
      obtain ⟨d0, d1, _, _⟩ := G0.two
      go_wp2_with (fail)
      refine (HRD.out _ hb6w).mono ?_
      rintro e w7 ⟨hb7, v, O, no, co, rfl, hts⟩
      obtain ⟨rfl, ts, rfl, hSl, _, hcore⟩ := hts trivial
      have hb7w := below_all hb6w hb7
      have hb7x := Below.alloc (Below.refl w7.heap.size w7) (Nat.le_refl _) (.cells #[.int .i64 n, .slice O ts.length co] 39)
      have H5 := (G5.keep hb7 G5.lt).keep hb7x (G5.keep hb7 G5.lt).lt
      have H13 := Blk.new w7 39 #[.int .i64 n, .slice O ts.length co]
      have hFb := Sl.keep (Sl.keep hFa hb7) hb7x
      have hL1b := (hL1a.keep hb7).keep hb7x
      have hLsb := (hLs.keep hb7).keep hb7x
      have hSlb := hSl.keep hb7x
      have hb7y := below_all hb7w hb7x
      clear G0 G5 hFa hL1a hLs hSl hb7 hb7x hb7w hb6w hts HRD d0 d1
      go_upto_region 12 with (fail)
      generalize w7.alloc (.cells #[.int .i64 n, .slice O ts.length co] 39) = Y at *
      generalize w7.heap.size = g13 at *
      have HTS : Hid (∀ t ∈ ts, Ints Y t.adr t.exps) := Lib.hid (core_ints hcore (HPI.out _ hb7y))
      have HCG : Hid (∀ k (h : k < ts.length), ts[k].exps.length ≤ 64 ∧ ∀ i j, i < b.length → j < i → ts[k].exps = addL (b.getD i []) (b.getD j []) → (readAll es i).testBit j = true) := Lib.hid (fun k h => by
        have hk2 : k < tv.length := by rw [← core_len hcore]; exact h
        obtain ⟨_, _, e3⟩ := core_get hcore h hk2
        rw [e3]
        exact ⟨(HSZ.out tv[k] (List.getElem_mem _)).2, fun i j hi hj he => HFE.out tv[k] (List.getElem_mem _) i j hi hj he.symm⟩)
      have HST : Hid (LfSt B b n g5 g13 b.length F d es O co ts Y) := Lib.hid ⟨H5, H13, hSlb, HTS.out, HBW.out.keep hb7y, hFb⟩
      have HTL : ts.length ≤ 4096 := by rw [core_len hcore]; exact htn
      have HQ1 := Lib.hid (HQ.out Y V dv hL1b hLsb)
      have HDB := Lib.hid hdb
      have hnz : ((0 : Int) != 0) = false := by simp
      clear H5 H13 hFb hL1b hLsb hSlb HTS HFE HSZ HPI HBW HQ hcore htn hdb HL HTW
      go_wp2_with (go_at_call 11; refine HQ1.out.mono ?_; rintro e w8 ⟨rfl, hb8⟩)
      have hb8w := below_all hb7y hb8
      have HS8 := Lib.hid (HST.out.keep hb8)
      clear HQ1 HST hb7y hb8
      go_loopw [15] (fun s15 wr => ∃ i : Nat, s15 = .int .i64 i ∧ i ≤ b.length ∧ Below w8.heap.size w8 wr) (fun s15 _ => b.length - (intOf s15).toNat)
      case atStart => exact ⟨0, rfl, Nat.zero_le _, Below.refl _ _⟩
      case round =>
        obtain ⟨wa, rfl⟩ : ∃ wa : World, wa = wr := ⟨_, rfl⟩
        obtain ⟨i, rfl, hi, hba⟩ := hrel
        by_cases hil : i < b.length
        · go_wp2
          go_loopw [16] (fun s16 wr => ∃ j : Nat, s16 = .int .i64 j ∧ j ≤ i ∧ Below w8.heap.size w8 wr) (fun s16 _ => i - (intOf s16).toNat)
          case atStart => exact ⟨0, rfl, Nat.zero_le _, hba⟩
          case round =>
            clear hba
            obtain ⟨wo, rfl⟩ : ∃ wo : World, wo = wr := ⟨_, rfl⟩
            obtain ⟨j, rfl, hj, hbo⟩ := hrel
            by_cases hjl : j < i
            · have HSO := Lib.hid (HS8.out.keep hbo)
              obtain ⟨bd, E, ce, rfl, hci, hIi⟩ := HSO.out.bs.at hil
              obtain ⟨bd2, E2, ce2, hbd, hcj, hIj⟩ := HSO.out.bs.at (show j < b.length by omega)
              injection hbd with hbd
              subst hbd
              have hdi := HDB.out b[i] (List.getElem_mem _)
              have hdj := HDB.out (b[j]'(by omega)) (List.getElem_mem _)
              obtain ⟨s, hs⟩ : ∃ s, addL b[i] (b[j]'(by omega)) = s := ⟨_, rfl⟩
              rw [hdi.1] at hci
              rw [hdj.1] at hcj
              have HAJ : Hid (∀ k (h : k < ts.length), ts[k].exps.length ≤ 64 ∧ (ts[k].exps = s → (readAll es i).testBit j = true)) := Lib.hid (fun k h => ⟨(HCG.out k h).1, fun e => (HCG.out k h).2 i j hil hjl (by
                rw [e, ← hs, show b.getD i [] = b[i] by simp [hil], show b.getD j [] = b[j]'(by omega) by simp [show j < b.length by omega]])⟩)
              have HSL : Hid (s.length = n) := Lib.hid (by rw [← hs]; exact (addL_dom hdi hdj).1)
              have HR1 : Hid (∀ V, Calls Tryz.prog 13 #[.int .i64 1] V fun e w' => ∃ A c, e = .returned (.agg #[.bool false, .slice A 1 c, .bool false, .slice none 0 0]) ∧ Digs w' A [1] ∧ Below V.heap.size V w') := Lib.hid (fun V => one_any V)
              have HSH : Hid (∀ V g8 A1 c1 A2 c2, Below wo.heap.size wo V → Blk V g8 52 #[.bool false, .slice A1 1 c1, .bool false, .slice none 0 0, .slice E n ce] → Digs V A1 [1] → Digs V A2 [1] →
                  Calls Tryz.prog 12 #[.agg #[.int .i64 n, .slice (some ⟨g8, 0, none⟩) 1 1], .agg #[.bool false, .slice A2 1 c2, .bool false, .slice none 0 0, .slice E2 n ce2]] V fun e w' => ∃ R c A' ca' g, e = .returned (.agg #[.int .i64 n, .slice R 1 c]) ∧
                    w'.ownsRow V.heap.size 52 5 (.slice R 1 c) 1 (one1 A' ca' (some ⟨g, 0, none⟩) n s).cells ∧ Blk w' g 3 (iarr s) ∧ Below V.heap.size V w') := Lib.hid (fun V g8 A1 c1 A2 c2 h hG h1 h2 => by
                rw [← hs]
                exact rshift1_any n (some ⟨g8, 0, none⟩) 1 A1 c1 E ce b[i] A2 c2 E2 ce2 (b[j]'(by omega)) V (by
                  show Sl V (some ⟨g8, 0, none⟩) 1 5 [.bool false, .slice A1 1 c1, .bool false, .slice none 0 0, .slice E b[i].length ce]
                  rw [hdi.1]
                  exact sl_five hG) h1 (hIi.keep h) h2 (hIj.keep h) hdi hdj hn6)
              have q0 : (0 : Int) ≤ (i : Int) := by omega
              have q1 : (i : Int) < (b.length : Int) := by omega
              have q3 : ((i : Int)).toNat = i := by omega
              have p0 : (0 : Int) ≤ (j : Int) := by omega
              have p1 : (j : Int) < (b.length : Int) := by omega
              have p3 : ((j : Int)).toNat = j := by omega
              clear hdi hdj hIi hIj hs
              have s1 := HSO.out.b13.two.1
              have s2 := hci
              have s3 := hcj
              clear hci hcj
              go_upto_region 20 with (fail)
              go_cut [17] (fun s17 wx => ∃ g17 R c A' ca' g, s17 = .pointer (some ⟨g17, 0, none⟩) ∧ Below wo.heap.size wo wx ∧ Hid (AfSt n g17 R c A' ca' g s wx))
              case first =>
                clear HAW HCG HTL HDB HAJ HSL hb8w HS8 HV HEL hes8 HNN hne hnz her hz0 hbl hbl64 HSO hj hi hbo
                have BZ : Below wo.heap.size wo wo.drew := (Below.refl _ _).drew
                refine wp_region_held_drew (S := (fun w' => w'.cell? ⟨g13, 0, none⟩ = some (.int .i64 n) ∧ w'.cell? (bd.add i) = some (.slice E n ce) ∧ w'.cell? (bd.add j) = some (.slice E2 n ce2))) (by kernel_rfl) ⟨s1, s2, s3⟩ (fun hHeld => ?_)
                generalize wo.drew = Z at *
                refine wpAnyH_get 0 (some 86) (.pointer (some ⟨g13, 0, none⟩)) rfl rfl (by kernel_rfl) (by kernel_rfl) (by kernel_rfl) (fun _ _ _ h => h) (by rfl) hHeld ?_ ?_
                · (intro w hSw; (try dsimp only at hSw); go_simp; all_goals (try with_reducible rfl))
                simp only [Act.put, List.setIfInBounds_toArray, List.set_cons_zero, List.set_cons_succ]
                refine wpAnyH_get 1 (some 87) (.int .i64 n) rfl rfl (by kernel_rfl) (by kernel_rfl) (by kernel_rfl) (fun _ _ _ h => h) (by rfl) hHeld ?_ ?_
                · (intro w hSw; (try dsimp only at hSw); go_simp; all_goals (try with_reducible rfl))
                simp only [Act.put, List.setIfInBounds_toArray, List.set_cons_zero, List.set_cons_succ]
                refine wpAnyH_get 3 (some 89) (.slice (some bd) b.length cb) rfl rfl (by kernel_rfl) (by kernel_rfl) (by kernel_rfl) (fun _ _ _ h => h) (by rfl) hHeld ?_ ?_
                · (intro w hSw; (try dsimp only at hSw); go_simp; all_goals (try with_reducible rfl))
                simp only [Act.put, List.setIfInBounds_toArray, List.set_cons_zero, List.set_cons_succ]
                refine wpAnyH_get 4 (some 90) (.int .i64 i) rfl rfl (by kernel_rfl) (by kernel_rfl) (by kernel_rfl) (fun _ _ _ h => h) (by rfl) hHeld ?_ ?_
                · (intro w hSw; (try dsimp only at hSw); go_simp; all_goals (try with_reducible rfl))
                simp only [Act.put, List.setIfInBounds_toArray, List.set_cons_zero, List.set_cons_succ]
                refine wpAnyH_get 5 (some 91) (.pointer (some (bd.add i))) rfl rfl (by kernel_rfl) (by kernel_rfl) (by kernel_rfl) (fun _ _ _ h => h) (by rfl) hHeld ?_ ?_
                · (intro w hSw; (try dsimp only at hSw); go_simp; all_goals (try with_reducible rfl))
                simp only [Act.put, List.setIfInBounds_toArray, List.set_cons_zero, List.set_cons_succ]
                refine wpAnyH_get 6 (some 92) (.slice E n ce) rfl rfl (by kernel_rfl) (by kernel_rfl) (by kernel_rfl) (fun _ _ _ h => h) (by rfl) hHeld ?_ ?_
                · (intro w hSw; (try dsimp only at hSw); go_simp; all_goals (try with_reducible rfl))
                simp only [Act.put, List.setIfInBounds_toArray, List.set_cons_zero, List.set_cons_succ]
                refine wpAnyH_get 11 (some 97) (.slice (some bd) b.length cb) rfl rfl (by kernel_rfl) (by kernel_rfl) (by kernel_rfl) (fun _ _ _ h => h) (by rfl) hHeld ?_ ?_
                · (intro w hSw; (try dsimp only at hSw); go_simp; all_goals (try with_reducible rfl))
                simp only [Act.put, List.setIfInBounds_toArray, List.set_cons_zero, List.set_cons_succ]
                refine wpAnyH_get 12 (some 98) (.int .i64 j) rfl rfl (by kernel_rfl) (by kernel_rfl) (by kernel_rfl) (fun _ _ _ h => h) (by rfl) hHeld ?_ ?_
                · (intro w hSw; (try dsimp only at hSw); go_simp; all_goals (try with_reducible rfl))
                simp only [Act.put, List.setIfInBounds_toArray, List.set_cons_zero, List.set_cons_succ]
                refine wpAnyH_get 13 (some 99) (.pointer (some (bd.add j))) rfl rfl (by kernel_rfl) (by kernel_rfl) (by kernel_rfl) (fun _ _ _ h => h) (by rfl) hHeld ?_ ?_
                · (intro w hSw; (try dsimp only at hSw); go_simp; all_goals (try with_reducible rfl))
                simp only [Act.put, List.setIfInBounds_toArray, List.set_cons_zero, List.set_cons_succ]
                refine wpAnyH_get 14 (some 100) (.slice E2 n ce2) rfl rfl (by kernel_rfl) (by kernel_rfl) (by kernel_rfl) (fun _ _ _ h => h) (by rfl) hHeld ?_ ?_
                · (intro w hSw; (try dsimp only at hSw); go_simp; all_goals (try with_reducible rfl))
                simp only [Act.put, List.setIfInBounds_toArray, List.set_cons_zero, List.set_cons_succ]
                refine wpAnyH_ready (rs := [2, 17]) (by kernel_rfl) (by simp) ?_
                refine AllReadyH.cons rfl (fun K hK => ?_) (AllReadyH.cons rfl (fun K hK => ?_) AllReadyH.nil)
                · go_simp
                  refine (HR1.out Z).mono ?_
                  rintro e Z1 ⟨A1, c1, rfl, D1, hbz⟩
                  (try go_simp)
                  have BZ1 := below_all BZ hbz
                  refine hK.out _ _ ⟨keep_cell BZ1 s1, keep_cell BZ1 s2, keep_cell BZ1 s3⟩ (fun hHeld => ?_)
                  clear hK K hbz
                  (try simp only [Act.put, List.setIfInBounds_toArray, List.set_cons_zero, List.set_cons_succ])
                  refine wpAnyH_get 7 (some 93) (.agg #[.bool false, .slice A1 1 c1, .bool false, .slice none 0 0, .slice E n ce]) rfl rfl (by kernel_rfl) (by kernel_rfl) (by kernel_rfl) (fun _ _ _ h => h) (by rfl) hHeld ?_ ?_
                  · (intro w hSw; (try dsimp only at hSw); go_simp; all_goals (try with_reducible rfl))
                  (try simp only [Act.put, List.setIfInBounds_toArray, List.set_cons_zero, List.set_cons_succ])
                  refine wpAnyH_ready (rs := [8, 10, 17]) (by kernel_rfl) (by simp) ?_
                  refine AllReadyH.cons rfl (fun K hK => ?_) (AllReadyH.cons rfl (fun K hK => ?_) (AllReadyH.cons rfl (fun K hK => ?_) AllReadyH.nil))
                  · go_simp
                    have G8 := Blk.new Z1 52 #[.bool false, .slice A1 1 c1, .bool false, .slice none 0 0, .slice E n ce]
                    have hba : Below Z1.heap.size Z1 (Z1.alloc (.cells #[.bool false, .slice A1 1 c1, .bool false, .slice none 0 0, .slice E n ce] 52)) := (Below.refl _ _).alloc (Nat.le_refl _) _
                    have BZ2 := below_all BZ1 hba
                    have hz8 : wo.heap.size ≤ Z1.heap.size := BZ1.size
                    have D1 := D1.keep hba
                    refine hK.out _ _ ⟨keep_cell BZ2 s1, keep_cell BZ2 s2, keep_cell BZ2 s3⟩ (fun hHeld => ?_)
                    clear hK K hba
                    (try simp only [Act.put, List.setIfInBounds_toArray, List.set_cons_zero, List.set_cons_succ])
                    generalize Z1.alloc (.cells #[.bool false, .slice A1 1 c1, .bool false, .slice none 0 0, .slice E n ce] 52) = Z2 at *
                    generalize Z1.heap.size = g8 at *
                    refine wpAnyH_get 9 (some 95) (.agg #[.int .i64 n, .slice (some ⟨g8, 0, none⟩) 1 1]) rfl rfl (by kernel_rfl) (by kernel_rfl) (by kernel_rfl) (fun _ _ _ h => h) (by rfl) hHeld ?_ ?_
                    · (intro w hSw; (try dsimp only at hSw); go_simp; all_goals (try with_reducible rfl))
                    (try simp only [Act.put, List.setIfInBounds_toArray, List.set_cons_zero, List.set_cons_succ])
                    refine wpAnyH_ready (rs := [10, 17]) (by kernel_rfl) (by simp) ?_
                    refine AllReadyH.cons rfl (fun K hK => ?_) (AllReadyH.cons rfl (fun K hK => ?_) AllReadyH.nil)
                    · go_simp
                      refine (HR1.out Z2).mono ?_
                      rintro e Z3 ⟨A2, c2, rfl, D2, hbz⟩
                      (try go_simp)
                      have BZ3 := below_all BZ2 hbz
                      have D1 := D1.keep hbz
                      have G8 := G8.keep hbz G8.lt
                      refine hK.out _ _ ⟨keep_cell BZ3 s1, keep_cell BZ3 s2, keep_cell BZ3 s3⟩ (fun hHeld => ?_)
                      clear hK K hbz
                      (try simp only [Act.put, List.setIfInBounds_toArray, List.set_cons_zero, List.set_cons_succ])
                      refine wpAnyH_get 15 (some 101) (.agg #[.bool false, .slice A2 1 c2, .bool false, .slice none 0 0, .slice E2 n ce2]) rfl rfl (by kernel_rfl) (by kernel_rfl) (by kernel_rfl) (fun _ _ _ h => h) (by rfl) hHeld ?_ ?_
                      · (intro w hSw; (try dsimp only at hSw); go_simp; all_goals (try with_reducible rfl))
                      (try simp only [Act.put, List.setIfInBounds_toArray, List.set_cons_zero, List.set_cons_succ])
                      refine wpAnyH_ready (rs := [16, 17]) (by kernel_rfl) (by simp) ?_
                      refine AllReadyH.cons rfl (fun K hK => ?_) (AllReadyH.cons rfl (fun K hK => ?_) AllReadyH.nil)
                      · go_simp
                        refine (HSH.out Z3 g8 A1 c1 A2 c2 BZ3 G8 D1 D2).mono ?_
                        rintro e Z4 ⟨R, c, A3, c3, g3, rfl, hR, G3, hbz⟩
                        (try go_simp)
                        have BZ4 := below_all BZ3 hbz
                        have D1 := D1.keep hbz
                        have G8 := G8.keep hbz G8.lt
                        have D2 := D2.keep hbz
                        refine hK.out _ _ ⟨keep_cell BZ4 s1, keep_cell BZ4 s2, keep_cell BZ4 s3⟩ (fun hHeld => ?_)
                        clear hK K hbz D1 D2 G8
                        (try simp only [Act.put, List.setIfInBounds_toArray, List.set_cons_zero, List.set_cons_succ])
                        refine wpAnyH_ready (rs := [17]) (by kernel_rfl) (by simp) ?_
                        refine AllReadyH.cons rfl (fun K hK => ?_) AllReadyH.nil
                        go_simp
                        have G17 := Blk.new Z4 39 #[.int .i64 0, .slice none 0 0]
                        have hba : Below Z4.heap.size Z4 (Z4.alloc (.cells #[.int .i64 0, .slice none 0 0] 39)) := (Below.refl _ _).alloc (Nat.le_refl _) _
                        have BZ5 := below_all BZ4 hba
                        have hz17 : wo.heap.size ≤ Z4.heap.size := BZ4.size
                        have hR := own_below hR hba (Nat.le_refl _)
                        have G3 := G3.keep hba G3.lt
                        refine hK.out _ _ ⟨keep_cell BZ5 s1, keep_cell BZ5 s2, keep_cell BZ5 s3⟩ (fun hHeld => ?_)
                        clear hK K hba
                        (try simp only [Act.put, List.setIfInBounds_toArray, List.set_cons_zero, List.set_cons_succ])
                        generalize Z4.alloc (.cells #[.int .i64 0, .slice none 0 0] 39) = Z5 at *
                        generalize Z4.heap.size = g17 at *
                        refine wpAnyH_ready (rs := [18]) (by kernel_rfl) (by simp) ?_
                        refine AllReadyH.cons rfl (fun K hK => ?_) AllReadyH.nil
                        obtain ⟨x0, x1, x2, x3⟩ := G17.two
                        have hne17 := own_blk_ne hR G17 (by decide)
                        have hg3 := blk_ne G3 G17 (by decide)
                        have K17 := blk_two_p (c := .int .i64 n) (d := .slice R 1 c) G17
                        have BF := below_far (below_far BZ5 hz17 0 (.int .i64 n)) hz17 1 (.slice R 1 c)
                        go_simp
                        refine hK.out _ _ ⟨keep_cell BF s1, keep_cell BF s2, keep_cell BF s3⟩ (fun hHeld => ?_)
                        clear hK K x0 x1 x2 x3
                        (try simp only [Act.put, List.setIfInBounds_toArray, List.set_cons_zero, List.set_cons_succ])
                        refine wpAnyH_done (by kernel_rfl) ?_ _
                        go_wp2
                        go_meet
                        exact ⟨g17, R, c, A3, c3, g3, rfl, BF, Lib.hid ⟨K17, Sl.own (own_far (own_far hR hne17 _) hne17 _), (G3.far hg3 _).far hg3 _⟩⟩
                      · go_simp
                        have G17 := Blk.new Z3 39 #[.int .i64 0, .slice none 0 0]
                        have hba : Below Z3.heap.size Z3 (Z3.alloc (.cells #[.int .i64 0, .slice none 0 0] 39)) := (Below.refl _ _).alloc (Nat.le_refl _) _
                        have BZ7 := below_all BZ3 hba
                        have hz17 : wo.heap.size ≤ Z3.heap.size := BZ3.size
                        have D1 := D1.keep hba
                        have G8 := G8.keep hba G8.lt
                        have D2 := D2.keep hba
                        refine hK.out _ _ ⟨keep_cell BZ7 s1, keep_cell BZ7 s2, keep_cell BZ7 s3⟩ (fun hHeld => ?_)
                        clear hK K hba
                        (try simp only [Act.put, List.setIfInBounds_toArray, List.set_cons_zero, List.set_cons_succ])
                        generalize Z3.alloc (.cells #[.int .i64 0, .slice none 0 0] 39) = Z7 at *
                        generalize Z3.heap.size = g17 at *
                        refine wpAnyH_ready (rs := [16]) (by kernel_rfl) (by simp) ?_
                        refine AllReadyH.cons rfl (fun K hK => ?_) AllReadyH.nil
                        go_simp
                        refine (HSH.out Z7 g8 A1 c1 A2 c2 BZ7 G8 D1 D2).mono ?_
                        rintro e Z8 ⟨R, c, A3, c3, g3, rfl, hR, G3, hbz⟩
                        (try go_simp)
                        have BZ8 := below_all BZ7 hbz
                        have G17 := G17.keep hbz G17.lt
                        have D1 := D1.keep hbz
                        have G8 := G8.keep hbz G8.lt
                        have D2 := D2.keep hbz
                        refine hK.out _ _ ⟨keep_cell BZ8 s1, keep_cell BZ8 s2, keep_cell BZ8 s3⟩ (fun hHeld => ?_)
                        clear hK K hbz D1 D2 G8
                        (try simp only [Act.put, List.setIfInBounds_toArray, List.set_cons_zero, List.set_cons_succ])
                        refine wpAnyH_ready (rs := [18]) (by kernel_rfl) (by simp) ?_
                        refine AllReadyH.cons rfl (fun K hK => ?_) AllReadyH.nil
                        obtain ⟨x0, x1, x2, x3⟩ := G17.two
                        have hne17 := own_blk_ne hR G17 (by decide)
                        have hg3 := blk_ne G3 G17 (by decide)
                        have K17 := blk_two_p (c := .int .i64 n) (d := .slice R 1 c) G17
                        have BF := below_far (below_far BZ8 hz17 0 (.int .i64 n)) hz17 1 (.slice R 1 c)
                        go_simp
                        refine hK.out _ _ ⟨keep_cell BF s1, keep_cell BF s2, keep_cell BF s3⟩ (fun hHeld => ?_)
                        clear hK K x0 x1 x2 x3
                        (try simp only [Act.put, List.setIfInBounds_toArray, List.set_cons_zero, List.set_cons_succ])
                        refine wpAnyH_done (by kernel_rfl) ?_ _
                        go_wp2
                        go_meet
                        exact ⟨g17, R, c, A3, c3, g3, rfl, BF, Lib.hid ⟨K17, Sl.own (own_far (own_far hR hne17 _) hne17 _), (G3.far hg3 _).far hg3 _⟩⟩
                    · go_simp
                      have G17 := Blk.new Z2 39 #[.int .i64 0, .slice none 0 0]
                      have hba : Below Z2.heap.size Z2 (Z2.alloc (.cells #[.int .i64 0, .slice none 0 0] 39)) := (Below.refl _ _).alloc (Nat.le_refl _) _
                      have BZ10 := below_all BZ2 hba
                      have hz17 : wo.heap.size ≤ Z2.heap.size := BZ2.size
                      have D1 := D1.keep hba
                      have G8 := G8.keep hba G8.lt
                      refine hK.out _ _ ⟨keep_cell BZ10 s1, keep_cell BZ10 s2, keep_cell BZ10 s3⟩ (fun hHeld => ?_)
                      clear hK K hba
                      (try simp only [Act.put, List.setIfInBounds_toArray, List.set_cons_zero, List.set_cons_succ])
                      generalize Z2.alloc (.cells #[.int .i64 0, .slice none 0 0] 39) = Z10 at *
                      generalize Z2.heap.size = g17 at *
                      refine wpAnyH_ready (rs := [10]) (by kernel_rfl) (by simp) ?_
                      refine AllReadyH.cons rfl (fun K hK => ?_) AllReadyH.nil
                      go_simp
                      refine (HR1.out Z10).mono ?_
                      rintro e Z11 ⟨A2, c2, rfl, D2, hbz⟩
                      (try go_simp)
                      have BZ11 := below_all BZ10 hbz
                      have G17 := G17.keep hbz G17.lt
                      have D1 := D1.keep hbz
                      have G8 := G8.keep hbz G8.lt
                      refine hK.out _ _ ⟨keep_cell BZ11 s1, keep_cell BZ11 s2, keep_cell BZ11 s3⟩ (fun hHeld => ?_)
                      clear hK K hbz
                      (try simp only [Act.put, List.setIfInBounds_toArray, List.set_cons_zero, List.set_cons_succ])
                      refine wpAnyH_get 15 (some 101) (.agg #[.bool false, .slice A2 1 c2, .bool false, .slice none 0 0, .slice E2 n ce2]) rfl rfl (by kernel_rfl) (by kernel_rfl) (by kernel_rfl) (fun _ _ _ h => h) (by rfl) hHeld ?_ ?_
                      · (intro w hSw; (try dsimp only at hSw); go_simp; all_goals (try with_reducible rfl))
                      (try simp only [Act.put, List.setIfInBounds_toArray, List.set_cons_zero, List.set_cons_succ])
                      refine wpAnyH_ready (rs := [16]) (by kernel_rfl) (by simp) ?_
                      refine AllReadyH.cons rfl (fun K hK => ?_) AllReadyH.nil
                      go_simp
                      refine (HSH.out Z11 g8 A1 c1 A2 c2 BZ11 G8 D1 D2).mono ?_
                      rintro e Z12 ⟨R, c, A3, c3, g3, rfl, hR, G3, hbz⟩
                      (try go_simp)
                      have BZ12 := below_all BZ11 hbz
                      have G17 := G17.keep hbz G17.lt
                      have D1 := D1.keep hbz
                      have G8 := G8.keep hbz G8.lt
                      have D2 := D2.keep hbz
                      refine hK.out _ _ ⟨keep_cell BZ12 s1, keep_cell BZ12 s2, keep_cell BZ12 s3⟩ (fun hHeld => ?_)
                      clear hK K hbz D1 D2 G8
                      (try simp only [Act.put, List.setIfInBounds_toArray, List.set_cons_zero, List.set_cons_succ])
                      refine wpAnyH_ready (rs := [18]) (by kernel_rfl) (by simp) ?_
                      refine AllReadyH.cons rfl (fun K hK => ?_) AllReadyH.nil
                      obtain ⟨x0, x1, x2, x3⟩ := G17.two
                      have hne17 := own_blk_ne hR G17 (by decide)
                      have hg3 := blk_ne G3 G17 (by decide)
                      have K17 := blk_two_p (c := .int .i64 n) (d := .slice R 1 c) G17
                      have BF := below_far (below_far BZ12 hz17 0 (.int .i64 n)) hz17 1 (.slice R 1 c)
                      go_simp
                      refine hK.out _ _ ⟨keep_cell BF s1, keep_cell BF s2, keep_cell BF s3⟩ (fun hHeld => ?_)
                      clear hK K x0 x1 x2 x3
                      (try simp only [Act.put, List.setIfInBounds_toArray, List.set_cons_zero, List.set_cons_succ])
                      refine wpAnyH_done (by kernel_rfl) ?_ _
                      go_wp2
                      go_meet
                      exact ⟨g17, R, c, A3, c3, g3, rfl, BF, Lib.hid ⟨K17, Sl.own (own_far (own_far hR hne17 _) hne17 _), (G3.far hg3 _).far hg3 _⟩⟩
                  · go_simp
                    refine (HR1.out Z1).mono ?_
                    rintro e Z14 ⟨A2, c2, rfl, D2, hbz⟩
                    (try go_simp)
                    have BZ14 := below_all BZ1 hbz
                    have D1 := D1.keep hbz
                    refine hK.out _ _ ⟨keep_cell BZ14 s1, keep_cell BZ14 s2, keep_cell BZ14 s3⟩ (fun hHeld => ?_)
                    clear hK K hbz
                    (try simp only [Act.put, List.setIfInBounds_toArray, List.set_cons_zero, List.set_cons_succ])
                    refine wpAnyH_get 15 (some 101) (.agg #[.bool false, .slice A2 1 c2, .bool false, .slice none 0 0, .slice E2 n ce2]) rfl rfl (by kernel_rfl) (by kernel_rfl) (by kernel_rfl) (fun _ _ _ h => h) (by rfl) hHeld ?_ ?_
                    · (intro w hSw; (try dsimp only at hSw); go_simp; all_goals (try with_reducible rfl))
                    (try simp only [Act.put, List.setIfInBounds_toArray, List.set_cons_zero, List.set_cons_succ])
                    refine wpAnyH_ready (rs := [8, 17]) (by kernel_rfl) (by simp) ?_
                    refine AllReadyH.cons rfl (fun K hK => ?_) (AllReadyH.cons rfl (fun K hK => ?_) AllReadyH.nil)
                    · go_simp
                      have G8 := Blk.new Z14 52 #[.bool false, .slice A1 1 c1, .bool false, .slice none 0 0, .slice E n ce]
                      have hba : Below Z14.heap.size Z14 (Z14.alloc (.cells #[.bool false, .slice A1 1 c1, .bool false, .slice none 0 0, .slice E n ce] 52)) := (Below.refl _ _).alloc (Nat.le_refl _) _
                      have BZ15 := below_all BZ14 hba
                      have hz8 : wo.heap.size ≤ Z14.heap.size := BZ14.size
                      have D1 := D1.keep hba
                      have D2 := D2.keep hba
                      refine hK.out _ _ ⟨keep_cell BZ15 s1, keep_cell BZ15 s2, keep_cell BZ15 s3⟩ (fun hHeld => ?_)
                      clear hK K hba
                      (try simp only [Act.put, List.setIfInBounds_toArray, List.set_cons_zero, List.set_cons_succ])
                      generalize Z14.alloc (.cells #[.bool false, .slice A1 1 c1, .bool false, .slice none 0 0, .slice E n ce] 52) = Z15 at *
                      generalize Z14.heap.size = g8 at *
                      refine wpAnyH_get 9 (some 95) (.agg #[.int .i64 n, .slice (some ⟨g8, 0, none⟩) 1 1]) rfl rfl (by kernel_rfl) (by kernel_rfl) (by kernel_rfl) (fun _ _ _ h => h) (by rfl) hHeld ?_ ?_
                      · (intro w hSw; (try dsimp only at hSw); go_simp; all_goals (try with_reducible rfl))
                      (try simp only [Act.put, List.setIfInBounds_toArray, List.set_cons_zero, List.set_cons_succ])
                      refine wpAnyH_ready (rs := [16, 17]) (by kernel_rfl) (by simp) ?_
                      refine AllReadyH.cons rfl (fun K hK => ?_) (AllReadyH.cons rfl (fun K hK => ?_) AllReadyH.nil)
                      · go_simp
                        refine (HSH.out Z15 g8 A1 c1 A2 c2 BZ15 G8 D1 D2).mono ?_
                        rintro e Z16 ⟨R, c, A3, c3, g3, rfl, hR, G3, hbz⟩
                        (try go_simp)
                        have BZ16 := below_all BZ15 hbz
                        have D1 := D1.keep hbz
                        have G8 := G8.keep hbz G8.lt
                        have D2 := D2.keep hbz
                        refine hK.out _ _ ⟨keep_cell BZ16 s1, keep_cell BZ16 s2, keep_cell BZ16 s3⟩ (fun hHeld => ?_)
                        clear hK K hbz D1 D2 G8
                        (try simp only [Act.put, List.setIfInBounds_toArray, List.set_cons_zero, List.set_cons_succ])
                        refine wpAnyH_ready (rs := [17]) (by kernel_rfl) (by simp) ?_
                        refine AllReadyH.cons rfl (fun K hK => ?_) AllReadyH.nil
                        go_simp
                        have G17 := Blk.new Z16 39 #[.int .i64 0, .slice none 0 0]
                        have hba : Below Z16.heap.size Z16 (Z16.alloc (.cells #[.int .i64 0, .slice none 0 0] 39)) := (Below.refl _ _).alloc (Nat.le_refl _) _
                        have BZ17 := below_all BZ16 hba
                        have hz17 : wo.heap.size ≤ Z16.heap.size := BZ16.size
                        have hR := own_below hR hba (Nat.le_refl _)
                        have G3 := G3.keep hba G3.lt
                        refine hK.out _ _ ⟨keep_cell BZ17 s1, keep_cell BZ17 s2, keep_cell BZ17 s3⟩ (fun hHeld => ?_)
                        clear hK K hba
                        (try simp only [Act.put, List.setIfInBounds_toArray, List.set_cons_zero, List.set_cons_succ])
                        generalize Z16.alloc (.cells #[.int .i64 0, .slice none 0 0] 39) = Z17 at *
                        generalize Z16.heap.size = g17 at *
                        refine wpAnyH_ready (rs := [18]) (by kernel_rfl) (by simp) ?_
                        refine AllReadyH.cons rfl (fun K hK => ?_) AllReadyH.nil
                        obtain ⟨x0, x1, x2, x3⟩ := G17.two
                        have hne17 := own_blk_ne hR G17 (by decide)
                        have hg3 := blk_ne G3 G17 (by decide)
                        have K17 := blk_two_p (c := .int .i64 n) (d := .slice R 1 c) G17
                        have BF := below_far (below_far BZ17 hz17 0 (.int .i64 n)) hz17 1 (.slice R 1 c)
                        go_simp
                        refine hK.out _ _ ⟨keep_cell BF s1, keep_cell BF s2, keep_cell BF s3⟩ (fun hHeld => ?_)
                        clear hK K x0 x1 x2 x3
                        (try simp only [Act.put, List.setIfInBounds_toArray, List.set_cons_zero, List.set_cons_succ])
                        refine wpAnyH_done (by kernel_rfl) ?_ _
                        go_wp2
                        go_meet
                        exact ⟨g17, R, c, A3, c3, g3, rfl, BF, Lib.hid ⟨K17, Sl.own (own_far (own_far hR hne17 _) hne17 _), (G3.far hg3 _).far hg3 _⟩⟩
                      · go_simp
                        have G17 := Blk.new Z15 39 #[.int .i64 0, .slice none 0 0]
                        have hba : Below Z15.heap.size Z15 (Z15.alloc (.cells #[.int .i64 0, .slice none 0 0] 39)) := (Below.refl _ _).alloc (Nat.le_refl _) _
                        have BZ19 := below_all BZ15 hba
                        have hz17 : wo.heap.size ≤ Z15.heap.size := BZ15.size
                        have D1 := D1.keep hba
                        have G8 := G8.keep hba G8.lt
                        have D2 := D2.keep hba
                        refine hK.out _ _ ⟨keep_cell BZ19 s1, keep_cell BZ19 s2, keep_cell BZ19 s3⟩ (fun hHeld => ?_)
                        clear hK K hba
                        (try simp only [Act.put, List.setIfInBounds_toArray, List.set_cons_zero, List.set_cons_succ])
                        generalize Z15.alloc (.cells #[.int .i64 0, .slice none 0 0] 39) = Z19 at *
                        generalize Z15.heap.size = g17 at *
                        refine wpAnyH_ready (rs := [16]) (by kernel_rfl) (by simp) ?_
                        refine AllReadyH.cons rfl (fun K hK => ?_) AllReadyH.nil
                        go_simp
                        refine (HSH.out Z19 g8 A1 c1 A2 c2 BZ19 G8 D1 D2).mono ?_
                        rintro e Z20 ⟨R, c, A3, c3, g3, rfl, hR, G3, hbz⟩
                        (try go_simp)
                        have BZ20 := below_all BZ19 hbz
                        have G17 := G17.keep hbz G17.lt
                        have D1 := D1.keep hbz
                        have G8 := G8.keep hbz G8.lt
                        have D2 := D2.keep hbz
                        refine hK.out _ _ ⟨keep_cell BZ20 s1, keep_cell BZ20 s2, keep_cell BZ20 s3⟩ (fun hHeld => ?_)
                        clear hK K hbz D1 D2 G8
                        (try simp only [Act.put, List.setIfInBounds_toArray, List.set_cons_zero, List.set_cons_succ])
                        refine wpAnyH_ready (rs := [18]) (by kernel_rfl) (by simp) ?_
                        refine AllReadyH.cons rfl (fun K hK => ?_) AllReadyH.nil
                        obtain ⟨x0, x1, x2, x3⟩ := G17.two
                        have hne17 := own_blk_ne hR G17 (by decide)
                        have hg3 := blk_ne G3 G17 (by decide)
                        have K17 := blk_two_p (c := .int .i64 n) (d := .slice R 1 c) G17
                        have BF := below_far (below_far BZ20 hz17 0 (.int .i64 n)) hz17 1 (.slice R 1 c)
                        go_simp
                        refine hK.out _ _ ⟨keep_cell BF s1, keep_cell BF s2, keep_cell BF s3⟩ (fun hHeld => ?_)
                        clear hK K x0 x1 x2 x3
                        (try simp only [Act.put, List.setIfInBounds_toArray, List.set_cons_zero, List.set_cons_succ])
                        refine wpAnyH_done (by kernel_rfl) ?_ _
                        go_wp2
                        go_meet
                        exact ⟨g17, R, c, A3, c3, g3, rfl, BF, Lib.hid ⟨K17, Sl.own (own_far (own_far hR hne17 _) hne17 _), (G3.far hg3 _).far hg3 _⟩⟩
                    · go_simp
                      have G17 := Blk.new Z14 39 #[.int .i64 0, .slice none 0 0]
                      have hba : Below Z14.heap.size Z14 (Z14.alloc (.cells #[.int .i64 0, .slice none 0 0] 39)) := (Below.refl _ _).alloc (Nat.le_refl _) _
                      have BZ22 := below_all BZ14 hba
                      have hz17 : wo.heap.size ≤ Z14.heap.size := BZ14.size
                      have D1 := D1.keep hba
                      have D2 := D2.keep hba
                      refine hK.out _ _ ⟨keep_cell BZ22 s1, keep_cell BZ22 s2, keep_cell BZ22 s3⟩ (fun hHeld => ?_)
                      clear hK K hba
                      (try simp only [Act.put, List.setIfInBounds_toArray, List.set_cons_zero, List.set_cons_succ])
                      generalize Z14.alloc (.cells #[.int .i64 0, .slice none 0 0] 39) = Z22 at *
                      generalize Z14.heap.size = g17 at *
                      refine wpAnyH_ready (rs := [8]) (by kernel_rfl) (by simp) ?_
                      refine AllReadyH.cons rfl (fun K hK => ?_) AllReadyH.nil
                      go_simp
                      have G8 := Blk.new Z22 52 #[.bool false, .slice A1 1 c1, .bool false, .slice none 0 0, .slice E n ce]
                      have hba : Below Z22.heap.size Z22 (Z22.alloc (.cells #[.bool false, .slice A1 1 c1, .bool false, .slice none 0 0, .slice E n ce] 52)) := (Below.refl _ _).alloc (Nat.le_refl _) _
                      have BZ23 := below_all BZ22 hba
                      have hz8 : wo.heap.size ≤ Z22.heap.size := BZ22.size
                      have G17 := G17.keep hba G17.lt
                      have D1 := D1.keep hba
                      have D2 := D2.keep hba
                      refine hK.out _ _ ⟨keep_cell BZ23 s1, keep_cell BZ23 s2, keep_cell BZ23 s3⟩ (fun hHeld => ?_)
                      clear hK K hba
                      (try simp only [Act.put, List.setIfInBounds_toArray, List.set_cons_zero, List.set_cons_succ])
                      generalize Z22.alloc (.cells #[.bool false, .slice A1 1 c1, .bool false, .slice none 0 0, .slice E n ce] 52) = Z23 at *
                      generalize Z22.heap.size = g8 at *
                      refine wpAnyH_get 9 (some 95) (.agg #[.int .i64 n, .slice (some ⟨g8, 0, none⟩) 1 1]) rfl rfl (by kernel_rfl) (by kernel_rfl) (by kernel_rfl) (fun _ _ _ h => h) (by rfl) hHeld ?_ ?_
                      · (intro w hSw; (try dsimp only at hSw); go_simp; all_goals (try with_reducible rfl))
                      (try simp only [Act.put, List.setIfInBounds_toArray, List.set_cons_zero, List.set_cons_succ])
                      refine wpAnyH_ready (rs := [16]) (by kernel_rfl) (by simp) ?_
                      refine AllReadyH.cons rfl (fun K hK => ?_) AllReadyH.nil
                      go_simp
                      refine (HSH.out Z23 g8 A1 c1 A2 c2 BZ23 G8 D1 D2).mono ?_
                      rintro e Z24 ⟨R, c, A3, c3, g3, rfl, hR, G3, hbz⟩
                      (try go_simp)
                      have BZ24 := below_all BZ23 hbz
                      have G17 := G17.keep hbz G17.lt
                      have D1 := D1.keep hbz
                      have G8 := G8.keep hbz G8.lt
                      have D2 := D2.keep hbz
                      refine hK.out _ _ ⟨keep_cell BZ24 s1, keep_cell BZ24 s2, keep_cell BZ24 s3⟩ (fun hHeld => ?_)
                      clear hK K hbz D1 D2 G8
                      (try simp only [Act.put, List.setIfInBounds_toArray, List.set_cons_zero, List.set_cons_succ])
                      refine wpAnyH_ready (rs := [18]) (by kernel_rfl) (by simp) ?_
                      refine AllReadyH.cons rfl (fun K hK => ?_) AllReadyH.nil
                      obtain ⟨x0, x1, x2, x3⟩ := G17.two
                      have hne17 := own_blk_ne hR G17 (by decide)
                      have hg3 := blk_ne G3 G17 (by decide)
                      have K17 := blk_two_p (c := .int .i64 n) (d := .slice R 1 c) G17
                      have BF := below_far (below_far BZ24 hz17 0 (.int .i64 n)) hz17 1 (.slice R 1 c)
                      go_simp
                      refine hK.out _ _ ⟨keep_cell BF s1, keep_cell BF s2, keep_cell BF s3⟩ (fun hHeld => ?_)
                      clear hK K x0 x1 x2 x3
                      (try simp only [Act.put, List.setIfInBounds_toArray, List.set_cons_zero, List.set_cons_succ])
                      refine wpAnyH_done (by kernel_rfl) ?_ _
                      go_wp2
                      go_meet
                      exact ⟨g17, R, c, A3, c3, g3, rfl, BF, Lib.hid ⟨K17, Sl.own (own_far (own_far hR hne17 _) hne17 _), (G3.far hg3 _).far hg3 _⟩⟩
                  · go_simp
                    have G17 := Blk.new Z1 39 #[.int .i64 0, .slice none 0 0]
                    have hba : Below Z1.heap.size Z1 (Z1.alloc (.cells #[.int .i64 0, .slice none 0 0] 39)) := (Below.refl _ _).alloc (Nat.le_refl _) _
                    have BZ26 := below_all BZ1 hba
                    have hz17 : wo.heap.size ≤ Z1.heap.size := BZ1.size
                    have D1 := D1.keep hba
                    refine hK.out _ _ ⟨keep_cell BZ26 s1, keep_cell BZ26 s2, keep_cell BZ26 s3⟩ (fun hHeld => ?_)
                    clear hK K hba
                    (try simp only [Act.put, List.setIfInBounds_toArray, List.set_cons_zero, List.set_cons_succ])
                    generalize Z1.alloc (.cells #[.int .i64 0, .slice none 0 0] 39) = Z26 at *
                    generalize Z1.heap.size = g17 at *
                    refine wpAnyH_ready (rs := [8, 10]) (by kernel_rfl) (by simp) ?_
                    refine AllReadyH.cons rfl (fun K hK => ?_) (AllReadyH.cons rfl (fun K hK => ?_) AllReadyH.nil)
                    · go_simp
                      have G8 := Blk.new Z26 52 #[.bool false, .slice A1 1 c1, .bool false, .slice none 0 0, .slice E n ce]
                      have hba : Below Z26.heap.size Z26 (Z26.alloc (.cells #[.bool false, .slice A1 1 c1, .bool false, .slice none 0 0, .slice E n ce] 52)) := (Below.refl _ _).alloc (Nat.le_refl _) _
                      have BZ27 := below_all BZ26 hba
                      have hz8 : wo.heap.size ≤ Z26.heap.size := BZ26.size
                      have G17 := G17.keep hba G17.lt
                      have D1 := D1.keep hba
                      refine hK.out _ _ ⟨keep_cell BZ27 s1, keep_cell BZ27 s2, keep_cell BZ27 s3⟩ (fun hHeld => ?_)
                      clear hK K hba
                      (try simp only [Act.put, List.setIfInBounds_toArray, List.set_cons_zero, List.set_cons_succ])
                      generalize Z26.alloc (.cells #[.bool false, .slice A1 1 c1, .bool false, .slice none 0 0, .slice E n ce] 52) = Z27 at *
                      generalize Z26.heap.size = g8 at *
                      refine wpAnyH_get 9 (some 95) (.agg #[.int .i64 n, .slice (some ⟨g8, 0, none⟩) 1 1]) rfl rfl (by kernel_rfl) (by kernel_rfl) (by kernel_rfl) (fun _ _ _ h => h) (by rfl) hHeld ?_ ?_
                      · (intro w hSw; (try dsimp only at hSw); go_simp; all_goals (try with_reducible rfl))
                      (try simp only [Act.put, List.setIfInBounds_toArray, List.set_cons_zero, List.set_cons_succ])
                      refine wpAnyH_ready (rs := [10]) (by kernel_rfl) (by simp) ?_
                      refine AllReadyH.cons rfl (fun K hK => ?_) AllReadyH.nil
                      go_simp
                      refine (HR1.out Z27).mono ?_
                      rintro e Z28 ⟨A2, c2, rfl, D2, hbz⟩
                      (try go_simp)
                      have BZ28 := below_all BZ27 hbz
                      have G17 := G17.keep hbz G17.lt
                      have D1 := D1.keep hbz
                      have G8 := G8.keep hbz G8.lt
                      refine hK.out _ _ ⟨keep_cell BZ28 s1, keep_cell BZ28 s2, keep_cell BZ28 s3⟩ (fun hHeld => ?_)
                      clear hK K hbz
                      (try simp only [Act.put, List.setIfInBounds_toArray, List.set_cons_zero, List.set_cons_succ])
                      refine wpAnyH_get 15 (some 101) (.agg #[.bool false, .slice A2 1 c2, .bool false, .slice none 0 0, .slice E2 n ce2]) rfl rfl (by kernel_rfl) (by kernel_rfl) (by kernel_rfl) (fun _ _ _ h => h) (by rfl) hHeld ?_ ?_
                      · (intro w hSw; (try dsimp only at hSw); go_simp; all_goals (try with_reducible rfl))
                      (try simp only [Act.put, List.setIfInBounds_toArray, List.set_cons_zero, List.set_cons_succ])
                      refine wpAnyH_ready (rs := [16]) (by kernel_rfl) (by simp) ?_
                      refine AllReadyH.cons rfl (fun K hK => ?_) AllReadyH.nil
                      go_simp
                      refine (HSH.out Z28 g8 A1 c1 A2 c2 BZ28 G8 D1 D2).mono ?_
                      rintro e Z29 ⟨R, c, A3, c3, g3, rfl, hR, G3, hbz⟩
                      (try go_simp)
                      have BZ29 := below_all BZ28 hbz
                      have G17 := G17.keep hbz G17.lt
                      have D1 := D1.keep hbz
                      have G8 := G8.keep hbz G8.lt
                      have D2 := D2.keep hbz
                      refine hK.out _ _ ⟨keep_cell BZ29 s1, keep_cell BZ29 s2, keep_cell BZ29 s3⟩ (fun hHeld => ?_)
                      clear hK K hbz D1 D2 G8
                      (try simp only [Act.put, List.setIfInBounds_toArray, List.set_cons_zero, List.set_cons_succ])
                      refine wpAnyH_ready (rs := [18]) (by kernel_rfl) (by simp) ?_
                      refine AllReadyH.cons rfl (fun K hK => ?_) AllReadyH.nil
                      obtain ⟨x0, x1, x2, x3⟩ := G17.two
                      have hne17 := own_blk_ne hR G17 (by decide)
                      have hg3 := blk_ne G3 G17 (by decide)
                      have K17 := blk_two_p (c := .int .i64 n) (d := .slice R 1 c) G17
                      have BF := below_far (below_far BZ29 hz17 0 (.int .i64 n)) hz17 1 (.slice R 1 c)
                      go_simp
                      refine hK.out _ _ ⟨keep_cell BF s1, keep_cell BF s2, keep_cell BF s3⟩ (fun hHeld => ?_)
                      clear hK K x0 x1 x2 x3
                      (try simp only [Act.put, List.setIfInBounds_toArray, List.set_cons_zero, List.set_cons_succ])
                      refine wpAnyH_done (by kernel_rfl) ?_ _
                      go_wp2
                      go_meet
                      exact ⟨g17, R, c, A3, c3, g3, rfl, BF, Lib.hid ⟨K17, Sl.own (own_far (own_far hR hne17 _) hne17 _), (G3.far hg3 _).far hg3 _⟩⟩
                    · go_simp
                      refine (HR1.out Z26).mono ?_
                      rintro e Z31 ⟨A2, c2, rfl, D2, hbz⟩
                      (try go_simp)
                      have BZ31 := below_all BZ26 hbz
                      have G17 := G17.keep hbz G17.lt
                      have D1 := D1.keep hbz
                      refine hK.out _ _ ⟨keep_cell BZ31 s1, keep_cell BZ31 s2, keep_cell BZ31 s3⟩ (fun hHeld => ?_)
                      clear hK K hbz
                      (try simp only [Act.put, List.setIfInBounds_toArray, List.set_cons_zero, List.set_cons_succ])
                      refine wpAnyH_get 15 (some 101) (.agg #[.bool false, .slice A2 1 c2, .bool false, .slice none 0 0, .slice E2 n ce2]) rfl rfl (by kernel_rfl) (by kernel_rfl) (by kernel_rfl) (fun _ _ _ h => h) (by rfl) hHeld ?_ ?_
                      · (intro w hSw; (try dsimp only at hSw); go_simp; all_goals (try with_reducible rfl))
                      (try simp only [Act.put, List.setIfInBounds_toArray, List.set_cons_zero, List.set_cons_succ])
                      refine wpAnyH_ready (rs := [8]) (by kernel_rfl) (by simp) ?_
                      refine AllReadyH.cons rfl (fun K hK => ?_) AllReadyH.nil
                      go_simp
                      have G8 := Blk.new Z31 52 #[.bool false, .slice A1 1 c1, .bool false, .slice none 0 0, .slice E n ce]
                      have hba : Below Z31.heap.size Z31 (Z31.alloc (.cells #[.bool false, .slice A1 1 c1, .bool false, .slice none 0 0, .slice E n ce] 52)) := (Below.refl _ _).alloc (Nat.le_refl _) _
                      have BZ32 := below_all BZ31 hba
                      have hz8 : wo.heap.size ≤ Z31.heap.size := BZ31.size
                      have G17 := G17.keep hba G17.lt
                      have D1 := D1.keep hba
                      have D2 := D2.keep hba
                      refine hK.out _ _ ⟨keep_cell BZ32 s1, keep_cell BZ32 s2, keep_cell BZ32 s3⟩ (fun hHeld => ?_)
                      clear hK K hba
                      (try simp only [Act.put, List.setIfInBounds_toArray, List.set_cons_zero, List.set_cons_succ])
                      generalize Z31.alloc (.cells #[.bool false, .slice A1 1 c1, .bool false, .slice none 0 0, .slice E n ce] 52) = Z32 at *
                      generalize Z31.heap.size = g8 at *
                      refine wpAnyH_get 9 (some 95) (.agg #[.int .i64 n, .slice (some ⟨g8, 0, none⟩) 1 1]) rfl rfl (by kernel_rfl) (by kernel_rfl) (by kernel_rfl) (fun _ _ _ h => h) (by rfl) hHeld ?_ ?_
                      · (intro w hSw; (try dsimp only at hSw); go_simp; all_goals (try with_reducible rfl))
                      (try simp only [Act.put, List.setIfInBounds_toArray, List.set_cons_zero, List.set_cons_succ])
                      refine wpAnyH_ready (rs := [16]) (by kernel_rfl) (by simp) ?_
                      refine AllReadyH.cons rfl (fun K hK => ?_) AllReadyH.nil
                      go_simp
                      refine (HSH.out Z32 g8 A1 c1 A2 c2 BZ32 G8 D1 D2).mono ?_
                      rintro e Z33 ⟨R, c, A3, c3, g3, rfl, hR, G3, hbz⟩
                      (try go_simp)
                      have BZ33 := below_all BZ32 hbz
                      have G17 := G17.keep hbz G17.lt
                      have D1 := D1.keep hbz
                      have G8 := G8.keep hbz G8.lt
                      have D2 := D2.keep hbz
                      refine hK.out _ _ ⟨keep_cell BZ33 s1, keep_cell BZ33 s2, keep_cell BZ33 s3⟩ (fun hHeld => ?_)
                      clear hK K hbz D1 D2 G8
                      (try simp only [Act.put, List.setIfInBounds_toArray, List.set_cons_zero, List.set_cons_succ])
                      refine wpAnyH_ready (rs := [18]) (by kernel_rfl) (by simp) ?_
                      refine AllReadyH.cons rfl (fun K hK => ?_) AllReadyH.nil
                      obtain ⟨x0, x1, x2, x3⟩ := G17.two
                      have hne17 := own_blk_ne hR G17 (by decide)
                      have hg3 := blk_ne G3 G17 (by decide)
                      have K17 := blk_two_p (c := .int .i64 n) (d := .slice R 1 c) G17
                      have BF := below_far (below_far BZ33 hz17 0 (.int .i64 n)) hz17 1 (.slice R 1 c)
                      go_simp
                      refine hK.out _ _ ⟨keep_cell BF s1, keep_cell BF s2, keep_cell BF s3⟩ (fun hHeld => ?_)
                      clear hK K x0 x1 x2 x3
                      (try simp only [Act.put, List.setIfInBounds_toArray, List.set_cons_zero, List.set_cons_succ])
                      refine wpAnyH_done (by kernel_rfl) ?_ _
                      go_wp2
                      go_meet
                      exact ⟨g17, R, c, A3, c3, g3, rfl, BF, Lib.hid ⟨K17, Sl.own (own_far (own_far hR hne17 _) hne17 _), (G3.far hg3 _).far hg3 _⟩⟩
                · go_simp
                  have G17 := Blk.new Z 39 #[.int .i64 0, .slice none 0 0]
                  have hba : Below Z.heap.size Z (Z.alloc (.cells #[.int .i64 0, .slice none 0 0] 39)) := (Below.refl _ _).alloc (Nat.le_refl _) _
                  have BZ35 := below_all BZ hba
                  have hz17 : wo.heap.size ≤ Z.heap.size := BZ.size
                  refine hK.out _ _ ⟨keep_cell BZ35 s1, keep_cell BZ35 s2, keep_cell BZ35 s3⟩ (fun hHeld => ?_)
                  clear hK K hba
                  (try simp only [Act.put, List.setIfInBounds_toArray, List.set_cons_zero, List.set_cons_succ])
                  generalize Z.alloc (.cells #[.int .i64 0, .slice none 0 0] 39) = Z35 at *
                  generalize Z.heap.size = g17 at *
                  refine wpAnyH_ready (rs := [2]) (by kernel_rfl) (by simp) ?_
                  refine AllReadyH.cons rfl (fun K hK => ?_) AllReadyH.nil
                  go_simp
                  refine (HR1.out Z35).mono ?_
                  rintro e Z36 ⟨A1, c1, rfl, D1, hbz⟩
                  (try go_simp)
                  have BZ36 := below_all BZ35 hbz
                  have G17 := G17.keep hbz G17.lt
                  refine hK.out _ _ ⟨keep_cell BZ36 s1, keep_cell BZ36 s2, keep_cell BZ36 s3⟩ (fun hHeld => ?_)
                  clear hK K hbz
                  (try simp only [Act.put, List.setIfInBounds_toArray, List.set_cons_zero, List.set_cons_succ])
                  refine wpAnyH_get 7 (some 93) (.agg #[.bool false, .slice A1 1 c1, .bool false, .slice none 0 0, .slice E n ce]) rfl rfl (by kernel_rfl) (by kernel_rfl) (by kernel_rfl) (fun _ _ _ h => h) (by rfl) hHeld ?_ ?_
                  · (intro w hSw; (try dsimp only at hSw); go_simp; all_goals (try with_reducible rfl))
                  (try simp only [Act.put, List.setIfInBounds_toArray, List.set_cons_zero, List.set_cons_succ])
                  refine wpAnyH_ready (rs := [8, 10]) (by kernel_rfl) (by simp) ?_
                  refine AllReadyH.cons rfl (fun K hK => ?_) (AllReadyH.cons rfl (fun K hK => ?_) AllReadyH.nil)
                  · go_simp
                    have G8 := Blk.new Z36 52 #[.bool false, .slice A1 1 c1, .bool false, .slice none 0 0, .slice E n ce]
                    have hba : Below Z36.heap.size Z36 (Z36.alloc (.cells #[.bool false, .slice A1 1 c1, .bool false, .slice none 0 0, .slice E n ce] 52)) := (Below.refl _ _).alloc (Nat.le_refl _) _
                    have BZ37 := below_all BZ36 hba
                    have hz8 : wo.heap.size ≤ Z36.heap.size := BZ36.size
                    have G17 := G17.keep hba G17.lt
                    have D1 := D1.keep hba
                    refine hK.out _ _ ⟨keep_cell BZ37 s1, keep_cell BZ37 s2, keep_cell BZ37 s3⟩ (fun hHeld => ?_)
                    clear hK K hba
                    (try simp only [Act.put, List.setIfInBounds_toArray, List.set_cons_zero, List.set_cons_succ])
                    generalize Z36.alloc (.cells #[.bool false, .slice A1 1 c1, .bool false, .slice none 0 0, .slice E n ce] 52) = Z37 at *
                    generalize Z36.heap.size = g8 at *
                    refine wpAnyH_get 9 (some 95) (.agg #[.int .i64 n, .slice (some ⟨g8, 0, none⟩) 1 1]) rfl rfl (by kernel_rfl) (by kernel_rfl) (by kernel_rfl) (fun _ _ _ h => h) (by rfl) hHeld ?_ ?_
                    · (intro w hSw; (try dsimp only at hSw); go_simp; all_goals (try with_reducible rfl))
                    (try simp only [Act.put, List.setIfInBounds_toArray, List.set_cons_zero, List.set_cons_succ])
                    refine wpAnyH_ready (rs := [10]) (by kernel_rfl) (by simp) ?_
                    refine AllReadyH.cons rfl (fun K hK => ?_) AllReadyH.nil
                    go_simp
                    refine (HR1.out Z37).mono ?_
                    rintro e Z38 ⟨A2, c2, rfl, D2, hbz⟩
                    (try go_simp)
                    have BZ38 := below_all BZ37 hbz
                    have G17 := G17.keep hbz G17.lt
                    have D1 := D1.keep hbz
                    have G8 := G8.keep hbz G8.lt
                    refine hK.out _ _ ⟨keep_cell BZ38 s1, keep_cell BZ38 s2, keep_cell BZ38 s3⟩ (fun hHeld => ?_)
                    clear hK K hbz
                    (try simp only [Act.put, List.setIfInBounds_toArray, List.set_cons_zero, List.set_cons_succ])
                    refine wpAnyH_get 15 (some 101) (.agg #[.bool false, .slice A2 1 c2, .bool false, .slice none 0 0, .slice E2 n ce2]) rfl rfl (by kernel_rfl) (by kernel_rfl) (by kernel_rfl) (fun _ _ _ h => h) (by rfl) hHeld ?_ ?_
                    · (intro w hSw; (try dsimp only at hSw); go_simp; all_goals (try with_reducible rfl))
                    (try simp only [Act.put, List.setIfInBounds_toArray, List.set_cons_zero, List.set_cons_succ])
                    refine wpAnyH_ready (rs := [16]) (by kernel_rfl) (by simp) ?_
                    refine AllReadyH.cons rfl (fun K hK => ?_) AllReadyH.nil
                    go_simp
                    refine (HSH.out Z38 g8 A1 c1 A2 c2 BZ38 G8 D1 D2).mono ?_
                    rintro e Z39 ⟨R, c, A3, c3, g3, rfl, hR, G3, hbz⟩
                    (try go_simp)
                    have BZ39 := below_all BZ38 hbz
                    have G17 := G17.keep hbz G17.lt
                    have D1 := D1.keep hbz
                    have G8 := G8.keep hbz G8.lt
                    have D2 := D2.keep hbz
                    refine hK.out _ _ ⟨keep_cell BZ39 s1, keep_cell BZ39 s2, keep_cell BZ39 s3⟩ (fun hHeld => ?_)
                    clear hK K hbz D1 D2 G8
                    (try simp only [Act.put, List.setIfInBounds_toArray, List.set_cons_zero, List.set_cons_succ])
                    refine wpAnyH_ready (rs := [18]) (by kernel_rfl) (by simp) ?_
                    refine AllReadyH.cons rfl (fun K hK => ?_) AllReadyH.nil
                    obtain ⟨x0, x1, x2, x3⟩ := G17.two
                    have hne17 := own_blk_ne hR G17 (by decide)
                    have hg3 := blk_ne G3 G17 (by decide)
                    have K17 := blk_two_p (c := .int .i64 n) (d := .slice R 1 c) G17
                    have BF := below_far (below_far BZ39 hz17 0 (.int .i64 n)) hz17 1 (.slice R 1 c)
                    go_simp
                    refine hK.out _ _ ⟨keep_cell BF s1, keep_cell BF s2, keep_cell BF s3⟩ (fun hHeld => ?_)
                    clear hK K x0 x1 x2 x3
                    (try simp only [Act.put, List.setIfInBounds_toArray, List.set_cons_zero, List.set_cons_succ])
                    refine wpAnyH_done (by kernel_rfl) ?_ _
                    go_wp2
                    go_meet
                    exact ⟨g17, R, c, A3, c3, g3, rfl, BF, Lib.hid ⟨K17, Sl.own (own_far (own_far hR hne17 _) hne17 _), (G3.far hg3 _).far hg3 _⟩⟩
                  · go_simp
                    refine (HR1.out Z36).mono ?_
                    rintro e Z41 ⟨A2, c2, rfl, D2, hbz⟩
                    (try go_simp)
                    have BZ41 := below_all BZ36 hbz
                    have G17 := G17.keep hbz G17.lt
                    have D1 := D1.keep hbz
                    refine hK.out _ _ ⟨keep_cell BZ41 s1, keep_cell BZ41 s2, keep_cell BZ41 s3⟩ (fun hHeld => ?_)
                    clear hK K hbz
                    (try simp only [Act.put, List.setIfInBounds_toArray, List.set_cons_zero, List.set_cons_succ])
                    refine wpAnyH_get 15 (some 101) (.agg #[.bool false, .slice A2 1 c2, .bool false, .slice none 0 0, .slice E2 n ce2]) rfl rfl (by kernel_rfl) (by kernel_rfl) (by kernel_rfl) (fun _ _ _ h => h) (by rfl) hHeld ?_ ?_
                    · (intro w hSw; (try dsimp only at hSw); go_simp; all_goals (try with_reducible rfl))
                    (try simp only [Act.put, List.setIfInBounds_toArray, List.set_cons_zero, List.set_cons_succ])
                    refine wpAnyH_ready (rs := [8]) (by kernel_rfl) (by simp) ?_
                    refine AllReadyH.cons rfl (fun K hK => ?_) AllReadyH.nil
                    go_simp
                    have G8 := Blk.new Z41 52 #[.bool false, .slice A1 1 c1, .bool false, .slice none 0 0, .slice E n ce]
                    have hba : Below Z41.heap.size Z41 (Z41.alloc (.cells #[.bool false, .slice A1 1 c1, .bool false, .slice none 0 0, .slice E n ce] 52)) := (Below.refl _ _).alloc (Nat.le_refl _) _
                    have BZ42 := below_all BZ41 hba
                    have hz8 : wo.heap.size ≤ Z41.heap.size := BZ41.size
                    have G17 := G17.keep hba G17.lt
                    have D1 := D1.keep hba
                    have D2 := D2.keep hba
                    refine hK.out _ _ ⟨keep_cell BZ42 s1, keep_cell BZ42 s2, keep_cell BZ42 s3⟩ (fun hHeld => ?_)
                    clear hK K hba
                    (try simp only [Act.put, List.setIfInBounds_toArray, List.set_cons_zero, List.set_cons_succ])
                    generalize Z41.alloc (.cells #[.bool false, .slice A1 1 c1, .bool false, .slice none 0 0, .slice E n ce] 52) = Z42 at *
                    generalize Z41.heap.size = g8 at *
                    refine wpAnyH_get 9 (some 95) (.agg #[.int .i64 n, .slice (some ⟨g8, 0, none⟩) 1 1]) rfl rfl (by kernel_rfl) (by kernel_rfl) (by kernel_rfl) (fun _ _ _ h => h) (by rfl) hHeld ?_ ?_
                    · (intro w hSw; (try dsimp only at hSw); go_simp; all_goals (try with_reducible rfl))
                    (try simp only [Act.put, List.setIfInBounds_toArray, List.set_cons_zero, List.set_cons_succ])
                    refine wpAnyH_ready (rs := [16]) (by kernel_rfl) (by simp) ?_
                    refine AllReadyH.cons rfl (fun K hK => ?_) AllReadyH.nil
                    go_simp
                    refine (HSH.out Z42 g8 A1 c1 A2 c2 BZ42 G8 D1 D2).mono ?_
                    rintro e Z43 ⟨R, c, A3, c3, g3, rfl, hR, G3, hbz⟩
                    (try go_simp)
                    have BZ43 := below_all BZ42 hbz
                    have G17 := G17.keep hbz G17.lt
                    have D1 := D1.keep hbz
                    have G8 := G8.keep hbz G8.lt
                    have D2 := D2.keep hbz
                    refine hK.out _ _ ⟨keep_cell BZ43 s1, keep_cell BZ43 s2, keep_cell BZ43 s3⟩ (fun hHeld => ?_)
                    clear hK K hbz D1 D2 G8
                    (try simp only [Act.put, List.setIfInBounds_toArray, List.set_cons_zero, List.set_cons_succ])
                    refine wpAnyH_ready (rs := [18]) (by kernel_rfl) (by simp) ?_
                    refine AllReadyH.cons rfl (fun K hK => ?_) AllReadyH.nil
                    obtain ⟨x0, x1, x2, x3⟩ := G17.two
                    have hne17 := own_blk_ne hR G17 (by decide)
                    have hg3 := blk_ne G3 G17 (by decide)
                    have K17 := blk_two_p (c := .int .i64 n) (d := .slice R 1 c) G17
                    have BF := below_far (below_far BZ43 hz17 0 (.int .i64 n)) hz17 1 (.slice R 1 c)
                    go_simp
                    refine hK.out _ _ ⟨keep_cell BF s1, keep_cell BF s2, keep_cell BF s3⟩ (fun hHeld => ?_)
                    clear hK K x0 x1 x2 x3
                    (try simp only [Act.put, List.setIfInBounds_toArray, List.set_cons_zero, List.set_cons_succ])
                    refine wpAnyH_done (by kernel_rfl) ?_ _
                    go_wp2
                    go_meet
                    exact ⟨g17, R, c, A3, c3, g3, rfl, BF, Lib.hid ⟨K17, Sl.own (own_far (own_far hR hne17 _) hne17 _), (G3.far hg3 _).far hg3 _⟩⟩
              case rest =>
                obtain ⟨g17, R, c, A', ca', g, rfl, hbx, HAF⟩ := hcut
                obtain ⟨wx, rfl⟩ : ∃ wx : World, wx = wc := ⟨_, rfl⟩
                have HSX := Lib.hid (HSO.out.keep hbx)
                have hbX := below_all hbo hbx
                clear s1 s2 s3 HR1 HSH HSO hbx
                go_wp2
                go_loopw [18] (fun s18 wr => ∃ k : Nat, s18 = .int .i64 k ∧ k ≤ ts.length ∧ Below wx.heap.size wx wr) (fun s18 _ => ts.length - (intOf s18).toNat)
                case atStart => exact ⟨0, rfl, Nat.zero_le _, Below.refl _ _⟩
                case round =>
                  obtain ⟨wi, rfl⟩ : ∃ wi : World, wi = wr := ⟨_, rfl⟩
                  obtain ⟨k, rfl, hk, hbi⟩ := hrel
                  have HSI := Lib.hid (HSX.out.keep hbi)
                  have HAI := Lib.hid (HAF.out.keep hbi)
                  obtain ⟨x0, x1, _, _⟩ := HSI.out.b13.two
                  by_cases hkl : k < ts.length
                  · obtain ⟨od, rfl, _, _, _, _, _, k4⟩ := rt5_at HSI.out.sl hkl
                    obtain ⟨rd, rfl, _, _, _, _, _, r4⟩ := rt5_at (ts := [one1 A' ca' (some ⟨g, 0, none⟩) n s]) (by simpa using HAI.out.row) (k := 0) (by simp)
                    have r4 : wi.cell? ⟨(rd.add (0 * 5)).block, (rd.add (0 * 5)).off + 4, none⟩ = some (.slice (some ⟨g, 0, none⟩) n n) := r4.trans (by
                      show some (Value.slice (some ⟨g, 0, none⟩) s.length n) = _
                      rw [HSL.out])
                    have r5 : wi.cell? ⟨rd.block, rd.off + 4, none⟩ = some (.slice (some ⟨g, 0, none⟩) n n) := by simpa [Addr.add] using r4
                    have hIk := HSI.out.ints ts[k] (List.getElem_mem _)
                    obtain ⟨hel, had⟩ := HAJ.out k hkl
                    have HAD := Lib.hid had
                    have hIs : Ints wi (some ⟨g, 0, none⟩) s := Sl.own (own_int (base := 0) HAI.out.blk (Nat.zero_le _) HSL.out hn6)
                    obtain ⟨y0, y1, _, _⟩ := HAI.out.b17.two
                    obtain ⟨u0, u1, _, _⟩ := HSI.out.b5.two
                    have hq := fun (V : World) (h : Below wi.heap.size wi V) => ints_any ts[k].adr (some ⟨g, 0, none⟩) ts[k].exps s ts[k].cap n V (hIk.keep h) (hIs.keep h) (by omega)
                    have HAJN : Hid (∀ V, Below wi.heap.size wi V → Calls Tryz.prog 15 #[.agg #[.int .i64 b.length, .slice F es.length d], .int .i64 i, .int .i64 j] V fun e w' => e = .returned (.bool ((readAll es i).testBit j)) ∧ Below V.heap.size V w') := Lib.hid (fun V h => Gx.adj_in b.length F d es i j V (Sl.keep HSI.out.eds h) HEL.out (HV.out _ rfl) (by omega) (by omega))
                    rw [HSL.out] at hq
                    have z0 : (0 : Int) ≤ (k : Int) := by omega
                    have z1 : (k : Int) < (ts.length : Int) := by omega
                    have z3 : ((k : Int)).toNat = k := by omega
                    clear had hIk hIs
                    generalize ts[k].exps = el at *
                    generalize ts[k].adr = Ek at *
                    generalize ts[k].cap = ck at *
                    by_cases heq : el = s
                    · have HTB := Lib.hid (HAD.out heq)
                      have HQ : Hid (∀ V, Below wi.heap.size wi V → Calls Tryz.prog 14 #[.slice Ek el.length ck, .slice (some ⟨g, 0, none⟩) n n] V fun e w' => e = .returned (.bool true) ∧ Below V.heap.size V w') := Lib.hid (fun V h => (hq V h).mono fun e w' h2 => ⟨by rw [h2.1, decide_eq_true heq], h2.2.below⟩)
                      have HAT : Hid (∀ V, Below wi.heap.size wi V → Calls Tryz.prog 15 #[.agg #[.int .i64 b.length, .slice F es.length d], .int .i64 i, .int .i64 j] V fun e w' => e = .returned (.bool true) ∧ Below V.heap.size V w') := Lib.hid (fun V h => by rw [← HTB.out]; exact HAJN.out V h)
                      have hbe : Below wi.heap.size wi wi.drew := (Below.refl _ _).drew
                      clear hq heq HAJN HTB HAD
                      go_upto_region 24 with (fail)
                      go_region_held3 (fun w' => w'.cell? ⟨g13, 1, none⟩ = some (.slice (some od) ts.length co) ∧ w'.cell? ⟨(od.add (k * 5)).block, (od.add (k * 5)).off + 4, none⟩ = some (.slice Ek el.length ck) ∧ w'.cell? ⟨g17, 1, none⟩ = some (.slice (some rd) 1 c) ∧ w'.cell? ⟨rd.block, rd.off + 4, none⟩ = some (.slice (some ⟨g, 0, none⟩) n n) ∧ w'.cell? ⟨g5, 0, none⟩ = some (.int .i64 b.length) ∧ w'.cell? ⟨g5, 1, none⟩ = some (.slice F es.length d))
                        (first | exact ⟨keep_cell hbe x1, keep_cell hbe k4, keep_cell hbe y1, keep_cell hbe r5, keep_cell hbe u0, keep_cell hbe u1⟩)
                        (first
                          | (go_at_call 14; with_reducible refine Calls.mono (HQ.out _ (by assumption)) ?_; rintro e w2 ⟨rfl, hb2⟩
                             have hbe := below_all hbe hb2)
                          | (go_at_call 15; with_reducible refine Calls.mono (HAT.out _ (by assumption)) ?_; rintro e w4 ⟨rfl, hb4⟩
                             have hbe := below_all hbe hb4))
                      all_goals
                        go_wp2_with (fail)
                        go_roundw
                        case rel => exact ⟨k + 1, by go_num, by omega, below_all hbi hbe⟩
                        case measure => simp [intOf]; omega
                    · have HQ : Hid (∀ V, Dr wi V → Calls Tryz.prog 14 #[.slice Ek el.length ck, .slice (some ⟨g, 0, none⟩) n n] V fun e w' => e = .returned (.bool false) ∧ ∃ m, w' = V.drewN m) := Lib.hid (fun V h => (hq V h.below).mono fun e w' h2 => ⟨by rw [h2.1, decide_eq_false heq], h2.2⟩)
                      clear hq heq HAJN HAD
                      go_upto_region 24 with (fail)
                      go_quiet ((go_at_call 14; exact Calls.quiet_of (HQ.out _ ⟨_, rfl⟩)))
                      go_wp2
                      go_roundw
                      case rel => exact ⟨k + 1, by go_num, by omega, below_drewN hbi _⟩
                      case measure => simp [intOf]; omega
                  · obtain rfl : k = ts.length := by omega
                    have dk : decide ((ts.length : Int) < (ts.length : Int)) = false := by simp
                    go_wp2
                    go_roundw
                    case rel => exact ⟨j + 1, by go_num, by omega, below_all hbX hbi⟩
                    case measure => simp [intOf]; omega
            · obtain rfl : j = i := by omega
              have dk : decide ((j : Int) < (j : Int)) = false := by simp
              go_wp2
              go_roundw
              case rel => exact ⟨j + 1, by go_num, by omega, hbo⟩
              case measure => simp [intOf]; omega
        · obtain rfl : i = b.length := by omega
          have dk : decide ((b.length : Int) < (b.length : Int)) = false := by simp
          go_wp2_with (go_at_call 5; refine (HAW.out _ (below_all hb8w hba)).mono ?_; rintro e w9 ⟨rfl, hb9⟩)
          go_ret
          exact ⟨rfl, below_all (below_all hb8w hba) hb9⟩
    · have hz0 : (er != 0) = true := by simpa using her
      clear HE0 HGE HMD HFE HEL HPI HV HL
      generalize p.vars = P at *
      generalize p.adr = T at *
      generalize p.tv.length = L at *
      generalize p.cap = cT at *
      go_wp2_with (go_at_call 5; refine (HAW.out _ hbz).mono ?_; rintro e w9 ⟨rfl, hb9⟩)
      go_ret
      exact ⟨rfl, below_all hbz hb9⟩
end Go.Proofs.Tg.Sx
end
