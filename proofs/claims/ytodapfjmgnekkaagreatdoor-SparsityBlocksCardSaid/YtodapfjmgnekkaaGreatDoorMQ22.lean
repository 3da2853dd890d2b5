/- Parts of the proof: WK8, RS2, RS3, RS4, GXP. -/
import Derived.Deep.AppendLies
import Derived.Test.YtodapfjmgnekkaaGreatDoorMQ13
import Derived.Test.YtodapfjmgnekkaaGreatDoorMQ16
import Derived.Test.YtodapfjmgnekkaaGreatDoorMQ20
import Derived.Test.YtodapfjmgnekkaaGreatDoorMQ21
section
/- The exported functions: Graph, Blocks, Stable. -/
namespace Go.Proofs.Tg
open Go.RowKit Go.Gr Go.Sp Go.Ev Go.Mo Go.Jt
set_option maxHeartbeats 4000000
set_option maxRecDepth 100000
theorem dom_of {p : PVal} {ok : Bool} {b : List (List Int)} (hok : ok = true ↔ p.ok) (h : errS ok p.vars b = 0) : ∃ n : Nat, p.vars = n ∧ n ≤ 6 ∧ p.tv.length ≤ 4096 ∧ (∀ t ∈ p.tv, domK n 24 t.exps) ∧ (∀ m ∈ b, domK n 24 m) ∧ b.length ≤ 64 := by
  obtain ⟨h1, h2, h3, h4, _⟩ := errS_zero h
  have hp := hok.1 h1
  have h0 := hp.2.1.1
  have h6 := hp.2.1.2.1
  obtain ⟨n, hn⟩ : ∃ n : Nat, p.vars = n := ⟨p.vars.toNat, by omega⟩
  refine ⟨n, hn, by omega, by have := hp.1; rwa [List.length_map] at this, fun t ht => ?_, fun m hm => ?_, h4⟩
  · have hp' : VldP (n : Int) (p.tv.map TV.pl) := by rw [← hn]; exact hp
    exact vldP_dom hp' (TV.pl t) (List.mem_map.2 ⟨t, ht, rfl⟩)
  · have h5 := vld_dom (h2 m hm)
    have h7 := h3 m hm
    rwa [show m.length = n by omega] at h5
/-- The known monomials of a polynomial and a basis. -/
abbrev kn (p : PVal) (b : List (List Int)) : List (List Int) := S0 (exsOf p.tv) b
def RetSG (p : PVal) (b : List (List Int)) (er : Int) (w : World) (e : Ending) (w' : World) : Prop := Below w.heap.size w w' ∧
  ((er ≠ 0 ∧ e = .returned (.tuple #[Gx.zeroG, .int .i64 er])) ∨ (er = 0 ∧ ∃ F d, e = .returned (.tuple #[.agg #[.int .i64 b.length, .slice F (edTo b (kn p b) b.length).length d], .int .i64 0]) ∧ Gx.EdgesAt w' F (edTo b (kn p b) b.length)))
def RetSB (p : PVal) (b : List (List Int)) (hb : b.length ≤ 64) (er K : Int) (w : World) (e : Ending) (w' : World) : Prop := Below w.heap.size w w' ∧
  ((er ≠ 0 ∧ e = .returned (.tuple #[.slice none 0 0, .int .i64 er])) ∨ (er = 0 ∧ K < 1 ∧ e = .returned (.tuple #[.slice none 0 0, .int .i64 3])) ∨
    (er = 0 ∧ 1 ≤ K ∧ ∃ m R c, (rnd b (kn p b) hb).Final K.toNat m ∧ e = .returned (.tuple #[.slice R ((rnd b (kn p b) hb).B (m - 1)).length c, .int .i64 0]) ∧ Lists w' R ((rnd b (kn p b) hb).B (m - 1))))
def bigK : Nat := 9223372036854775807
def RetSS (p : PVal) (b : List (List Int)) (hb : b.length ≤ 64) (er : Int) (w : World) (e : Ending) (w' : World) : Prop := Below w.heap.size w w' ∧
  ((er ≠ 0 ∧ e = .returned (.tuple #[.slice none 0 0, .int .i64 0, .int .i64 er])) ∨
    (er = 0 ∧ ∃ m R c, (rnd b (kn p b) hb).Final bigK m ∧ e = .returned (.tuple #[.slice R ((rnd b (kn p b) hb).B (m - 1)).length c, .int .i64 (m : Nat), .int .i64 0]) ∧ Lists w' R ((rnd b (kn p b) hb).B (m - 1))))
theorem sstable_any (p : PVal) (B : Option Addr) (cb : Nat) (b : List (List Int)) (ok : Bool) (w : World) (hP : TermsAt w p.adr p.tv) (hsm : p.small) (hB : Lists w B b) (hbl : b.length ≤ 64) (hml : ∀ m ∈ b, m.length ≤ 1000) (hok : ok = true ↔ p.ok) (hT : Tab w) :
    Calls Tryz.prog 13 #[.agg #[.int .i64 p.vars, .slice p.adr p.tv.length p.cap], .slice B b.length cb] w (RetSS p b hbl (errS ok p.vars b) w) := by
  obtain ⟨W, hW⟩ : ∃ W, w.alloc (.cells #[.int .i64 p.vars, .slice p.adr p.tv.length p.cap] 24) = W := ⟨_, rfl⟩
  have hbA : Below w.heap.size w W := by rw [← hW]; exact (Below.refl _ _).alloc (Nat.le_refl _) _
  have B0 : Blk W w.heap.size 24 #[.int .i64 p.vars, .slice p.adr p.tv.length p.cap] := by rw [← hW]; exact Blk.new _ _ _
  have HCK := Lib.hid (scheck_any p B cb b ok W (hP.keep hbA) hsm (hB.keep hbA) hbl hml hok (hT.below hbA hT.1))
  have HRUN : Hid (∀ V, Below w.heap.size w V → errS ok p.vars b = 0 → Calls Tryz.prog 37 #[.agg #[.int .i64 p.vars, .slice p.adr p.tv.length p.cap], .slice B b.length cb, .int .i64 9223372036854775807] V (RetRun bigK b (kn p b) hbl V)) := Lib.hid (fun V hV he => by
    obtain ⟨n, hn, h6, hl, hd, hdb, _⟩ := dom_of hok he
    exact run_any p.vars p.adr p.cap p.tv B cb b n bigK V (hP.keep hV) (hB.keep hV) h6 hl hbl hd hdb (by decide) (hT.below hV hT.1))
  generalize errS ok p.vars b = er at *
  have HWW := Lib.hid hW
  obtain ⟨P, T, cT, tv⟩ := p
  simp only at *
  obtain ⟨c0, c1, _, _⟩ := B0.two
  clear hW hP hB hok hml hsm
  go_enter Tryz.func13, Tryz.ntmps13
  go_upto_region 1 with (fail)
  rw [HWW.out]
  clear HWW
  by_cases her : er = 0
  · subst her
    go_wp2_with (first
      | (go_at_call 36; refine HCK.out.mono ?_; rintro e w1 ⟨rfl, hb1⟩
         have C0 := B0.keep hb1 B0.lt
         obtain ⟨d0, d1, _, _⟩ := C0.two
         have hb2 := below_all hbA hb1)
      | (go_at_call 37; refine (HRUN.out _ hb2 (by trivial)).mono ?_; rintro e w3 ⟨m, R, c, hF, rfl, hL, hb3⟩))
    refine bodyPost_ret (v := _) (results_tmp3 rfl _ _ _) rfl ?_
    exact ⟨below_all hb2 hb3, .inr ⟨rfl, m, R, c, hF, rfl, hL.lists⟩⟩
  · have hne : (er != 0) = true := by simp [her]
    go_wp2_with (go_at_call 36; refine HCK.out.mono ?_; rintro e w1 ⟨rfl, hb1⟩)
    refine bodyPost_ret (v := _) (results_tmp3 rfl _ _ _) rfl ?_
    exact ⟨below_all hbA hb1, .inl ⟨her, rfl⟩⟩
theorem sblocks_any (p : PVal) (B : Option Addr) (cb : Nat) (b : List (List Int)) (ok : Bool) (w : World) (hP : TermsAt w p.adr p.tv) (hsm : p.small) (hB : Lists w B b) (hbl : b.length ≤ 64) (hml : ∀ m ∈ b, m.length ≤ 1000) (hok : ok = true ↔ p.ok) (hT : Tab w) (K : Int) :
    Calls Tryz.prog 12 #[.agg #[.int .i64 p.vars, .slice p.adr p.tv.length p.cap], .slice B b.length cb, .int .i64 K] w (RetSB p b hbl (errS ok p.vars b) K w) := by
  obtain ⟨W, hW⟩ : ∃ W, w.alloc (.cells #[.int .i64 p.vars, .slice p.adr p.tv.length p.cap] 24) = W := ⟨_, rfl⟩
  have hbA : Below w.heap.size w W := by rw [← hW]; exact (Below.refl _ _).alloc (Nat.le_refl _) _
  have B0 : Blk W w.heap.size 24 #[.int .i64 p.vars, .slice p.adr p.tv.length p.cap] := by rw [← hW]; exact Blk.new _ _ _
  have HCK := Lib.hid (scheck_any p B cb b ok W (hP.keep hbA) hsm (hB.keep hbA) hbl hml hok (hT.below hbA hT.1))
  have HRUN : Hid (∀ V, Below w.heap.size w V → errS ok p.vars b = 0 → 1 ≤ K → Calls Tryz.prog 37 #[.agg #[.int .i64 p.vars, .slice p.adr p.tv.length p.cap], .slice B b.length cb, .int .i64 K] V (RetRun K.toNat b (kn p b) hbl V)) := Lib.hid (fun V hV he hK => by
    obtain ⟨n, hn, h6, hl, hd, hdb, _⟩ := dom_of hok he
    have := run_any p.vars p.adr p.cap p.tv B cb b n K.toNat V (hP.keep hV) (hB.keep hV) h6 hl hbl hd hdb (by omega) (hT.below hV hT.1)
    rwa [show ((K.toNat : Nat) : Int) = K by omega] at this)
  generalize errS ok p.vars b = er at *
  have HWW := Lib.hid hW
  obtain ⟨P, T, cT, tv⟩ := p
  simp only at *
  obtain ⟨c0, c1, _, _⟩ := B0.two
  clear hW hP hB hok hml hsm
  go_enter Tryz.func12, Tryz.ntmps12
  go_upto_region 1 with (fail)
  rw [HWW.out]
  clear HWW
  by_cases her : er = 0
  · subst her
    by_cases hK : K < 1
    · have hk : decide (K < 1) = true := by simpa using hK
      go_wp2_with (go_at_call 36; refine HCK.out.mono ?_; rintro e w1 ⟨rfl, hb1⟩)
      go_ret2
      exact ⟨below_all hbA hb1, .inr (.inl ⟨rfl, hK, rfl⟩)⟩
    · have hk : decide (K < 1) = false := by simpa using hK
      have hK1 : 1 ≤ K := by omega
      go_wp2_with (first
        | (go_at_call 36; refine HCK.out.mono ?_; rintro e w1 ⟨rfl, hb1⟩
           have C0 := B0.keep hb1 B0.lt
           obtain ⟨d0, d1, _, _⟩ := C0.two
           have hb2 := below_all hbA hb1)
        | (go_at_call 37; refine (HRUN.out _ hb2 (by trivial) hK1).mono ?_; rintro e w3 ⟨m, R, c, hF, rfl, hL, hb3⟩))
      go_ret2
      exact ⟨below_all hb2 hb3, .inr (.inr ⟨rfl, hK1, m, R, c, hF, rfl, hL.lists⟩)⟩
  · have hne : (er != 0) = true := by simp [her]
    go_wp2_with (go_at_call 36; refine HCK.out.mono ?_; rintro e w1 ⟨rfl, hb1⟩)
    go_ret2
    exact ⟨below_all hbA hb1, .inl ⟨her, rfl⟩⟩
theorem sgraph_any (p : PVal) (B : Option Addr) (cb : Nat) (b : List (List Int)) (ok : Bool) (w : World) (hP : TermsAt w p.adr p.tv) (hsm : p.small) (hB : Lists w B b) (hbl : b.length ≤ 64) (hml : ∀ m ∈ b, m.length ≤ 1000) (hok : ok = true ↔ p.ok) (hT : Tab w) :
    Calls Tryz.prog 16 #[.agg #[.int .i64 p.vars, .slice p.adr p.tv.length p.cap], .slice B b.length cb] w (RetSG p b (errS ok p.vars b) w) := by
  obtain ⟨W, hW⟩ : ∃ W, (w.alloc (.cells #[.int .i64 p.vars, .slice p.adr p.tv.length p.cap] 24)).alloc (.cells #[.int .i64 0, .slice none 0 0] 40) = W := ⟨_, rfl⟩
  have hbA : Below w.heap.size w W := by rw [← hW]; exact ((Below.refl _ _).alloc (Nat.le_refl _) _).alloc (by simp) _
  have B0 : Blk W w.heap.size 24 #[.int .i64 p.vars, .slice p.adr p.tv.length p.cap] := by rw [← hW]; exact (Blk.new _ _ _).alloc _
  have B1 : Blk W (w.heap.size + 1) 40 #[.int .i64 0, .slice none 0 0] := by
    rw [← hW]; have := Blk.new (w.alloc (.cells #[.int .i64 p.vars, .slice p.adr p.tv.length p.cap] 24)) 40 #[.int .i64 0, .slice none 0 0]
    simpa using this
  have HCK := Lib.hid (scheck_any p B cb b ok W (hP.keep hbA) hsm (hB.keep hbA) hbl hml hok (hT.below hbA hT.1))
  have HST : Hid (∀ V, Below w.heap.size w V → errS ok p.vars b = 0 → Calls Tryz.prog 38 #[.agg #[.int .i64 p.vars, .slice p.adr p.tv.length p.cap], .slice B b.length cb] V fun e w' => ∃ g, e = .returned (.pointer (some ⟨g, 0, none⟩)) ∧ Below V.heap.size V w' ∧
      Calls Tryz.prog 39 #[.pointer (some ⟨g, 0, none⟩)] w' (RetEd b (kn p b) w')) := Lib.hid (fun V hV he => by
    obtain ⟨n, hn, h6, hl, hd, hdb, _⟩ := dom_of hok he
    refine (start_any p.vars p.adr p.cap p.tv B cb b n V (hP.keep hV) (hB.keep hV) h6 hl hbl hd hdb).mono ?_
    rintro e w' ⟨g, mb, h1, _, _, h4, h5⟩
    have hT2 : Tab w' := hT.below (below_all hV h5) hT.1
    exact ⟨g, h1, h5, igraph_any g mb B cb n _ b _ w' h4 h6 hbl hdb hT2⟩)
  generalize errS ok p.vars b = er at *
  have HWW := Lib.hid hW
  obtain ⟨P, T, cT, tv⟩ := p
  simp only at *
  obtain ⟨c0, c1, _, _⟩ := B0.two
  clear hW hP hB hok hml hsm
  go_enter Tryz.func16, Tryz.ntmps16
  go_upto_region 1 with (fail)
  rw [HWW.out]
  clear HWW
  by_cases her : er = 0
  · subst her
    go_wp2_with (first
      | (go_at_call 36; refine HCK.out.mono ?_; rintro e w1 ⟨rfl, hb1⟩
         have C0 := B0.keep hb1 B0.lt
         have C1 := B1.keep hb1 B1.lt
         obtain ⟨d0, d1, _, _⟩ := C0.two
         have hb2 := below_all hbA hb1)
      | (go_at_call 38; refine (HST.out _ hb2 (by trivial)).mono ?_; rintro e w3 ⟨g, rfl, hb3, HGR⟩
         have C3 := C1.keep hb3 C1.lt)
      | (go_at_call 39; refine HGR.mono ?_; rintro e w4 ⟨F, d, rfl, hF, hb4⟩
         have C4 := C3.keep hb4 C3.lt
         obtain ⟨z0, z1, y0, y1⟩ := C4.two
         have hl4 := C4.lt))
    refine bodyPost_ret (v := _) (Gx.results_g (p := 4) (q := 5) rfl _ _ (w.heap.size + 1) _ _ rfl (Gx.blk_two C4)) rfl ?_
    have hne := own_blk_ne hF C4 (by decide)
    exact ⟨below_far (below_far (below_all (below_all hb2 hb3) hb4) (by omega) _ _) (by omega) _ _, .inr ⟨rfl, F, d, rfl, Sl.own (own_far (own_far hF hne _) hne _)⟩⟩
  · have hne : (er != 0) = true := by simp [her]
    go_wp2_with (go_at_call 36; refine HCK.out.mono ?_; rintro e w1 ⟨rfl, hb1⟩
                 have C1 := B1.keep hb1 B1.lt
                 obtain ⟨z0, z1, y0, y1⟩ := C1.two
                 have hl4 := C1.lt)
    refine bodyPost_ret (v := _) (Gx.results_g (p := 4) (q := 5) rfl _ _ (w.heap.size + 1) _ _ rfl (Gx.blk_two C1)) rfl ?_
    exact ⟨below_far (below_far (below_all hbA hb1) (by omega) _ _) (by omega) _ _, .inl ⟨her, rfl⟩⟩
end Go.Proofs.Tg
end
section
/- The reference's check of a polynomial and a basis. -/
namespace Go.Proofs.Tg.Sx
open Go.RowKit Go.Gr Go.Sp Go.Ev Go.Mo Go.Qn
set_option maxHeartbeats 4000000
set_option maxRecDepth 100000
theorem take_all_iff {α : Type} {l : List α} {k : Nat} {P : α → Prop} (hk : k < l.length) : (∀ x ∈ l.take (k + 1), P x) ↔ (∀ x ∈ l.take k, P x) ∧ P l[k] := by
  constructor
  · exact fun h => ⟨fun x hx => h x ((take_mem_succ hk x).1 (List.mem_cons_of_mem _ hx)), h _ ((take_mem_succ hk _).1 (List.mem_cons_self ..))⟩
  · rintro ⟨h1, h2⟩ x hx
    rcases List.mem_cons.1 ((take_mem_succ hk x).2 hx) with rfl | h
    · exact h2
    · exact h1 x h
theorem rbasis_any (V : Int) (O : Option Addr) (no co : Nat) (ok : Bool) (B : Option Addr) (cb : Nat) (b : List (List Int)) (w : World) (hB : Lists w B b) (hbl : b.length ≤ 64) (hml : ∀ m ∈ b, m.length ≤ 1000) :
    Calls Tryz.prog 69 #[.agg #[.int .i64 V, .slice O no co], .bool ok, .slice B b.length cb] w fun e w' => e = .returned (.int .i64 (errS ok V b)) ∧ Below w.heap.size w w' := by
  obtain ⟨W, hW⟩ : ∃ W, w.alloc (.cells #[.int .i64 V, .slice O no co] 47) = W := ⟨_, rfl⟩
  have hbA : Below w.heap.size w W := by rw [← hW]; exact (Below.refl _ _).alloc (Nat.le_refl _) _
  have B0 : Blk W w.heap.size 47 #[.int .i64 V, .slice O no co] := by rw [← hW]; exact Blk.new _ _ _
  have HML := Lib.hid hml
  have hL := hB.keep hbA
  have HWW := Lib.hid hW
  have hgl := B0.lt
  clear hml hW hB
  obtain ⟨c0, c1, _, _⟩ := B0.two
  go_enter Tryz.func69, Tryz.ntmps69
  go_upto_region 1 with (fail)
  rw [HWW.out]
  clear HWW
  go_wp2
  go_loop [7, 1] (fun s7 s1 => ∃ (k : Nat) (q : Bool), s7 = .int .i64 k ∧ k ≤ b.length ∧ s1 = .bool q ∧ Hid (q = true ↔ ok = true ∧ ∀ m ∈ b.take k, vldM m = true)) (fun s7 _ => b.length - (intOf s7).toNat)
  case atStart => exact ⟨0, ok, rfl, Nat.zero_le _, rfl, Lib.hid (by simp)⟩
  case round =>
    obtain ⟨k, q, rfl, hk, rfl, HG⟩ := hrel
    by_cases hlt : k < b.length
    · obtain ⟨ad, A, c, rfl, hc, hA⟩ := hL.at hlt
      have hml := HML.out b[k] (List.getElem_mem _)
      have HN : Hid ((∀ m ∈ b.take (k + 1), vldM m = true) ↔ (∀ m ∈ b.take k, vldM m = true) ∧ vldM b[k] = true) := Lib.hid (take_all_iff (P := fun m => vldM m = true) hlt)
      generalize b[k] = m at *
      have w1 : IntKind.i64.wrap ((k : Int) + 1) = (k : Int) + 1 := IntWalk.i64_in _ (by omega)
      cases q with
      | false =>
        have HG2 : Hid (¬ (ok = true ∧ ∀ m ∈ b.take (k + 1), vldM m = true)) := Lib.hid (fun h => by
          have := HG.out.2 ⟨h.1, (HN.out.1 h.2).1⟩
          cases this)
        go_wp2
        go_round
        case rel => exact ⟨k + 1, false, by go_num, by omega, rfl, Lib.hid (iff_of_false (by decide) HG2.out)⟩
        case measure => simp [intOf]; omega
      | true =>
        have hG := HG.out.1 rfl
        cases hv : vldM m with
        | true =>
          have HV := Lib.hid (rvld_lit A c m W hA hml true hv)
          have HG2 : Hid (ok = true ∧ ∀ m ∈ b.take (k + 1), vldM m = true) := Lib.hid ⟨hG.1, HN.out.2 ⟨hG.2, hv⟩⟩
          clear hv hG
          go_wp2_with (go_at_call 50; refine HV.out.mono ?_; rintro e w' ⟨rfl, rfl⟩)
          go_round
          case rel => exact ⟨k + 1, true, by go_num, by omega, rfl, Lib.hid (iff_of_true rfl HG2.out)⟩
          case measure => simp [intOf]; omega
        | false =>
          have HV := Lib.hid (rvld_lit A c m W hA hml false hv)
          have HG2 : Hid (¬ (ok = true ∧ ∀ m ∈ b.take (k + 1), vldM m = true)) := Lib.hid (fun h => by
            have := (HN.out.1 h.2).2
            rw [hv] at this
            cases this)
          clear hv hG
          go_wp2_with (go_at_call 50; refine HV.out.mono ?_; rintro e w' ⟨rfl, rfl⟩)
          go_round
          case rel => exact ⟨k + 1, false, by go_num, by omega, rfl, Lib.hid (iff_of_false (by decide) HG2.out)⟩
          case measure => simp [intOf]; omega
    · obtain rfl : k = b.length := by omega
      have dk : decide ((b.length : Int) < (b.length : Int)) = false := by simp
      rw [List.take_length] at HG
      cases q with
      | false =>
        have HF : Hid (errS ok V b = 1) := Lib.hid (by
          unfold errS
          rw [if_neg]
          intro h
          have := HG.out.2 h
          cases this)
        go_wp2
        go_ret
        exact ⟨by rw [HF.out]; rfl, hbA⟩
      | true =>
        obtain ⟨rfl, hall⟩ := HG.out.1 rfl
        have HAV := Lib.hid hall
        clear HG hall
        go_wp2
        go_loopw [8] (fun s8 wr => ∃ k : Nat, s8 = .int .i64 k ∧ k ≤ b.length ∧ Hid (∀ m ∈ b.take k, (m.length : Int) = V) ∧ Dr W wr) (fun s8 _ => b.length - (intOf s8).toNat)
        case atStart => exact ⟨0, rfl, Nat.zero_le _, Lib.hid (by simp), Dr.refl _⟩
        case round =>
          obtain ⟨wo, rfl⟩ : ∃ wo : World, wo = wr := ⟨_, rfl⟩
          obtain ⟨k, rfl, hk, HG, hdr⟩ := hrel
          by_cases hlt : k < b.length
          · obtain ⟨ad, A, c, rfl, hc, hA⟩ := (hL.keep hdr.below).at hlt
            have HM : Hid (b[k] ∈ b) := Lib.hid (List.getElem_mem _)
            have HN : Hid ((b[k].length : Int) = V → ∀ m ∈ b.take (k + 1), (m.length : Int) = V) := Lib.hid (all_take (P := fun m : List Int => (m.length : Int) = V) hlt HG.out)
            generalize b[k] = m at *
            have d0 := keep_cell hdr.below c0
            have p0 : (0 : Int) ≤ (k : Int) := by omega
            have p1 : (k : Int) < (b.length : Int) := by omega
            have p3 : ((k : Int)).toNat = k := by omega
            by_cases hl : (m.length : Int) = V
            · have hb : ((m.length : Int) != V) = false := by simp [hl]
              have HG2 := Lib.hid (HN.out hl)
              have HL := Lib.hid hl
              clear hl
              go_wp2
              go_quiet (fail)
              go_wp2
              go_roundw
              case rel => exact ⟨k + 1, by go_num, by omega, HG2, hdr.drewN _⟩
              case measure => simp [intOf]; omega
            · have hb : ((m.length : Int) != V) = true := by simp [hl]
              have HF : Hid (errS true V b = 4) := Lib.hid (errS_shape HAV.out ⟨m, HM.out, hl⟩)
              clear hl
              go_wp2
              go_quiet (fail)
              go_wp2
              go_ret
              exact ⟨by rw [HF.out]; rfl, below_all hbA (hdr.drewN _).below⟩
          · obtain rfl : k = b.length := by omega
            have HAL : Hid (∀ m ∈ b, (m.length : Int) = V) := Lib.hid (by have := HG.out; rwa [List.take_length] at this)
            have dk : decide ((b.length : Int) < (b.length : Int)) = false := by simp
            have d64 : decide ((64 : Int) < (b.length : Int)) = false := by simp; omega
            have d64' : decide (64 < b.length) = false := by simp; omega
            clear HG
            go_wp2
            go_loopw [9] (fun s9 wr => ∃ k : Nat, s9 = .int .i64 k ∧ k ≤ b.length ∧ Hid ((b.take k).Nodup) ∧ Dr W wr) (fun s9 _ => b.length - (intOf s9).toNat)
            case atStart => exact ⟨0, rfl, Nat.zero_le _, Lib.hid (by simp), hdr⟩
            case round =>
              clear hdr
              obtain ⟨wp, rfl⟩ : ∃ wp : World, wp = wr := ⟨_, rfl⟩
              obtain ⟨i, rfl, hi, HND, hdr⟩ := hrel
              by_cases hil : i < b.length
              · have HIN : Hid (b[i] ∉ b.take i → (b.take (i + 1)).Nodup) := Lib.hid (take_nodup_succ hil HND.out)
                have HIB : Hid (b[i] ∈ b.take i → errS true V b = 10) := Lib.hid (fun h => errS_dup HAV.out HAL.out hbl (not_nodup_take hil h))
                obtain ⟨ad, A, c, rfl, hcA0, hIA⟩ := hL.at hil
                have hla := HML.out b[i] (List.getElem_mem _)
                generalize b[i] = x at *
                go_wp2
                go_loopw [10] (fun s10 wr => ∃ k : Nat, s10 = .int .i64 k ∧ k ≤ i ∧ Hid (x ∉ b.take k) ∧ Dr W wr) (fun s10 _ => i - (intOf s10).toNat)
                case atStart => exact ⟨0, rfl, Nat.zero_le _, Lib.hid (by simp), hdr⟩
                case round =>
                  clear hdr
                  obtain ⟨wq, rfl⟩ : ∃ wq : World, wq = wr := ⟨_, rfl⟩
                  obtain ⟨k, rfl, hk, HX, hdr⟩ := hrel
                  by_cases hkl : k < i
                  · have hkb : k < b.length := by omega
                    obtain ⟨ad2, A2, c2, he, hcB0, hIB⟩ := hL.at hkb
                    injection he with he
                    subst he
                    have hcA := keep_cell hdr.below hcA0
                    have hcB := keep_cell hdr.below hcB0
                    have HX2 : Hid (x ≠ b[k] → x ∉ b.take (k + 1)) := Lib.hid (fun h hm => by
                      rcases List.mem_cons.1 ((take_mem_succ hkb x).2 hm) with e | e
                      · exact h e
                      · exact HX.out e)
                    have HXI : Hid (x = b[k] → x ∈ b.take i) := Lib.hid (fun h => by
                      rw [h]
                      exact List.mem_take_iff_getElem.2 ⟨k, by omega, rfl⟩)
                    generalize b[k] = y at *
                    have p0 : (0 : Int) ≤ (i : Int) := by omega
                    have p1 : (i : Int) < (b.length : Int) := by omega
                    have p3 : ((i : Int)).toNat = i := by omega
                    have q0 : (0 : Int) ≤ (k : Int) := by omega
                    have q1 : (k : Int) < (b.length : Int) := by omega
                    have q3 : ((k : Int)).toNat = k := by omega
                    by_cases hxy : x = y
                    · have HSQ : Hid (∀ V, Dr wq V → Calls Tryz.prog 103 #[.slice A x.length c, .slice A2 y.length c2] V fun e w' => e = .returned (.bool true) ∧ ∃ z, w' = V.drewN z) := Lib.hid (fun V h =>
                        seq_any A A2 x y c c2 V (hIA.keep (below_all hdr.below h.below)) (hIB.keep (below_all hdr.below h.below)) (by omega) true (decide_eq_true hxy))
                      have HF := Lib.hid (HIB.out (HXI.out hxy))
                      clear hxy hcB0 hIB
                      go_wp2
                      go_quiet ((go_at_call 103; exact Calls.quiet_of (HSQ.out _ ⟨_, rfl⟩)))
                      go_wp2
                      go_ret
                      exact ⟨by rw [HF.out]; rfl, below_all hbA (hdr.drewN _).below⟩
                    · have HSQ : Hid (∀ V, Dr wq V → Calls Tryz.prog 103 #[.slice A x.length c, .slice A2 y.length c2] V fun e w' => e = .returned (.bool false) ∧ ∃ z, w' = V.drewN z) := Lib.hid (fun V h =>
                        seq_any A A2 x y c c2 V (hIA.keep (below_all hdr.below h.below)) (hIB.keep (below_all hdr.below h.below)) (by omega) false (decide_eq_false hxy))
                      have HF := Lib.hid (HX2.out hxy)
                      clear hxy hcB0 hIB
                      go_wp2
                      go_quiet ((go_at_call 103; exact Calls.quiet_of (HSQ.out _ ⟨_, rfl⟩)))
                      go_wp2
                      go_roundw
                      case rel => exact ⟨k + 1, by go_num, by omega, HF, hdr.drewN _⟩
                      case measure => simp [intOf]; omega
                  · obtain rfl : k = i := by omega
                    have dk : decide ((k : Int) < (k : Int)) = false := by simp
                    have HN2 := Lib.hid (HIN.out HX.out)
                    go_wp2
                    go_roundw
                    case rel => exact ⟨k + 1, by go_num, by omega, HN2, hdr⟩
                    case measure => simp [intOf]; omega
              · obtain rfl : i = b.length := by omega
                have HF : Hid (errS true V b = 0) := Lib.hid (errS_ok HAV.out HAL.out hbl (by have := HND.out; rwa [List.take_length] at this))
                go_wp2
                go_ret
                exact ⟨by rw [HF.out]; rfl, below_all hbA hdr.below⟩
end Go.Proofs.Tg.Sx
end
section
/- The reference's check, and the set of the round 0. -/
namespace Go.Proofs.Tg.Sx
open Go.RowKit Go.Gr Go.Sp Go.Ev Go.Mo Go.Qn
set_option maxHeartbeats 4000000
set_option maxRecDepth 100000
def RetRC (p : PVal) (er : Int) (w : World) (e : Ending) (w' : World) : Prop := Below w.heap.size w w' ∧
  ((er ≠ 0 ∧ ∃ v O no co, e = .returned (.tuple #[.agg #[.int .i64 v, .slice O no co], .int .i64 er])) ∨
    (er = 0 ∧ ∃ O co ts, e = .returned (.tuple #[.agg #[.int .i64 p.vars, .slice O (List.length ts) co], .int .i64 0]) ∧ RTermsAt w' O ts ∧ ts.map RT.core = p.tv.map TV.core))
/-- What the reading gives, in one form. -/
theorem read_one (p : PVal) (ok : Bool) (w : World) (hP : TermsAt w p.adr p.tv) (hn : p.tv.length ≤ 4096) (hs : ∀ t ∈ p.tv, t.coef.size ≤ 8 ∧ t.exps.length ≤ 64) (hok : ok = true ↔ p.ok) :
    Calls Tryz.prog 22 #[.agg #[.int .i64 p.vars, .slice p.adr p.tv.length p.cap]] w fun e w' => Below w.heap.size w w' ∧ ∃ v O no co, e = .returned (.tuple #[.agg #[.int .i64 v, .slice O no co], .bool ok]) ∧
      (ok = true → v = p.vars ∧ ∃ ts : List RT, no = ts.length ∧ Sl w' O ts.length 5 (ts.flatMap RT.cells) ∧ (∀ g, g < w.heap.size → Off O ts.length g) ∧ ts.map RT.core = p.tv.map TV.core) := by
  refine (readP_any p.vars p.adr p.cap p.tv w hP hn hs).mono ?_
  rintro e w' ⟨hb, ⟨h1, rfl⟩ | ⟨h1, O, co, ts, rfl, hown, hcore, _⟩⟩
  · have : ok = false := eq_false_of_ne_true (fun h => h1 (hok.1 h))
    subst this
    exact ⟨hb, 0, none, 0, 0, rfl, fun h => by cases h⟩
  · have : ok = true := hok.2 h1
    subst this
    refine ⟨hb, p.vars, O, _, co, rfl, fun _ => ⟨rfl, ts, rfl, Sl.own hown, fun g hg hn ad he hgg => ?_, hcore⟩⟩
    subst he
    rcases hown.2 with ⟨h2, _⟩ | ⟨g', cap, cur, h2, h3, _⟩
    · cases h2
    · injection h2 with h2
      injection h2 with h2
      subst h2
      simp only at hgg
      omega
theorem results_p {fn : Func} {p q : Tmp} (h : fn.results = #[.cell p 47, .tmp q]) (tmps : Array Value) (w : World) (g : Nat) (a b : Value)
    (hp : tmps.getD p undef = .pointer (some ⟨g, 0, none⟩)) (hg : Blk w g 47 #[a, b]) :
    (results fn tmps).run Tryz.prog w = .ok (.tuple #[.agg #[a, b], tmps.getD q undef]) w := by
  have hp' : tmps[p]?.getD undef = .pointer (some ⟨g, 0, none⟩) := by simpa using hp
  have hi : (Tryz.prog.info? 47).map (·.size) = some (#[a, b] : Array Value).size := by
    show _ = some 2
    kernel_rfl
  simp [results, h, hp', asAddr, run_loadVar_row w g 47 47 #[a, b] (0, 0) _ hg Tryz.underlying47 rfl hi]
theorem blk_two_p {w : World} {g : Nat} {a b c d : Value} {t : TypeId} (h : Blk w g t #[a, b]) : Blk ((w.setCell ⟨g, 0, none⟩ c).setCell ⟨g, 1, none⟩ d) g t #[c, d] := by
  have := (h.set 0 c).set 1 d
  simpa using this
theorem errS_false (v v' : Int) (b : List (List Int)) : errS false v b = errS false v' b := by rw [errS_bad (.inl rfl), errS_bad (.inl rfl)]
theorem rcheck16_any (p : PVal) (B : Option Addr) (cb : Nat) (b : List (List Int)) (ok : Bool) (w : World) (hP : TermsAt w p.adr p.tv) (hn : p.tv.length ≤ 4096) (hs : ∀ t ∈ p.tv, t.coef.size ≤ 8 ∧ t.exps.length ≤ 64) (hB : Lists w B b) (hbl : b.length ≤ 64) (hml : ∀ m ∈ b, m.length ≤ 1000) (hok : ok = true ↔ p.ok) :
    Calls Tryz.prog 40 #[.agg #[.int .i64 p.vars, .slice p.adr p.tv.length p.cap], .slice B b.length cb] w (RetRC p (errS ok p.vars b) w) := by
  obtain ⟨W, hW⟩ : ∃ W, (w.alloc (.cells #[.int .i64 p.vars, .slice p.adr p.tv.length p.cap] 24)).alloc (.cells #[.int .i64 0, .slice none 0 0] 47) = W := ⟨_, rfl⟩
  have hbA : Below w.heap.size w W := by rw [← hW]; exact ((Below.refl _ _).alloc (Nat.le_refl _) _).alloc (by simp) _
  have B0 : Blk W w.heap.size 24 #[.int .i64 p.vars, .slice p.adr p.tv.length p.cap] := by rw [← hW]; exact (Blk.new _ _ _).alloc _
  have B1 : Blk W (w.heap.size + 1) 47 #[.int .i64 0, .slice none 0 0] := by
    rw [← hW]; have := Blk.new (w.alloc (.cells #[.int .i64 p.vars, .slice p.adr p.tv.length p.cap] 24)) 47 #[.int .i64 0, .slice none 0 0]
    simpa using this
  have HRD := Lib.hid (read_one p ok W (hP.keep hbA) hn hs hok)
  have HBS : Hid (∀ V v O no co, Below w.heap.size w V → Calls Tryz.prog 69 #[.agg #[.int .i64 v, .slice O no co], .bool ok, .slice B b.length cb] V fun e w' => e = .returned (.int .i64 (errS ok v b)) ∧ Below V.heap.size V w') := Lib.hid (fun V v O no co h => rbasis_any v O no co ok B cb b V (hB.keep h) hbl hml)
  have HER : Hid (∀ v, (ok = true → v = p.vars) → errS ok v b = errS ok p.vars b) := Lib.hid (fun v h => by
    cases ok with
    | true => rw [h rfl]
    | false => exact errS_false _ _ _)
  have HE0 : Hid (errS ok p.vars b = 0 → ok = true) := Lib.hid (fun h => (errS_zero h).1)
  have HPI : Hid (∀ V, Below w.heap.size w V → ∀ t ∈ p.tv, Ints V t.adr t.exps) := Lib.hid (fun V h t ht => (hP.ints t ht).keep h)
  have HWW := Lib.hid hW
  have hz : W.heap.size = w.heap.size + 2 := by rw [← hW]; simp
  unfold RetRC
  generalize hPE : errS ok p.vars b = er at *
  clear hPE hW hP hB hok
  obtain ⟨P, T, cT, tv⟩ := p
  simp only at *
  obtain ⟨c0, c1, _, _⟩ := B0.two
  go_enter Tryz.func40, Tryz.ntmps40
  go_upto_region 1 with (fail)
  rw [HWW.out]
  clear HWW
  go_upto_region 2 with (go_at_call 22; refine HRD.out.mono ?_; rintro e w1 ⟨hb1, v, O, no, co, rfl, hts⟩)
  have C1 := B1.keep hb1 B1.lt
  have hbw := below_all hbA hb1
  have hsz := hb1.size
  have D1 := C1.alloc (.cells #[.int .i64 v, .slice O no co] 47)
  have D6 := Blk.new w1 47 #[.int .i64 v, .slice O no co]
  have hbx := hbw.alloc hbw.size (.cells #[.int .i64 v, .slice O no co] 47)
  have hb1x := Below.alloc (Below.refl w1.heap.size w1) (Nat.le_refl _) (.cells #[.int .i64 v, .slice O no co] 47)
  generalize w1.alloc (.cells #[.int .i64 v, .slice O no co] 47) = X at *
  have HB2 : Hid (∀ V, Below X.heap.size X V → Calls Tryz.prog 69 #[.agg #[.int .i64 v, .slice O no co], .bool ok, .slice B b.length cb] V fun e w' => e = .returned (.int .i64 er) ∧ Below X.heap.size X w') := Lib.hid (fun V h => by
    have := HBS.out V v O no co (below_all hbx h)
    rw [HER.out v (fun hk => (hts hk).1)] at this
    exact this.mono fun e w' h2 => ⟨h2.1, below_all h h2.2⟩)
  have HD1 := Lib.hid D1
  have HD6 := Lib.hid D6
  clear HBS B0 B1 C1 c0 c1 hb1 hbA
  have hbe : Below X.heap.size X X.drew := (Below.refl _ _).drew
  obtain ⟨d0, d1, g0, g1⟩ := D1.two
  obtain ⟨e0, e1, _, _⟩ := D6.two
  have hl1 := D1.lt
  have hl6 := D6.lt
  clear D1 D6
  go_region_with (go_at_call 69; refine (HB2.out _ (by assumption)).mono ?_; rintro e w3 ⟨rfl, hbe⟩; have E1 := HD1.out.keep hbe hl1; have E6 := HD6.out.keep hbe hl6; obtain ⟨d0, d1, g0, g1⟩ := E1.two; obtain ⟨e0, e1, _, _⟩ := E6.two; have hl1 := E1.lt; have hl6 := E6.lt)
  all_goals
    go_wp2_with (fail)
    refine bodyPost_ret (v := _) (results_p (p := 4) (q := 5) rfl _ _ (w.heap.size + 1) _ _ rfl (blk_two_p E1)) rfl ?_
    have hfin : Below w.heap.size w ((w3.setCell ⟨w.heap.size + 1, 0, none⟩ (.int .i64 v)).setCell ⟨w.heap.size + 1, 1, none⟩ (.slice O no co)) := below_far (below_far (below_all hbx hbe) (by omega) _ _) (by omega) _ _
    refine ⟨hfin, ?_⟩
    by_cases her : er = 0
    · subst her
      obtain ⟨hv, ts, hno, hSl, hoff, hcore⟩ := hts (HE0.out (by trivial))
      subst hv hno
      refine .inr ⟨rfl, O, co, ts, rfl, ⟨?_, core_ints hcore (HPI.out _ hfin)⟩, hcore⟩
      have ho := hoff (w.heap.size + 1) (by omega)
      exact (((hSl.keep hb1x).keep hbe).far ho _ _).far ho _ _
    · exact .inl ⟨her, v, O, no, co, rfl⟩
end Go.Proofs.Tg.Sx
end
section
/- The reference's set of the round 0, in memory. -/
namespace Go.Proofs.Tg.Sx
open Go.RowKit Go.Gr Go.Sp Go.Ev Go.Mo Go.Qn
set_option maxHeartbeats 4000000
set_option maxRecDepth 100000
/-- A slice of numbers: where it lies, its capacity, the numbers. -/
abbrev Rw := Option Addr × Nat × List Int
def cellR (r : Rw) : Value := .slice r.1 r.2.2.length r.2.1
/-- Each of the slices lies in what was there from the first, or in a block of the call's own. -/
def RowsK (w0 w : World) (base : Nat) (rs : List Rw) : Prop := ∀ r ∈ rs, Ints w0 r.1 r.2.2 ∨ w.ownsRow base 3 1 (cellR r) r.2.2.length (r.2.2.map vi)
theorem RowsK.below {w0 w w' : World} {base : Nat} {rs : List Rw} (h : RowsK w0 w base rs) (hb : Below w.heap.size w w') : RowsK w0 w' base rs := fun r hr => (h r hr).imp id (fun h => own_below h hb (Nat.le_refl _))
theorem RowsK.kept {w0 w w' : World} {base base' n : Nat} {rs : List Rw} {V : Value} {xs : List Value} (h : RowsK w0 w base rs) (ho : w.ownsRow base' 36 1 V n xs) (hg : w.grownBy w' V.ownBlock) : RowsK w0 w' base rs :=
  fun r hr => (h r hr).imp id (fun h => h.kept hg (own_ne h ho (by decide)))
theorem RowsK.snoc {w0 w : World} {base : Nat} {rs : List Rw} {r : Rw} (h : RowsK w0 w base rs) (hr : Ints w0 r.1 r.2.2 ∨ w.ownsRow base 3 1 (cellR r) r.2.2.length (r.2.2.map vi)) : RowsK w0 w base (rs ++ [r]) := by
  intro x hx
  rcases List.mem_append.1 hx with hx | hx
  · exact h x hx
  · rw [List.mem_singleton.1 hx]; exact hr
theorem RowsK.base {w0 w : World} {base b' : Nat} {rs : List Rw} (h : RowsK w0 w base rs) (hb : b' ≤ base) : RowsK w0 w b' rs := fun r hr => (h r hr).imp id (fun h => own_base h hb)
theorem rows_lists {w0 w : World} {base c : Nat} {A : Option Addr} {rs : List Rw} (hS : Sl w A rs.length 1 (rs.map cellR)) (hK : RowsK w0 w base rs) (hb : Below w0.heap.size w0 w) : Lists w A (rs.map fun r => r.2.2) := by
  have _ := c
  refine ⟨fun i => ((rs.getD i (none, 0, [])).1, (rs.getD i (none, 0, [])).2.1), ?_, fun i hi => ?_⟩
  · have e : (List.range (rs.map fun r => r.2.2).length).map (fun i => Value.slice (rs.getD i (none, 0, [])).1 ((rs.map fun r => r.2.2).getD i []).length (rs.getD i (none, 0, [])).2.1) = rs.map cellR := by
      refine List.ext_getElem (by simp) fun i h1 h2 => ?_
      have hi : i < rs.length := by simpa using h2
      simp [hi, cellR]
    rw [e, List.length_map]
    exact hS
  · have hi' : i < rs.length := by simpa using hi
    have e1 : rs.getD i (none, 0, []) = rs[i] := by simp [hi']
    have e2 : (rs.map fun r => r.2.2).getD i [] = rs[i].2.2 := by simp [hi']
    simp only [e1, e2]
    rcases hK rs[i] (List.getElem_mem _) with h | h
    · exact h.keep hb
    · exact Sl.own h
def RetFirst (s : List (List Int)) (w : World) (e : Ending) (w' : World) : Prop := Below w.heap.size w w' ∧
  ∃ (A : Option Addr) (c : Nat) (rs : List Rw), s = rs.map (fun r => r.2.2) ∧ e = .returned (.slice A rs.length c) ∧ w'.ownsRow w.heap.size 36 1 (.slice A rs.length c) rs.length (rs.map cellR) ∧ RowsK w w' w.heap.size rs
theorem own_int {w : World} {base g n : Nat} {l : List Int} (h : Blk w g 3 (iarr l)) (hb : base ≤ g) (hl : l.length = n) (hn : n ≤ 6) : w.ownsRow base 3 1 (cellR (some ⟨g, 0, none⟩, n, l)) l.length (l.map vi) := by
  have := own_iarr h hb hl (by omega)
  unfold cellR
  simp only
  rw [hl]
  exact this
theorem rfirst_any (V : Int) (O : Option Addr) (co : Nat) (ts : List RT) (B : Option Addr) (cb n : Nat) (b : List (List Int)) (w : World) (hP : RTermsAt w O ts) (hB : Lists w B b) (hn : n ≤ 6) (hl : ts.length ≤ 4096) (hbl : b.length ≤ 64) (hdb : ∀ m ∈ b, domK n 24 m) :
    Calls Tryz.prog 43 #[.agg #[.int .i64 V, .slice O ts.length co], .slice B b.length cb] w (RetFirst (S0 (ts.map RT.exps) b) w) := by
  obtain ⟨W, hW⟩ : ∃ W, w.alloc (.cells #[.int .i64 V, .slice O ts.length co] 47) = W := ⟨_, rfl⟩
  have hbA : Below w.heap.size w W := by rw [← hW]; exact (Below.refl _ _).alloc (Nat.le_refl _) _
  have B0 : Blk W w.heap.size 47 #[.int .i64 V, .slice O ts.length co] := by rw [← hW]; exact Blk.new _ _ _
  have HWW := Lib.hid hW
  have HDB := Lib.hid hdb
  have HP := Lib.hid hP
  have HB := Lib.hid hB
  obtain ⟨j0, hj, hjz0, hjz1, hjz2⟩ := info_parts Gx.rows_info
  clear hW hP hB hdb
  go_enter Tryz.func43, Tryz.ntmps43
  go_upto_region 1 with (fail)
  rw [HWW.out]
  clear HWW
  go_wp2
  go_loopw [6, 5] (fun s6 s5 wr => ∃ (i : Nat) (A : Option Addr) (c : Nat) (rs : List Rw), s6 = .int .i64 i ∧ i ≤ ts.length ∧ Hid (rs.length = i) ∧ s5 = .slice A rs.length c ∧ Hid (rs.map (fun r => r.2.2) = (ts.take i).map RT.exps) ∧
    wr.ownsRow w.heap.size 36 1 (.slice A rs.length c) rs.length (rs.map cellR) ∧ Hid (RowsK w wr w.heap.size rs) ∧ Blk wr w.heap.size 47 #[.int .i64 V, .slice O ts.length co] ∧ Below w.heap.size w wr) (fun s6 _ _ => ts.length - (intOf s6).toNat)
  case atStart => exact ⟨0, none, 0, [], rfl, Nat.zero_le _, Lib.hid rfl, rfl, Lib.hid (by simp), World.ownsRow_nil _ _ _ _, Lib.hid (fun r hr => by cases hr), B0, hbA⟩
  case round =>
    clear B0 hbA
    obtain ⟨wo, rfl⟩ : ∃ wo : World, wo = wr := ⟨_, rfl⟩
    obtain ⟨i, A, c, rs, rfl, hi, hrl, rfl, HE, hown, HK, B0, hbr⟩ := hrel
    obtain ⟨d0, d1, _, _⟩ := B0.two
    by_cases hlt : i < ts.length
    · obtain ⟨od, rfl, hcw, hIw⟩ := HP.out.at hlt
      have hc := keep_cell hbr hcw
      have HTE : Hid ((ts.take (i + 1)).map RT.exps = (ts.take i).map RT.exps ++ [ts[i].exps]) := Lib.hid (by rw [List.take_succ_eq_append_getElem hlt, List.map_append]; rfl)
      clear hcw
      generalize ts[i] = t at *
      obtain ⟨q0, q1, q2, q3, E, ce, el⟩ := t
      simp only at hc hIw HTE
      have HNW := Lib.hid (cells_new wo 36 [.slice E el.length ce])
      have hne := own_blk_ne hown B0 (by decide)
      have hrow := hown
      go_wp2_with (at_builtin; refine wpList_append_own _ rfl _ _ 25 rfl w.heap.size 36 j0 _ 1 24 Tryz.underlying25 hj hjz0 hjz1 hjz2 rfl (by decide) (.slice A rs.length c) rs.length (rs.map cellR) rfl (hown.alloc _) ⟨wo.heap.size, 0, none⟩ 1 1 [.slice E el.length ce] rfl rfl HNW.out ?c2 ?c3 ?c4 ?c5 ?_
                   case c2 => simp [Value.oneCell']
                   case c3 => have := hrl.out; simp only [maxLen]; omega
                   case c4 => have := hrl.out; omega
                   case c5 => have := hbr.size; simp; omega
                   intro v' w3 hown3 hg3 _
                   obtain ⟨A3, c3, hv, _, _⟩ := Sl.of_own hown3
                   subst hv)
      go_roundw
      case rel =>
        refine ⟨i + 1, A3, c3, rs ++ [(E, ce, el)], by go_num, by omega, Lib.hid (by simp [hrl.out]), by simp, Lib.hid (by rw [List.map_append, HE.out, HTE.out]; rfl), ?_, Lib.hid ?_, (B0.alloc _).grown hg3 hne, ?_⟩
        · rw [List.length_append, List.map_append]; exact hown3
        · refine ((HK.out.below ((Below.refl _ _).alloc (Nat.le_refl _) _)).kept (hown.alloc _) hg3).snoc (.inl hIw)
        · exact (hbr.alloc hbr.size _).grown hg3 (by have := hbr.size; simp; omega) (fun j hj => (hown.lt j hj).1)
      case measure => simp [intOf]; omega
    · obtain rfl : i = ts.length := by omega
      rw [List.take_length] at HE
      have dk : decide ((ts.length : Int) < (ts.length : Int)) = false := by simp
      have hrl2 : rs.length ≤ 4096 + 0 := by have := hrl.out; omega
      have hrl3 : Hid (rs.length = ts.length + 0) := Lib.hid (by have := hrl.out; omega)
      have HE2 : Hid (rs.map (fun r => r.2.2) = S0 (ts.map RT.exps) (b.take 0)) := Lib.hid (by rw [HE.out]; unfold S0; simp)
      clear HP HE hrl hlt hi
      go_wp2
      clear B0 d0 d1
      go_loopw [7, 5] (fun s7 s5 wr => ∃ (j : Nat) (A : Option Addr) (c : Nat) (rs : List Rw), s7 = .int .i64 j ∧ j ≤ b.length ∧ Hid (rs.length = ts.length + j) ∧ s5 = .slice A rs.length c ∧ Hid (rs.map (fun r => r.2.2) = S0 (ts.map RT.exps) (b.take j)) ∧
        wr.ownsRow w.heap.size 36 1 (.slice A rs.length c) rs.length (rs.map cellR) ∧ Hid (RowsK w wr w.heap.size rs) ∧ Below w.heap.size w wr) (fun s7 _ _ => b.length - (intOf s7).toNat)
      case atStart => exact ⟨0, A, c, rs, rfl, Nat.zero_le _, hrl3, rfl, HE2, hown, HK, hbr⟩
      case round =>
        clear hown HK hbr HE2 hrl3 hrl2
        obtain ⟨wp, rfl⟩ : ∃ wp : World, wp = wr := ⟨_, rfl⟩
        obtain ⟨j, A, c, rs, rfl, hj', hrl, rfl, HE, hown, HK, hbr⟩ := hrel
        by_cases hlt : j < b.length
        · obtain ⟨bd, E, ce, rfl, hcw, hIw⟩ := HB.out.at hlt
          have hc := keep_cell hbr hcw
          have hbd : bd.block < w.heap.size := by have := World.block_lt_of_cell? w _ hcw; rwa [add_block] at this
          have hdm := HDB.out b[j] (List.getElem_mem _)
          have HTE : Hid (S0 (ts.map RT.exps) (b.take (j + 1)) = S0 (ts.map RT.exps) (b.take j) ++ [addL b[j] b[j]]) := Lib.hid (by
            unfold S0
            rw [List.take_succ_eq_append_getElem hlt, List.map_append, List.append_assoc]; rfl)
          have hml : b[j].length = n := hdm.1
          have HPR : Hid (∀ W, Below wp.heap.size wp W → Calls Tryz.prog 71 #[.slice E b[j].length ce, .slice E b[j].length ce] W fun e w' => ∃ g, e = .returned (.slice (some ⟨g, 0, none⟩) n n) ∧ wp.heap.size ≤ g ∧ Blk w' g 3 (iarr (addL b[j] b[j])) ∧ Below wp.heap.size wp w') := Lib.hid (fun W h =>
            (rprod_any E E ce ce n b[j] b[j] W (hIw.keep (below_all hbr h)) (hIw.keep (below_all hbr h)) hdm hdm hn).mono fun e w' h2 => ⟨W.heap.size, h2.1, h.size, h2.2.1, below_all h h2.2.2⟩)
          have HSL : Hid ((addL b[j] b[j]).length = n) := Lib.hid (addL_dom hdm hdm).1
          have hrl4 := hrl.out
          have hbs := hbr.size
          clear hcw hIw hdm hml
          generalize addL b[j] b[j] = sq at *
          generalize b[j] = m at *
          have hbe : Below wp.heap.size wp wp.drew := (Below.refl _ _).drew
          have p0 : (0 : Int) ≤ (j : Int) := by omega
          have p1 : (j : Int) < (b.length : Int) := by omega
          have p3 : ((j : Int)).toNat = j := by omega
          have hob : some (bd.add j).block ≠ (Value.slice A rs.length c).ownBlock := by
            rw [add_block]
            intro e
            have := (hown.lt bd.block e.symm).1
            omega
          have HRL := Lib.hid hrl4
          go_upto_region 9 with (fail)
          clear hrl4
          go_region_held3 (fun w' => w'.cell? (bd.add j) = some (.slice E m.length ce))
            (first | exact r0 | exact keep_cell hbe hc | exact cell_alloc (keep_cell hbe hc) _)
            (first
              | (go_at_call 71; with_reducible refine Calls.mono (HPR.out _ (by assumption)) ?_; rintro e w2 ⟨g, rfl, hgl, hG, hb2⟩
                 have hbe := hb2
                 have hown2 := own_below hown hb2 (Nat.le_refl _)
                 have hsz2 := hb2.size
                 have HNW := Lib.hid (cells_new w2 36 [.slice (some ⟨g, 0, none⟩) n n]))
              | (refine step_append_lies _ (by rfl) _ _ 25 (by rfl) w.heap.size 36 j0 _ 1 24 Tryz.underlying25 hj hjz0 hjz1 hjz2 rfl (by decide) (.slice A rs.length c) rs.length (rs.map cellR) (by simp [Act.eval]) (hown2.alloc _) ⟨w2.heap.size, 0, none⟩ 1 1 [.slice (some ⟨g, 0, none⟩) n n] (by simp [Act.eval]) rfl HNW.out (by simp [Value.oneCell']) (by omega) (by have := HRL.out; simp only [maxLen]; omega) (by have := HRL.out; omega) (by simp; omega) (w2.heap.size + 1) (by simp) ?_
                 intro g2 cap w3 hown3 hg3 _ _
                 have r0 := hg3.cell (cell_alloc (keep_cell hb2 hc) _) hob))
          all_goals
            go_wp2_with (fail)
            go_roundw
            case rel =>
              refine ⟨j + 1, some ⟨g2, 0, none⟩, cap, rs ++ [(some ⟨g, 0, none⟩, n, sq)], by go_num, by omega, Lib.hid (by simp [HRL.out]; omega), by simp, Lib.hid (by rw [List.map_append, HE.out, HTE.out]; rfl), ?_, Lib.hid ?_, ?_⟩
              · rw [List.length_append, List.map_append]
                have e : [(some ⟨g, 0, none⟩, n, sq)].map cellR = [Value.slice (some ⟨g, 0, none⟩) n n] := by simp [cellR, HSL.out]
                rw [e]; exact hown3
              · refine (((HK.out.below hb2).below ((Below.refl _ _).alloc (Nat.le_refl _) _)).kept (hown2.alloc _) hg3).snoc (.inr ?_)
                have h4 := own_int (base := w.heap.size) (hG.alloc (.cells #[.slice (some ⟨g, 0, none⟩) n n] 36)) (by omega) HSL.out hn
                exact h4.kept hg3 (own_ne h4 (hown2.alloc _) (by decide))
              · have hb5 := below_all hbr hb2
                exact (hb5.alloc hb5.size _).grown hg3 (by have := hb5.size; simp; omega) (fun k hk => (hown2.lt k hk).1)
            case measure => simp [intOf]; omega
        · obtain rfl : j = b.length := by omega
          have dk : decide ((b.length : Int) < (b.length : Int)) = false := by simp
          rw [List.take_length] at HE
          go_wp2
          go_ret
          exact ⟨hbr, A, c, rs, HE.out.symm, rfl, hown, HK.out⟩
end Go.Proofs.Tg.Sx
end
section
/- The reference's Search. -/
namespace Go.Proofs.Tg.Gx
open Go.RowKit Go.Gr
set_option maxHeartbeats 4000000
set_option maxRecDepth 100000
def slen : Value → Nat
  | .slice _ l _ => l
  | _ => 0
end Go.Proofs.Tg.Gx
end
