/- Parts of the proof: MS1. -/
import Derived.Test.YtpkompfkhoceoaaGreatDoorMMO21
section
/- The program's multiple of a functional. -/
namespace Go.Proofs.Tg.Fi
open Go.RowKit Go.Gr Go.Bn Go.Rq Go.Qn Go.Mm
set_option maxHeartbeats 8000000
set_option maxRecDepth 100000
theorem fscale_any (v d : Nat) (q : Rat) (A : Option Addr) (ca : Nat) (qs : List Rat) (w : World) (h1 : 1 ≤ v) (h6 : v ≤ 6) (hd : d ≤ 24) (hf : cnt v d ≤ 1024) (hlq : qs.length = cnt v d) (hA : Txts w A qs) (hsq : ∀ q ∈ qs, Sh q) (hq : Sh q) (ht : PT w) :
    Calls Tryz.prog 21 #[.string (qtx q), .agg #[.int .i64 (v : Nat), .int .i64 (d : Nat), .slice A qs.length ca]] w (RetFun v d (qs.map (q * ·)) w) := by
  obtain ⟨zs, hz⟩ : ∃ l, qs.map (q * ·) = l := ⟨_, rfl⟩
  have hzl : zs.length = cnt v d := by rw [← hz, List.length_map, hlq]
  have HVA : Hid (∀ V, Below w.heap.size w V → Calls Tryz.prog 11 #[.agg #[.int .i64 (v : Nat), .int .i64 (d : Nat), .slice A qs.length ca]] V fun e w' => e = .returned (.bool true) ∧ Below V.heap.size V w') := Lib.hid (fun V hb => fvalid_any v d A ca qs V h1 h6 hd hf hlq (hA.keep hb) hsq)
  have HVQ : Hid (∀ V, Calls Tryz.prog 48 #[.string (qtx q)] V fun e w' => e = .returned (.bool true) ∧ Below V.heap.size V w') := Lib.hid (fun V => valid_q q hq V)
  have HMQ : Hid (∀ k (h : k < qs.length) V, PT V → Calls Tryz.prog 40 #[.string (qtx q), .string (qtx qs[k])] V fun e w' => e = .returned (.string (qtx (q * qs[k]))) ∧ Below V.heap.size V w') := Lib.hid (fun k h V hp => mul_q q qs[k] hq (hsq _ (List.getElem_mem _)) V hp)
  generalize qtx q = s1 at *
  rw [hz]
  obtain ⟨n, hn⟩ : ∃ n, cnt v d = n := ⟨_, rfl⟩
  rw [hn] at hlq hzl hf
  have HLQ := Lib.hid hlq
  have HZ := Lib.hid hz
  have HZL := Lib.hid hzl
  have HA := Lib.hid hA
  have HT := Lib.hid ht
  rw [hlq] at HVA ⊢
  obtain ⟨W, hW⟩ : ∃ W, (w.alloc (.cells #[.int .i64 (v : Nat), .int .i64 (d : Nat), .slice A n ca] 24)).alloc (.cells #[.int .i64 0, .int .i64 0, .slice none 0 0] 24) = W := ⟨_, rfl⟩
  have hbW : Below w.heap.size w W := by rw [← hW]; exact ((Below.refl _ _).alloc (Nat.le_refl _) _).alloc (by simp) _
  have HBW := Lib.hid hbW
  have B2 : Blk W w.heap.size 24 #[.int .i64 (v : Nat), .int .i64 (d : Nat), .slice A n ca] := by rw [← hW]; exact (Blk.new _ _ _).alloc _
  have B4 : Blk W (w.heap.size + 1) 24 #[.int .i64 0, .int .i64 0, .slice none 0 0] := by
    rw [← hW]
    have := Blk.new (w.alloc (.cells #[.int .i64 (v : Nat), .int .i64 (d : Nat), .slice A n ca] 24)) 24 #[.int .i64 0, .int .i64 0, .slice none 0 0]
    simpa using this
  have HWW := Lib.hid hW
  have HB2 := Lib.hid B2
  have HB4 := Lib.hid B4
  obtain ⟨x0, x1, x2, _, _, _⟩ := B2.three
  have hmk := make_txts n (by omega)
  clear hW hbW B2 B4 hA hsq hlq hz hzl ht hn hq
  go_enter Tryz.func21, Tryz.ntmps21
  go_upto_region 1 with (fail)
  rw [HWW.out]
  clear HWW
  go_upto_region 3 with (first
    | (go_at_call 11; with_reducible refine Calls.mono (HVA.out _ HBW.out) ?_; rintro e w2 ⟨rfl, hb2⟩; have HC2 := Lib.hid hb2; obtain ⟨x0, x1, x2, _, _, _⟩ := (HB2.out.keep hb2 HB2.out.lt).three; clear hb2)
    | (go_at_call 48; with_reducible refine Calls.mono (HVQ.out _) ?_; rintro e w3 ⟨rfl, hb3⟩; have HC3 := Lib.hid (below_all HC2.out hb3); obtain ⟨x0, x1, x2, _, _, _⟩ := (HB2.out.keep HC3.out HB2.out.lt).three; clear hb3))
  go_cut [6] (fun s6 wx => ∃ gv gf : Nat, s6 = .pointer (some ⟨gf, 0, none⟩) ∧ Hid (FuSt w3 gv gf v d n zs wx 0))
  case first =>
    clear HVA HVQ HMQ HA HT HZ
    have hbe := kb0 w3
    go_region_held3 (fun w' => w'.cell? ⟨w.heap.size, 0, none⟩ = some (.int .i64 (v : Nat)) ∧ w'.cell? ⟨w.heap.size, 1, none⟩ = some (.int .i64 (d : Nat)) ∧ w'.cell? ⟨w.heap.size, 2, none⟩ = some (.slice A n ca))
      (first | exact ⟨keep_cell (kb0 _) x0, keep_cell (kb0 _) x1, keep_cell (kb0 _) x2⟩ | exact ⟨keep_cell (kb1 _ _) x0, keep_cell (kb1 _ _) x1, keep_cell (kb1 _ _) x2⟩ | exact ⟨keep_cell (kb2 _ _ _) x0, keep_cell (kb2 _ _ _) x1, keep_cell (kb2 _ _ _) x2⟩ | exact ⟨keep_cell (kb3 _ _ _) x0, keep_cell (kb3 _ _ _) x1, keep_cell (kb3 _ _ _) x2⟩ | go_keep)
      (fail)
    all_goals
      go_wp2
      go_meet
      first
        | exact ⟨_, _, rfl, Lib.hid (fu_a w3 v d n zs)⟩
        | exact ⟨_, _, rfl, Lib.hid (fu_b w3 v d n zs)⟩
  obtain ⟨gv, gf, rfl, HF0⟩ := hcut
  have HW3 : Hid (Below w.heap.size w w3) := Lib.hid (below_all HBW.out HC3.out)
  have HWs : w.heap.size + 2 ≤ w3.heap.size := by
    have h1 := HB4.out.lt
    have h2 := HC3.out.size
    omega
  obtain ⟨z0, z1, z2, _, _, _⟩ := HF0.out.bf.three
  obtain ⟨x0, x1, x2, _, _, _⟩ := (HB2.out.keep (below_all HC3.out HF0.out.below) HB2.out.lt).three
  clear hmk HVA HVQ
  go_wp2
  go_loopw [30] (fun s42 wr => ∃ k : Nat, s42 = .int .i64 (k : Nat) ∧ k ≤ n ∧ Hid (FuSt w3 gv gf v d n zs wr k)) (fun s42 _ => n - (intOf s42).toNat)
  case atStart => exact ⟨0, rfl, Nat.zero_le _, HF0⟩
  case round =>
    clear HF0 z0 z1 z2
    obtain ⟨wo, rfl⟩ : ∃ wo : World, wo = wr := ⟨_, rfl⟩
    obtain ⟨k, rfl, hk, HST⟩ := hrel
    obtain ⟨z0, z1, z2, _, _, _⟩ := HST.out.bf.three
    have HCO := Lib.hid (below_all HC3.out HST.out.below)
    by_cases hkn : k = n
    · have e1 : decide ((k : Int) < (n : Int)) = false := decide_eq_false (by omega)
      have e1' : decide (k < n) = false := decide_eq_false (by omega)
      have HKN := Lib.hid hkn
      clear hkn
      have HO := Lib.hid (HB4.out.keep HCO.out HB4.out.lt)
      obtain ⟨r0, r1, r2, f0, f1, f2⟩ := HO.out.three
      have hgv : w.heap.size + 1 ≠ gv := by have := HST.out.gvl; omega
      go_wp2
      obtain ⟨p0, p1, p2, _⟩ := (blk3 (a' := .int .i64 (v : Nat)) (b' := .int .i64 (d : Nat)) (c' := .slice (some ⟨gv, 0, none⟩) n n) HO.out).three
      refine bodyPost_ret (v := .tuple #[.agg #[.int .i64 (v : Nat), .int .i64 (d : Nat), .slice (some ⟨gv, 0, none⟩) n n], .int .i64 0]) (by simp [results, Tryz.results21, go_sem, p0, p1, p2]) rfl ⟨some ⟨gv, 0, none⟩, ?_, ?_, ?_⟩
      · rw [HZL.out]
      · have hv := HST.out.bv
        rw [HKN.out, tpart_all HZL.out] at hv
        exact txts_of (((hv.far (by simpa using hgv.symm) _).far (by simpa using hgv.symm) _).far (by simpa using hgv.symm) _)
      · exact below_far (below_far (below_far (below_all HW3.out HST.out.below) (by omega) _ _) (by omega) _ _) (by omega) _ _
    · have hkl : k < n := by omega
      have e1 : decide ((k : Int) < (n : Int)) = true := decide_eq_true (by omega)
      have e1' : decide (k < n) = true := decide_eq_true hkl
      have q1 : (0 : Int) ≤ (k : Int) := by omega
      have q2 : (k : Int) < (n : Int) := by omega
      have hkq : k < qs.length := by rw [HLQ.out]; exact hkl
      have hkz : k < zs.length := by rw [HZL.out]; exact hkl
      have HBO := Lib.hid (below_all HW3.out HST.out.below)
      obtain ⟨ad, hAD, c1⟩ := Txts.at (HA.out.keep HBO.out) hkq
      subst hAD
      obtain ⟨x0, x1, x2, _, _, _⟩ := (HB2.out.keep HCO.out HB2.out.lt).three
      have hzk : zs[k] = q * qs[k] := by
        have h1 : zs[k]? = some (q * qs[k]) := by rw [← HZ.out]; simp [hkq]
        simpa [hkz] using h1
      have HAQ : Hid (∀ V, Below wo.heap.size wo V → Calls Tryz.prog 40 #[.string s1, .string (qtx qs[k])] V fun e w' => e = .returned (.string (qtx zs[k])) ∧ Below V.heap.size V w') := Lib.hid (fun V h => by
        have := HMQ.out k hkq V (HT.out.keep (below_all HBO.out h))
        rw [← hzk] at this
        exact this)
      have HNX : Hid (∀ V, Below wo.heap.size wo V → FuSt w3 gv gf v d n zs (V.setCell ⟨gv, k, none⟩ (.string (qtx zs[k]))) (k + 1)) := Lib.hid (fun V h => HST.out.step h HZL.out hkl)
      obtain ⟨t, htz⟩ := tpart_at HZL.out hkl
      have HVT : Hid (∀ V, Below wo.heap.size wo V → V.cell? ⟨gv, k, none⟩ = some t ∧ V.frozen? ⟨gv, k, none⟩ = false) := Lib.hid (fun V h => by
        have hv := HST.out.bv.keep h HST.out.bv.lt
        exact ⟨by rw [hv.cell k]; exact htz, hv.frozen k⟩)
      have hfv : gf ≠ gv := HST.out.ne.symm
      have hbe := kb0 wo
      clear htz hkn hzk
      generalize qtx qs[k] = s2 at *
      generalize qtx zs[k] = s3 at *
      clear hkq hkz
      go_upto_region 7 with (fail)
      go_region_held3 (fun w' => w'.cell? ⟨gf, 2, none⟩ = some (.slice (some ⟨gv, 0, none⟩) n n))
        (first | exact keep_cell hbe z2 | exact cell_one (keep_cell hbe z2) hfv | go_keep)
        (first | (go_at_call 40; with_reducible refine Calls.mono (HAQ.out _ (by assumption)) ?_; rintro e w7 ⟨rfl, hb7⟩; have hbe := below_all hbe hb7; obtain ⟨t0, t1⟩ := HVT.out _ hbe))
      all_goals
        go_wp2
        go_roundw
        case rel => exact ⟨k + 1, by go_num, by omega, Lib.hid (HNX.out _ hbe)⟩
        case measure => simp [intOf]; omega
end Go.Proofs.Tg.Fi
end
