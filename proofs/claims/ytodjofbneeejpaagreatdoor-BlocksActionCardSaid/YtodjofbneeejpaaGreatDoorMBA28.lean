/- Parts of the proof: OR9, OR10, OR11, OR12, OR13. -/
import Derived.Laws.StructEq
import Derived.Test.YtodjofbneeejpaaGreatDoorMBA22
import Derived.Test.YtodjofbneeejpaaGreatDoorMBA26
import Derived.Test.YtodjofbneeejpaaGreatDoorMBA27
section
/- The statements' comparison of lists of lists of pairs, where both are the same. -/
namespace Go.Proofs.Tg.Rf
open Go.RowKit Go.Gr Go.Sp Go.Ev Go.Pm Go.Mo
set_option maxHeartbeats 4000000
set_option maxRecDepth 100000
theorem pair_cells {w : World} {base n c : Nat} {A : Option Addr} {ps : List (Nat × Nat)} (h : w.ownsRow base 84 2 (.slice A n c) n (ps.flatMap pcell)) {j : Nat} (hj : j < n) (hl : ps.length = n) :
    ∃ g, A = some ⟨g, 0, none⟩ ∧ w.cell? ⟨g, j * 2, none⟩ = some (.int .i64 (ps[j]'(by omega)).1) ∧ w.cell? ⟨g, j * 2 + 1, none⟩ = some (.int .i64 (ps[j]'(by omega)).2) := by
  rcases h.2 with ⟨_, h0⟩ | ⟨g, cap, cur, hv, _⟩
  · omega
  · injection hv with hv1 hv2 hv3
    subst hv1
    have hc := h.cells (g := g) rfl
    have hat : ∀ (l : List (Nat × Nat)) (j : Nat) (h : j < l.length), (l.flatMap pcell)[j * 2]? = some (.int .i64 l[j].1) ∧ (l.flatMap pcell)[j * 2 + 1]? = some (.int .i64 l[j].2) := by
      intro l
      induction l with
      | nil => intro j h; simp at h
      | cons p l ih =>
        intro j h
        rw [List.flatMap_cons]
        cases j with
        | zero => exact ⟨rfl, rfl⟩
        | succ j =>
          obtain ⟨h1, h2⟩ := ih j (by simpa using h)
          have hl2 : (pcell p).length = 2 := rfl
          rw [List.getElem?_append_right (by rw [hl2]; omega), List.getElem?_append_right (by rw [hl2]; omega), hl2]
          rw [show (j + 1) * 2 - 2 = j * 2 by omega, show (j + 1) * 2 + 1 - 2 = j * 2 + 1 by omega]
          exact ⟨h1, h2⟩
    obtain ⟨h1, h2⟩ := hat ps j (by omega)
    have h3 := hc _ _ h1
    have h4 := hc _ _ h2
    rw [add_lit, Nat.zero_add] at h3 h4
    exact ⟨g, rfl, h3, h4⟩
theorem eqPair (d : Nat) (a b : Int) (W : World) : (Op.equalIn (d + 1 + 1) 84 (.agg #[.int .i64 a, .int .i64 b]) (.agg #[.int .i64 a, .int .i64 b])).run Tryz.prog W = .ok true W := by
  have hu := Tryz.underlying84
  have hi := Tryz.underlying3
  have hs := Tryz.sizeOf3
  have he : ∀ x : Int, (Op.equalIn (d + 1) 3 (.int .i64 x) (.int .i64 x)).run Tryz.prog W = .ok true W := fun x => by
    have := run_equalIn_int W d 3 .i64 .i64 x x hi
    simpa using this
  generalize hd : d + 1 = d' at *
  rw [Op.equalIn]
  simp only [Sem.run_bind, run_underlying hu, Result.andThen_ok, hs]
  simp [part, hs, Tryz.isAgg3, he, forIn, List.range']
theorem eqGuardP : Tryz.prog.eqGuardType Tryz.prog.depth 84 = false := by kernel_rfl
theorem own_le {w : World} {b sz n : Nat} {t : TypeId} {v : Value} {xs : List Value} (h : w.ownsRow b t sz v n xs) : n ≤ maxLen := by
  rcases h.2 with ⟨_, h0⟩ | ⟨g, cap, cur, _, _, _, h1, h2, _⟩
  · rw [h0]; exact Nat.zero_le _
  · omega
theorem samep_any (A B : Option Addr) (c d ba bb : Nat) (xs ys : List OV) (w : World) (hA : Sl w A xs.length 1 (xs.map cellO)) (hB : Sl w B ys.length 1 (ys.map cellO)) (hx : OrbRows w ba xs) (hy : OrbRows w bb ys) (he : xs.map OV.ps = ys.map OV.ps) (hn : xs.length ≤ maxLen) :
    Calls Tryz.prog 20 #[.slice A xs.length c, .slice B ys.length d] w fun e w' => e = .returned (.bool true) ∧ Below w.heap.size w w' := by
  have hps : ∀ o ∈ xs, o.ps.length ≤ maxLen := fun o ho => own_le (hx o ho)
  simp only [maxLen] at hn hps
  have hl : ys.length = xs.length := by
    have := congrArg List.length he
    simpa using this.symm
  have HA := Lib.hid hA
  have HB := Lib.hid hB
  have HX := Lib.hid hx
  have HY := Lib.hid hy
  have HE := Lib.hid he
  have HN := Lib.hid hps
  rw [hl] at HB ⊢
  have HL := Lib.hid hl
  generalize hM : xs.length = M at *
  have HM := Lib.hid hM
  clear hA hB hx hy he hps hl hM
  go_enter Tryz.func20, Tryz.ntmps20
  go_wp2
  go_loopw [5] (fun s5 wr => ∃ k : Nat, s5 = .int .i64 k ∧ k ≤ M ∧ Below w.heap.size w wr) (fun s5 _ => M - (intOf s5).toNat)
  case atStart => exact ⟨0, rfl, Nat.zero_le _, Below.refl _ _⟩
  case round =>
    obtain ⟨wo, rfl⟩ : ∃ wo : World, wo = wr := ⟨_, rfl⟩
    obtain ⟨k, rfl, hk, hbo⟩ := hrel
    by_cases hkM : k < M
    · have hkx : k < xs.length := by rw [HM.out]; exact hkM
      have hky : k < ys.length := by rw [HL.out]; exact hkM
      obtain ⟨ad, rfl, hc0⟩ := Sl.at1 (HA.out.keep hbo) hkM
      obtain ⟨bd, rfl, hd0⟩ := Sl.at1 (HB.out.keep hbo) hkM
      have hpe : xs[k].ps = ys[k].ps := by
        have h1 : (xs.map OV.ps)[k]? = (ys.map OV.ps)[k]? := by rw [HE.out]
        simpa [hkx, hky] using h1
      have hox := HX.out xs[k] (List.getElem_mem _)
      have hoy := HY.out ys[k] (List.getElem_mem _)
      have hnk := HN.out xs[k] (List.getElem_mem _)
      have hc : wo.cell? (ad.add k) = some (cellO xs[k]) := by simpa using hc0
      have hd : wo.cell? (bd.add k) = some (cellO ys[k]) := by simpa using hd0
      have q0 : (0 : Int) ≤ (k : Int) := by omega
      have q1 : (k : Int) < (M : Int) := by omega
      have q3 : ((k : Int)).toNat = k := by omega
      clear hc0 hd0
      generalize xs[k] = x at *
      generalize ys[k] = y at *
      obtain ⟨xa, xc, xp⟩ := x
      obtain ⟨ya, yc, yp⟩ := y
      simp only at hpe
      subst hpe
      unfold cellO at hc hd hox hoy
      simp only at hc hd hox hoy hnk
      have HOX := Lib.hid hox
      have HOY := Lib.hid hoy
      clear hox hoy
      generalize hP : xp.length = P at *
      have HP := Lib.hid hP
      clear hP
      have HAD := Lib.hid (fun V (h : Below wo.heap.size wo V) => keep_cell h hc)
      have HBD := Lib.hid (fun V (h : Below wo.heap.size wo V) => keep_cell h hd)
      have bP : ((P : Int) != (P : Int)) = false := by simp
      go_wp2
      go_quiet (fail)
      have hb0 : Below wo.heap.size wo (wo.drewN nq) := below_drewN (Below.refl _ _) _
      generalize wo.drewN nq = wq at *
      clear hc hd
      go_wp2
      go_loopw [6] (fun s6 wr => ∃ j : Nat, s6 = .int .i64 j ∧ j ≤ P ∧ Below wo.heap.size wo wr) (fun s6 _ => P - (intOf s6).toNat)
      case atStart => exact ⟨0, rfl, Nat.zero_le _, hb0⟩
      case round =>
        clear hb0
        obtain ⟨wi, rfl⟩ : ∃ wi : World, wi = wr := ⟨_, rfl⟩
        obtain ⟨j, rfl, hj, hbi⟩ := hrel
        have hc := HAD.out wi hbi
        have hd := HBD.out wi hbi
        by_cases hjP : j < P
        · obtain ⟨g, rfl, c1, c2⟩ := pair_cells (own_below (own_below HOX.out hbo (Nat.le_refl _)) hbi (Nat.le_refl _)) hjP HP.out
          obtain ⟨g', rfl, d1, d2⟩ := pair_cells (own_below (own_below HOY.out hbo (Nat.le_refl _)) hbi (Nat.le_refl _)) hjP HP.out
          have r0 : (0 : Int) ≤ (j : Int) := by omega
          have r1 : (j : Int) < (P : Int) := by omega
          have r3 : ((j : Int)).toNat = j := by omega
          obtain ⟨p1, hp1⟩ : ∃ p1, (xp[j]'(by rw [HP.out]; exact hjP)).1 = p1 := ⟨_, rfl⟩
          obtain ⟨p2, hp2⟩ : ∃ p2, (xp[j]'(by rw [HP.out]; exact hjP)).2 = p2 := ⟨_, rfl⟩
          rw [hp1] at c1 d1
          rw [hp2] at c2 d2
          clear hp1 hp2
          have hpe : ∀ W, (Op.equalIn 10000 84 (.agg #[.int .i64 p1, .int .i64 p2]) (.agg #[.int .i64 p1, .int .i64 p2])).run Tryz.prog W = .ok true W := fun W => eqPair 9998 p1 p2 W
          have hgd := eqGuardP
          go_wp2
          go_quiet (fail)
          go_wp2
          go_roundw
          case rel => exact ⟨j + 1, by go_num, by omega, below_drewN hbi _⟩
          case measure => (simp [intOf]; omega)
        · obtain rfl : j = P := by omega
          have dj : decide ((j : Int) < (j : Int)) = false := by simp
          go_wp2
          go_roundw
          case rel => exact ⟨k + 1, by go_num, by omega, below_all hbo hbi⟩
          case measure => (simp [intOf]; omega)
    · obtain rfl : k = M := by omega
      have dk : decide ((k : Int) < (k : Int)) = false := by simp
      go_wp2
      go_ret
      exact ⟨rfl, hbo⟩
end Go.Proofs.Tg.Rf
end
section
/- The law BlocksAction (printed by wip/tools/mk_lawaction.py): facts. -/
namespace Go.Pm
open Go.Mo
theorem acn_zero {g l : List (List Int)} (h : acnE g l = 0) : IsG g ∧ (∀ m ∈ l, m.length = (g.headD []).length) ∧ l.Nodup ∧ ∀ a ∈ g, ActsOn (g.headD []).length a l := by
  unfold acnE at h
  split at h
  · next hi =>
    unfold Go.Proofs.Tg.Bk.actE at h
    by_cases h1 : Go.Proofs.Tg.Bk.szE (g.headD []).length l = 0
    · rw [if_neg (fun h2 => h2 h1)] at h
      by_cases h2 : l.Nodup
      · rw [if_neg (fun h3 => h3 h2)] at h
        refine ⟨hi.1, (Go.Proofs.Tg.Bk.szE_ok h1).1, h2, fun a ha => Classical.byContradiction fun hn => ?_⟩
        rw [if_pos ⟨a, ha, hn⟩] at h
        cases h
      · rw [if_pos h2] at h; cases h
    · rw [if_pos h1] at h; exact absurd h h1
  · cases h
theorem acn_facts {g l : List (List Int)} (h : acnE g l = 0) : (∀ a ∈ g.map (fun a => img (g.headD []).length a l), Perm l.length a) ∧ GoodIm (g.map (fun a => img (g.headD []).length a l)) l.length ∧ 0 < g.length := by
  obtain ⟨hI, hl, hnd, hA⟩ := acn_zero h
  obtain ⟨h6, hne, hp, _, hG⟩ := hI
  refine ⟨fun x hx => ?_, good_im h6 hG hp hA hl hnd, List.length_pos_iff.2 hne⟩
  obtain ⟨a, ha, rfl⟩ := List.mem_map.1 hx
  exact img_perm hnd (hA a ha) (fun x hx y hy h => mv_inj (hp a ha) (hl x hx) (hl y hy) h)
end Go.Pm
namespace Go.Proofs.Tg.Bk
open Go.RowKit Go.Gr Go.Sp Go.Ev Go.Pm Go.Mo
open Go.Proofs.Tg.Rf (pcell OV cellO OrbRows RetOrb RetAcn raction_any rorb_any samep_any own_le)
set_option maxHeartbeats 40000000
set_option maxRecDepth 100000
theorem acn_split {g l : List (List Int)} {w w' : World} {e : Ending} (h : RetAcn g l w e w') : ∃ (A : Option Addr) (c : Nat) (xs : List (List Int)), e = .returned (.tuple #[.slice A xs.length c, .int .i64 (acnE g l)]) ∧ Lists w' A xs ∧ Below w.heap.size w w' ∧ xs = if acnE g l = 0 then g.map (fun a => img (g.headD []).length a l) else [] := by
  rcases h with ⟨hb, ⟨h1, h2⟩ | ⟨h1, A, c, h2, h3⟩⟩
  · exact ⟨none, 0, [], h2, ⟨fun _ => (none, 0), Sl.nil _ _ _, fun i hi => by simp at hi⟩, hb, by rw [if_neg h1]⟩
  · exact ⟨A, c, _, by rw [List.length_map, h1]; exact h2, h3, hb, by rw [if_pos h1]⟩
theorem orb_split {g l : List (List Int)} {w w' : World} {e : Ending} (h : RetOrb g l w e w') : ∃ (A : Option Addr) (c : Nat) (os : List OV), e = .returned (.tuple #[.slice A os.length c, .int .i64 (acnE g l)]) ∧ w'.ownsRow w.heap.size 85 1 (.slice A os.length c) os.length (os.map cellO) ∧ OrbRows w' w.heap.size os ∧ Below w.heap.size w w' ∧ os.map OV.ps = if acnE g l = 0 then (orbRow (g.map fun a => img (g.headD []).length a l) l.length l.length).2 else [] := by
  rcases h with ⟨hb, ⟨h1, h2⟩ | ⟨h1, A, c, os, h2, h3, h4, h5⟩⟩
  · exact ⟨none, 0, [], h2, World.ownsRow_nil _ _ _ _, fun o ho => absurd ho (by simp), hb, by rw [if_neg h1]; rfl⟩
  · exact ⟨A, c, os, by rw [h1]; exact h2, h3, h4, hb, by rw [if_pos h1]; exact h5⟩
end Go.Proofs.Tg.Bk
end
section
/- The law BlocksAction, case 1 (printed by wip/tools/mk_lawaction.py). -/
namespace Go.Proofs.Tg.Bk
open Go.RowKit Go.Gr Go.Sp Go.Ev Go.Pm Go.Mo
open Go.Proofs.Tg.Rf (pcell OV cellO OrbRows RetOrb RetAcn raction_any rorb_any samep_any own_le)
set_option maxHeartbeats 40000000
set_option maxRecDepth 100000
theorem law_act1 (z : Int) (A B G L : Option Addr) (ca cb cg cl : Nat) (a b : List Int) (both : Bool) (g l : List (List Int)) (w : World) (hA : Ints w A a) (hB : Ints w B b) (hG : Lists w G g) (hL : Lists w L l) (hT : PT w) (h20 : ∀ x ∈ [a, b], x.length ≤ 20) (hg8 : g.length ≤ 8 ∧ ∀ l ∈ g, l.length ≤ 8) (hl10 : l.length ≤ 10 ∧ ∀ m ∈ l, m.length ≤ 8) (hl0 : 0 < l.length) :
    Calls Tryz.prog 5 #[.int .i64 z, .slice A a.length ca, .slice B b.length cb, .bool both, .slice G g.length cg, .slice L l.length cl, .bool false] w fun e w' => e = .returned (.bool true) ∧ Below w.heap.size w w' := by
  have hal := Below.alloc (Below.refl w.heap.size w) (Nat.le_refl _) (.cells #[.slice A a.length ca, .slice B b.length cb] 22)
  have HAB := Lib.hid (lists_ab (ca := ca) (cb := cb) hA hB)
  have HA := Lib.hid hA
  have HB := Lib.hid hB
  have HG := Lib.hid hG
  have HL := Lib.hid hL
  have HT := Lib.hid hT
  have HAW := Lib.hid (fun V (h : Below w.heap.size w V) => awake19_any V (hT.keep h))
  have HF := Lib.hid (few19_any (some ⟨w.heap.size, 0, none⟩) 2 [a, b] true _ HAB.out (by simp) ⟨fun _ => h20, fun _ => rfl⟩)
  have HSM := Lib.hid (fun V (h : Lists V G g) => Go.Proofs.Tg.small_any G cg 8 8 g true V h ⟨fun _ => hg8, fun _ => rfl⟩ (by omega))
  have HSL := Lib.hid (fun V (h : Lists V L l) => Go.Proofs.Tg.small_any L cl 10 8 l true V h ⟨fun _ => hl10, fun _ => rfl⟩ (by omega))
  clear hA hB hG hL hT HAB
  obtain ⟨g8, gw⟩ := hg8
  obtain ⟨l10, lw⟩ := hl10
  have ha20 := h20 a (by simp)
  have hb20 := h20 b (by simp)
  have HGW := Lib.hid gw
  have HLW := Lib.hid lw
  have HMD := Lib.hid (fun V (h : Below w.heap.size w V) => made_any A B ca cb z a b both V (HA.out.keep h) (HB.out.keep h) (by omega) (by omega))
  clear h20 gw lw
  go_enter Tryz.func5, Tryz.ntmps5
  go_upto_region 4 with (first
    | (go_at_call 6; refine HF.out.mono ?_; rintro e w2 ⟨rfl, rfl⟩)
    | (go_at_call 7; with_reducible refine Calls.mono (HSM.out _ (HG.out.keep hal)) ?_; rintro e w3 ⟨rfl, rfl⟩)
    | (go_at_call 7; with_reducible refine Calls.mono (HSL.out _ (HL.out.keep hal)) ?_; rintro e w3 ⟨rfl, rfl⟩)
    | (go_at_call 9; refine (HMD.out _ hal).mono ?_; rintro e w4 ⟨H, Bs, cH, cB, n, S, bs, rfl, hS, hBs, _, hn4, hI, hln, hbs, hb4⟩; have HBB := Lib.hid hbs; clear hbs))
  have hbs := HBB.out
  have hb04 := below_all hal hb4
  have HAS : Hid (GrpArg w4 H S) := Lib.hid (made_arg hS hn4 hI hln)
  have HAR : Hid (GrpArg w4 G g) := Lib.hid (raw_arg (HG.out.keep hb04) g8 HGW.out)
  have HBS : Hid (Lists w4 Bs bs ∧ bs.length ≤ 10 ∧ ∀ m ∈ bs, m.length ≤ 1000) := Lib.hid ⟨hBs, by rw [hbs]; unfold bsTo; split <;> simp <;> omega, fun m hm => by rw [hbs] at hm; rw [bsTo_len hm]; omega⟩
  have HLS : Hid (Lists w4 L l ∧ l.length ≤ 10 ∧ ∀ m ∈ l, m.length ≤ 1000) := Lib.hid ⟨HL.out.keep hb04, l10, fun m hm => by have := HLW.out m hm; omega⟩
  clear hS hBs hI hln hb4 hn4 hbs HBB HMD HF HSM HSL HA HB HG HL hal HGW HLW
  have i0 : (0 : Int) < (l.length : Int) := by omega
  have d0 : decide ((0 : Int) < (l.length : Int)) = true := decide_eq_true i0
  have d1 : decide (0 < l.length) = true := decide_eq_true hl0
  obtain ⟨X1, X2, X3, X4⟩ := HAS.out
  obtain ⟨Y1, Y2, Y3⟩ := HLS.out
  have HA1 := Lib.hid (action_any H L cH cl S l w4 X1 (by omega) X3 Y1 Y3 (by omega))
  have HA2 := Lib.hid (fun V (h : Below w4.heap.size w4 V) => raction_any H L cH cl S l V (X1.keep h) X2 X3 (Y1.keep h) Y3 (by omega))
  have HO1 := Lib.hid (fun V (h : Below w4.heap.size w4 V) => orb_any H L cH cl S l V (X1.keep h) X2 X3 (Y1.keep h) Y3 (by omega) acn_facts)
  have HO2 := Lib.hid (fun V (h : Below w4.heap.size w4 V) => rorb_any H L cH cl S l V (X1.keep h) X2 X3 (Y1.keep h) Y3 (by omega) (fun h => (acn_facts h).1))
  have HX2 := Lib.hid X2
  have HY2 := Lib.hid Y2
  clear X1 X2 X3 X4 Y1 Y2 Y3 HAS HAR HBS HLS
  go_upto_region 9 with (go_at_call 16; refine HA1.out.mono ?_; rintro e w5 h5
                         obtain ⟨A5, c5, xs, rfl, hL5, hb5, hx5⟩ := acn_split (RetAcn.of h5)
                         have HX5 := Lib.hid hx5
                         clear hx5 h5)
  go_upto_region 10 with (go_at_call 17; refine (HA2.out _ hb5).mono ?_; rintro e w6 h6
                          obtain ⟨A6, c6, ys, rfl, hL6, hb6, hx6⟩ := acn_split h6
                          have HX6 := Lib.hid hx6
                          clear hx6 h6)
  have hb46 := below_all hb5 hb6
  go_upto_region 11 with (go_at_call 18; refine (HO1.out _ hb46).mono ?_; rintro e w7 h7
                          obtain ⟨A7, c7, os, rfl, ho7, hr7, hb7, hx7⟩ := orb_split h7
                          have HX7 := Lib.hid hx7
                          clear hx7 h7)
  have hb47 := below_all hb46 hb7
  go_upto_region 12 with (go_at_call 19; refine (HO2.out _ hb47).mono ?_; rintro e w8 h8
                          obtain ⟨A8, c8, ps, rfl, ho8, hr8, hb8, hx8⟩ := orb_split h8
                          have HX8 := Lib.hid hx8
                          clear hx8 h8)
  have hxy : ys = xs := HX6.out.trans HX5.out.symm
  subst hxy
  have hop : os.map OV.ps = ps.map OV.ps := HX7.out.trans HX8.out.symm
  have hyl : ys.length ≤ 720 := by
    rw [HX5.out]
    split
    · rw [List.length_map]; exact HX2.out
    · simp
  have HLE := Lib.hid (lists_any A5 A6 ys ys c5 c6 w8 (((hL5.keep hb6).keep hb7).keep hb8) ((hL6.keep hb7).keep hb8) (by omega) (by
    rw [HX5.out]
    split
    · intro x hx
      obtain ⟨y, _, rfl⟩ := List.mem_map.1 hx
      rw [img_len]
      have := HY2.out
      omega
    · intro x hx; cases hx))
  rw [decide_eq_true rfl] at HLE
  have HSP := Lib.hid (fun V (h : Below w8.heap.size w8 V) => samep_any A7 A8 c7 c8 w6.heap.size w7.heap.size os ps V (Sl.keep (Sl.own (own_below ho7 hb8 (Nat.le_refl _))) h) (Sl.keep (Sl.own ho8) h) ((hr7.keep hb8).keep h) (hr8.keep h) hop (own_le ho7))
  have hb08 := below_all hb04 (below_all hb47 hb8)
  clear HX5 HX6 HX7 HX8 hop hL5 hL6 ho7 hr7 ho8 hr8 hb5 hb6 hb7 hb8 hb46 hb47 HA1 HA2 HO1 HO2
  generalize acnE S l = ez at *
  go_wp2_with (first
    | (go_at_call 15; refine HLE.out.mono ?_; rintro e w9 ⟨rfl, hd9⟩
       have hb9 := hd9.below)
    | (go_at_call 20; refine (HSP.out _ hb9).mono ?_; rintro e w10 ⟨rfl, hb10⟩
       have hb010 := below_all hb08 (below_all hb9 hb10))
    | (go_at_call 8; refine (HAW.out _ hb010).mono ?_; rintro e w11 ⟨rfl, hb11⟩))
  go_ret
  exact ⟨rfl, below_all hb010 hb11⟩
end Go.Proofs.Tg.Bk
end
section
/- The law BlocksAction, case 2 (printed by wip/tools/mk_lawaction.py). -/
namespace Go.Proofs.Tg.Bk
open Go.RowKit Go.Gr Go.Sp Go.Ev Go.Pm Go.Mo
open Go.Proofs.Tg.Rf (pcell OV cellO OrbRows RetOrb RetAcn raction_any rorb_any samep_any own_le)
set_option maxHeartbeats 40000000
set_option maxRecDepth 100000
theorem law_act2 (z : Int) (A B G L : Option Addr) (ca cb cg cl : Nat) (a b : List Int) (both : Bool) (g l : List (List Int)) (w : World) (hA : Ints w A a) (hB : Ints w B b) (hG : Lists w G g) (hL : Lists w L l) (hT : PT w) (h20 : ∀ x ∈ [a, b], x.length ≤ 20) (hg8 : g.length ≤ 8 ∧ ∀ l ∈ g, l.length ≤ 8) (hl10 : l.length ≤ 10 ∧ ∀ m ∈ l, m.length ≤ 8) (hl0 : 0 < l.length) :
    Calls Tryz.prog 5 #[.int .i64 z, .slice A a.length ca, .slice B b.length cb, .bool both, .slice G g.length cg, .slice L l.length cl, .bool true] w fun e w' => e = .returned (.bool true) ∧ Below w.heap.size w w' := by
  have hal := Below.alloc (Below.refl w.heap.size w) (Nat.le_refl _) (.cells #[.slice A a.length ca, .slice B b.length cb] 22)
  have HAB := Lib.hid (lists_ab (ca := ca) (cb := cb) hA hB)
  have HA := Lib.hid hA
  have HB := Lib.hid hB
  have HG := Lib.hid hG
  have HL := Lib.hid hL
  have HT := Lib.hid hT
  have HAW := Lib.hid (fun V (h : Below w.heap.size w V) => awake19_any V (hT.keep h))
  have HF := Lib.hid (few19_any (some ⟨w.heap.size, 0, none⟩) 2 [a, b] true _ HAB.out (by simp) ⟨fun _ => h20, fun _ => rfl⟩)
  have HSM := Lib.hid (fun V (h : Lists V G g) => Go.Proofs.Tg.small_any G cg 8 8 g true V h ⟨fun _ => hg8, fun _ => rfl⟩ (by omega))
  have HSL := Lib.hid (fun V (h : Lists V L l) => Go.Proofs.Tg.small_any L cl 10 8 l true V h ⟨fun _ => hl10, fun _ => rfl⟩ (by omega))
  clear hA hB hG hL hT HAB
  obtain ⟨g8, gw⟩ := hg8
  obtain ⟨l10, lw⟩ := hl10
  have ha20 := h20 a (by simp)
  have hb20 := h20 b (by simp)
  have HGW := Lib.hid gw
  have HLW := Lib.hid lw
  have HMD := Lib.hid (fun V (h : Below w.heap.size w V) => made_any A B ca cb z a b both V (HA.out.keep h) (HB.out.keep h) (by omega) (by omega))
  clear h20 gw lw
  go_enter Tryz.func5, Tryz.ntmps5
  go_upto_region 4 with (first
    | (go_at_call 6; refine HF.out.mono ?_; rintro e w2 ⟨rfl, rfl⟩)
    | (go_at_call 7; with_reducible refine Calls.mono (HSM.out _ (HG.out.keep hal)) ?_; rintro e w3 ⟨rfl, rfl⟩)
    | (go_at_call 7; with_reducible refine Calls.mono (HSL.out _ (HL.out.keep hal)) ?_; rintro e w3 ⟨rfl, rfl⟩)
    | (go_at_call 9; refine (HMD.out _ hal).mono ?_; rintro e w4 ⟨H, Bs, cH, cB, n, S, bs, rfl, hS, hBs, _, hn4, hI, hln, hbs, hb4⟩; have HBB := Lib.hid hbs; clear hbs))
  have hbs := HBB.out
  have hb04 := below_all hal hb4
  have HAS : Hid (GrpArg w4 H S) := Lib.hid (made_arg hS hn4 hI hln)
  have HAR : Hid (GrpArg w4 G g) := Lib.hid (raw_arg (HG.out.keep hb04) g8 HGW.out)
  have HBS : Hid (Lists w4 Bs bs ∧ bs.length ≤ 10 ∧ ∀ m ∈ bs, m.length ≤ 1000) := Lib.hid ⟨hBs, by rw [hbs]; unfold bsTo; split <;> simp <;> omega, fun m hm => by rw [hbs] at hm; rw [bsTo_len hm]; omega⟩
  have HLS : Hid (Lists w4 L l ∧ l.length ≤ 10 ∧ ∀ m ∈ l, m.length ≤ 1000) := Lib.hid ⟨HL.out.keep hb04, l10, fun m hm => by have := HLW.out m hm; omega⟩
  clear hS hBs hI hln hb4 hn4 hbs HBB HMD HF HSM HSL HA HB HG HL hal HGW HLW
  have i0 : (0 : Int) < (l.length : Int) := by omega
  have d0 : decide ((0 : Int) < (l.length : Int)) = true := decide_eq_true i0
  have d1 : decide (0 < l.length) = true := decide_eq_true hl0
  obtain ⟨X1, X2, X3, X4⟩ := HAR.out
  obtain ⟨Y1, Y2, Y3⟩ := HLS.out
  have HA1 := Lib.hid (action_any G L cg cl g l w4 X1 (by omega) X3 Y1 Y3 (by omega))
  have HA2 := Lib.hid (fun V (h : Below w4.heap.size w4 V) => raction_any G L cg cl g l V (X1.keep h) X2 X3 (Y1.keep h) Y3 (by omega))
  have HO1 := Lib.hid (fun V (h : Below w4.heap.size w4 V) => orb_any G L cg cl g l V (X1.keep h) X2 X3 (Y1.keep h) Y3 (by omega) acn_facts)
  have HO2 := Lib.hid (fun V (h : Below w4.heap.size w4 V) => rorb_any G L cg cl g l V (X1.keep h) X2 X3 (Y1.keep h) Y3 (by omega) (fun h => (acn_facts h).1))
  have HX2 := Lib.hid X2
  have HY2 := Lib.hid Y2
  clear X1 X2 X3 X4 Y1 Y2 Y3 HAS HAR HBS HLS
  go_upto_region 9 with (go_at_call 16; refine HA1.out.mono ?_; rintro e w5 h5
                         obtain ⟨A5, c5, xs, rfl, hL5, hb5, hx5⟩ := acn_split (RetAcn.of h5)
                         have HX5 := Lib.hid hx5
                         clear hx5 h5)
  go_upto_region 10 with (go_at_call 17; refine (HA2.out _ hb5).mono ?_; rintro e w6 h6
                          obtain ⟨A6, c6, ys, rfl, hL6, hb6, hx6⟩ := acn_split h6
                          have HX6 := Lib.hid hx6
                          clear hx6 h6)
  have hb46 := below_all hb5 hb6
  go_upto_region 11 with (go_at_call 18; refine (HO1.out _ hb46).mono ?_; rintro e w7 h7
                          obtain ⟨A7, c7, os, rfl, ho7, hr7, hb7, hx7⟩ := orb_split h7
                          have HX7 := Lib.hid hx7
                          clear hx7 h7)
  have hb47 := below_all hb46 hb7
  go_upto_region 12 with (go_at_call 19; refine (HO2.out _ hb47).mono ?_; rintro e w8 h8
                          obtain ⟨A8, c8, ps, rfl, ho8, hr8, hb8, hx8⟩ := orb_split h8
                          have HX8 := Lib.hid hx8
                          clear hx8 h8)
  have hxy : ys = xs := HX6.out.trans HX5.out.symm
  subst hxy
  have hop : os.map OV.ps = ps.map OV.ps := HX7.out.trans HX8.out.symm
  have hyl : ys.length ≤ 720 := by
    rw [HX5.out]
    split
    · rw [List.length_map]; exact HX2.out
    · simp
  have HLE := Lib.hid (lists_any A5 A6 ys ys c5 c6 w8 (((hL5.keep hb6).keep hb7).keep hb8) ((hL6.keep hb7).keep hb8) (by omega) (by
    rw [HX5.out]
    split
    · intro x hx
      obtain ⟨y, _, rfl⟩ := List.mem_map.1 hx
      rw [img_len]
      have := HY2.out
      omega
    · intro x hx; cases hx))
  rw [decide_eq_true rfl] at HLE
  have HSP := Lib.hid (fun V (h : Below w8.heap.size w8 V) => samep_any A7 A8 c7 c8 w6.heap.size w7.heap.size os ps V (Sl.keep (Sl.own (own_below ho7 hb8 (Nat.le_refl _))) h) (Sl.keep (Sl.own ho8) h) ((hr7.keep hb8).keep h) (hr8.keep h) hop (own_le ho7))
  have hb08 := below_all hb04 (below_all hb47 hb8)
  clear HX5 HX6 HX7 HX8 hop hL5 hL6 ho7 hr7 ho8 hr8 hb5 hb6 hb7 hb8 hb46 hb47 HA1 HA2 HO1 HO2
  generalize acnE g l = ez at *
  go_wp2_with (first
    | (go_at_call 15; refine HLE.out.mono ?_; rintro e w9 ⟨rfl, hd9⟩
       have hb9 := hd9.below)
    | (go_at_call 20; refine (HSP.out _ hb9).mono ?_; rintro e w10 ⟨rfl, hb10⟩
       have hb010 := below_all hb08 (below_all hb9 hb10))
    | (go_at_call 8; refine (HAW.out _ hb010).mono ?_; rintro e w11 ⟨rfl, hb11⟩))
  go_ret
  exact ⟨rfl, below_all hb010 hb11⟩
end Go.Proofs.Tg.Bk
end
section
/- The law BlocksAction, case 3 (printed by wip/tools/mk_lawaction.py). -/
namespace Go.Proofs.Tg.Bk
open Go.RowKit Go.Gr Go.Sp Go.Ev Go.Pm Go.Mo
open Go.Proofs.Tg.Rf (pcell OV cellO OrbRows RetOrb RetAcn raction_any rorb_any samep_any own_le)
set_option maxHeartbeats 40000000
set_option maxRecDepth 100000
theorem law_act3 (z : Int) (A B G L : Option Addr) (ca cb cg cl : Nat) (a b : List Int) (both : Bool) (g l : List (List Int)) (w : World) (hA : Ints w A a) (hB : Ints w B b) (hG : Lists w G g) (hL : Lists w L l) (hT : PT w) (h20 : ∀ x ∈ [a, b], x.length ≤ 20) (hg8 : g.length ≤ 8 ∧ ∀ l ∈ g, l.length ≤ 8) (hl10 : l.length ≤ 10 ∧ ∀ m ∈ l, m.length ≤ 8) (hl0 : ¬ 0 < l.length) :
    Calls Tryz.prog 5 #[.int .i64 z, .slice A a.length ca, .slice B b.length cb, .bool both, .slice G g.length cg, .slice L l.length cl, .bool false] w fun e w' => e = .returned (.bool true) ∧ Below w.heap.size w w' := by
  have hal := Below.alloc (Below.refl w.heap.size w) (Nat.le_refl _) (.cells #[.slice A a.length ca, .slice B b.length cb] 22)
  have HAB := Lib.hid (lists_ab (ca := ca) (cb := cb) hA hB)
  have HA := Lib.hid hA
  have HB := Lib.hid hB
  have HG := Lib.hid hG
  have HL := Lib.hid hL
  have HT := Lib.hid hT
  have HAW := Lib.hid (fun V (h : Below w.heap.size w V) => awake19_any V (hT.keep h))
  have HF := Lib.hid (few19_any (some ⟨w.heap.size, 0, none⟩) 2 [a, b] true _ HAB.out (by simp) ⟨fun _ => h20, fun _ => rfl⟩)
  have HSM := Lib.hid (fun V (h : Lists V G g) => Go.Proofs.Tg.small_any G cg 8 8 g true V h ⟨fun _ => hg8, fun _ => rfl⟩ (by omega))
  have HSL := Lib.hid (fun V (h : Lists V L l) => Go.Proofs.Tg.small_any L cl 10 8 l true V h ⟨fun _ => hl10, fun _ => rfl⟩ (by omega))
  clear hA hB hG hL hT HAB
  obtain ⟨g8, gw⟩ := hg8
  obtain ⟨l10, lw⟩ := hl10
  have ha20 := h20 a (by simp)
  have hb20 := h20 b (by simp)
  have HGW := Lib.hid gw
  have HLW := Lib.hid lw
  have HMD := Lib.hid (fun V (h : Below w.heap.size w V) => made_any A B ca cb z a b both V (HA.out.keep h) (HB.out.keep h) (by omega) (by omega))
  clear h20 gw lw
  go_enter Tryz.func5, Tryz.ntmps5
  go_upto_region 4 with (first
    | (go_at_call 6; refine HF.out.mono ?_; rintro e w2 ⟨rfl, rfl⟩)
    | (go_at_call 7; with_reducible refine Calls.mono (HSM.out _ (HG.out.keep hal)) ?_; rintro e w3 ⟨rfl, rfl⟩)
    | (go_at_call 7; with_reducible refine Calls.mono (HSL.out _ (HL.out.keep hal)) ?_; rintro e w3 ⟨rfl, rfl⟩)
    | (go_at_call 9; refine (HMD.out _ hal).mono ?_; rintro e w4 ⟨H, Bs, cH, cB, n, S, bs, rfl, hS, hBs, _, hn4, hI, hln, hbs, hb4⟩; have HBB := Lib.hid hbs; clear hbs))
  have hbs := HBB.out
  have hb04 := below_all hal hb4
  have HAS : Hid (GrpArg w4 H S) := Lib.hid (made_arg hS hn4 hI hln)
  have HAR : Hid (GrpArg w4 G g) := Lib.hid (raw_arg (HG.out.keep hb04) g8 HGW.out)
  have HBS : Hid (Lists w4 Bs bs ∧ bs.length ≤ 10 ∧ ∀ m ∈ bs, m.length ≤ 1000) := Lib.hid ⟨hBs, by rw [hbs]; unfold bsTo; split <;> simp <;> omega, fun m hm => by rw [hbs] at hm; rw [bsTo_len hm]; omega⟩
  have HLS : Hid (Lists w4 L l ∧ l.length ≤ 10 ∧ ∀ m ∈ l, m.length ≤ 1000) := Lib.hid ⟨HL.out.keep hb04, l10, fun m hm => by have := HLW.out m hm; omega⟩
  clear hS hBs hI hln hb4 hn4 hbs HBB HMD HF HSM HSL HA HB HG HL hal HGW HLW
  obtain rfl : l = [] := List.eq_nil_of_length_eq_zero (by omega)
  clear hl0 HLS l10
  obtain ⟨X1, X2, X3, X4⟩ := HAS.out
  obtain ⟨Y1, Y2, Y3⟩ := HBS.out
  have HA1 := Lib.hid (action_any H Bs cH cB S bs w4 X1 (by omega) X3 Y1 Y3 (by omega))
  have HA2 := Lib.hid (fun V (h : Below w4.heap.size w4 V) => raction_any H Bs cH cB S bs V (X1.keep h) X2 X3 (Y1.keep h) Y3 (by omega))
  have HO1 := Lib.hid (fun V (h : Below w4.heap.size w4 V) => orb_any H Bs cH cB S bs V (X1.keep h) X2 X3 (Y1.keep h) Y3 (by omega) acn_facts)
  have HO2 := Lib.hid (fun V (h : Below w4.heap.size w4 V) => rorb_any H Bs cH cB S bs V (X1.keep h) X2 X3 (Y1.keep h) Y3 (by omega) (fun h => (acn_facts h).1))
  have HX2 := Lib.hid X2
  have HY2 := Lib.hid Y2
  clear X1 X2 X3 X4 Y1 Y2 Y3 HAS HAR HBS
  go_upto_region 9 with (go_at_call 16; refine HA1.out.mono ?_; rintro e w5 h5
                         obtain ⟨A5, c5, xs, rfl, hL5, hb5, hx5⟩ := acn_split (RetAcn.of h5)
                         have HX5 := Lib.hid hx5
                         clear hx5 h5)
  go_upto_region 10 with (go_at_call 17; refine (HA2.out _ hb5).mono ?_; rintro e w6 h6
                          obtain ⟨A6, c6, ys, rfl, hL6, hb6, hx6⟩ := acn_split h6
                          have HX6 := Lib.hid hx6
                          clear hx6 h6)
  have hb46 := below_all hb5 hb6
  go_upto_region 11 with (go_at_call 18; refine (HO1.out _ hb46).mono ?_; rintro e w7 h7
                          obtain ⟨A7, c7, os, rfl, ho7, hr7, hb7, hx7⟩ := orb_split h7
                          have HX7 := Lib.hid hx7
                          clear hx7 h7)
  have hb47 := below_all hb46 hb7
  go_upto_region 12 with (go_at_call 19; refine (HO2.out _ hb47).mono ?_; rintro e w8 h8
                          obtain ⟨A8, c8, ps, rfl, ho8, hr8, hb8, hx8⟩ := orb_split h8
                          have HX8 := Lib.hid hx8
                          clear hx8 h8)
  have hxy : ys = xs := HX6.out.trans HX5.out.symm
  subst hxy
  have hop : os.map OV.ps = ps.map OV.ps := HX7.out.trans HX8.out.symm
  have hyl : ys.length ≤ 720 := by
    rw [HX5.out]
    split
    · rw [List.length_map]; exact HX2.out
    · simp
  have HLE := Lib.hid (lists_any A5 A6 ys ys c5 c6 w8 (((hL5.keep hb6).keep hb7).keep hb8) ((hL6.keep hb7).keep hb8) (by omega) (by
    rw [HX5.out]
    split
    · intro x hx
      obtain ⟨y, _, rfl⟩ := List.mem_map.1 hx
      rw [img_len]
      have := HY2.out
      omega
    · intro x hx; cases hx))
  rw [decide_eq_true rfl] at HLE
  have HSP := Lib.hid (fun V (h : Below w8.heap.size w8 V) => samep_any A7 A8 c7 c8 w6.heap.size w7.heap.size os ps V (Sl.keep (Sl.own (own_below ho7 hb8 (Nat.le_refl _))) h) (Sl.keep (Sl.own ho8) h) ((hr7.keep hb8).keep h) (hr8.keep h) hop (own_le ho7))
  have hb08 := below_all hb04 (below_all hb47 hb8)
  clear HX5 HX6 HX7 HX8 hop hL5 hL6 ho7 hr7 ho8 hr8 hb5 hb6 hb7 hb8 hb46 hb47 HA1 HA2 HO1 HO2
  generalize acnE S bs = ez at *
  go_wp2_with (first
    | (go_at_call 15; refine HLE.out.mono ?_; rintro e w9 ⟨rfl, hd9⟩
       have hb9 := hd9.below)
    | (go_at_call 20; refine (HSP.out _ hb9).mono ?_; rintro e w10 ⟨rfl, hb10⟩
       have hb010 := below_all hb08 (below_all hb9 hb10))
    | (go_at_call 8; refine (HAW.out _ hb010).mono ?_; rintro e w11 ⟨rfl, hb11⟩))
  go_ret
  exact ⟨rfl, below_all hb010 hb11⟩
end Go.Proofs.Tg.Bk
end
