/- The statement GraphRaw, walked. -/
import Derived.Test.YtamipjpcphghaaaDoorXJ
import Derived.Test.YtamipjpcphghaaaDoorWS
namespace Go.Proofs.Tg
open Go.RowKit Go.Gr
set_option maxHeartbeats 4000000
set_option maxRecDepth 100000
/-- A call that may be made in every world behind W0, and leaves one. -/
def After (W0 : World) (f : FuncId) (args : Array Value) (v : Value) : Prop := ∀ W, Below W0.heap.size W0 W → Calls Tryd.prog f args W fun e w' => e = .returned v ∧ Below W0.heap.size W0 w'
theorem after_of {W0 : World} {f : FuncId} {args : Array Value} {v : Value} (h : ∀ W, Below W0.heap.size W0 W → Calls Tryd.prog f args W fun e w' => e = .returned v ∧ Below W.heap.size W w') : After W0 f args v :=
  fun W hW => (h W hW).mono fun _ _ ⟨h1, h2⟩ => ⟨h1, below_all hW h2⟩
/-- A call that returns numbers. -/
def AfterN (W0 : World) (f : FuncId) (args : Array Value) (l : List Nat) : Prop := ∀ W, Below W0.heap.size W0 W → Calls Tryd.prog f args W fun e w' => ∃ A d, e = .returned (.slice A l.length d) ∧ Nats w' A l ∧ Below W0.heap.size W0 w' ∧ Below W.heap.size W w'
theorem nats_ints {w : World} {A : Option Addr} {l : List Nat} (h : Nats w A l) : Ints w A (l.map fun x : Nat => (x : Int)) := by
  show Sl _ _ _ 1 _
  rw [List.length_map, List.map_map]
  exact h
theorem EdgesAt.keep' {w w' : World} {E : Option Addr} {es : List (Int × Int)} (h : EdgesAt w E es) (hb : Below w.heap.size w w') : EdgesAt w' E es := h.keep hb
theorem law_raw (n : Int) (E : Option Addr) (es : List (Int × Int)) (c : Nat) (i j : Int) (w : World) (hE : EdgesAt w E es) (hT : Tab w) :
    Calls Tryd.prog 11 #[.agg #[.int .i64 n, .slice E es.length c], .int .i64 i, .int .i64 j] w fun e w' => e = .returned (.bool true) ∧ Below w.heap.size w w' := by
  have hb0 : Below w.heap.size w (w.alloc (.cells #[.int .i64 n, .slice E es.length c] 25)) := (Below.refl _ _).alloc (Nat.le_refl _) _
  have hE0 := hE.keep hb0
  have hT0 := hT.below hb0 hT.1
  have hB0 := Blk.new w 25 #[.int .i64 n, .slice E es.length c]
  have b0 := hB0.cell 0
  have b1 := hB0.cell 1
  simp only [List.getElem?_toArray, List.getElem?_cons_zero, List.getElem?_cons_succ] at b0 b1
  have K12 : Hid (∀ W0, Tab W0 → After W0 12 #[] (.bool true)) := Lib.hid fun W0 h => after_of fun W hW => awake_any W (h.below hW h.1)
  have hd : Below (w.alloc (.cells #[.int .i64 n, .slice E es.length c] 25)).heap.size (w.alloc (.cells #[.int .i64 n, .slice E es.length c] 25)) (w.alloc (.cells #[.int .i64 n, .slice E es.length c] 25)) := Below.refl _ _
  by_cases hl : es.length ≤ 40
  · have q40 : decide ((40 : Int) < (es.length : Int)) = false := by simp; omega
    by_cases hv : valid n es
    · obtain ⟨m, rfl⟩ := Int.eq_ofNat_of_zero_le hv.1
      have hm64 : m ≤ 64 := by have := hv.2.1; omega
      by_cases hm9 : m ≤ 9
      · obtain ⟨ba, hba⟩ : ∃ ba : Bool, ba = true ↔ adjB m es i j := ⟨@decide (adjB m es i j) (Classical.propDecidable _), @decide_eq_true_iff _ (Classical.propDecidable _)⟩
        go_enter Tryd.func11, Tryd.ntmps11
        go_upto_region 1 with fail
        generalize w.alloc (.cells #[.int .i64 m, .slice E es.length c] 25) = W0 at hb0 hE0 hT0 hB0 b0 b1 hd ⊢
        have K35 := Lib.hid (after_of (W0 := W0) fun W hW => rvalid_any m E c es true W (hE0.keep hW) (by omega) (by simp [hv]))
        have K36 := Lib.hid (after_of (W0 := W0) fun W _ => small_graph m E c es true W (by simp; omega))
        have K29 := Lib.hid (after_of (W0 := W0) fun W hW => valid_any m E c es true W (hE0.keep hW) (by omega) (by simp [hv]))
        have K27 := Lib.hid (after_of (W0 := W0) fun W hW => adj_any m E c es i j ba W (hE0.keep hW) (by omega) hba)
        have K37 := Lib.hid (after_of (W0 := W0) fun W hW => radj_any m E c es i j ba W (hE0.keep hW) (by omega) hba)
        have KA := Lib.hid (K12.out W0 hT0)
        obtain ⟨L, hLd⟩ : ∃ L, (List.range m).filter (nbB m es i) = L := ⟨_, rfl⟩
        have K39 : Hid (AfterN W0 39 #[.agg #[.int .i64 m, .slice E es.length c], .int .i64 i] L) := Lib.hid fun W hW => (rneigh_any m E c es i W (hE0.keep hW) (by omega) hm64).mono fun e w' ⟨A, d, h1, h2, h3⟩ => by
          rw [hLd] at h1 h2
          exact ⟨A, d, h1, h2, below_all hW h3, h3⟩
        have K38 : Hid (AfterN W0 38 #[.agg #[.int .i64 m, .slice E es.length c], .int .i64 i] L) := Lib.hid fun W hW => by
          have hL2 := neigh_list hv i
          rw [hLd] at hL2
          by_cases hi : 0 ≤ i ∧ i < m
          · rw [if_pos hi] at hL2
            obtain ⟨i', rfl⟩ := Int.eq_ofNat_of_zero_le hi.1
            rw [Int.toNat_natCast] at hL2
            rw [hL2]
            exact (neighbors_in m E c es i' W (hE0.keep hW) (by omega) hv (by omega) (hT0.below hW hT0.1)).mono fun e w' ⟨A, d, h1, h2, h3⟩ => ⟨A, d, h1, h2, below_all hW h3, h3⟩
          · rw [if_neg hi] at hL2
            rw [hL2]
            exact (neighbors_out m E c es i W (hE0.keep hW) (by omega) hv hi).mono fun e w' ⟨h1, h3⟩ => ⟨none, 0, h1, Sl.nil _ _ _, below_all hW h3, h3⟩
        have hLl : L.length ≤ 64 := by
          rw [← hLd]
          exact Nat.le_trans (List.length_filter_le _ _) (by simpa using hm64)
        clear hLd hv hba hE0 hE
        go_upto_region 3 with (first
          | (go_at_call 35; refine (K35.out _ hd).mono ?_; rintro e w1 ⟨rfl, hbc⟩; have k0 := keep_cell hbc b0; have k1 := keep_cell hbc b1)
          | (go_at_call 36; refine (K36.out _ hbc).mono ?_; rintro e w2 ⟨rfl, hbd⟩; have l0 := keep_cell hbd b0; have l1 := keep_cell hbd b1))
        go_cut [46] (fun s wx => s = .bool false ∧ Below W0.heap.size W0 wx)
        case first =>
          have he : Below W0.heap.size W0 w2.drew := hbd.drew
          have hbb : (ba != ba) = false := by simp
          clear hd hbc k0 k1
          cases ba
          all_goals
            go_region_held3 (fun w' => w'.cell? ⟨w.heap.size, 0, none⟩ = some (.int .i64 m) ∧ w'.cell? ⟨w.heap.size, 1, none⟩ = some (.slice E es.length c)) (first | go_keep | exact ⟨keep_cell hbe b0, keep_cell hbe b1⟩)
              (first
                | (go_at_call 29; refine (K29.out _ (by assumption)).mono ?_; rintro e w' ⟨rfl, hbe⟩)
                | (go_at_call 35; refine (K35.out _ (by assumption)).mono ?_; rintro e w' ⟨rfl, hbe⟩)
                | (go_at_call 27; refine (K27.out _ (by assumption)).mono ?_; rintro e w' ⟨rfl, hbe⟩)
                | (go_at_call 37; refine (K37.out _ (by assumption)).mono ?_; rintro e w' ⟨rfl, hbe⟩))
            all_goals
              go_wp2_with fail
              go_meet
              exact ⟨rfl, hbe⟩
        case rest =>
          obtain ⟨rfl, hbf⟩ := hcut
          have k0' := keep_cell hbf b0
          have k1' := keep_cell hbf b1
          clear hd hbc hbd k0 k1 l0 l1
          go_upto_region 12 with (go_at_call 35; refine (K35.out _ hbf).mono ?_; rintro e w1 ⟨rfl, hbg⟩; have m0 := keep_cell hbg b0; have m1 := keep_cell hbg b1)
          have he : Below W0.heap.size W0 w1.drew := hbg.drew
          have K24 : Hid (∀ A B d1 d2 W, Nats W A L → Nats W B L → Below W0.heap.size W0 W → Calls Tryd.prog 24 #[.slice A L.length d1, .slice B L.length d2] W fun e w' => e = .returned (.bool true) ∧ Below W0.heap.size W0 w') := Lib.hid (by
            intro A B d1 d2 W h1 h2 hW
            have := ints_any A B (L.map fun x : Nat => (x : Int)) (L.map fun x : Nat => (x : Int)) d1 d2 W (nats_ints h1) (nats_ints h2) (by simp; omega)
            rw [List.length_map] at this
            refine this.mono ?_
            rintro e w' ⟨he, hdr⟩
            rw [decide_eq_true rfl] at he
            exact ⟨he, below_all hW hdr.below⟩)
          clear hbf k0' k1'
          go_region_held3 (fun w' => w'.cell? ⟨w.heap.size, 0, none⟩ = some (.int .i64 m) ∧ w'.cell? ⟨w.heap.size, 1, none⟩ = some (.slice E es.length c)) (first | go_keep | exact ⟨keep_cell hbe b0, keep_cell hbe b1⟩)
            (first
              | (go_at_call 38; refine (K38.out _ (by assumption)).mono ?_; rintro e w' ⟨A1, d1, rfl, hA1, hbe, hbW⟩)
              | (go_at_call 39; refine (K39.out _ (by assumption)).mono ?_; rintro e w' ⟨A2, d2, rfl, hA2, hbe, hbW⟩)
              | (go_at_call 24; refine (K24.out A1 A2 d1 d2 _ (by first | exact hA1 | exact hA1.keep hbW) (by first | exact hA2 | exact hA2.keep hbW) (by assumption)).mono ?_; rintro e w' ⟨rfl, hbe⟩)
              | (go_at_call 12; refine (KA.out _ (by assumption)).mono ?_; rintro e w' ⟨rfl, hbe⟩))
          all_goals
            go_wp2
            go_ret
            exact ⟨rfl, below_all hb0 hbe⟩
      · go_enter Tryd.func11, Tryd.ntmps11
        go_upto_region 1 with fail
        generalize w.alloc (.cells #[.int .i64 m, .slice E es.length c] 25) = W0 at hb0 hE0 hT0 hB0 b0 b1 hd ⊢
        have K35 := Lib.hid (after_of (W0 := W0) fun W hW => rvalid_any m E c es true W (hE0.keep hW) (by omega) (by simp [hv]))
        have K36 := Lib.hid (after_of (W0 := W0) fun W _ => small_graph m E c es false W (by simp; omega))
        have KA := Lib.hid (K12.out W0 hT0)
        clear hv hE0 hE
        go_wp2_with (first
          | (go_at_call 35; refine (K35.out _ hd).mono ?_; rintro e w1 ⟨rfl, hbc⟩; have k0 := keep_cell hbc b0; have k1 := keep_cell hbc b1)
          | (go_at_call 36; refine (K36.out _ hbc).mono ?_; rintro e w2 ⟨rfl, hbd⟩)
          | (go_at_call 12; refine (KA.out _ hbd).mono ?_; rintro e w3 ⟨rfl, hbe⟩))
        go_ret
        exact ⟨rfl, below_all hb0 hbe⟩
    · go_enter Tryd.func11, Tryd.ntmps11
      go_upto_region 1 with fail
      generalize w.alloc (.cells #[.int .i64 n, .slice E es.length c] 25) = W0 at hb0 hE0 hT0 hB0 b0 b1 hd ⊢
      have hadj : false = true ↔ adjB n es i j := by
        simp only [Bool.false_eq_true, false_iff]
        exact fun h => hv h.1
      have K35 := Lib.hid (after_of (W0 := W0) fun W hW => rvalid_any n E c es false W (hE0.keep hW) (by omega) (by simp [hv]))
      have K29 := Lib.hid (after_of (W0 := W0) fun W hW => valid_any n E c es false W (hE0.keep hW) (by omega) (by simp [hv]))
      have K27 := Lib.hid (after_of (W0 := W0) fun W hW => adj_any n E c es i j false W (hE0.keep hW) (by omega) hadj)
      have K37 := Lib.hid (after_of (W0 := W0) fun W hW => radj_any n E c es i j false W (hE0.keep hW) (by omega) hadj)
      have K30 := Lib.hid (after_of (W0 := W0) fun W hW => components_bad n E c es W (hE0.keep hW) (by omega) hv)
      have K32 := Lib.hid (after_of (W0 := W0) fun W hW => order_bad n E c es W (hE0.keep hW) (by omega) hv)
      have K28 := Lib.hid (after_of (W0 := W0) fun W hW => chordal_bad n E c es W (hE0.keep hW) (by omega) hv)
      have K25 := Lib.hid (after_of (W0 := W0) fun W hW => extend_bad n E c es W (hE0.keep hW) (by omega) hv)
      have K18 := Lib.hid (fun W hW => cliques_bad n E c es W (EdgesAt.keep' hE0 (show Below W0.heap.size W0 W from hW)) (by omega) hv)
      have K38 := Lib.hid (after_of (W0 := W0) fun W hW => neighbors_bad n E c es i W (hE0.keep hW) (by omega) hv)
      unfold zeroG at K25
      have KA := Lib.hid (K12.out W0 hT0)
      clear hv hadj hE0 hE
      go_upto_region 3 with (go_at_call 35; refine (K35.out _ hd).mono ?_; rintro e w1 ⟨rfl, hbc⟩; have k0 := keep_cell hbc b0; have k1 := keep_cell hbc b1)
      go_cut [46] (fun s wx => s = .bool false ∧ Below W0.heap.size W0 wx)
      case first =>
        have he : Below W0.heap.size W0 w1.drew := hbc.drew
        clear hd
        go_region_held3 (fun w' => w'.cell? ⟨w.heap.size, 0, none⟩ = some (.int .i64 n) ∧ w'.cell? ⟨w.heap.size, 1, none⟩ = some (.slice E es.length c)) (first | go_keep | exact ⟨keep_cell hbe b0, keep_cell hbe b1⟩)
          (first
            | (go_at_call 29; refine (K29.out _ (by assumption)).mono ?_; rintro e w' ⟨rfl, hbe⟩)
            | (go_at_call 35; refine (K35.out _ (by assumption)).mono ?_; rintro e w' ⟨rfl, hbe⟩)
            | (go_at_call 27; refine (K27.out _ (by assumption)).mono ?_; rintro e w' ⟨rfl, hbe⟩)
            | (go_at_call 37; refine (K37.out _ (by assumption)).mono ?_; rintro e w' ⟨rfl, hbe⟩))
        all_goals
          go_wp2_with fail
          go_meet
          exact ⟨rfl, hbe⟩
      case rest =>
        obtain ⟨rfl, hbf⟩ := hcut
        have f0 := keep_cell hbf b0
        have f1 := keep_cell hbf b1
        clear hd hbc k0 k1
        go_wp2_with (first
          | (go_at_call 35; refine (K35.out _ hbf).mono ?_; rintro e w2 ⟨rfl, hg⟩; have g0 := keep_cell hg b0; have g1 := keep_cell hg b1)
          | (go_at_call 30; refine (K30.out _ hg).mono ?_; rintro e w3 ⟨rfl, hh⟩; have h0 := keep_cell hh b0; have h1 := keep_cell hh b1)
          | (go_at_call 32; refine (K32.out _ hh).mono ?_; rintro e w4 ⟨rfl, hi⟩; have i0 := keep_cell hi b0; have i1 := keep_cell hi b1)
          | (go_at_call 28; refine (K28.out _ hi).mono ?_; rintro e w5 ⟨rfl, hj⟩; have j0 := keep_cell hj b0; have j1 := keep_cell hj b1)
          | (go_at_call 25; refine (K25.out _ hj).mono ?_; rintro e w6 ⟨rfl, hk⟩; have kk0 := keep_cell hk b0; have kk1 := keep_cell hk b1; have hlt6 : w.heap.size < w6.heap.size := Nat.lt_of_lt_of_le hB0.lt hk.size)
          | (go_at_call 18; refine (K18.out _ (hk.alloc hk.size _)).mono ?_; rintro e w7 ⟨rfl, hl7⟩
             have hll : Below W0.heap.size W0 w7 := below_all (hk.alloc hk.size _) hl7
             have ll0 := keep_cell hll b0
             have ll1 := keep_cell hll b1
             have z0 := keep_cell hl7 (Blk.cell (Blk.new w6 25 #[.int .i64 0, .slice none 0 0]) 0)
             have z1 := keep_cell hl7 (Blk.cell (Blk.new w6 25 #[.int .i64 0, .slice none 0 0]) 1)
             simp at z0 z1)
          | (go_at_call 38; refine (K38.out _ hll).mono ?_; rintro e w8 ⟨rfl, hm⟩)
          | (go_at_call 12; refine (KA.out _ hm).mono ?_; rintro e w9 ⟨rfl, hn⟩))
        go_ret
        exact ⟨rfl, below_all hb0 hn⟩
  · have q40 : decide ((40 : Int) < (es.length : Int)) = true := by simp; omega
    have HE := Lib.hid hE
    go_enter Tryd.func11, Tryd.ntmps11
    go_upto_region 1 with fail
    generalize w.alloc (.cells #[.int .i64 n, .slice E es.length c] 25) = W0 at hb0 hE0 hT0 hB0 b0 b1 hd ⊢
    have KA := Lib.hid (K12.out W0 hT0)
    clear hE0 hE
    go_wp2_with (go_at_call 12; refine (KA.out _ hd).mono ?_; rintro e w3 ⟨rfl, hbe⟩)
    go_ret
    exact ⟨rfl, below_all hb0 hbe⟩
end Go.Proofs.Tg
