/- The statement GraphMaximal, walked. -/
import Derived.Test.YtamipjpcphghaaaDoorLC
import Derived.Test.YtamipjpcphghaaaDoorPG
namespace Go.Proofs.Tg
open Go.RowKit Go.Gr
set_option maxHeartbeats 4000000
set_option maxRecDepth 100000
/-- Cliques of a chordal graph, told by what they are good for. -/
def RetClq (n : Nat) (es : List (Int × Int)) (w : World) (e : Ending) (w' : World) : Prop :=
  ∃ ls V d, ClqEs n es ls ∧ e = .returned (.tuple #[.slice V (List.length ls) d, .int .i64 0]) ∧ Lists w' V ls ∧ ls.Perm ((keepLast (cands (readAll es) n)).map vertsI) ∧ sortedL ls ∧ Below w.heap.size w w'
theorem clq_any (n : Nat) (E : Option Addr) (c : Nat) (es : List (Int × Int)) (w : World) (hE : EdgesAt w E es) (hl : es.length ≤ 1000000) (hv : valid n es) (hc : isChordal (readAll es) n = true) (h12 : n ≤ 12) (hT : Tab w) :
    Calls Tryd.prog 18 #[.agg #[.int .i64 n, .slice E es.length c]] w (RetClq n es w) := by
  refine (cliques_ok n E c es w hE hl hv hT hc h12).mono ?_
  rintro e w' ⟨V, d, ls, h1, h2, h3, h4, h5⟩
  exact ⟨ls, V, d, clq_es hv hc h3, h1, h2, h3, h4, h5⟩
/-- An ascending list of numbers below n is short. -/
theorem asc_short {l : List Int} {n : Nat} (h : l.Pairwise (· < ·)) (hl : ∀ x ∈ l, 0 ≤ x ∧ x < n) : l.length ≤ n := by
  have : ∀ (i : Nat) (hi : i < l.length), (i : Int) ≤ l[i] := by
    intro i
    induction i with
    | zero => intro hi; exact (hl _ (List.getElem_mem _)).1
    | succ i ih =>
      intro hi
      have h1 := ih (by omega)
      have h2 := List.pairwise_iff_getElem.1 h i (i + 1) (by omega) hi (by omega)
      omega
  by_cases h0 : l.length = 0
  · omega
  · have h1 := this (l.length - 1) (by omega)
    have h2 := (hl _ (List.getElem_mem (l := l) (n := l.length - 1) (by omega))).2
    omega
theorem has_drawn {A : Option Addr} {c : Nat} {l : List Int} {w : World} (hA : Ints w A l) (hl : l.length ≤ 1000000) :
    ∃ f : Int → Bool, Hid (∀ z, f z = true ↔ z ∈ l) ∧ Hid (∀ x n, Calls Tryd.prog 26 #[.slice A l.length c, .int .i64 x] (w.drewN n) fun e w' => e = .returned (.bool (f x)) ∧ w' = w.drewN n) :=
  ⟨fun x => decide (x ∈ l), Lib.hid (by simp), Lib.hid fun x n => (has_list A c l x (decide (x ∈ l)) (w.drewN n) (hA.drewN n) hl (by simp)).mono fun _ _ h => ⟨h.1, h.2.symm⟩⟩
theorem law_maximal (n : Int) (E : Option Addr) (es : List (Int × Int)) (c : Nat) (w : World) (hE : EdgesAt w E es) (hT : Tab w) :
    Calls Tryd.prog 7 #[.int .i64 n, .slice E es.length c] w fun e w' => e = .returned (.bool true) ∧ Below w.heap.size w w' := by
  by_cases hl : es.length ≤ 40
  · have HMD := Lib.hid (made_any n E c es w hE hl)
    clear hE
    go_enter Tryd.func7, Tryd.ntmps7
    go_upto_region 6 with (first
      | (go_at_call 16; refine HMD.out.mono ?_; rintro e w1 ⟨m, fs, F, d, hm8, hfv, hfl, rfl, hF, hb1⟩
         have HFV := Lib.hid hfv; clear hfv)
      | (go_at_call 25; refine (ext_any m F d fs _ (hF.keep ((Below.refl _ _).alloc (Nat.le_refl _) _)) (by omega) HFV.out (hT.below (hb1.alloc hb1.size _) hT.1)).mono ?_; rintro e w2 ⟨xs, G, dg, hx, hxl, rfl, hG, hb2⟩
         have HX := Lib.hid hx; clear hx
         have hbw2 : Below w.heap.size w w2 := below_all (hb1.alloc hb1.size _) hb2
         clear hF)
      | (go_at_call 18; refine (clq_any m G dg xs _ (hG.keep ((Below.refl _ _).alloc (Nat.le_refl _) _)) (by omega) HX.out.valid HX.out.chord (by omega) (hT.below (hbw2.alloc hbw2.size _) hT.1)).mono ?_; rintro e w3 ⟨ls, V, dv, hq, rfl, hV, -, -, hb3⟩
         have HQ := Lib.hid hq; clear hq
         have hbw3 : Below w.heap.size w w3 := below_all (hbw2.alloc hbw2.size _) hb3
         have hG3 := (hG.keep ((Below.refl _ _).alloc (Nat.le_refl _) (.cells #[.int .i64 m, .slice G xs.length dg] 25))).keep hb3
         have hB7 := (Blk.new w2 25 #[.int .i64 m, .slice G xs.length dg]).keep hb3 (by simp)
         clear hG
         have q0 := hB7.cell 0
         have q1 := hB7.cell 1
         simp at q0 q1))
    have hfew := HQ.out.few
    have HL8 : Hid (∀ l ∈ ls, l.length ≤ 8) := Lib.hid (fun l h => by have := asc_short (HQ.out.asc l h) (HQ.out.lt l h); omega)
    have hlw : w.heap.size ≤ w2.heap.size := hbw2.size
    have hl7 : w2.heap.size < w3.heap.size := hB7.lt
    go_cut [63] (fun s63 wx => s63 = .bool false ∧ Below w3.heap.size w3 wx)
    case first =>
      have hgt : decide ((m : Int) < (ls.length : Int)) = false := by simp; omega
      have hgt' : decide (m < ls.length) = false := by simp; omega
      by_cases hm0 : m = 0
      · have z1 : ((m : Int) == 0) = true := beq_iff_eq.2 (by omega)
        have z2 : ((ls.length : Int) == 0) = true := beq_iff_eq.2 (by omega)
        clear hm0 hfew
        go_wp2_with fail
        go_meet
        exact ⟨rfl, Below.refl _ _⟩
      · have z1 : ((m : Int) == 0) = false := beq_eq_false_iff_ne.2 (by omega)
        have hz := HQ.out.zero
        have z2 : ((ls.length : Int) == 0) = false := beq_eq_false_iff_ne.2 (by omega)
        clear hz
        go_wp2_with fail
        go_meet
        exact ⟨rfl, Below.refl _ _⟩
    case rest =>
      obtain ⟨rfl, hbc⟩ := hcut
      clear q0 q1
      go_wp2
      go_loopw [12, 11] (fun i s wr => ∃ k : Nat, i = .int .i64 k ∧ s = .int .i64 k ∧ k ≤ xs.length ∧ Below w3.heap.size w3 wr) (fun i _ _ => xs.length - (intOf i).toNat)
      case atStart => exact ⟨0, rfl, rfl, Nat.zero_le _, hbc⟩
      case round =>
        clear hbc
        obtain ⟨wo, rfl⟩ : ∃ wo : World, wo = wr := ⟨_, rfl⟩
        obtain ⟨k, rfl, rfl, hk, hbr⟩ := hrel
        have hB7o := hB7.keep hbr hB7.lt
        have r1 := hB7o.cell 1
        simp at r1
        by_cases hkl : k < xs.length
        · have hkb : decide ((k : Int) < (xs.length : Int)) = true := by simp; omega
          obtain ⟨ad, rfl, hc1, hc2⟩ := EdgesAt.at (hG3.keep hbr) hkl
          have HM : Hid (xs[k] ∈ xs) := Lib.hid (List.getElem_mem _)
          obtain ⟨x, y, hp⟩ : ∃ x y, xs[k] = (x, y) := ⟨_, _, rfl⟩
          rw [hp] at hc1 hc2 HM
          clear hp
          simp only at hc1 hc2
          have k0 : (0 : Int) ≤ (k : Int) := by omega
          have k1 : (k : Int) < (xs.length : Int) := by omega
          have HCOV : Hid (∃ l ∈ ls, x ∈ l ∧ y ∈ l) := Lib.hid (by
            obtain ⟨g1, g2, g3⟩ := valid_good HX.out.valid _ HM.out
            simp only at g1 g2 g3
            obtain ⟨l, h1, h2, h3⟩ := HQ.out.cover x.toNat y.toNat ((readT_iff _ _ _).2 ⟨_, HM.out, .inl ⟨rfl, rfl⟩⟩)
            rw [show ((x.toNat : Nat) : Int) = x from by omega] at h2
            rw [show ((y.toNat : Nat) : Int) = y from by omega] at h3
            exact ⟨l, h1, h2, h3⟩)
          clear hG3 HM
          go_wp2
          go_loopw [13, 11] (fun j s wr => ∃ q : Nat, j = .int .i64 q ∧ s = .int .i64 k ∧ q ≤ ls.length ∧ Hid (∀ l ∈ ls.take q, ¬ (x ∈ l ∧ y ∈ l)) ∧ Below wo.heap.size wo wr) (fun j _ _ => ls.length - (intOf j).toNat)
          case atStart => exact ⟨0, rfl, rfl, Nat.zero_le _, Lib.hid (by simp), Below.refl _ _⟩
          case round =>
            obtain ⟨q, rfl, rfl, hq, HN, hb2⟩ := hrel
            by_cases hql : q < ls.length
            · have hqb : decide ((q : Int) < (ls.length : Int)) = true := by simp; omega
              obtain ⟨vd, A, cl, rfl, hcv, hA⟩ := Lists.at ((hV.keep hbr).keep hb2) hql
              have HT : Hid (ls.take (q + 1) = ls.take q ++ [ls[q]]) := Lib.hid (List.take_succ_eq_append_getElem hql)
              have hl8 := HL8.out ls[q] (List.getElem_mem _)
              generalize ls[q] = l at hcv hA HT hl8
              obtain ⟨f, HF, HH⟩ := has_drawn (c := cl) hA (by omega)
              have r1' := keep_cell hb2 r1
              have hc1' := keep_cell hb2 hc1
              have hc2' := keep_cell hb2 hc2
              have q0 : (0 : Int) ≤ (q : Int) := by omega
              have q1 : (q : Int) < (ls.length : Int) := by omega
              have HNEXT : Hid (¬ (x ∈ l ∧ y ∈ l) → ∀ l ∈ ls.take (q + 1), ¬ (x ∈ l ∧ y ∈ l)) := Lib.hid (fun hno l' hl' => by
                rw [HT.out] at hl'
                rcases List.mem_append.1 hl' with h | h
                · exact HN.out l' h
                · simp at h; subst h; exact hno)
              clear hA hV HT HN
              by_cases hx : x ∈ l
              · have bx : f x = true := (HF.out x).2 hx
                by_cases hy : y ∈ l
                · have bY : f y = true := (HF.out y).2 hy
                  have H1 := Lib.hid (fun n => HH.out x n)
                  have H2 := Lib.hid (fun n => HH.out y n)
                  rw [bx] at H1
                  rw [bY] at H2
                  clear bx bY HF HH
                  clear hx hy HNEXT
                  go_wp2
                  go_quiet ((go_at_call 26; first | (with_reducible exact Calls.quiet_of_same (H1.out _)) | (with_reducible exact Calls.quiet_of_same (H2.out _))))
                  go_wp2
                  go_roundw
                  case rel => exact ⟨k + 1, by go_num, by go_num, by omega, below_all hbr (below_drewN hb2 _)⟩
                  case measure => simp [intOf]; omega
                · have bY : f y = false := by cases h : f y; rfl; exact absurd ((HF.out y).1 h) hy
                  have H1 := Lib.hid (fun n => HH.out x n)
                  have H2 := Lib.hid (fun n => HH.out y n)
                  rw [bx] at H1
                  rw [bY] at H2
                  clear bx bY HF HH
                  have HN2 := Lib.hid (HNEXT.out (fun h => hy h.2))
                  clear hx hy HNEXT
                  go_wp2
                  go_quiet ((go_at_call 26; first | (with_reducible exact Calls.quiet_of_same (H1.out _)) | (with_reducible exact Calls.quiet_of_same (H2.out _))))
                  go_wp2
                  go_roundw
                  case rel => exact ⟨q + 1, by go_num, rfl, by omega, HN2, below_drewN hb2 _⟩
                  case measure => simp [intOf]; omega
              · have bx : f x = false := by cases h : f x; rfl; exact absurd ((HF.out x).1 h) hx
                have H1 := Lib.hid (fun n => HH.out x n)
                rw [bx] at H1
                clear bx HF HH
                have HN2 := Lib.hid (HNEXT.out (fun h => hx h.1))
                clear hx HNEXT
                go_wp2
                go_quiet ((go_at_call 26; with_reducible exact Calls.quiet_of_same (H1.out _)))
                go_wp2
                go_roundw
                case rel => exact ⟨q + 1, by go_num, rfl, by omega, HN2, below_drewN hb2 _⟩
                case measure => simp [intOf]; omega
            · obtain rfl : q = ls.length := by omega
              exfalso
              obtain ⟨l, h1, h2⟩ := HCOV.out
              have := HN.out l (by rw [List.take_length]; exact h1)
              exact this h2
        · obtain rfl : k = xs.length := by omega
          have hkb : decide ((xs.length : Int) < (xs.length : Int)) = false := by simp
          have hne0 : ((xs.length : Int) != (xs.length : Int)) = false := by simp
          go_wp2
          clear hkb hne0 r1
          go_loopw [14] (fun i wr => ∃ k : Nat, i = .int .i64 k ∧ k ≤ ls.length ∧ Below w3.heap.size w3 wr) (fun i _ => ls.length - (intOf i).toNat)
          case atStart => exact ⟨0, rfl, Nat.zero_le _, hbr⟩
          case round =>
            clear hB7o hbr hkl hk
            obtain ⟨k, rfl, hk, hbr⟩ := hrel
            by_cases hkl : k < ls.length
            · have hkb : decide ((k : Int) < (ls.length : Int)) = true := by simp; omega
              obtain ⟨vd, A, cl, rfl, hcv0, hA0⟩ := Lists.at hV hkl
              have HMX := Lib.hid (HQ.out.max ls[k] (List.getElem_mem _))
              have HLT := Lib.hid (HQ.out.lt ls[k] (List.getElem_mem _))
              have hl8 := HL8.out ls[k] (List.getElem_mem _)
              generalize ls[k] = l at hcv0 hA0 HMX HLT hl8
              have k0 : (0 : Int) ≤ (k : Int) := by omega
              have k1 : (k : Int) < (ls.length : Int) := by omega
              have HVV := Lib.hid hV
              clear hV
              go_wp2
              go_loopw [15] (fun i wr => ∃ v : Nat, i = .int .i64 v ∧ v ≤ m ∧ Below w3.heap.size w3 wr) (fun i _ => m - (intOf i).toNat)
              case atStart => exact ⟨0, rfl, Nat.zero_le _, hbr⟩
              case round =>
                clear hbr
                obtain ⟨v, rfl, hv, hbr⟩ := hrel
                have hB7o := hB7.keep hbr hB7.lt
                have r0 := hB7o.cell 0
                simp at r0
                by_cases hvm : v < m
                · have hvb : decide ((v : Int) < (m : Int)) = true := by simp; omega
                  have HMV := Lib.hid (HMX.out v hvm)
                  have hcv1 := keep_cell hbr hcv0
                  go_wp2
                  go_loopw [17, 16] (fun i s wr => ∃ (q : Nat) (b : Bool), i = .int .i64 q ∧ s = .bool b ∧ q ≤ l.length ∧ Hid (b = true ↔ ∀ u ∈ l.take q, u ≠ (v : Int) → readT xs u.toNat v = true) ∧ Below w3.heap.size w3 wr) (fun i _ _ => l.length - (intOf i).toNat)
                  case atStart => exact ⟨0, true, rfl, rfl, Nat.zero_le _, Lib.hid (by simp), hbr⟩
                  case round =>
                    clear hbr hB7o r0 hcv1
                    obtain ⟨q, b, rfl, rfl, hq, HB, hbr⟩ := hrel
                    have hB7o := hB7.keep hbr hB7.lt
                    have r0 := hB7o.cell 0
                    have r1 := hB7o.cell 1
                    simp at r0 r1
                    have hcv := keep_cell hbr hcv0
                    have hA := hA0.keep hbr
                    by_cases hql : q < l.length
                    · have hqb : decide ((q : Int) < (l.length : Int)) = true := by simp; omega
                      have HT : Hid (l.take (q + 1) = l.take q ++ [l[q]]) := Lib.hid (List.take_succ_eq_append_getElem hql)
                      have HU := Lib.hid (HLT.out l[q] (List.getElem_mem _))
                      obtain ⟨bd, rfl, hu⟩ := Ints.at hA hql
                      generalize l[q] = u at HT HU hu
                      have q0 : (0 : Int) ≤ (q : Int) := by omega
                      have q1 : (q : Int) < (l.length : Int) := by omega
                      by_cases huv : u = (v : Int)
                      · subst huv
                        have hne : ((v : Int) != (v : Int)) = false := by simp
                        have HB2 : Hid (b = true ↔ ∀ u ∈ l.take (q + 1), u ≠ (v : Int) → readT xs u.toNat v = true) := Lib.hid (by
                          rw [HB.out, HT.out]
                          constructor
                          · intro h u hu
                            rcases List.mem_append.1 hu with hu | hu
                            · exact h u hu
                            · simp at hu; subst hu; intro h2; exact absurd rfl h2
                          · intro h u hu; exact h u (by simp [hu]))
                        clear HB HT HU hA
                        go_wp2
                        go_quiet (fail)
                        go_wp2
                        go_roundw
                        case rel => exact ⟨q + 1, b, by go_num, rfl, by omega, HB2, below_drewN hbr _⟩
                        case measure => simp [intOf]; omega
                      · have hne : (u != (v : Int)) = true := by simpa using huv
                        obtain ⟨bu, hbu⟩ : ∃ bu, readT xs u.toNat v = bu := ⟨_, rfl⟩
                        have HA := Lib.hid (fun W (hW : Below wr.heap.size wr W) => adj_any m G dg xs u v bu W ((hG3.keep hbr).keep hW) (by omega) (by
                          have hu2 := HU.out
                          unfold adjB
                          have e1 : (readAll xs u.toNat).testBit ((v : Int)).toNat = readT xs u.toNat v := bt_read xs u.toNat v
                          rw [e1, hbu]
                          exact ⟨fun h => ⟨HX.out.valid, by omega, h⟩, fun h => h.2.2⟩))
                        have HB2 : Hid ((b && bu) = true ↔ ∀ u ∈ l.take (q + 1), u ≠ (v : Int) → readT xs u.toNat v = true) := Lib.hid (by
                          rw [Bool.and_eq_true, HB.out, HT.out]
                          constructor
                          · rintro ⟨h, h2⟩ u' hu'
                            rcases List.mem_append.1 hu' with hu' | hu'
                            · exact h u' hu'
                            · simp at hu'; subst hu'; intro _; rw [hbu]; exact h2
                          · intro h
                            exact ⟨fun u' hu' => h u' (by simp [hu']), by rw [← hbu]; exact h u (by simp) huv⟩)
                        clear HB HT HU hA huv hbu
                        cases bu
                        · rw [Bool.and_false] at HB2
                          go_wp2
                          go_region_held3 (fun w' => w'.cell? ⟨w2.heap.size, 0, none⟩ = some (.int .i64 m) ∧ w'.cell? ⟨w2.heap.size, 1, none⟩ = some (.slice G xs.length dg) ∧ w'.cell? (vd.add k) = some (.slice (some bd) l.length cl) ∧ w'.cell? (bd.add q) = some (.int .i64 u)) (first | go_keep | exact ⟨keep_cell hbc r0, keep_cell hbc r1, keep_cell hbc hcv, keep_cell hbc hu⟩)
                            (first | (go_at_call 27; refine (HA.out _ (Below.refl _ _).drew).mono ?_; rintro e w' ⟨rfl, hbc⟩))
                          go_wp2
                          go_roundw
                          case rel => exact ⟨q + 1, false, by go_num, rfl, by omega, HB2, below_all hbr (below_of_drew hbc)⟩
                          case measure => simp [intOf]; omega
                        · rw [Bool.and_true] at HB2
                          go_wp2
                          go_region_held3 (fun w' => w'.cell? ⟨w2.heap.size, 0, none⟩ = some (.int .i64 m) ∧ w'.cell? ⟨w2.heap.size, 1, none⟩ = some (.slice G xs.length dg) ∧ w'.cell? (vd.add k) = some (.slice (some bd) l.length cl) ∧ w'.cell? (bd.add q) = some (.int .i64 u)) (first | go_keep | exact ⟨keep_cell hbc r0, keep_cell hbc r1, keep_cell hbc hcv, keep_cell hbc hu⟩)
                            (first | (go_at_call 27; refine (HA.out _ (Below.refl _ _).drew).mono ?_; rintro e w' ⟨rfl, hbc⟩))
                          go_wp2
                          go_roundw
                          case rel => exact ⟨q + 1, b, by go_num, rfl, by omega, HB2, below_all hbr (below_of_drew hbc)⟩
                          case measure => simp [intOf]; omega
                    · obtain rfl : q = l.length := by omega
                      have hqb : decide ((l.length : Int) < (l.length : Int)) = false := by simp
                      have HH := Lib.hid (has_list A cl l (v : Int) b wr hA (by omega) (by
                        rw [HB.out, List.take_length]; exact HMV.out.symm))
                      clear HB hA
                      cases b
                      · go_wp2_with (go_at_call 26; refine HH.out.mono ?_; rintro e w' ⟨rfl, rfl⟩)
                        go_roundw
                        case rel => exact ⟨v + 1, by go_num, by omega, hbr⟩
                        case measure => simp [intOf]; omega
                      · go_wp2_with (go_at_call 26; refine HH.out.mono ?_; rintro e w' ⟨rfl, rfl⟩)
                        go_roundw
                        case rel => exact ⟨v + 1, by go_num, by omega, hbr⟩
                        case measure => simp [intOf]; omega
                · obtain rfl : v = m := by omega
                  have hvb : decide ((v : Int) < (v : Int)) = false := by simp
                  go_wp2
                  go_roundw
                  case rel => exact ⟨k + 1, by go_num, by omega, hbr⟩
                  case measure => simp [intOf]; omega
            · obtain rfl : k = ls.length := by omega
              have hkb : decide ((ls.length : Int) < (ls.length : Int)) = false := by simp
              have hbw5 : Below w.heap.size w wr := below_all hbw3 hbr
              go_wp2_with (go_at_call 12; refine (awake_any _ (hT.below hbw5 hT.1)).mono ?_; rintro e w5 ⟨rfl, hb5⟩)
              go_ret
              exact ⟨rfl, below_all hbw5 hb5⟩
  · have HMD := Lib.hid (made_long n E c es w (by omega))
    have hb : decide ((40 : Int) < (es.length : Int)) = true := by simp; omega
    clear hE
    go_enter Tryd.func7, Tryd.ntmps7
    go_wp2_with (first
      | (go_at_call 16; refine HMD.out.mono ?_; rintro e w1 ⟨rfl, hb1⟩)
      | (go_at_call 12; refine (awake_any _ (hT.below (hb1.alloc hb1.size _) hT.1)).mono ?_; rintro e w4 ⟨rfl, hb4⟩))
    go_ret
    exact ⟨rfl, below_all (hb1.alloc hb1.size _) hb4⟩
end Go.Proofs.Tg
