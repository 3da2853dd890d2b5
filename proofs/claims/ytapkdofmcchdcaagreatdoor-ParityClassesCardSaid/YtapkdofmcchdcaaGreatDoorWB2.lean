/- Walks: the echelon form. -/
import Derived.Test.YtapkdofmcchdcaaGreatDoorWB1
import Derived.Laws.OwnMore
import Derived.RegionTactic
import Derived.ChangeAlike
import Derived.Deep.DeepCutAuto
namespace Go.Proofs.Tg
open Go.RowKit Go.Gr Go.Ev
set_option maxHeartbeats 2000000
set_option maxRecDepth 100000
/-- The vectors lie in block g; nothing below B has turned. -/
structure VecAt (W0 : World) (base g cap : Nat) (us : List Nat) (w : World) : Prop where
  own : w.ownsRow base 3 1 (.slice (some ⟨g, 0, none⟩) us.length cap) us.length (us.map vn)
  below : Below W0.heap.size W0 w
theorem VecAt.base_le {W0 w : World} {base g cap : Nat} {us : List Nat} (h : VecAt W0 base g cap us w) : base ≤ g := (h.own.lt g rfl).1
theorem VecAt.cell {W0 w : World} {base g cap : Nat} {us : List Nat} (h : VecAt W0 base g cap us w) {j : Nat} (hj : j < us.length) : w.cell? ⟨g, j, none⟩ = some (.int .i64 (us.getD j 0 : Nat)) := by
  rw [h.own.cellAt j (by omega)]
  simp [hj, vn]
theorem VecAt.drewN {W0 w : World} {base g cap : Nat} {us : List Nat} (h : VecAt W0 base g cap us w) (n : Nat) : VecAt W0 base g cap us (w.drewN n) := ⟨h.own, below_drewN h.below n⟩
theorem VecAt.drew {W0 w : World} {base g cap : Nat} {us : List Nat} (h : VecAt W0 base g cap us w) : VecAt W0 base g cap us w.drew := ⟨h.own, h.below.drew⟩
theorem VecAt.put {W0 w : World} {base g cap : Nat} {us : List Nat} (h : VecAt W0 base g cap us w) (hB : W0.heap.size ≤ base) (j x : Nat) : VecAt W0 base g cap (us.set j x) (w.setCell ⟨g, j, none⟩ (.int .i64 (x : Nat))) := by
  have h1 := (h.own.stored j (.int .i64 (x : Nat))).1
  have e : (us.map vn).set j (.int .i64 (x : Nat)) = (us.set j x).map vn := by rw [List.map_set]; rfl
  rw [e] at h1
  refine ⟨by rw [List.length_set]; exact h1, h.below.setCell (Nat.le_trans hB h.base_le) _⟩
theorem pow_small {i : Nat} (hi : i < 6) : 2 ^ i ≤ 32 := by
  have : 2 ^ i ≤ 2 ^ 5 := Nat.pow_le_pow_right (by omega) (by omega)
  omega
theorem and_pow_zero (x i : Nat) : (x &&& 2 ^ i = 0) ↔ x.testBit i = false := by
  constructor
  · intro h
    have := congrArg (fun z => Nat.testBit z i) h
    simp only [Nat.testBit_and, Nat.testBit_two_pow_self, Bool.and_true, Nat.zero_testBit] at this
    exact this
  · intro h
    refine Nat.eq_of_testBit_eq fun b => ?_
    rw [Nat.testBit_and, Nat.testBit_two_pow, Nat.zero_testBit]
    by_cases e : i = b
    · subst e; rw [h]; rfl
    · simp [e]
theorem wrap_two (i : Nat) (hi : i < 6) : wrap64 ((2 : Int) ^ i) = ((2 ^ i : Nat) : Int) := by
  have e : (2 : Int) ^ i = ((2 ^ i : Nat) : Int) := by simp
  rw [e, wrap64_nat _ (by have := pow_small hi; omega)]
theorem bit_eq (x i : Nat) (hx : x < 64) (hi : i < 6) : (bits BinOp.and IntKind.i64 (x : Int) (wrap64 (2 ^ i)) == 0) = !x.testBit i := by
  rw [wrap_two i hi, i64_and_n _ _ (by omega) (by have := pow_small hi; omega)]
  have := and_pow_zero x i
  cases h : x.testBit i with
  | true =>
    have : x &&& 2 ^ i ≠ 0 := fun e => by rw [this.1 e] at h; cases h
    simp; omega
  | false => rw [this.2 h]; rfl
theorem bit_ne (x i : Nat) (hx : x < 64) (hi : i < 6) : (bits BinOp.and IntKind.i64 (x : Int) (wrap64 (2 ^ i)) != 0) = x.testBit i := by
  rw [bne, bit_eq x i hx hi, Bool.not_not]
theorem ech_pos (V : Nat → Prop) (nv : Nat) (hS : Space V nv) (hnv : nv ≤ 6) (vs : List Nat) (hV : ∀ v ∈ vs, V v) (hsp : ∀ x, V x → Span vs x) (hl : vs.length ≤ 64) (W0 : World) (base g cap : Nat) (w : World) (hB : W0.heap.size ≤ base) (hA : VecAt W0 base g cap vs w) :
    Calls Tryz.prog 58 #[.slice (some ⟨g, 0, none⟩) vs.length cap, .int .i64 nv] w fun e w' => ∃ us r p, e = .returned (.slice (some ⟨g, 0, none⟩) r cap) ∧ EInv V nv us r p ∧ us.length = vs.length ∧ VecAt W0 base g cap us w' := by
  have hcap : vs.length ≤ cap := by
    rcases hA.own.2 with ⟨h, _⟩ | ⟨g', c', cur, h, _, _, hc, _⟩
    · cases h
    · injection h with h1 h2 h3; omega
  go_enter Tryz.func58, Tryz.ntmps58
  go_wp2
  go_loopw [5, 10] (fun s5 s10 wr => ∃ (i r : Nat) (us : List Nat) (p : Nat → Nat), s5 = .int .i64 r ∧ s10 = .int .i64 i ∧ i ≤ nv ∧ Hid (EInv V i us r p) ∧ us.length = vs.length ∧ r ≤ vs.length ∧ VecAt W0 base g cap us wr) (fun _ s10 _ => nv - (intOf s10).toNat)
  case atStart => exact ⟨0, 0, vs, fun _ => 0, rfl, rfl, Nat.zero_le _, Lib.hid (EInv.start hV hsp), rfl, Nat.zero_le _, hA⟩
  case round =>
    obtain ⟨wo, rfl⟩ : ∃ wo : World, wo = wr := ⟨_, rfl⟩
    obtain ⟨i, r, us, p, rfl, rfl, hi, HE, hul, hr, hv⟩ := hrel
    have hb64 : ∀ j, us.getD j 0 < 64 := by
      intro j
      rcases Nat.lt_or_ge j us.length with h | h
      · have := hS.lt _ (HE.out.hV _ (mem_getD.2 ⟨j, h, rfl⟩))
        have h6 : 2 ^ nv ≤ 2 ^ 6 := Nat.pow_le_pow_right (by omega) hnv
        omega
      · rw [List.getD_eq_getElem?_getD, List.getElem?_eq_none h]; decide
    have HB := Lib.hid hb64
    clear hb64 hA
    by_cases hlt : i < nv
    · go_wp2
      go_loopw [7] (fun s7 wr => ∃ q : Nat, s7 = .int .i64 q ∧ r ≤ q ∧ q ≤ vs.length ∧ Hid (∀ k, r ≤ k → k < q → (us.getD k 0).testBit i = false) ∧ VecAt W0 base g cap us wr) (fun s7 _ => vs.length - (intOf s7).toNat)
      case atStart => exact ⟨r, rfl, Nat.le_refl _, hr, Lib.hid (fun k h1 h2 => absurd h1 (by omega)), hv⟩
      case round =>
        clear hv
        obtain ⟨q, rfl, hq1, hq2, HQ, hv⟩ := hrel
        have p1 : 2 ^ i ≤ 32 := pow_small (by omega)
        by_cases hqn : q < vs.length
        · have c0 := hv.cell (j := q) (by omega)
          have hx := HB.out q
          have d1 : decide (q < vs.length) = true := by simp; omega
          have d2 : (q : Int) < (vs.length : Int) := by omega
          have d3 : (0 : Int) ≤ (q : Int) := by omega
          have d4 : ((q : Int)).toNat = q := by omega
          have hbt := bit_eq (us.getD q 0) i hx (by omega)
          by_cases hbit : (us.getD q 0).testBit i = true
          · rw [hbit] at hbt
            have HBIT := Lib.hid hbit
            have e5 : ((q : Int) == (vs.length : Int)) = false := by simp; omega
            have HXX : Hid (us.getD q 0 = us.getD q 0) := Lib.hid rfl
            clear hbit
            generalize hxx : us.getD q 0 = x at c0 hx hbt
            have HXQ := Lib.hid hxx
            clear hxx HXX
            go_wp2
            go_quiet (fail)
            go_wp2
            have hv2 := hv.drewN nq
            clear hv c0
            generalize wr.drewN nq = W at *
            have HE2 := Lib.hid (HE.out.swap hq1 (by omega))
            have hrn : r < vs.length := by omega
            go_cut [5] (fun s5 wx => s5 = .int .i64 r ∧ VecAt W0 base g cap (swp us r q) wx)
            case first =>
              have c1 := hv2.cell (j := r) (by omega)
              have c2 := hv2.cell (j := q) (by omega)
              have f1 := hv2.own.frozenAt r
              have f2 := hv2.own.frozenAt q
              have r2 : (r : Int) < (vs.length : Int) := by omega
              have r3 : (0 : Int) ≤ (r : Int) := by omega
              have r4 : ((r : Int)).toNat = r := by omega
              have hxr := HB.out r
              have HSW : Hid (swp us r q = (us.set r (us.getD q 0)).set q (us.getD r 0)) := Lib.hid rfl
              have hv3 := ((hv2.put hB r (us.getD q 0)).put hB q (us.getD r 0)).drew
              have HV3 := Lib.hid hv3
              clear hv3 hv2
              generalize us.getD r 0 = y at *
              rw [HXQ.out] at c2 HSW HV3
              by_cases hne : r = q
              · subst hne
                obtain rfl : x = y := by
                  rw [c1] at c2
                  have : (x : Int) = (y : Int) := by simpa using c2.symm
                  omega
                go_region
                all_goals
                  go_wp2_with fail
                  go_meet
                  exact ⟨rfl, by rw [HSW.out]; exact HV3.out⟩
              · have hne' : ¬ q = r := fun e => hne e.symm
                go_region
                all_goals
                  go_wp2_with fail
                  go_meet
                  exact ⟨rfl, by rw [HSW.out]; exact HV3.out⟩
            case rest =>
              obtain ⟨rfl, hv3⟩ := hcut
              have hzl : (swp us r q).length = vs.length := by rw [swp_len]; exact hul
              have hzb : ((swp us r q).getD r 0).testBit i = true := by
                have := swp_get us (r := r) (q := q) (by omega) (by omega) r
                rw [this]
                by_cases e : r = q
                · rw [if_pos e, e]; exact HBIT.out
                · rw [if_neg e, if_pos rfl]; exact HBIT.out
              have hz64 : ∀ j, (swp us r q).getD j 0 < 64 := by
                intro j
                rw [swp_get us (by omega) (by omega)]
                exact HB.out _
              have HZB := Lib.hid hzb
              have HZ64 := Lib.hid hz64
              clear hv2 hzb hz64 HBIT HXQ hbt e5 hx d1 d2 d3 d4 HQ HB HE
              generalize swp us r q = zs at *
              go_wp2
              go_loopw [50] (fun s50 wr => ∃ k : Nat, s50 = .int .i64 k ∧ k ≤ vs.length ∧ VecAt W0 base g cap (elim zs i r k) wr) (fun s50 _ => vs.length - (intOf s50).toNat)
              case atStart => exact ⟨0, rfl, Nat.zero_le _, by rw [elim_zero]; exact hv3⟩
              case round =>
                clear hv3
                obtain ⟨k, rfl, hk, hv4⟩ := hrel
                by_cases hkn : k < vs.length
                · have ck := hv4.cell (j := k) (by rw [elim_len]; omega)
                  have cr := hv4.cell (j := r) (by rw [elim_len]; omega)
                  rw [elim_get _ _ _ _ _ (by omega), if_neg (by omega)] at ck
                  rw [elim_self _ _ _ _ (by omega)] at cr
                  have k2 : (k : Int) < (vs.length : Int) := by omega
                  have k3 : (0 : Int) ≤ (k : Int) := by omega
                  have k4 : ((k : Int)).toNat = k := by omega
                  by_cases hkr : k = r
                  · have b1 : ((k : Int) != (r : Int)) = false := by simp [hkr]
                    have HV5 : Hid (elim zs i r (k + 1) = elim zs i r k) := Lib.hid (elim_skip zs i r k (fun h => h.1 hkr))
                    clear ck cr hkr
                    go_wp2
                    go_quiet (fail)
                    go_wp2
                    go_roundw
                    case rel => exact ⟨k + 1, by go_num, by omega, by rw [HV5.out]; exact hv4.drewN _⟩
                    case measure => simp [intOf]; omega
                  · have b1 : ((k : Int) != (r : Int)) = true := by simp; omega
                    have hx1 := HZ64.out k
                    have hx2 := HZ64.out r
                    have hbn := bit_ne (zs.getD k 0) i hx1 (by omega)
                    by_cases hbit : (zs.getD k 0).testBit i = true
                    · rw [hbit] at hbn
                      have hxo := i64_xor_n (zs.getD k 0) (zs.getD r 0) (by omega) (by omega)
                      have HV5 : Hid (elim zs i r (k + 1) = (elim zs i r k).set k (zs.getD k 0 ^^^ zs.getD r 0)) := Lib.hid (elim_put zs i r k (by omega) ⟨hkr, hbit⟩)
                      have HP := Lib.hid (fun W (h : VecAt W0 base g cap (elim zs i r k) W) => h.put hB k (zs.getD k 0 ^^^ zs.getD r 0))
                      have HXO := Lib.hid hxo
                      clear hbit hxo
                      generalize zs.getD k 0 = x at *
                      generalize zs.getD r 0 = y at *
                      go_wp2
                      go_quiet (fail)
                      go_wp2
                      have hv5 := hv4.drewN nq
                      have ck5 : (wr.drewN nq).cell? ⟨g, k, none⟩ = some (.int .i64 (x : Nat)) := ck
                      have cr5 : (wr.drewN nq).cell? ⟨g, r, none⟩ = some (.int .i64 (y : Nat)) := cr
                      clear hv4 ck cr
                      generalize wr.drewN nq = W5 at *
                      have fk := hv5.own.frozenAt k
                      have r2 : (r : Int) < (vs.length : Int) := by omega
                      have r3 : (0 : Int) ≤ (r : Int) := by omega
                      have r4 : ((r : Int)).toNat = r := by omega
                      go_region
                      all_goals
                        go_wp2
                        go_roundw
                        case rel => exact ⟨k + 1, by go_num, by omega, by rw [HV5.out, HXO.out]; exact (HP.out _ hv5).drew⟩
                        case measure => simp [intOf]; omega
                    · have hbit : (zs.getD k 0).testBit i = false := eq_false_of_ne_true hbit
                      rw [hbit] at hbn
                      have HV5 : Hid (elim zs i r (k + 1) = elim zs i r k) := Lib.hid (elim_skip zs i r k (fun h => by rw [hbit] at h; cases h.2))
                      clear hbit cr
                      generalize zs.getD k 0 = x at *
                      go_wp2
                      go_quiet (fail)
                      go_wp2
                      go_roundw
                      case rel => exact ⟨k + 1, by go_num, by omega, by rw [HV5.out]; exact hv4.drewN _⟩
                      case measure => simp [intOf]; omega
                · obtain rfl : k = vs.length := by omega
                  have HE3 := Lib.hid (EInv.elim hS HE2.out (by omega) HZB.out)
                  rw [hzl] at HE3
                  go_wp2
                  go_roundw
                  case rel => exact ⟨i + 1, r + 1, _, _, by go_num, by go_num, by omega, HE3, by rw [elim_len]; exact hzl, by omega, hv4⟩
                  case measure => simp [intOf]; omega
          · have hbit : (us.getD q 0).testBit i = false := eq_false_of_ne_true hbit
            rw [hbit] at hbt
            have HQ2 : Hid (∀ k, r ≤ k → k < q + 1 → (us.getD k 0).testBit i = false) := Lib.hid (fun k h1 h2 => by
              by_cases e : k = q
              · subst e; exact hbit
              · exact HQ.out k h1 (by omega))
            clear hbit
            generalize us.getD q 0 = x at c0 hx hbt
            go_wp2
            go_quiet (fail)
            go_wp2
            go_roundw
            case rel => exact ⟨q + 1, by go_num, by omega, by omega, HQ2, hv.drewN _⟩
            case measure => simp [intOf]; omega
        · obtain rfl : q = vs.length := by omega
          have d1 : decide (vs.length < vs.length) = false := by simp
          have HE2 : Hid (EInv V (i + 1) us r p) := Lib.hid (HE.out.skip (fun k h1 h2 => HQ.out k h1 (by omega)))
          have e5 : ((vs.length : Int) == (vs.length : Int)) = true := by simp
          go_wp2
          go_quiet (fail)
          go_wp2
          go_roundw
          case rel => exact ⟨i + 1, r, us, p, rfl, by go_num, by omega, HE2, hul, hr, hv.drewN _⟩
          case measure => simp [intOf]; omega
    · obtain rfl : i = nv := by omega
      have d4 : (r : Int) ≤ (cap : Int) := by omega
      go_wp2
      go_ret
      exact ⟨us, r, p, rfl, HE.out, hul, hv⟩
theorem ech_nil (V : Nat → Prop) (nv : Nat) (hnv : nv ≤ 6) (w : World) (hV : ∀ x, V x → Span [] x) :
    Calls Tryz.prog 58 #[.slice none 0 0, .int .i64 nv] w fun e w' => e = .returned (.slice none 0 0) ∧ (∃ p, EInv V nv [] 0 p) ∧ Below w.heap.size w w' := by
  go_enter Tryz.func58, Tryz.ntmps58
  go_wp2
  go_loopw [5, 10] (fun s5 s10 wr => ∃ i : Nat, s5 = .int .i64 0 ∧ s10 = .int .i64 i ∧ i ≤ nv ∧ Below w.heap.size w wr) (fun _ s10 _ => nv - (intOf s10).toNat)
  case atStart => exact ⟨0, rfl, rfl, Nat.zero_le _, Below.refl _ _⟩
  case round =>
    obtain ⟨wo, rfl⟩ : ∃ wo : World, wo = wr := ⟨_, rfl⟩
    obtain ⟨i, rfl, rfl, hi, hb⟩ := hrel
    by_cases hlt : i < nv
    · go_wp2
      refine wp_loop_rounds 1 ?_
      rw [rounds_succ]
      go_wp2
      go_quiet (fail)
      go_wp2
      go_roundw
      case rel => exact ⟨i + 1, rfl, by go_num, by omega, below_drewN hb _⟩
      case measure => simp [intOf]; omega
    · go_wp2
      go_ret
      have hinv : ∀ i, EInv V i [] 0 (fun _ => 0) := by
        intro i
        induction i with
        | zero => exact EInv.start (fun v h => by cases h) hV
        | succ i ih => exact ih.skip (fun k h1 h2 => by simp at h2)
      exact ⟨rfl, ⟨_, hinv nv⟩, hb⟩
end Go.Proofs.Tg
