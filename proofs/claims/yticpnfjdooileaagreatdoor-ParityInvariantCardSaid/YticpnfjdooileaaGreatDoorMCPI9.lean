/- Parts of the proof: WB2, WS2. -/
import Derived.Laws.OwnMore
import Derived.RegionTactic
import Derived.ChangeAlike
import Derived.Deep.DeepCutAuto
import Derived.Test.YticpnfjdooileaaGreatDoorMCPI5
import Derived.Test.YticpnfjdooileaaGreatDoorMCPI7
section
/- Walks: the echelon form. -/
namespace Go.Proofs.Tg
open Go.RowKit Go.Gr Go.Ev
set_option maxHeartbeats 2000000
set_option maxRecDepth 100000
/-- The vectors lie in block g; nothing below B has turned. -/
structure VecAt (W0 : World) (base g cap : Nat) (us : List Nat) (w : World) : Prop where
  own : w.ownsRow base 3 1 (.slice (some ⟨g, 0, none⟩) us.length cap) us.length (us.map vn)
  below : Below W0.heap.size W0 w
theorem VecAt.base_le {W0 w : World} {base g cap : Nat} {us : List Nat} (h : VecAt W0 base g cap us w) : base ≤ g := (h.own.lt g rfl).1
theorem VecAt.cell {W0 w : World} {base g cap : Nat} {us : List Nat} (h : VecAt W0 base g cap us w) {j : Nat} (hj : j < us.length) : w.cell? ⟨g, j, none⟩ = some (.int .i64 (us.getD j 0 : Nat)) := by
  rw [h.own.cellAt j (by omega)]
  simp [hj, vn]
theorem VecAt.drewN {W0 w : World} {base g cap : Nat} {us : List Nat} (h : VecAt W0 base g cap us w) (n : Nat) : VecAt W0 base g cap us (w.drewN n) := ⟨h.own, below_drewN h.below n⟩
theorem VecAt.drew {W0 w : World} {base g cap : Nat} {us : List Nat} (h : VecAt W0 base g cap us w) : VecAt W0 base g cap us w.drew := ⟨h.own, h.below.drew⟩
theorem VecAt.put {W0 w : World} {base g cap : Nat} {us : List Nat} (h : VecAt W0 base g cap us w) (hB : W0.heap.size ≤ base) (j x : Nat) : VecAt W0 base g cap (us.set j x) (w.setCell ⟨g, j, none⟩ (.int .i64 (x : Nat))) := by
  have h1 := (h.own.stored j (.int .i64 (x : Nat))).1
  have e : (us.map vn).set j (.int .i64 (x : Nat)) = (us.set j x).map vn := by rw [List.map_set]; rfl
  rw [e] at h1
  refine ⟨by rw [List.length_set]; exact h1, h.below.setCell (Nat.le_trans hB h.base_le) _⟩
theorem pow_small {i : Nat} (hi : i < 6) : 2 ^ i ≤ 32 := by
  have : 2 ^ i ≤ 2 ^ 5 := Nat.pow_le_pow_right (by omega) (by omega)
  omega
theorem and_pow_zero (x i : Nat) : (x &&& 2 ^ i = 0) ↔ x.testBit i = false := by
  constructor
  · intro h
    have := congrArg (fun z => Nat.testBit z i) h
    simp only [Nat.testBit_and, Nat.testBit_two_pow_self, Bool.and_true, Nat.zero_testBit] at this
    exact this
  · intro h
    refine Nat.eq_of_testBit_eq fun b => ?_
    rw [Nat.testBit_and, Nat.testBit_two_pow, Nat.zero_testBit]
    by_cases e : i = b
    · subst e; rw [h]; rfl
    · simp [e]
theorem wrap_two (i : Nat) (hi : i < 6) : wrap64 ((2 : Int) ^ i) = ((2 ^ i : Nat) : Int) := by
  have e : (2 : Int) ^ i = ((2 ^ i : Nat) : Int) := by simp
  rw [e, wrap64_nat _ (by have := pow_small hi; omega)]
theorem bit_eq (x i : Nat) (hx : x < 64) (hi : i < 6) : (bits BinOp.and IntKind.i64 (x : Int) (wrap64 (2 ^ i)) == 0) = !x.testBit i := by
  rw [wrap_two i hi, i64_and_n _ _ (by omega) (by have := pow_small hi; omega)]
  have := and_pow_zero x i
  cases h : x.testBit i with
  | true =>
    have : x &&& 2 ^ i ≠ 0 := fun e => by rw [this.1 e] at h; cases h
    simp; omega
  | false => rw [this.2 h]; rfl
theorem bit_ne (x i : Nat) (hx : x < 64) (hi : i < 6) : (bits BinOp.and IntKind.i64 (x : Int) (wrap64 (2 ^ i)) != 0) = x.testBit i := by
  rw [bne, bit_eq x i hx hi, Bool.not_not]
theorem ech_pos (V : Nat → Prop) (nv : Nat) (hS : Space V nv) (hnv : nv ≤ 6) (vs : List Nat) (hV : ∀ v ∈ vs, V v) (hsp : ∀ x, V x → Span vs x) (hl : vs.length ≤ 64) (W0 : World) (base g cap : Nat) (w : World) (hB : W0.heap.size ≤ base) (hA : VecAt W0 base g cap vs w) :
    Calls Tryz.prog 28 #[.slice (some ⟨g, 0, none⟩) vs.length cap, .int .i64 nv] w fun e w' => ∃ us r p, e = .returned (.slice (some ⟨g, 0, none⟩) r cap) ∧ EInv V nv us r p ∧ us.length = vs.length ∧ VecAt W0 base g cap us w' := by
  have hcap : vs.length ≤ cap := by
    rcases hA.own.2 with ⟨h, _⟩ | ⟨g', c', cur, h, _, _, hc, _⟩
    · cases h
    · injection h with h1 h2 h3; omega
  go_enter Tryz.func28, Tryz.ntmps28
  go_wp2
  go_loopw [5, 10] (fun s5 s10 wr => ∃ (i r : Nat) (us : List Nat) (p : Nat → Nat), s5 = .int .i64 r ∧ s10 = .int .i64 i ∧ i ≤ nv ∧ Hid (EInv V i us r p) ∧ us.length = vs.length ∧ r ≤ vs.length ∧ VecAt W0 base g cap us wr) (fun _ s10 _ => nv - (intOf s10).toNat)
  case atStart => exact ⟨0, 0, vs, fun _ => 0, rfl, rfl, Nat.zero_le _, Lib.hid (EInv.start hV hsp), rfl, Nat.zero_le _, hA⟩
  case round =>
    obtain ⟨wo, rfl⟩ : ∃ wo : World, wo = wr := ⟨_, rfl⟩
    obtain ⟨i, r, us, p, rfl, rfl, hi, HE, hul, hr, hv⟩ := hrel
    have hb64 : ∀ j, us.getD j 0 < 64 := by
      intro j
      rcases Nat.lt_or_ge j us.length with h | h
      · have := hS.lt _ (HE.out.hV _ (mem_getD.2 ⟨j, h, rfl⟩))
        have h6 : 2 ^ nv ≤ 2 ^ 6 := Nat.pow_le_pow_right (by omega) hnv
        omega
      · rw [List.getD_eq_getElem?_getD, List.getElem?_eq_none h]; decide
    have HB := Lib.hid hb64
    clear hb64 hA
    by_cases hlt : i < nv
    · go_wp2
      go_loopw [7] (fun s7 wr => ∃ q : Nat, s7 = .int .i64 q ∧ r ≤ q ∧ q ≤ vs.length ∧ Hid (∀ k, r ≤ k → k < q → (us.getD k 0).testBit i = false) ∧ VecAt W0 base g cap us wr) (fun s7 _ => vs.length - (intOf s7).toNat)
      case atStart => exact ⟨r, rfl, Nat.le_refl _, hr, Lib.hid (fun k h1 h2 => absurd h1 (by omega)), hv⟩
      case round =>
        clear hv
        obtain ⟨q, rfl, hq1, hq2, HQ, hv⟩ := hrel
        have p1 : 2 ^ i ≤ 32 := pow_small (by omega)
        by_cases hqn : q < vs.length
        · have c0 := hv.cell (j := q) (by omega)
          have hx := HB.out q
          have d1 : decide (q < vs.length) = true := by simp; omega
          have d2 : (q : Int) < (vs.length : Int) := by omega
          have d3 : (0 : Int) ≤ (q : Int) := by omega
          have d4 : ((q : Int)).toNat = q := by omega
          have hbt := bit_eq (us.getD q 0) i hx (by omega)
          by_cases hbit : (us.getD q 0).testBit i = true
          · rw [hbit] at hbt
            have HBIT := Lib.hid hbit
            have e5 : ((q : Int) == (vs.length : Int)) = false := by simp; omega
            have HXX : Hid (us.getD q 0 = us.getD q 0) := Lib.hid rfl
            clear hbit
            generalize hxx : us.getD q 0 = x at c0 hx hbt
            have HXQ := Lib.hid hxx
            clear hxx HXX
            go_wp2
            go_quiet (fail)
            go_wp2
            have hv2 := hv.drewN nq
            clear hv c0
            generalize wr.drewN nq = W at *
            have HE2 := Lib.hid (HE.out.swap hq1 (by omega))
            have hrn : r < vs.length := by omega
            go_cut [5] (fun s5 wx => s5 = .int .i64 r ∧ VecAt W0 base g cap (swp us r q) wx)
            case first =>
              have c1 := hv2.cell (j := r) (by omega)
              have c2 := hv2.cell (j := q) (by omega)
              have f1 := hv2.own.frozenAt r
              have f2 := hv2.own.frozenAt q
              have r2 : (r : Int) < (vs.length : Int) := by omega
              have r3 : (0 : Int) ≤ (r : Int) := by omega
              have r4 : ((r : Int)).toNat = r := by omega
              have hxr := HB.out r
              have HSW : Hid (swp us r q = (us.set r (us.getD q 0)).set q (us.getD r 0)) := Lib.hid rfl
              have hv3 := ((hv2.put hB r (us.getD q 0)).put hB q (us.getD r 0)).drew
              have HV3 := Lib.hid hv3
              clear hv3 hv2
              generalize us.getD r 0 = y at *
              rw [HXQ.out] at c2 HSW HV3
              by_cases hne : r = q
              · subst hne
                obtain rfl : x = y := by
                  rw [c1] at c2
                  have : (x : Int) = (y : Int) := by simpa using c2.symm
                  omega
                go_region
                all_goals
                  go_wp2_with fail
                  go_meet
                  exact ⟨rfl, by rw [HSW.out]; exact HV3.out⟩
              · have hne' : ¬ q = r := fun e => hne e.symm
                go_region
                all_goals
                  go_wp2_with fail
                  go_meet
                  exact ⟨rfl, by rw [HSW.out]; exact HV3.out⟩
            case rest =>
              obtain ⟨rfl, hv3⟩ := hcut
              have hzl : (swp us r q).length = vs.length := by rw [swp_len]; exact hul
              have hzb : ((swp us r q).getD r 0).testBit i = true := by
                have := swp_get us (r := r) (q := q) (by omega) (by omega) r
                rw [this]
                by_cases e : r = q
                · rw [if_pos e, e]; exact HBIT.out
                · rw [if_neg e, if_pos rfl]; exact HBIT.out
              have hz64 : ∀ j, (swp us r q).getD j 0 < 64 := by
                intro j
                rw [swp_get us (by omega) (by omega)]
                exact HB.out _
              have HZB := Lib.hid hzb
              have HZ64 := Lib.hid hz64
              clear hv2 hzb hz64 HBIT HXQ hbt e5 hx d1 d2 d3 d4 HQ HB HE
              generalize swp us r q = zs at *
              go_wp2
              go_loopw [50] (fun s50 wr => ∃ k : Nat, s50 = .int .i64 k ∧ k ≤ vs.length ∧ VecAt W0 base g cap (elim zs i r k) wr) (fun s50 _ => vs.length - (intOf s50).toNat)
              case atStart => exact ⟨0, rfl, Nat.zero_le _, by rw [elim_zero]; exact hv3⟩
              case round =>
                clear hv3
                obtain ⟨k, rfl, hk, hv4⟩ := hrel
                by_cases hkn : k < vs.length
                · have ck := hv4.cell (j := k) (by rw [elim_len]; omega)
                  have cr := hv4.cell (j := r) (by rw [elim_len]; omega)
                  rw [elim_get _ _ _ _ _ (by omega), if_neg (by omega)] at ck
                  rw [elim_self _ _ _ _ (by omega)] at cr
                  have k2 : (k : Int) < (vs.length : Int) := by omega
                  have k3 : (0 : Int) ≤ (k : Int) := by omega
                  have k4 : ((k : Int)).toNat = k := by omega
                  by_cases hkr : k = r
                  · have b1 : ((k : Int) != (r : Int)) = false := by simp [hkr]
                    have HV5 : Hid (elim zs i r (k + 1) = elim zs i r k) := Lib.hid (elim_skip zs i r k (fun h => h.1 hkr))
                    clear ck cr hkr
                    go_wp2
                    go_quiet (fail)
                    go_wp2
                    go_roundw
                    case rel => exact ⟨k + 1, by go_num, by omega, by rw [HV5.out]; exact hv4.drewN _⟩
                    case measure => simp [intOf]; omega
                  · have b1 : ((k : Int) != (r : Int)) = true := by simp; omega
                    have hx1 := HZ64.out k
                    have hx2 := HZ64.out r
                    have hbn := bit_ne (zs.getD k 0) i hx1 (by omega)
                    by_cases hbit : (zs.getD k 0).testBit i = true
                    · rw [hbit] at hbn
                      have hxo := i64_xor_n (zs.getD k 0) (zs.getD r 0) (by omega) (by omega)
                      have HV5 : Hid (elim zs i r (k + 1) = (elim zs i r k).set k (zs.getD k 0 ^^^ zs.getD r 0)) := Lib.hid (elim_put zs i r k (by omega) ⟨hkr, hbit⟩)
                      have HP := Lib.hid (fun W (h : VecAt W0 base g cap (elim zs i r k) W) => h.put hB k (zs.getD k 0 ^^^ zs.getD r 0))
                      have HXO := Lib.hid hxo
                      clear hbit hxo
                      generalize zs.getD k 0 = x at *
                      generalize zs.getD r 0 = y at *
                      go_wp2
                      go_quiet (fail)
                      go_wp2
                      have hv5 := hv4.drewN nq
                      have ck5 : (wr.drewN nq).cell? ⟨g, k, none⟩ = some (.int .i64 (x : Nat)) := ck
                      have cr5 : (wr.drewN nq).cell? ⟨g, r, none⟩ = some (.int .i64 (y : Nat)) := cr
                      clear hv4 ck cr
                      generalize wr.drewN nq = W5 at *
                      have fk := hv5.own.frozenAt k
                      have r2 : (r : Int) < (vs.length : Int) := by omega
                      have r3 : (0 : Int) ≤ (r : Int) := by omega
                      have r4 : ((r : Int)).toNat = r := by omega
                      go_region
                      all_goals
                        go_wp2
                        go_roundw
                        case rel => exact ⟨k + 1, by go_num, by omega, by rw [HV5.out, HXO.out]; exact (HP.out _ hv5).drew⟩
                        case measure => simp [intOf]; omega
                    · have hbit : (zs.getD k 0).testBit i = false := eq_false_of_ne_true hbit
                      rw [hbit] at hbn
                      have HV5 : Hid (elim zs i r (k + 1) = elim zs i r k) := Lib.hid (elim_skip zs i r k (fun h => by rw [hbit] at h; cases h.2))
                      clear hbit cr
                      generalize zs.getD k 0 = x at *
                      go_wp2
                      go_quiet (fail)
                      go_wp2
                      go_roundw
                      case rel => exact ⟨k + 1, by go_num, by omega, by rw [HV5.out]; exact hv4.drewN _⟩
                      case measure => simp [intOf]; omega
                · obtain rfl : k = vs.length := by omega
                  have HE3 := Lib.hid (EInv.elim hS HE2.out (by omega) HZB.out)
                  rw [hzl] at HE3
                  go_wp2
                  go_roundw
                  case rel => exact ⟨i + 1, r + 1, _, _, by go_num, by go_num, by omega, HE3, by rw [elim_len]; exact hzl, by omega, hv4⟩
                  case measure => simp [intOf]; omega
          · have hbit : (us.getD q 0).testBit i = false := eq_false_of_ne_true hbit
            rw [hbit] at hbt
            have HQ2 : Hid (∀ k, r ≤ k → k < q + 1 → (us.getD k 0).testBit i = false) := Lib.hid (fun k h1 h2 => by
              by_cases e : k = q
              · subst e; exact hbit
              · exact HQ.out k h1 (by omega))
            clear hbit
            generalize us.getD q 0 = x at c0 hx hbt
            go_wp2
            go_quiet (fail)
            go_wp2
            go_roundw
            case rel => exact ⟨q + 1, by go_num, by omega, by omega, HQ2, hv.drewN _⟩
            case measure => simp [intOf]; omega
        · obtain rfl : q = vs.length := by omega
          have d1 : decide (vs.length < vs.length) = false := by simp
          have HE2 : Hid (EInv V (i + 1) us r p) := Lib.hid (HE.out.skip (fun k h1 h2 => HQ.out k h1 (by omega)))
          have e5 : ((vs.length : Int) == (vs.length : Int)) = true := by simp
          go_wp2
          go_quiet (fail)
          go_wp2
          go_roundw
          case rel => exact ⟨i + 1, r, us, p, rfl, by go_num, by omega, HE2, hul, hr, hv.drewN _⟩
          case measure => simp [intOf]; omega
    · obtain rfl : i = nv := by omega
      have d4 : (r : Int) ≤ (cap : Int) := by omega
      go_wp2
      go_ret
      exact ⟨us, r, p, rfl, HE.out, hul, hv⟩
theorem ech_nil (V : Nat → Prop) (nv : Nat) (hnv : nv ≤ 6) (w : World) (hV : ∀ x, V x → Span [] x) :
    Calls Tryz.prog 28 #[.slice none 0 0, .int .i64 nv] w fun e w' => e = .returned (.slice none 0 0) ∧ (∃ p, EInv V nv [] 0 p) ∧ Below w.heap.size w w' := by
  go_enter Tryz.func28, Tryz.ntmps28
  go_wp2
  go_loopw [5, 10] (fun s5 s10 wr => ∃ i : Nat, s5 = .int .i64 0 ∧ s10 = .int .i64 i ∧ i ≤ nv ∧ Below w.heap.size w wr) (fun _ s10 _ => nv - (intOf s10).toNat)
  case atStart => exact ⟨0, rfl, rfl, Nat.zero_le _, Below.refl _ _⟩
  case round =>
    obtain ⟨wo, rfl⟩ : ∃ wo : World, wo = wr := ⟨_, rfl⟩
    obtain ⟨i, rfl, rfl, hi, hb⟩ := hrel
    by_cases hlt : i < nv
    · go_wp2
      refine wp_loop_rounds 1 ?_
      rw [rounds_succ]
      go_wp2
      go_quiet (fail)
      go_wp2
      go_roundw
      case rel => exact ⟨i + 1, rfl, by go_num, by omega, below_drewN hb _⟩
      case measure => simp [intOf]; omega
    · go_wp2
      go_ret
      have hinv : ∀ i, EInv V i [] 0 (fun _ => 0) := by
        intro i
        induction i with
        | zero => exact EInv.start (fun v h => by cases h) hV
        | succ i ih => exact ih.skip (fun k h1 h2 => by simp at h2)
      exact ⟨rfl, ⟨_, hinv nv⟩, hb⟩
end Go.Proofs.Tg
end
section
/- Walks: the parts of a number's text. -/
namespace Go.Proofs.Tg
open Go.RowKit Go.Qn
set_option maxHeartbeats 1000000
set_option maxRecDepth 100000
/-- The parts that a call returns. -/
def RetSplit (l : List UInt8) (w : World) (e : Ending) (w' : World) : Prop :=
  ∃ b num den ok, e = .returned (.tuple #[.agg #[.bool b, .string (bs num), .string (bs den)], .bool ok]) ∧ SplitIs l b num den ok ∧ Below w.heap.size w w'
theorem bs_head {l : List UInt8} (h : 0 < (bs l).size) : (bs l)[0] = l.head (by rintro rfl; exact absurd h (by decide)) := by
  cases l with
  | nil => exact absurd h (by decide)
  | cons c t => rfl
theorem bs_toList (l : List UInt8) : (bs l).toList = l := by rw [Lib.toList_data, bs_data]
theorem bs_pos {l : List UInt8} (h : l ≠ []) : 0 < (bs l).size := by rw [bs_size]; exact List.length_pos_iff.2 h
theorem split_fin {l num den : List UInt8} {b ok : Bool} {N D : ByteArray} {w w' : World} (hN : bs num = N) (hD : bs den = D) (h : SplitIs l b num den ok) (hb : Below w.heap.size w w') :
    RetSplit l w (.returned (.tuple #[.agg #[.bool b, .string N, .string D], .bool ok])) w' := by
  subst hN hD
  exact ⟨b, num, den, ok, rfl, h, hb⟩
theorem bs_nil : bs [] = ByteArray.empty := rfl
theorem of_head {l : List UInt8} {N : ByteArray} (hN : bs l = N) {h : 0 < N.size} {c : UInt8} (k : (((N[0]).toNat : Int) == (c.toNat : Int)) = true) : l.head? = some c := by
  subst hN
  cases l with
  | nil => exact absurd h (by decide)
  | cons x t =>
    have e : (x.toNat : Int) = (c.toNat : Int) := eq_of_beq k
    have : x = c := UInt8.toNat_inj.1 (by omega)
    rw [this]; rfl
theorem of_not_head {l : List UInt8} {N : ByteArray} (hN : bs l = N) {h : 0 < N.size} {c : UInt8} (k : (((N[0]).toNat : Int) == (c.toNat : Int)) = false) : l.head? ≠ some c := by
  subst hN
  cases l with
  | nil => simp
  | cons x t =>
    have e : ¬ (x.toNat : Int) = (c.toNat : Int) := ne_of_beq_false k
    simp only [List.head?_cons, ne_eq, Option.some.injEq]
    rintro rfl
    exact e rfl
set_option maxHeartbeats 4000000 in
theorem split_any (s : ByteArray) (w : World) (hs : s.size ≤ 64) :
    Calls Tryz.prog 61 #[.string s] w (RetSplit s.data.toList w) := by
  obtain ⟨b, r, hc⟩ : ∃ b r, cut s.data.toList = (b, r) := ⟨_, _, rfl⟩
  have HC : Hid (∀ W, Calls Tryz.prog 75 #[.string s, .string ⟨#[45]⟩] W fun e w' => e = .returned (.tuple #[.string (bs r), .bool b]) ∧ W = w') := Lib.hid (fun W => by
    have := cutp_any s W hs
    rwa [hc] at this)
  have hrl : r.length ≤ 64 := by
    have := (spl_len hc).2
    rw [len_size] at this; omega
  obtain ⟨N, hN⟩ : ∃ N, bs (r.takeWhile isD) = N := ⟨_, rfl⟩
  obtain ⟨R, hR⟩ : ∃ R, bs (r.dropWhile isD) = R := ⟨_, rfl⟩
  have HD : Hid (∀ W, Calls Tryz.prog 76 #[.string (bs r)] W fun e w' => e = .returned (.tuple #[.string N, .string R]) ∧ Below W.heap.size W w') := Lib.hid (fun W => by
    have := digits_any (bs r) W (by rw [bs_size]; exact hrl)
    rwa [bs_data, hN, hR] at this)
  have HN := Lib.hid hN
  have HR := Lib.hid hR
  have Hc := Lib.hid hc
  clear hN hR hc
  go_enter Tryz.func61, Tryz.ntmps61
  go_wp2_with (go_at_call 75; refine (HC.out _).mono ?_; rintro e w' ⟨rfl, rfl⟩)
  with_reducible refine (HD.out _).mono ?_
  rintro e w1 ⟨rfl, hb1⟩
  have B4 : Blk w1 (w.heap.size + 1) 107 #[.bool b, .string ByteArray.empty, .string ByteArray.empty] := by
    have := (Blk.new (w.alloc (.cells #[.bool false, .string ByteArray.empty, .string ByteArray.empty] 107)) 107 #[.bool b, .string ByteArray.empty, .string ByteArray.empty]).keep hb1 (by simp)
    simpa using this
  have B2 : Blk w1 w.heap.size 107 #[.bool false, .string ByteArray.empty, .string ByteArray.empty] :=
    ((Blk.new w 107 #[.bool false, .string ByteArray.empty, .string ByteArray.empty]).alloc _).keep hb1 (by simp; omega)
  have hbw : Below w.heap.size w w1 := (((Below.refl _ _).alloc (Nat.le_refl _) _).alloc (by simp) _).trans (hb1.mono (by simp; omega))
  have hz : w.heap.size + 1 < w1.heap.size := B4.lt
  have HB4 := Lib.hid B4
  have HB2 := Lib.hid B2
  have c0 := B4.cell 0
  have c1 := B4.cell 1
  have c2 := B4.cell 2
  have f0 := B4.frozen 0
  have f1 := B4.frozen 1
  have f2 := B4.frozen 2
  have d0 := B2.cell 0
  have d1 := B2.cell 1
  have d2 := B2.cell 2
  have e0 := B2.frozen 0
  have e1 := B2.frozen 1
  have e2 := B2.frozen 2
  clear hb1 B4 B2
  simp at c0 c1 c2 d0 d1 d2
  go_wp2_with (fail)
  · have t1 : (N.toList == [48]) = true := by assumption
    have t2 : b = true := by assumption
    subst t2
    refine bodyPost_ret (v := .tuple #[.agg #[.bool true, .string N, .string ByteArray.empty], .bool false]) (by simp [results, Tryz.results61, go_sem, d0, d1, d2]) rfl (split_fin HN.out bs_nil (spl_zero Hc.out ?_) ?_)
    · rw [← bs_toList (r.takeWhile isD), HN.out]; simpa using t1
    · exact (((hbw.setCell (by simp) _).setCell (by simp) _).setCell (by simp) _).setCell (by simp) _
  · have t1 : (N.toList == [48]) = true := by assumption
    have t2 : ¬ b = true := by assumption
    obtain rfl : b = false := eq_false_of_ne_true t2
    refine bodyPost_ret (v := .tuple #[.agg #[.bool false, .string N, .string ByteArray.empty], .bool R.toList.isEmpty]) (by simp [results, Tryz.results61, go_sem, d0, d1, d2]) rfl (split_fin HN.out bs_nil ?_ ?_)
    · have := spl_zero Hc.out (by rw [← bs_toList (r.takeWhile isD), HN.out]; simpa using t1)
      rw [← HR.out, bs_toList]
      simpa using this
    · exact (((hbw.setCell (by simp) _).setCell (by simp) _).setCell (by simp) _).setCell (by simp) _
  · have t1 : (N.toList == [48]) = false := by assumption
    have t2 : N.toList = [] := by assumption
    refine bodyPost_ret (v := .tuple #[.agg #[.bool b, .string N, .string ByteArray.empty], .bool false]) (by simp [results, Tryz.results61, go_sem, d0, d1, d2]) rfl (split_fin HN.out bs_nil (spl_bad Hc.out ?_ (.inl ?_)) ?_)
    · rw [← bs_toList (r.takeWhile isD), HN.out]; simpa using t1
    · rw [← bs_toList (r.takeWhile isD), HN.out]; exact t2
    · exact (((hbw.setCell (by simp) _).setCell (by simp) _).setCell (by simp) _).setCell (by simp) _
  · have t1 : (N.toList == [48]) = false := by assumption
    have t3 : ¬ N.toList = [] := by assumption
    have t4 : 0 < N.size := by assumption
    have t2 : N.toList.isEmpty = true ∨ ((N[0].toNat : Int) == 48) = true := by assumption
    refine bodyPost_ret (v := .tuple #[.agg #[.bool b, .string N, .string ByteArray.empty], .bool false]) (by simp [results, Tryz.results61, go_sem, d0, d1, d2]) rfl (split_fin HN.out bs_nil (spl_bad Hc.out ?_ (.inr ?_)) ?_)
    · rw [← bs_toList (r.takeWhile isD), HN.out]; simpa using t1
    · rcases t2 with t2 | t2
      · exact absurd (List.isEmpty_iff.1 t2) t3
      · exact of_head HN.out (c := 48) t2
    · exact (((hbw.setCell (by simp) _).setCell (by simp) _).setCell (by simp) _).setCell (by simp) _
  · have t1 : (N.toList == [48]) = false := by assumption
    have t3 : ¬ N.toList = [] := by assumption
    have t4 : 0 < N.size := by assumption
    have t2 : N.toList.isEmpty = false ∧ ((N[0].toNat : Int) == 48) = false := by assumption
    have t5 : R.toList.isEmpty = true := by assumption
    refine bodyPost_ret (v := .tuple #[.agg #[.bool b, .string N, .string ByteArray.empty], .bool true]) (by simp [results, Tryz.results61, go_sem, d0, d1, d2]) rfl (split_fin HN.out bs_nil (spl_whole Hc.out ?_ ?_ ?_) ?_)
    · rw [← bs_toList (r.takeWhile isD), HN.out]; simpa using t1
    · rintro (h | h)
      · exact t3 (by rw [← HN.out, bs_toList]; exact h)
      · exact of_not_head HN.out (c := 48) t2.2 h
    · rw [← bs_toList (r.dropWhile isD), HR.out]; exact List.isEmpty_iff.1 t5
    · exact (((hbw.setCell (by simp) _).setCell (by simp) _).setCell (by simp) _).setCell (by simp) _
  · have t1 : (N.toList == [48]) = false := by assumption
    have t3 : ¬ N.toList = [] := by assumption
    have t4 : 0 < N.size := by assumption
    have t2 : N.toList.isEmpty = false ∧ ((N[0].toNat : Int) == 48) = false := by assumption
    have t5 : R.toList.isEmpty = false := by assumption
    have t6 : 0 < R.size := by assumption
    have t7 : ((R[0].toNat : Int) != 47) = true := by assumption
    have hR : r.dropWhile isD = R.toList := by rw [← HR.out, bs_toList]
    obtain ⟨c, t, hct⟩ : ∃ c t, r.dropWhile isD = c :: t := by
      cases hh : r.dropWhile isD with
      | nil => rw [hh] at hR; rw [← hR] at t5; cases t5
      | cons c t => exact ⟨c, t, rfl⟩
    refine bodyPost_ret (v := .tuple #[.agg #[.bool b, .string N, .string ByteArray.empty], .bool false]) (by simp [results, Tryz.results61, go_sem, d0, d1, d2]) rfl (split_fin HN.out bs_nil (spl_slash Hc.out ?_ ?_ hct ?_) ?_)
    · rw [← bs_toList (r.takeWhile isD), HN.out]; simpa using t1
    · rintro (h | h)
      · exact t3 (by rw [← HN.out, bs_toList]; exact h)
      · exact of_not_head HN.out (c := 48) t2.2 h
    · have := of_not_head HR.out (c := 47) (h := t6) (by simpa using t7)
      rw [hct] at this
      simpa using this
    · exact (((hbw.setCell (by simp) _).setCell (by simp) _).setCell (by simp) _).setCell (by simp) _
  · have t1 : (N.toList == [48]) = false := by assumption
    have t3 : ¬ N.toList = [] := by assumption
    have t4 : 0 < N.size := by assumption
    have t2 : N.toList.isEmpty = false ∧ ((N[0].toNat : Int) == 48) = false := by assumption
    have t5 : R.toList.isEmpty = false := by assumption
    have t6 : 0 < R.size := by assumption
    have t7 : ((R[0].toNat : Int) != 47) = false := by assumption
    have hR : r.dropWhile isD = R.toList := by rw [← HR.out, bs_toList]
    obtain ⟨t, hct⟩ : ∃ t, r.dropWhile isD = 47 :: t := by
      have := of_head HR.out (c := 47) (h := t6) (by simpa using t7)
      cases hh : r.dropWhile isD with
      | nil => rw [hh] at this; cases this
      | cons c t => rw [hh] at this; injection this with this; subst this; exact ⟨t, rfl⟩
    have hext : R.extract 1 R.size = bs t := by rw [ext_end, ← HR.out, bs_data, hct]; rfl
    have htl : t.length ≤ 64 := by
      have a2 := dw_len isD r
      rw [hct, List.length_cons] at a2
      omega
    obtain ⟨D, hD⟩ : ∃ D, bs (t.takeWhile isD) = D := ⟨_, rfl⟩
    obtain ⟨R2, hR2⟩ : ∃ R, bs (t.dropWhile isD) = R := ⟨_, rfl⟩
    have HD2 : Hid (∀ W, Calls Tryz.prog 76 #[.string (R.extract 1 R.size)] W fun e w' => e = .returned (.tuple #[.string D, .string R2]) ∧ Below W.heap.size W w') := Lib.hid (fun W => by
      have := digits_any (bs t) W (by rw [bs_size]; exact htl)
      rwa [bs_data, hD, hR2, ← hext] at this)
    have HDD := Lib.hid hD
    have HR2 := Lib.hid hR2
    have Hct := Lib.hid hct
    have T1 := Lib.hid t1
    have T2 := Lib.hid t2
    clear hD hR2 hct hR hext t1 t2 t7
    with_reducible refine (HD2.out _).mono ?_
    rintro e w2 ⟨rfl, hb2⟩
    have B4 : Blk w2 (w.heap.size + 1) 107 #[.bool b, .string N, .string ByteArray.empty] := (HB4.out.set 1 (.string N)).keep hb2 (by simp; omega)
    have B2 : Blk w2 w.heap.size 107 #[.bool false, .string ByteArray.empty, .string ByteArray.empty] := (HB2.out.far (p := ⟨w.heap.size + 1, 1, none⟩) (by simp) (.string N)).keep hb2 (by simp; omega)
    have hbw2 : Below w.heap.size w w2 := (hbw.setCell (p := ⟨w.heap.size + 1, 1, none⟩) (by simp) (.string N)).trans (hb2.mono (by simp; omega))
    have hz2 : w.heap.size + 1 < w2.heap.size := B4.lt
    clear c0 c1 c2 d0 d1 d2 e0 e1 e2 f0 f1 f2 hb2 hz HB4 HB2 hbw
    have c0 := B4.cell 0
    have c1 := B4.cell 1
    have c2 := B4.cell 2
    have f0 := B4.frozen 0
    have f1 := B4.frozen 1
    have f2 := B4.frozen 2
    have d0 := B2.cell 0
    have d1 := B2.cell 1
    have d2 := B2.cell 2
    have e0 := B2.frozen 0
    have e1 := B2.frozen 1
    have e2 := B2.frozen 2
    clear B4 B2
    simp at c0 c1 c2 d0 d1 d2
    have fin : ∀ (ok : Bool) (w' : World), (ok = true ↔ t.dropWhile isD = [] ∧ t.takeWhile isD ≠ [] ∧ (t.takeWhile isD).head? ≠ some 48 ∧ t.takeWhile isD ≠ [49]) → Below w.heap.size w w' →
        RetSplit s.data.toList w (.returned (.tuple #[.agg #[.bool b, .string N, .string D], .bool ok])) w' := by
      intro ok w' hok hb
      refine split_fin HN.out HDD.out (spl_den Hc.out ?_ ?_ Hct.out hok) hb
      · rw [← bs_toList (r.takeWhile isD), HN.out]; simpa using T1.out
      · rintro (h | h)
        · exact t3 (by rw [← HN.out, bs_toList]; exact h)
        · exact of_not_head HN.out (c := 48) T2.out.2 h
    have FIN := Lib.hid fin
    clear fin
    have hRl : R2.toList = t.dropWhile isD := by rw [← HR2.out, bs_toList]
    have hDl : D.toList = t.takeWhile isD := by rw [← HDD.out, bs_toList]
    have HRl := Lib.hid hRl
    have HDl := Lib.hid hDl
    clear hRl hDl
    go_wp2
    by_cases r2 : R2.toList.isEmpty = true
    · have r2' : R2.toList = [] := List.isEmpty_iff.1 r2
      by_cases r3 : D.toList.isEmpty = true
      · have r3' : D.toList = [] := List.isEmpty_iff.1 r3
        go_region
        all_goals
          try go_wp2
          refine bodyPost_ret (v := .tuple #[.agg #[.bool b, .string N, .string D], .bool false]) (by simp [results, Tryz.results61, go_sem, d0, d1, d2]) rfl (FIN.out _ _ ?_ ?_)
          · rw [← HRl.out, ← HDl.out, r3']; simp
          · exact below_drewN ((((hbw2.setCell (by simp) _).setCell (by simp) _).setCell (by simp) _).setCell (by simp) _) 1
      · have r3 : D.toList.isEmpty = false := eq_false_of_ne_true r3
        have r3' : ¬ D.toList = [] := fun e => by rw [e] at r3; cases r3
        have r4 : 0 < D.size := by
          rw [← HDD.out]; exact bs_pos (fun e => r3' (by rw [HDl.out]; exact e))
        by_cases r5 : ((D[0].toNat : Int) != 48) = true
        · have r5' : (t.takeWhile isD).head? ≠ some 48 := of_not_head HDD.out (c := 48) (h := r4) (by simpa using r5)
          have R5 := Lib.hid r5'
          clear r5'
          by_cases r6 : (D.toList != [49]) = true
          · skip
            go_region
            all_goals
              try go_wp2
              refine bodyPost_ret (v := .tuple #[.agg #[.bool b, .string N, .string D], .bool true]) (by simp [results, Tryz.results61, go_sem, d0, d1, d2]; simpa using r6) rfl (FIN.out _ _ ?_ ?_)
              · rw [← HRl.out, ← HDl.out]; exact iff_of_true rfl ⟨r2', r3', by rw [HDl.out]; exact R5.out, by simpa using r6⟩
              · exact below_drewN ((((hbw2.setCell (by simp) _).setCell (by simp) _).setCell (by simp) _).setCell (by simp) _) 1
          · have r6 : (D.toList != [49]) = false := eq_false_of_ne_true r6
            go_region
            all_goals
              try go_wp2
              refine bodyPost_ret (v := .tuple #[.agg #[.bool b, .string N, .string D], .bool false]) (by simp [results, Tryz.results61, go_sem, d0, d1, d2]; simpa using r6) rfl (FIN.out _ _ ?_ ?_)
              · rw [← HRl.out, ← HDl.out]; exact iff_of_false (by decide) (fun h => h.2.2.2 (by simpa using r6))
              · exact below_drewN ((((hbw2.setCell (by simp) _).setCell (by simp) _).setCell (by simp) _).setCell (by simp) _) 1
        · have r5 : ((D[0].toNat : Int) != 48) = false := eq_false_of_ne_true r5
          have r5' : (t.takeWhile isD).head? = some 48 := of_head HDD.out (c := 48) (h := r4) (by simpa using r5)
          have R5 := Lib.hid r5'
          clear r5'
          go_region
          all_goals
            try go_wp2
            refine bodyPost_ret (v := .tuple #[.agg #[.bool b, .string N, .string D], .bool false]) (by simp [results, Tryz.results61, go_sem, d0, d1, d2]) rfl (FIN.out _ _ ?_ ?_)
            · rw [← HRl.out, ← HDl.out]; exact iff_of_false (by decide) (fun h => h.2.2.1 (by rw [HDl.out]; exact R5.out))
            · exact below_drewN ((((hbw2.setCell (by simp) _).setCell (by simp) _).setCell (by simp) _).setCell (by simp) _) 1
    · have r2 : R2.toList.isEmpty = false := eq_false_of_ne_true r2
      have r2' : ¬ R2.toList = [] := fun e => by rw [e] at r2; cases r2
      go_region
      all_goals
        try go_wp2
        refine bodyPost_ret (v := .tuple #[.agg #[.bool b, .string N, .string D], .bool false]) (by simp [results, Tryz.results61, go_sem, d0, d1, d2]) rfl (FIN.out _ _ ?_ ?_)
        · rw [← HRl.out]; simp [r2']
        · exact below_drewN ((((hbw2.setCell (by simp) _).setCell (by simp) _).setCell (by simp) _).setCell (by simp) _) 1
  · have t5 : R.toList.isEmpty = false := by assumption
    have t6 : ¬ 0 < R.size := by assumption
    have hR : r.dropWhile isD = R.toList := by rw [← HR.out, bs_toList]
    have : R.size = (r.dropWhile isD).length := by rw [← HR.out, bs_size]
    have h0 : r.dropWhile isD = [] := List.eq_nil_of_length_eq_zero (by omega)
    rw [← hR, h0] at t5; cases t5
  · have t5 : ¬ N.toList = [] := by assumption
    have t6 : ¬ 0 < N.size := by assumption
    have hR : r.takeWhile isD = N.toList := by rw [← HN.out, bs_toList]
    have : N.size = (r.takeWhile isD).length := by rw [← HN.out, bs_size]
    have h0 : r.takeWhile isD = [] := List.eq_nil_of_length_eq_zero (by omega)
    exact absurd (hR.symm.trans h0) t5
end Go.Proofs.Tg
end
