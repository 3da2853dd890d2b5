/- Parts of the proof: E4, XK3, XK4, E5. -/
import Derived.Test.YticpnfjdooileaaGreatDoorMCPA6
import Derived.Test.YticpnfjdooileaaGreatDoorMCPA8
import Derived.Test.YticpnfjdooileaaGreatDoorMCPA12
import Derived.Test.YticpnfjdooileaaGreatDoorMCPA13
section
/- The reduced vectors, by search: a test that can be run. Plain numbers. -/
namespace Go.Ev
def Vb (rows : List (List Int)) (n x : Nat) : Bool := decide (x < 2 ^ n) && rows.all fun r => pr r x n % 2 == 0
theorem Vb_iff {rows : List (List Int)} {n x : Nat} : Vb rows n x = true ↔ V rows n x := by unfold Vb V; simp
def leadB (x k : Nat) : Bool := x.testBit k && (List.range k).all fun b => !x.testBit b
theorem leadB_iff {x k : Nat} : leadB x k = true ↔ Lead x k := by unfold leadB Lead; simp
def redB (rows : List (List Int)) (n x : Nat) : Bool := (List.range (2 ^ n)).all fun t => (List.range n).all fun k => (List.range n).all fun l => !(Vb rows n t && leadB t k && leadB x l && decide (l < k) && x.testBit k)
theorem redB_iff {rows : List (List Int)} {n x : Nat} (hx : x < 2 ^ n) : redB rows n x = true ↔ Red (V rows n) x := by
  unfold redB Red
  simp only [List.all_eq_true, List.mem_range]
  constructor
  · intro h t k l ht hk hl hlk
    have := h t ht.1 k (lead_lt ht.1 hk) l (lead_lt hx hl)
    cases hb : x.testBit k with
    | false => rfl
    | true => rw [Vb_iff.2 ht, leadB_iff.2 hk, leadB_iff.2 hl, decide_eq_true hlk, hb] at this; cases this
  · intro h t _ k _ l _
    by_cases hc : V rows n t ∧ Lead t k ∧ Lead x l ∧ l < k
    · rw [h t k l hc.1 hc.2.1 hc.2.2.1 hc.2.2.2]; simp
    · cases hv : Vb rows n t with
      | false => rfl
      | true =>
        cases h1 : leadB t k with
        | false => rfl
        | true =>
          cases h2 : leadB x l with
          | false => rfl
          | true =>
            have : ¬ l < k := fun h3 => hc ⟨Vb_iff.1 hv, leadB_iff.1 h1, leadB_iff.1 h2, h3⟩
            rw [decide_eq_false this]; rfl
def keepB (rows : List (List Int)) (n x : Nat) : Bool := Vb rows n x && redB rows n x
/-- The rows of the echelon form are those that the search keeps. -/
theorem rows_keep {rows : List (List Int)} {n r : Nat} {us : List Nat} {p : Nat → Nat} (h : EInv (V rows n) n us r p) : us.take r = kern (keepB rows n) n (2 ^ n - 1) :=
  rows_kern h (V_space rows n) (keepB rows n) (fun x _ hx => by unfold keepB; rw [Bool.and_eq_true, Vb_iff, redB_iff hx])
end Go.Ev
end
section
/- The reference's reducedWith. -/
namespace Go.Ev
/-- The vector of a number, the greatest bit first. -/
def ov (n t : Nat) : List Int := unp (rev n t) n
theorem ov_len (n t : Nat) : (ov n t).length = n := unp_len _ _
def badT (rs : List (List Int)) (n : Nat) (v : List Int) (t : Nat) : Bool := decide (v.findIdx (· == 1) < (ov n t).findIdx (· == 1)) && (v.getD ((ov n t).findIdx (· == 1)) 0 == 1) && orth rs (ov n t)
def redR (rs : List (List Int)) (n : Nat) (v : List Int) : Bool := (List.range (2 ^ n)).all fun t => t == 0 || !badT rs n v t
theorem ov_hit {n t : Nat} (h0 : 0 < t) (hn : t < 2 ^ n) : (ov n t).findIdx (· == 1) < n := by
  have hr : rev n t ≠ 0 := fun h => by have := (rev_zero hn).1 h; omega
  obtain ⟨k, hk⟩ := lead_exists hr
  have hkn := lead_lt (rev_lt n t) hk
  have : (ov n t).findIdx (· == 1) < (ov n t).length := by
    rw [List.findIdx_lt_length]
    refine ⟨(ov n t)[k]'(by rw [ov_len]; exact hkn), List.getElem_mem _, ?_⟩
    have e := unp_getD (rev n t) n k hkn
    rw [if_pos hk.1] at e
    have e2 : (ov n t).getD k 0 = (ov n t)[k]'(by rw [ov_len]; exact hkn) := by simp [ov_len, hkn]
    rw [← e2]
    unfold ov
    rw [e]; rfl
  rwa [ov_len] at this
end Go.Ev
namespace Go.Proofs.Tg
open Go.RowKit Go.Gr Go.Ev Go.Mo
set_option maxHeartbeats 4000000
set_option maxRecDepth 100000
theorem redw_any (R S : Option Addr) (c d : Nat) (rs : List (List Int)) (v : List Int) (n : Nat) (w : World) (hR : Lists w R rs) (hS : Ints w S v) (hr : rs.length ≤ 1000000) (hn : v.length = n) (hn6 : n ≤ 6)
    (ha : ∀ r ∈ rs, n ≤ r.length ∧ ∀ x ∈ r, 0 ≤ x ∧ x ≤ 1048576) :
    Calls Tryz.prog 49 #[.slice R rs.length c, .slice S v.length d, .int .i64 n] w fun e w' => e = .returned (.bool (redR rs n v)) ∧ Below w.heap.size w w' := by
  have HA := Lib.hid ha
  have HN := Lib.hid hn
  have hv12 : v.length ≤ 12 := by omega
  have h2n : 2 ^ n ≤ 2 ^ 6 := Nat.pow_le_pow_right (by omega) hn6
  obtain ⟨hw2, h64⟩ := wrap_pow2 n hn6
  have HW2 := Lib.hid hw2
  clear hw2
  clear ha hn
  obtain ⟨b, hb⟩ : ∃ b, redR rs n v = b := ⟨_, rfl⟩
  have HB := Lib.hid hb
  rw [hb]
  clear hb
  have hmk := fun W => make_ints n n (Nat.le_refl _) (by omega) W
  go_enter Tryz.func49, Tryz.ntmps49
  go_wp2
  go_loopw [7] (fun i wr => ∃ t : Nat, i = .int .i64 t ∧ 1 ≤ t ∧ t ≤ 2 ^ n ∧ Hid (∀ j, 1 ≤ j → j < t → badT rs n v j = false) ∧ Below w.heap.size w wr) (fun i _ => 2 ^ n - (intOf i).toNat)
  case atStart => exact ⟨1, rfl, Nat.le_refl _, Nat.one_le_two_pow, Lib.hid (fun j h1 h2 => by omega), Below.refl _ _⟩
  case round =>
    obtain ⟨t, rfl, h1, ht, HI, hbw⟩ := hrel
    by_cases hlt : t < 2 ^ n
    · have hd : decide ((t : Int) < wrap64 (2 ^ n)) = true := by rw [HW2.out]; exact decide_eq_true (by omega)
      have HR := Lib.hid (hR.keep hbw)
      have HS := Lib.hid (hS.keep hbw)
      generalize hwo : wr = wo at hbw HR HS ⊢
      go_wp2
      go_loopw [9] (fun i wr => ∃ k : Nat, k ≤ n ∧ i = .int .i64 k ∧ Blk wr wo.heap.size 3 (iarr (Ev.unp (rev n t) k ++ List.replicate (n - k) 0)) ∧ Below wo.heap.size wo wr) (fun i _ => n - (intOf i).toNat)
      case atStart =>
        refine ⟨0, Nat.zero_le _, rfl, ?_, (Below.refl _ _).alloc (Nat.le_refl _) _⟩
        have e : iarr (Ev.unp (rev n t) 0 ++ List.replicate (n - 0) 0) = madeCells #[.int .i64 0] n := (iarr_made n).symm
        rw [e]
        exact Blk.new wo 3 _
      case round =>
        obtain ⟨k, hk, rfl, B, hb⟩ := hrel
        have hlen : (Ev.unp (rev n t) k ++ List.replicate (n - k) 0).length = n := by rw [List.length_append, Ev.unp_len, List.length_replicate]; omega
        by_cases hkn : k < n
        · have HB := Lib.hid B
          have c0 := B.cell k
          have f0 := B.frozen k
          rw [iarr_at _ (by rw [hlen]; exact hkn)] at c0
          generalize (Ev.unp (rev n t) k ++ List.replicate (n - k) 0)[k]'(by rw [hlen]; exact hkn) = old at c0
          clear B hlen
          have hs : bits BinOp.and IntKind.i64 ((t : Int) / 2 ^ (n - 1 - k)) 1 = if (rev n t).testBit k = true then 1 else 0 := by
            rw [shr_bit t (n - 1 - k) (by omega), rev_bit, decide_eq_true hkn, Bool.true_and]
          go_wp2
          go_roundw
          case rel =>
            refine ⟨k + 1, by omega, by go_num, ?_, hb.setCell (Nat.le_refl _) _⟩
            have := HB.out.set k (.int .i64 (if (rev n t).testBit k = true then 1 else 0))
            rw [iarr_set, unp_set (rev n t) n k hkn] at this
            simpa using this
          case measure => simp [intOf]; omega
        · obtain rfl : k = n := by omega
          have hL : Ints wr (some ⟨wo.heap.size, 0, none⟩) (ov k t) := sl_new (by simpa [ov] using B)
          have hol := ov_len k t
          have hit := ov_hit h1 hlt
          have hol12 : (ov k t).length ≤ 64 := by omega
          have HO := Lib.hid hol
          have HR2 := Lib.hid (HR.out.keep hb)
          have HS2 := Lib.hid (HS.out.keep hb)
          have hbw2 := below_all hbw hb
          have HC1 : Hid (Calls Tryz.prog 59 #[.slice (some ⟨wo.heap.size, 0, none⟩) k k] wr fun e w' => e = .returned (.int .i64 ((ov k t).findIdx (· == 1) : Nat)) ∧ wr = w') := Lib.hid (by
            have := lead_any (some ⟨wo.heap.size, 0, none⟩) k (ov k t) wr hL (by omega)
            rwa [hol] at this)
          have HC2 := Lib.hid (lead_any S d v wr HS2.out (by omega))
          have HC3 : Hid (Calls Tryz.prog 48 #[.slice R rs.length c, .slice (some ⟨wo.heap.size, 0, none⟩) k k] wr fun e w' => e = .returned (.bool (orth rs (ov k t))) ∧ Dr wr w') := Lib.hid (by
            have := orth_any R (some ⟨wo.heap.size, 0, none⟩) c k rs (ov k t) wr HR2.out hL hr (by omega) (fun r hr => by rw [hol]; exact HA.out r hr) (unp_bit _ _)
            rwa [hol] at this)
          have HT : Hid (badT rs k v t = (decide (v.findIdx (· == 1) < (ov k t).findIdx (· == 1)) && (v.getD ((ov k t).findIdx (· == 1)) 0 == 1) && orth rs (ov k t))) := Lib.hid rfl
          generalize (ov k t).findIdx (· == 1) = a at *
          generalize v.findIdx (· == 1) = q at *
          generalize orth rs (ov k t) = o at *
          have hav : a < v.length := by have := HN.out; omega
          obtain ⟨ad, rfl, hca⟩ := Ints.at HS2.out hav
          have HG : Hid (v.getD a 0 = v[a]) := Lib.hid (by simp [hav])
          rw [HG.out] at HT
          generalize v[a] = x at hca HT
          clear hL hol HG
          by_cases hqa : q < a
          · have hb1 : decide ((q : Int) < (a : Int)) = true := by simp; omega
            have hb1' : decide (q < a) = true := by simp; omega
            by_cases hx : x = 1
            · have hb2 : (x == 1) = true := by simp [hx]
              cases o with
              | true =>
                obtain rfl : b = false := by
                  cases b
                  · rfl
                  · exfalso
                    have h := HB.out
                    unfold redR at h
                    rw [List.all_eq_true] at h
                    have h := h t (List.mem_range.2 hlt)
                    rw [HT.out, hb1', hb2] at h
                    have : t ≠ 0 := by omega
                    simp [this] at h
                clear hx
                go_wp2_with (fail)
                refine HC1.out.mono ?_
                rintro e _ ⟨rfl, rfl⟩
                go_wp2_with (fail)
                refine HC2.out.mono ?_
                rintro e _ ⟨rfl, rfl⟩
                go_wp2_with (fail)
                refine HC3.out.mono ?_
                rintro e w3 ⟨rfl, hdr⟩
                go_wp2_with (fail)
                go_ret
                exact ⟨rfl, below_all hbw2 hdr.below⟩
              | false =>
                have HI2 : Hid (∀ j, 1 ≤ j → j < t + 1 → badT rs k v j = false) := Lib.hid (fun j h1 h2 => by
                  by_cases e : j = t
                  · rw [e, HT.out]; simp
                  · exact HI.out j h1 (by omega))
                clear hx
                go_wp2_with (fail)
                refine HC1.out.mono ?_
                rintro e _ ⟨rfl, rfl⟩
                go_wp2_with (fail)
                refine HC2.out.mono ?_
                rintro e _ ⟨rfl, rfl⟩
                go_wp2_with (fail)
                refine HC3.out.mono ?_
                rintro e w3 ⟨rfl, hdr⟩
                go_wp2_with (fail)
                go_roundw
                case rel => exact ⟨t + 1, by go_num, by omega, by omega, HI2, below_all hbw2 hdr.below⟩
                case measure => simp [intOf]; omega
            · have hb2 : (x == 1) = false := by simp [hx]
              have HI2 : Hid (∀ j, 1 ≤ j → j < t + 1 → badT rs k v j = false) := Lib.hid (fun j h1 h2 => by
                by_cases e : j = t
                · rw [e, HT.out, hb2]; simp
                · exact HI.out j h1 (by omega))
              clear hx
              go_wp2_with (fail)
              refine HC1.out.mono ?_
              rintro e _ ⟨rfl, rfl⟩
              go_wp2_with (fail)
              refine HC2.out.mono ?_
              rintro e _ ⟨rfl, rfl⟩
              go_wp2_with (fail)
              go_roundw
              case rel => exact ⟨t + 1, by go_num, by omega, by omega, HI2, hbw2⟩
              case measure => simp [intOf]; omega
          · have hb1 : decide ((q : Int) < (a : Int)) = false := by simp; omega
            have hb1' : decide (q < a) = false := by simp; omega
            have HI2 : Hid (∀ j, 1 ≤ j → j < t + 1 → badT rs k v j = false) := Lib.hid (fun j h1 h2 => by
              by_cases e : j = t
              · rw [e, HT.out, hb1']; simp
              · exact HI.out j h1 (by omega))
            go_wp2_with (fail)
            refine HC1.out.mono ?_
            rintro e _ ⟨rfl, rfl⟩
            go_wp2_with (fail)
            refine HC2.out.mono ?_
            rintro e _ ⟨rfl, rfl⟩
            go_wp2_with (fail)
            go_roundw
            case rel => exact ⟨t + 1, by go_num, by omega, by omega, HI2, hbw2⟩
            case measure => simp [intOf]; omega
    · have hd : decide ((t : Int) < wrap64 (2 ^ n)) = false := by rw [HW2.out]; exact decide_eq_false (by omega)
      obtain rfl : b = true := by
        rw [← HB.out]
        unfold redR
        rw [List.all_eq_true]
        intro j hj
        have hj := List.mem_range.1 hj
        by_cases h0 : j = 0
        · simp [h0]
        · rw [HI.out j (by omega) (by omega)]; simp
      go_wp2
      go_ret
      exact ⟨rfl, hbw⟩
end Go.Proofs.Tg
end
section
/- The reference's Kernel. -/
namespace Go.Ev
def keepR (rs : List (List Int)) (n x : Nat) : Bool := orth rs (unp x n) && redR rs n (unp x n)
theorem kern_len (keep : Nat → Bool) (n k : Nat) : (kern keep n k).length ≤ k := by
  unfold kern
  exact Nat.le_trans (List.length_filter_le _ _) (by simp)
end Go.Ev
namespace Go.Proofs.Tg
open Go.RowKit Go.Gr Go.Ev Go.Mo
set_option maxHeartbeats 4000000
set_option maxRecDepth 100000
theorem kernel_any (R : Option Addr) (c : Nat) (rs : List (List Int)) (n : Nat) (w : World) (hR : Lists w R rs) (hr : rs.length ≤ 1000000) (hn6 : n ≤ 6)
    (ha : ∀ r ∈ rs, n ≤ r.length ∧ ∀ x ∈ r, 0 ≤ x ∧ x ≤ 1048576) :
    Calls Tryz.prog 31 #[.slice R rs.length c, .int .i64 n] w fun e w' => ∃ A d, e = .returned (.slice A ((kern (keepR rs n) n (2 ^ n - 1)).map (unp · n)).length d) ∧ Lists w' A ((kern (keepR rs n) n (2 ^ n - 1)).map (unp · n)) ∧ Below w.heap.size w w' := by
  have HA := Lib.hid ha
  obtain ⟨hw2, h64⟩ := wrap_pow2 n hn6
  have h1n : 1 ≤ 2 ^ n := Nat.one_le_two_pow
  obtain ⟨N, hN⟩ : ∃ N, 2 ^ n = N + 1 := ⟨2 ^ n - 1, by omega⟩
  rw [hN] at hw2
  have hw3 : wrap64 (((N + 1 : Nat) : Int) - 1) = (N : Int) := by
    rw [show ((N + 1 : Nat) : Int) - 1 = (N : Int) by omega]
    exact wrap64_nat _ (by omega)
  have HN := Lib.hid hN
  rw [show 2 ^ n - 1 = N by omega]
  clear ha h1n
  have hmk := fun W => make_ints n n (Nat.le_refl _) (by omega) W
  obtain ⟨j0, hj, hjz0, hjz1, hjz2⟩ := info_parts row_info
  go_enter Tryz.func31, Tryz.ntmps31
  go_wp2
  go_loopw [5, 6] (fun s5 s6 wr => ∃ (m k : Nat) (A : Option Addr) (cs : Nat) (G : Nat → Nat), s6 = .int .i64 m ∧ k + m = N ∧ s5 = .slice A (kern (keepR rs n) n k).length cs ∧ wr.ownsRow w.heap.size 33 1 (.slice A (kern (keepR rs n) n k).length cs) (kern (keepR rs n) n k).length ((List.range (kern (keepR rs n) n k).length).map fun j => .slice (some ⟨G j, 0, none⟩) n n) ∧ Made G (kern (keepR rs n) n k).length n (fun j => unp ((kern (keepR rs n) n k).getD j 0) n) wr ∧ Below w.heap.size w wr) (fun _ s6 _ => (intOf s6).toNat)
  case atStart => exact ⟨N, 0, none, 0, fun _ => 0, rfl, by omega, rfl, World.ownsRow_nil _ _ _ _, ⟨fun j h => absurd h (by simp [kern]), fun j h => absurd h (by simp [kern])⟩, Below.refl _ _⟩
  case round =>
    clear hw2 hw3
    obtain ⟨wo, rfl⟩ : ∃ wo : World, wo = wr := ⟨_, rfl⟩
    obtain ⟨m, k, A, cs, G, rfl, hkm, rfl, hown, hM, hbw⟩ := hrel
    have hkl := kern_len (keepR rs n) n k
    by_cases hm : 0 < m
    · have hd : decide ((0 : Int) < (m : Int)) = true := by simp; omega
      have hd' : decide (0 < m) = true := by simp; omega
      have hmt : 2 ^ n - 1 - k = m := by have := HN.out; omega
      have HSU := Lib.hid (kern_succ (keepR rs n) n k)
      rw [hmt] at HSU
      clear hmt
      obtain ⟨kl, hk1⟩ : ∃ kl, kern (keepR rs n) n k = kl := ⟨_, rfl⟩
      rw [hk1] at hown hM hkl HSU ⊢
      clear hk1
      have HOWN := Lib.hid hown
      have HM := Lib.hid hM
      have HR := Lib.hid (hR.keep hbw)
      clear hown hM
      go_wp2
      go_loopw [8] (fun i wr => ∃ q : Nat, q ≤ n ∧ i = .int .i64 q ∧ Blk wr wo.heap.size 3 (iarr (Ev.unp (rev n m) q ++ List.replicate (n - q) 0)) ∧ Below wo.heap.size wo wr) (fun i _ => n - (intOf i).toNat)
      case atStart =>
        refine ⟨0, Nat.zero_le _, rfl, ?_, (Below.refl _ _).alloc (Nat.le_refl _) _⟩
        have e : iarr (Ev.unp (rev n m) 0 ++ List.replicate (n - 0) 0) = madeCells #[.int .i64 0] n := (iarr_made n).symm
        rw [e]
        exact Blk.new wo 3 _
      case round =>
        obtain ⟨q, hq, rfl, B, hb⟩ := hrel
        have hlen : (Ev.unp (rev n m) q ++ List.replicate (n - q) 0).length = n := by rw [List.length_append, Ev.unp_len, List.length_replicate]; omega
        by_cases hqn : q < n
        · have HB := Lib.hid B
          have c0 := B.cell q
          have f0 := B.frozen q
          rw [iarr_at _ (by rw [hlen]; exact hqn)] at c0
          generalize (Ev.unp (rev n m) q ++ List.replicate (n - q) 0)[q]'(by rw [hlen]; exact hqn) = old at c0
          clear B hlen
          have hs : bits BinOp.and IntKind.i64 ((m : Int) / 2 ^ (n - 1 - q)) 1 = if (rev n m).testBit q = true then 1 else 0 := by
            rw [shr_bit m (n - 1 - q) (by omega), rev_bit, decide_eq_true hqn, Bool.true_and]
          go_wp2
          go_roundw
          case rel =>
            refine ⟨q + 1, by omega, by go_num, ?_, hb.setCell (Nat.le_refl _) _⟩
            have := HB.out.set q (.int .i64 (if (rev n m).testBit q = true then 1 else 0))
            rw [iarr_set, unp_set (rev n m) n q hqn] at this
            simpa using this
          case measure => simp [intOf]; omega
        · obtain rfl : q = n := by omega
          have hBB : Blk wr wo.heap.size 3 (iarr (unp (rev q m) q)) := by simpa using B
          have hL : Ints wr (some ⟨wo.heap.size, 0, none⟩) (unp (rev q m) q) := sl_new hBB
          have hul := unp_len (rev q m) q
          have HC1 : Hid (Calls Tryz.prog 48 #[.slice R rs.length c, .slice (some ⟨wo.heap.size, 0, none⟩) q q] wr fun e w' => e = .returned (.bool (orth rs (unp (rev q m) q))) ∧ Dr wr w') := Lib.hid (by
            have := orth_any R (some ⟨wo.heap.size, 0, none⟩) c q rs (unp (rev q m) q) wr (HR.out.keep hb) hL hr (by omega) (fun r hr => by rw [hul]; exact HA.out r hr) (unp_bit _ _)
            rwa [hul] at this)
          have HC2 : Hid (∀ W, Below wr.heap.size wr W → Calls Tryz.prog 49 #[.slice R rs.length c, .slice (some ⟨wo.heap.size, 0, none⟩) q q, .int .i64 q] W fun e w' => e = .returned (.bool (redR rs q (unp (rev q m) q))) ∧ Below W.heap.size W w') := Lib.hid (fun W hW => by
            have := redw_any R (some ⟨wo.heap.size, 0, none⟩) c q rs (unp (rev q m) q) q W ((HR.out.keep hb).keep hW) (hL.keep hW) hr hul hn6 HA.out
            rwa [hul] at this)
          have HKE : Hid (keepR rs q (rev q m) = (orth rs (unp (rev q m) q) && redR rs q (unp (rev q m) q))) := Lib.hid rfl
          generalize orth rs (unp (rev q m) q) = o1 at HC1 HKE
          generalize redR rs q (unp (rev q m) q) = o2 at HC2 HKE
          have HOWN2 := Lib.hid (own_below HOWN.out hb (Nat.le_refl _))
          clear hL B hlen hul
          have hem : Value.int .i64 ((m : Int) - 1) = .int .i64 ((m - 1 : Nat) : Int) := by congr 1; omega
          have HEM := Lib.hid hem
          clear hem
          have hbwr := below_all hbw hb
          by_cases hkeep : (o1 && o2) = true
          · obtain ⟨rfl, rfl⟩ : o1 = true ∧ o2 = true := by simpa using hkeep
            have HE : Hid (kern (keepR rs q) q (k + 1) = kl ++ [rev q m]) := Lib.hid (by rw [HSU.out, HKE.out]; rfl)
            clear hkeep
            go_wp2_with (fail)
            refine HC1.out.mono ?_
            rintro e w2 ⟨rfl, hdr⟩
            have hb2 := hdr.below
            clear hdr
            go_wp2_with (fail)
            refine (HC2.out w2 hb2).mono ?_
            rintro e w3 ⟨rfl, hb3⟩
            have hb23 := below_all hb2 hb3
            have hbw3 := below_all hbwr hb23
            have hown3 := own_below HOWN2.out hb23 (Nat.le_refl _)
            have hB3 := hBB.keep hb23 hBB.lt
            clear hb2 hb3
            have hz3 : w.heap.size ≤ w3.heap.size := hbw3.size
            go_wp2_with (first
              | (at_builtin; refine wpList_append_own _ rfl _ _ 25 rfl w.heap.size 33 j0 (.slice none 0 0) 1 24 Tryz.underlying25 hj hjz0 hjz1 hjz2 rfl (by decide) (.slice A kl.length cs) kl.length _ rfl (hown3.alloc _) ⟨w3.heap.size, 0, none⟩ 1 1 [.slice (some ⟨wo.heap.size, 0, none⟩) q q] rfl rfl ?c1 ?c2 ?c3 ?c4 ?c5 ?_
                 case c1 => exact cell_one_new _ _ _
                 case c2 => simp [Value.oneCell']
                 case c3 => simp only [maxLen]; omega
                 case c4 => omega
                 case c5 => simp; omega
                 intro v' w5 hown' hgrow _))
            obtain ⟨A2, cs2, hv2, _, _⟩ := Sl.of_own hown'
            subst hv2
            go_roundw
            case rel =>
              refine ⟨m - 1, k + 1, A2, cs2, fun j => if j = kl.length then wo.heap.size else G j, HEM.out, by omega, ?_, ?_, ⟨fun j hj => ?_, fun j hj => unp_len _ _⟩, ?_⟩
              · rw [HE.out]; simp
              · have e : (List.range (kl.length + 1)).map (fun j => Value.slice (some ⟨if j = kl.length then wo.heap.size else G j, 0, none⟩) q q) = (List.range kl.length).map (fun j => Value.slice (some ⟨G j, 0, none⟩) q q) ++ [Value.slice (some ⟨wo.heap.size, 0, none⟩) q q] := by
                  rw [List.range_succ, List.map_append]
                  congr 1
                  · refine List.map_congr_left fun j hj => ?_
                    have := List.mem_range.1 hj
                    rw [if_neg (by omega)]
                  · simp
                rw [HE.out, show (kl ++ [rev q m]).length = kl.length + 1 by simp, e]
                exact hown'
              · rw [HE.out] at hj ⊢
                have hj : j < kl.length + 1 := by simpa using hj
                by_cases e : j = kl.length
                · subst e
                  rw [if_pos rfl]
                  have e2 : (kl ++ [rev q m]).getD kl.length 0 = rev q m := by simp
                  rw [e2]
                  exact (hB3.alloc _).grown hgrow (own_blk_ne hown3 hB3 (by decide))
                · rw [if_neg e]
                  have e2 : (kl ++ [rev q m]).getD j 0 = kl.getD j 0 := by
                    simp only [List.getD_eq_getElem?_getD, List.getElem?_append_left (show j < kl.length by omega)]
                  rw [e2]
                  have hB0 := HM.out.blk j (by omega)
                  have hB1 := hB0.keep hb hB0.lt
                  have hB := hB1.keep hb23 hB1.lt
                  exact (hB.alloc _).grown hgrow (own_blk_ne hown3 hB (by decide))
              · exact (hbw3.alloc hbw3.size _).grown hgrow (by simp; omega) (fun j hj => by have := (hown3.lt j hj).1; omega)
            case measure => simp [intOf]; omega
          · have HE : Hid (kern (keepR rs q) q (k + 1) = kl) := Lib.hid (by rw [HSU.out, HKE.out, if_neg hkeep, List.append_nil])
            cases o1 with
            | false =>
              clear hkeep
              go_wp2_with (fail)
              refine HC1.out.mono ?_
              rintro e w2 ⟨rfl, hdr⟩
              have hb2 := hdr.below
              clear hdr
              go_wp2_with (fail)
              go_roundw
              case rel =>
                refine ⟨m - 1, k + 1, A, cs, G, HEM.out, by omega, ?_, ?_, ?_, below_all hbwr hb2⟩
                · rw [HE.out]
                · rw [HE.out]; exact own_below HOWN2.out hb2 (Nat.le_refl _)
                · rw [HE.out]
                  exact ⟨fun j hj => (((HM.out.blk j hj).keep hb (HM.out.blk j hj).lt)).keep hb2 ((HM.out.blk j hj).keep hb (HM.out.blk j hj).lt).lt, HM.out.len⟩
              case measure => simp [intOf]; omega
            | true =>
              obtain rfl : o2 = false := by simpa using hkeep
              clear hkeep
              go_wp2_with (fail)
              refine HC1.out.mono ?_
              rintro e w2 ⟨rfl, hdr⟩
              have hb2 := hdr.below
              clear hdr
              go_wp2_with (fail)
              refine (HC2.out w2 hb2).mono ?_
              rintro e w3 ⟨rfl, hb3⟩
              have hb2 := below_all hb2 hb3
              clear hb3
              go_wp2_with (fail)
              go_roundw
              case rel =>
                refine ⟨m - 1, k + 1, A, cs, G, HEM.out, by omega, ?_, ?_, ?_, below_all hbwr hb2⟩
                · rw [HE.out]
                · rw [HE.out]; exact own_below HOWN2.out hb2 (Nat.le_refl _)
                · rw [HE.out]
                  exact ⟨fun j hj => (((HM.out.blk j hj).keep hb (HM.out.blk j hj).lt)).keep hb2 ((HM.out.blk j hj).keep hb (HM.out.blk j hj).lt).lt, HM.out.len⟩
              case measure => simp [intOf]; omega
    · have hd : decide ((0 : Int) < (m : Int)) = false := by simp; omega
      have hd' : decide (0 < m) = false := by simp; omega
      obtain rfl : k = N := by omega
      obtain ⟨kl, hk1⟩ : ∃ kl, kern (keepR rs n) n k = kl := ⟨_, rfl⟩
      rw [hk1] at hown hM ⊢
      have HL := Lib.hid (hM.lists hown)
      have HEQ : Hid ((List.range kl.length).map (fun j => unp (kl.getD j 0) n) = kl.map (unp · n)) := Lib.hid (by
        refine List.ext_getElem (by simp) fun j h1 h2 => ?_
        have : j < kl.length := by simpa using h1
        simp [this])
      have HK1 := Lib.hid hk1
      clear hk1 hown hM hkl
      go_wp2
      go_ret
      refine ⟨A, cs, by rw [HK1.out]; simp, ?_, hbw⟩
      have := HL.out
      rw [HEQ.out] at this
      rw [HK1.out]; exact this
end Go.Proofs.Tg
end
section
/- What the reference's search keeps is what the plain search keeps. Plain numbers. -/
namespace Go.Ev
theorem orth_Vb {rs : List (List Int)} {n x : Nat} (hx : x < 2 ^ n) (ha : ∀ r ∈ rs, ∀ y ∈ r, 0 ≤ y) : orth rs (unp x n) = Vb rs n x := by
  unfold orth Vb
  rw [decide_eq_true hx, Bool.true_and]
  rw [Bool.eq_iff_iff, List.all_eq_true, List.all_eq_true]
  have key : ∀ r ∈ rs, dotN r (unp x n) (unp x n).length = (pr r x n : Nat) := by
    intro r hr
    have := dotN_pr r (unp x n) n (unp_bit x n) (unp_len x n).symm (ha r hr) n (Nat.le_refl _)
    rw [pk_unp hx] at this
    rw [unp_len]; exact this
  constructor
  · intro h r hr
    have := h r hr
    rw [key r hr, beq_iff_eq] at this
    rw [beq_iff_eq]; omega
  · intro h r hr
    have := h r hr
    rw [beq_iff_eq] at this
    rw [key r hr, beq_iff_eq]; omega
theorem fidx_lead {x n l : Nat} (hx : x < 2 ^ n) (h : Lead x l) : (unp x n).findIdx (· == 1) = l := by
  have hl := lead_lt hx h
  have hlen := unp_len x n
  have hg : ∀ i (hi : i < n), (unp x n)[i]'(by rw [hlen]; exact hi) = if x.testBit i = true then 1 else 0 := by
    intro i hi
    have := unp_getD x n i hi
    rw [← this]; simp [hlen, hi]
  have h1 : ¬ l < (unp x n).findIdx (· == 1) := by
    intro hlt
    have := List.not_of_lt_findIdx hlt
    rw [hg l hl, if_pos h.1] at this
    cases this
  by_cases e : (unp x n).findIdx (· == 1) = l
  · exact e
  · exfalso
    have hlt : (unp x n).findIdx (· == 1) < l := by omega
    have hin : (unp x n).findIdx (· == 1) < (unp x n).length := by omega
    have := List.findIdx_getElem (w := hin)
    rw [hg _ (by omega), h.2 _ hlt] at this
    cases this
theorem fidx_zero (n : Nat) : (unp 0 n).findIdx (· == 1) = n := by
  have hlen := unp_len 0 n
  by_cases e : (unp 0 n).findIdx (· == 1) < (unp 0 n).length
  · exfalso
    have h := List.findIdx_getElem (w := e)
    have hg : ∀ i (hi : i < n), (unp 0 n)[i]'(by rw [hlen]; exact hi) = 0 := by
      intro i hi
      have := unp_getD 0 n i hi
      simp at this
      simp [unp]
    rw [hg _ (by omega)] at h
    cases h
  · have := List.findIdx_le_length (xs := unp 0 n) (p := (· == 1))
    omega
theorem redR_redB {rs : List (List Int)} {n x : Nat} (hx : x < 2 ^ n) (ha : ∀ r ∈ rs, ∀ y ∈ r, 0 ≤ y) : redR rs n (unp x n) = redB rs n x := by
  rw [Bool.eq_iff_iff, redB_iff hx]
  unfold redR
  rw [List.all_eq_true]
  constructor
  · intro h t k l ht hk hl hlk
    have htn : t < 2 ^ n := ht.1
    have ht0 : t ≠ 0 := by
      intro e
      subst e
      have := hk.1
      simp at this
    have hkn := lead_lt htn hk
    have h0 := h (rev n t) (List.mem_range.2 (rev_lt n t))
    have hr0 : rev n t ≠ 0 := fun e => ht0 ((rev_zero htn).1 e)
    have e1 : ov n (rev n t) = unp t n := by unfold ov; rw [rev_rev htn]
    unfold badT at h0
    rw [e1, fidx_lead htn hk, fidx_lead hx hl, orth_Vb htn ha, Vb_iff.2 ht, unp_getD x n k hkn] at h0
    cases hb : x.testBit k with
    | false => rfl
    | true => rw [hb] at h0; simp [hr0, hlk] at h0
  · intro h t htm
    have htn := List.mem_range.1 htm
    by_cases ht0 : t = 0
    · simp [ht0]
    · have hr0 : rev n t ≠ 0 := fun e => ht0 ((rev_zero htn).1 e)
      obtain ⟨k, hk⟩ := lead_exists hr0
      have hkn := lead_lt (rev_lt n t) hk
      unfold badT
      have e1 : ov n t = unp (rev n t) n := rfl
      rw [e1, fidx_lead (rev_lt n t) hk, orth_Vb (rev_lt n t) ha, unp_getD x n k hkn]
      by_cases hx0 : x = 0
      · subst hx0
        rw [fidx_zero, decide_eq_false (by omega)]; simp
      · obtain ⟨l, hl⟩ := lead_exists hx0
        rw [fidx_lead hx hl]
        by_cases hlk : l < k
        · by_cases hV : V rs n (rev n t)
          · rw [h (rev n t) k l hV hk hl hlk]; simp
          · have : Vb rs n (rev n t) = false := by
              cases hv : Vb rs n (rev n t) with
              | false => rfl
              | true => exact absurd (Vb_iff.1 hv) hV
            rw [this]; simp
        · rw [decide_eq_false hlk]; simp
/-- The reference's kernel is the plain one. -/
theorem kern_same {rs : List (List Int)} {n k : Nat} (ha : ∀ r ∈ rs, ∀ y ∈ r, 0 ≤ y) : kern (keepR rs n) n k = kern (keepB rs n) n k := by
  unfold kern
  apply List.filter_congr
  intro x hx
  obtain ⟨t, _, rfl⟩ := List.mem_map.1 hx
  unfold keepR keepB
  rw [orth_Vb (rev_lt _ _) ha, redR_redB (rev_lt _ _) ha]
end Go.Ev
end
