/- Parts of the proof: XK4, E5, XK6. -/
import Derived.Test.YticpnfjdooileaaGreatDoorMCPS17
section
/- The reference's Kernel. -/
namespace Go.Ev
def keepR (rs : List (List Int)) (n x : Nat) : Bool := orth rs (unp x n) && redR rs n (unp x n)
theorem kern_len (keep : Nat → Bool) (n k : Nat) : (kern keep n k).length ≤ k := by
  unfold kern
  exact Nat.le_trans (List.length_filter_le _ _) (by simp)
end Go.Ev
namespace Go.Proofs.Tg
open Go.RowKit Go.Gr Go.Ev Go.Mo
set_option maxHeartbeats 4000000
set_option maxRecDepth 100000
theorem kernel_any (R : Option Addr) (c : Nat) (rs : List (List Int)) (n : Nat) (w : World) (hR : Lists w R rs) (hr : rs.length ≤ 1000000) (hn6 : n ≤ 6)
    (ha : ∀ r ∈ rs, n ≤ r.length ∧ ∀ x ∈ r, 0 ≤ x ∧ x ≤ 1048576) :
    Calls Tryz.prog 31 #[.slice R rs.length c, .int .i64 n] w fun e w' => ∃ A d, e = .returned (.slice A ((kern (keepR rs n) n (2 ^ n - 1)).map (unp · n)).length d) ∧ Lists w' A ((kern (keepR rs n) n (2 ^ n - 1)).map (unp · n)) ∧ Below w.heap.size w w' := by
  have HA := Lib.hid ha
  obtain ⟨hw2, h64⟩ := wrap_pow2 n hn6
  have h1n : 1 ≤ 2 ^ n := Nat.one_le_two_pow
  obtain ⟨N, hN⟩ : ∃ N, 2 ^ n = N + 1 := ⟨2 ^ n - 1, by omega⟩
  rw [hN] at hw2
  have hw3 : wrap64 (((N + 1 : Nat) : Int) - 1) = (N : Int) := by
    rw [show ((N + 1 : Nat) : Int) - 1 = (N : Int) by omega]
    exact wrap64_nat _ (by omega)
  have HN := Lib.hid hN
  rw [show 2 ^ n - 1 = N by omega]
  clear ha h1n
  have hmk := fun W => make_ints n n (Nat.le_refl _) (by omega) W
  obtain ⟨j0, hj, hjz0, hjz1, hjz2⟩ := info_parts row_info
  go_enter Tryz.func31, Tryz.ntmps31
  go_wp2
  go_loopw [5, 6] (fun s5 s6 wr => ∃ (m k : Nat) (A : Option Addr) (cs : Nat) (G : Nat → Nat), s6 = .int .i64 m ∧ k + m = N ∧ s5 = .slice A (kern (keepR rs n) n k).length cs ∧ wr.ownsRow w.heap.size 33 1 (.slice A (kern (keepR rs n) n k).length cs) (kern (keepR rs n) n k).length ((List.range (kern (keepR rs n) n k).length).map fun j => .slice (some ⟨G j, 0, none⟩) n n) ∧ Made G (kern (keepR rs n) n k).length n (fun j => unp ((kern (keepR rs n) n k).getD j 0) n) wr ∧ Below w.heap.size w wr) (fun _ s6 _ => (intOf s6).toNat)
  case atStart => exact ⟨N, 0, none, 0, fun _ => 0, rfl, by omega, rfl, World.ownsRow_nil _ _ _ _, ⟨fun j h => absurd h (by simp [kern]), fun j h => absurd h (by simp [kern])⟩, Below.refl _ _⟩
  case round =>
    clear hw2 hw3
    obtain ⟨wo, rfl⟩ : ∃ wo : World, wo = wr := ⟨_, rfl⟩
    obtain ⟨m, k, A, cs, G, rfl, hkm, rfl, hown, hM, hbw⟩ := hrel
    have hkl := kern_len (keepR rs n) n k
    by_cases hm : 0 < m
    · have hd : decide ((0 : Int) < (m : Int)) = true := by simp; omega
      have hd' : decide (0 < m) = true := by simp; omega
      have hmt : 2 ^ n - 1 - k = m := by have := HN.out; omega
      have HSU := Lib.hid (kern_succ (keepR rs n) n k)
      rw [hmt] at HSU
      clear hmt
      obtain ⟨kl, hk1⟩ : ∃ kl, kern (keepR rs n) n k = kl := ⟨_, rfl⟩
      rw [hk1] at hown hM hkl HSU ⊢
      clear hk1
      have HOWN := Lib.hid hown
      have HM := Lib.hid hM
      have HR := Lib.hid (hR.keep hbw)
      clear hown hM
      go_wp2
      go_loopw [8] (fun i wr => ∃ q : Nat, q ≤ n ∧ i = .int .i64 q ∧ Blk wr wo.heap.size 3 (iarr (Ev.unp (rev n m) q ++ List.replicate (n - q) 0)) ∧ Below wo.heap.size wo wr) (fun i _ => n - (intOf i).toNat)
      case atStart =>
        refine ⟨0, Nat.zero_le _, rfl, ?_, (Below.refl _ _).alloc (Nat.le_refl _) _⟩
        have e : iarr (Ev.unp (rev n m) 0 ++ List.replicate (n - 0) 0) = madeCells #[.int .i64 0] n := (iarr_made n).symm
        rw [e]
        exact Blk.new wo 3 _
      case round =>
        obtain ⟨q, hq, rfl, B, hb⟩ := hrel
        have hlen : (Ev.unp (rev n m) q ++ List.replicate (n - q) 0).length = n := by rw [List.length_append, Ev.unp_len, List.length_replicate]; omega
        by_cases hqn : q < n
        · have HB := Lib.hid B
          have c0 := B.cell q
          have f0 := B.frozen q
          rw [iarr_at _ (by rw [hlen]; exact hqn)] at c0
          generalize (Ev.unp (rev n m) q ++ List.replicate (n - q) 0)[q]'(by rw [hlen]; exact hqn) = old at c0
          clear B hlen
          have hs : bits BinOp.and IntKind.i64 ((m : Int) / 2 ^ (n - 1 - q)) 1 = if (rev n m).testBit q = true then 1 else 0 := by
            rw [shr_bit m (n - 1 - q) (by omega), rev_bit, decide_eq_true hqn, Bool.true_and]
          go_wp2
          go_roundw
          case rel =>
            refine ⟨q + 1, by omega, by go_num, ?_, hb.setCell (Nat.le_refl _) _⟩
            have := HB.out.set q (.int .i64 (if (rev n m).testBit q = true then 1 else 0))
            rw [iarr_set, unp_set (rev n m) n q hqn] at this
            simpa using this
          case measure => simp [intOf]; omega
        · obtain rfl : q = n := by omega
          have hBB : Blk wr wo.heap.size 3 (iarr (unp (rev q m) q)) := by simpa using B
          have hL : Ints wr (some ⟨wo.heap.size, 0, none⟩) (unp (rev q m) q) := sl_new hBB
          have hul := unp_len (rev q m) q
          have HC1 : Hid (Calls Tryz.prog 48 #[.slice R rs.length c, .slice (some ⟨wo.heap.size, 0, none⟩) q q] wr fun e w' => e = .returned (.bool (orth rs (unp (rev q m) q))) ∧ Dr wr w') := Lib.hid (by
            have := orth_any R (some ⟨wo.heap.size, 0, none⟩) c q rs (unp (rev q m) q) wr (HR.out.keep hb) hL hr (by omega) (fun r hr => by rw [hul]; exact HA.out r hr) (unp_bit _ _)
            rwa [hul] at this)
          have HC2 : Hid (∀ W, Below wr.heap.size wr W → Calls Tryz.prog 49 #[.slice R rs.length c, .slice (some ⟨wo.heap.size, 0, none⟩) q q, .int .i64 q] W fun e w' => e = .returned (.bool (redR rs q (unp (rev q m) q))) ∧ Below W.heap.size W w') := Lib.hid (fun W hW => by
            have := redw_any R (some ⟨wo.heap.size, 0, none⟩) c q rs (unp (rev q m) q) q W ((HR.out.keep hb).keep hW) (hL.keep hW) hr hul hn6 HA.out
            rwa [hul] at this)
          have HKE : Hid (keepR rs q (rev q m) = (orth rs (unp (rev q m) q) && redR rs q (unp (rev q m) q))) := Lib.hid rfl
          generalize orth rs (unp (rev q m) q) = o1 at HC1 HKE
          generalize redR rs q (unp (rev q m) q) = o2 at HC2 HKE
          have HOWN2 := Lib.hid (own_below HOWN.out hb (Nat.le_refl _))
          clear hL B hlen hul
          have hem : Value.int .i64 ((m : Int) - 1) = .int .i64 ((m - 1 : Nat) : Int) := by congr 1; omega
          have HEM := Lib.hid hem
          clear hem
          have hbwr := below_all hbw hb
          by_cases hkeep : (o1 && o2) = true
          · obtain ⟨rfl, rfl⟩ : o1 = true ∧ o2 = true := by simpa using hkeep
            have HE : Hid (kern (keepR rs q) q (k + 1) = kl ++ [rev q m]) := Lib.hid (by rw [HSU.out, HKE.out]; rfl)
            clear hkeep
            go_wp2_with (fail)
            refine HC1.out.mono ?_
            rintro e w2 ⟨rfl, hdr⟩
            have hb2 := hdr.below
            clear hdr
            go_wp2_with (fail)
            refine (HC2.out w2 hb2).mono ?_
            rintro e w3 ⟨rfl, hb3⟩
            have hb23 := below_all hb2 hb3
            have hbw3 := below_all hbwr hb23
            have hown3 := own_below HOWN2.out hb23 (Nat.le_refl _)
            have hB3 := hBB.keep hb23 hBB.lt
            clear hb2 hb3
            have hz3 : w.heap.size ≤ w3.heap.size := hbw3.size
            go_wp2_with (first
              | (at_builtin; refine wpList_append_own _ rfl _ _ 25 rfl w.heap.size 33 j0 (.slice none 0 0) 1 24 Tryz.underlying25 hj hjz0 hjz1 hjz2 rfl (by decide) (.slice A kl.length cs) kl.length _ rfl (hown3.alloc _) ⟨w3.heap.size, 0, none⟩ 1 1 [.slice (some ⟨wo.heap.size, 0, none⟩) q q] rfl rfl ?c1 ?c2 ?c3 ?c4 ?c5 ?_
                 case c1 => exact cell_one_new _ _ _
                 case c2 => simp [Value.oneCell']
                 case c3 => simp only [maxLen]; omega
                 case c4 => omega
                 case c5 => simp; omega
                 intro v' w5 hown' hgrow _))
            obtain ⟨A2, cs2, hv2, _, _⟩ := Sl.of_own hown'
            subst hv2
            go_roundw
            case rel =>
              refine ⟨m - 1, k + 1, A2, cs2, fun j => if j = kl.length then wo.heap.size else G j, HEM.out, by omega, ?_, ?_, ⟨fun j hj => ?_, fun j hj => unp_len _ _⟩, ?_⟩
              · rw [HE.out]; simp
              · have e : (List.range (kl.length + 1)).map (fun j => Value.slice (some ⟨if j = kl.length then wo.heap.size else G j, 0, none⟩) q q) = (List.range kl.length).map (fun j => Value.slice (some ⟨G j, 0, none⟩) q q) ++ [Value.slice (some ⟨wo.heap.size, 0, none⟩) q q] := by
                  rw [List.range_succ, List.map_append]
                  congr 1
                  · refine List.map_congr_left fun j hj => ?_
                    have := List.mem_range.1 hj
                    rw [if_neg (by omega)]
                  · simp
                rw [HE.out, show (kl ++ [rev q m]).length = kl.length + 1 by simp, e]
                exact hown'
              · rw [HE.out] at hj ⊢
                have hj : j < kl.length + 1 := by simpa using hj
                by_cases e : j = kl.length
                · subst e
                  rw [if_pos rfl]
                  have e2 : (kl ++ [rev q m]).getD kl.length 0 = rev q m := by simp
                  rw [e2]
                  exact (hB3.alloc _).grown hgrow (own_blk_ne hown3 hB3 (by decide))
                · rw [if_neg e]
                  have e2 : (kl ++ [rev q m]).getD j 0 = kl.getD j 0 := by
                    simp only [List.getD_eq_getElem?_getD, List.getElem?_append_left (show j < kl.length by omega)]
                  rw [e2]
                  have hB0 := HM.out.blk j (by omega)
                  have hB1 := hB0.keep hb hB0.lt
                  have hB := hB1.keep hb23 hB1.lt
                  exact (hB.alloc _).grown hgrow (own_blk_ne hown3 hB (by decide))
              · exact (hbw3.alloc hbw3.size _).grown hgrow (by simp; omega) (fun j hj => by have := (hown3.lt j hj).1; omega)
            case measure => simp [intOf]; omega
          · have HE : Hid (kern (keepR rs q) q (k + 1) = kl) := Lib.hid (by rw [HSU.out, HKE.out, if_neg hkeep, List.append_nil])
            cases o1 with
            | false =>
              clear hkeep
              go_wp2_with (fail)
              refine HC1.out.mono ?_
              rintro e w2 ⟨rfl, hdr⟩
              have hb2 := hdr.below
              clear hdr
              go_wp2_with (fail)
              go_roundw
              case rel =>
                refine ⟨m - 1, k + 1, A, cs, G, HEM.out, by omega, ?_, ?_, ?_, below_all hbwr hb2⟩
                · rw [HE.out]
                · rw [HE.out]; exact own_below HOWN2.out hb2 (Nat.le_refl _)
                · rw [HE.out]
                  exact ⟨fun j hj => (((HM.out.blk j hj).keep hb (HM.out.blk j hj).lt)).keep hb2 ((HM.out.blk j hj).keep hb (HM.out.blk j hj).lt).lt, HM.out.len⟩
              case measure => simp [intOf]; omega
            | true =>
              obtain rfl : o2 = false := by simpa using hkeep
              clear hkeep
              go_wp2_with (fail)
              refine HC1.out.mono ?_
              rintro e w2 ⟨rfl, hdr⟩
              have hb2 := hdr.below
              clear hdr
              go_wp2_with (fail)
              refine (HC2.out w2 hb2).mono ?_
              rintro e w3 ⟨rfl, hb3⟩
              have hb2 := below_all hb2 hb3
              clear hb3
              go_wp2_with (fail)
              go_roundw
              case rel =>
                refine ⟨m - 1, k + 1, A, cs, G, HEM.out, by omega, ?_, ?_, ?_, below_all hbwr hb2⟩
                · rw [HE.out]
                · rw [HE.out]; exact own_below HOWN2.out hb2 (Nat.le_refl _)
                · rw [HE.out]
                  exact ⟨fun j hj => (((HM.out.blk j hj).keep hb (HM.out.blk j hj).lt)).keep hb2 ((HM.out.blk j hj).keep hb (HM.out.blk j hj).lt).lt, HM.out.len⟩
              case measure => simp [intOf]; omega
    · have hd : decide ((0 : Int) < (m : Int)) = false := by simp; omega
      have hd' : decide (0 < m) = false := by simp; omega
      obtain rfl : k = N := by omega
      obtain ⟨kl, hk1⟩ : ∃ kl, kern (keepR rs n) n k = kl := ⟨_, rfl⟩
      rw [hk1] at hown hM ⊢
      have HL := Lib.hid (hM.lists hown)
      have HEQ : Hid ((List.range kl.length).map (fun j => unp (kl.getD j 0) n) = kl.map (unp · n)) := Lib.hid (by
        refine List.ext_getElem (by simp) fun j h1 h2 => ?_
        have : j < kl.length := by simpa using h1
        simp [this])
      have HK1 := Lib.hid hk1
      clear hk1 hown hM hkl
      go_wp2
      go_ret
      refine ⟨A, cs, by rw [HK1.out]; simp, ?_, hbw⟩
      have := HL.out
      rw [HEQ.out] at this
      rw [HK1.out]; exact this
end Go.Proofs.Tg
end
section
/- What the reference's search keeps is what the plain search keeps. Plain numbers. -/
namespace Go.Ev
theorem orth_Vb {rs : List (List Int)} {n x : Nat} (hx : x < 2 ^ n) (ha : ∀ r ∈ rs, ∀ y ∈ r, 0 ≤ y) : orth rs (unp x n) = Vb rs n x := by
  unfold orth Vb
  rw [decide_eq_true hx, Bool.true_and]
  rw [Bool.eq_iff_iff, List.all_eq_true, List.all_eq_true]
  have key : ∀ r ∈ rs, dotN r (unp x n) (unp x n).length = (pr r x n : Nat) := by
    intro r hr
    have := dotN_pr r (unp x n) n (unp_bit x n) (unp_len x n).symm (ha r hr) n (Nat.le_refl _)
    rw [pk_unp hx] at this
    rw [unp_len]; exact this
  constructor
  · intro h r hr
    have := h r hr
    rw [key r hr, beq_iff_eq] at this
    rw [beq_iff_eq]; omega
  · intro h r hr
    have := h r hr
    rw [beq_iff_eq] at this
    rw [key r hr, beq_iff_eq]; omega
theorem fidx_lead {x n l : Nat} (hx : x < 2 ^ n) (h : Lead x l) : (unp x n).findIdx (· == 1) = l := by
  have hl := lead_lt hx h
  have hlen := unp_len x n
  have hg : ∀ i (hi : i < n), (unp x n)[i]'(by rw [hlen]; exact hi) = if x.testBit i = true then 1 else 0 := by
    intro i hi
    have := unp_getD x n i hi
    rw [← this]; simp [hlen, hi]
  have h1 : ¬ l < (unp x n).findIdx (· == 1) := by
    intro hlt
    have := List.not_of_lt_findIdx hlt
    rw [hg l hl, if_pos h.1] at this
    cases this
  by_cases e : (unp x n).findIdx (· == 1) = l
  · exact e
  · exfalso
    have hlt : (unp x n).findIdx (· == 1) < l := by omega
    have hin : (unp x n).findIdx (· == 1) < (unp x n).length := by omega
    have := List.findIdx_getElem (w := hin)
    rw [hg _ (by omega), h.2 _ hlt] at this
    cases this
theorem fidx_zero (n : Nat) : (unp 0 n).findIdx (· == 1) = n := by
  have hlen := unp_len 0 n
  by_cases e : (unp 0 n).findIdx (· == 1) < (unp 0 n).length
  · exfalso
    have h := List.findIdx_getElem (w := e)
    have hg : ∀ i (hi : i < n), (unp 0 n)[i]'(by rw [hlen]; exact hi) = 0 := by
      intro i hi
      have := unp_getD 0 n i hi
      simp at this
      simp [unp]
    rw [hg _ (by omega)] at h
    cases h
  · have := List.findIdx_le_length (xs := unp 0 n) (p := (· == 1))
    omega
theorem redR_redB {rs : List (List Int)} {n x : Nat} (hx : x < 2 ^ n) (ha : ∀ r ∈ rs, ∀ y ∈ r, 0 ≤ y) : redR rs n (unp x n) = redB rs n x := by
  rw [Bool.eq_iff_iff, redB_iff hx]
  unfold redR
  rw [List.all_eq_true]
  constructor
  · intro h t k l ht hk hl hlk
    have htn : t < 2 ^ n := ht.1
    have ht0 : t ≠ 0 := by
      intro e
      subst e
      have := hk.1
      simp at this
    have hkn := lead_lt htn hk
    have h0 := h (rev n t) (List.mem_range.2 (rev_lt n t))
    have hr0 : rev n t ≠ 0 := fun e => ht0 ((rev_zero htn).1 e)
    have e1 : ov n (rev n t) = unp t n := by unfold ov; rw [rev_rev htn]
    unfold badT at h0
    rw [e1, fidx_lead htn hk, fidx_lead hx hl, orth_Vb htn ha, Vb_iff.2 ht, unp_getD x n k hkn] at h0
    cases hb : x.testBit k with
    | false => rfl
    | true => rw [hb] at h0; simp [hr0, hlk] at h0
  · intro h t htm
    have htn := List.mem_range.1 htm
    by_cases ht0 : t = 0
    · simp [ht0]
    · have hr0 : rev n t ≠ 0 := fun e => ht0 ((rev_zero htn).1 e)
      obtain ⟨k, hk⟩ := lead_exists hr0
      have hkn := lead_lt (rev_lt n t) hk
      unfold badT
      have e1 : ov n t = unp (rev n t) n := rfl
      rw [e1, fidx_lead (rev_lt n t) hk, orth_Vb (rev_lt n t) ha, unp_getD x n k hkn]
      by_cases hx0 : x = 0
      · subst hx0
        rw [fidx_zero, decide_eq_false (by omega)]; simp
      · obtain ⟨l, hl⟩ := lead_exists hx0
        rw [fidx_lead hx hl]
        by_cases hlk : l < k
        · by_cases hV : V rs n (rev n t)
          · rw [h (rev n t) k l hV hk hl hlk]; simp
          · have : Vb rs n (rev n t) = false := by
              cases hv : Vb rs n (rev n t) with
              | false => rfl
              | true => exact absurd (Vb_iff.1 hv) hV
            rw [this]; simp
        · rw [decide_eq_false hlk]; simp
/-- The reference's kernel is the plain one. -/
theorem kern_same {rs : List (List Int)} {n k : Nat} (ha : ∀ r ∈ rs, ∀ y ∈ r, 0 ≤ y) : kern (keepR rs n) n k = kern (keepB rs n) n k := by
  unfold kern
  apply List.filter_congr
  intro x hx
  obtain ⟨t, _, rfl⟩ := List.mem_map.1 hx
  unfold keepR keepB
  rw [orth_Vb (rev_lt _ _) ha, redR_redB (rev_lt _ _) ha]
end Go.Ev
end
section
/- The reference's Signs, over what its ReadAll gives. -/
namespace Go.Proofs.Tg
open Go.RowKit Go.Gr Go.Ev Go.Mo
set_option maxHeartbeats 4000000
set_option maxRecDepth 100000
def PVal.key (p : PVal) : Int × List (List Int) := (p.vars, p.tv.map TV.exps)
def RP.key (p : RP) : Int × List (List Int) := (p.vars, p.ts.map RT.exps)
/-- What the reference's reading of all polynomials returns. -/
def RetAll (ps : List PVal) (w : World) (e : Ending) (w' : World) : Prop :=
  Below w.heap.size w w' ∧ ((¬ (∀ p ∈ ps, p.ok) ∧ e = .returned (.tuple #[.slice none 0 0, .bool false])) ∨
    ((∀ p ∈ ps, p.ok) ∧ ∃ L c rp, e = .returned (.tuple #[.slice L rp.length c, .bool true]) ∧ RPolysAt w' L rp ∧ rp.map RP.key = ps.map PVal.key))
/-- What the reference's search returns. -/
def RetRSigns (ps : List PVal) (w : World) (e : Ending) (w' : World) : Prop :=
  Below w.heap.size w w' ∧
  ((¬ (∀ p ∈ ps, p.ok) ∧ e = .returned (.tuple #[.slice none 0 0, .int .i64 1])) ∨
   ((∀ p ∈ ps, p.ok) ∧ (ps = [] ∨ ∃ p ∈ ps, p.vars ≠ (ps.getD 0 ⟨0, none, 0, []⟩).vars) ∧ e = .returned (.tuple #[.slice none 0 0, .int .i64 4])) ∨
   ((∀ p ∈ ps, p.ok) ∧ ∃ n : Nat, n ≤ 6 ∧ ps ≠ [] ∧ (∀ p ∈ ps, p.vars = n) ∧ ∃ A c, e = .returned (.tuple #[.slice A ((kern (keepB (rowsOf ps) n) n (2 ^ n - 1)).map (unp · n)).length c, .int .i64 0]) ∧ Lists w' A ((kern (keepB (rowsOf ps) n) n (2 ^ n - 1)).map (unp · n))))
theorem rows_key {rp : List RP} {ps : List PVal} (h : rp.map RP.key = ps.map PVal.key) : (rterms rp).map RT.exps = rowsOf ps := by
  have e1 : (rterms rp).map RT.exps = (rp.map RP.key).flatMap Prod.snd := by
    unfold rterms
    rw [List.map_flatMap, List.flatMap_map]; rfl
  have e2 : rowsOf ps = (ps.map PVal.key).flatMap Prod.snd := by
    unfold rowsOf
    rw [List.flatMap_map]; rfl
  rw [e1, e2, h]
theorem vars_key {rp : List RP} {ps : List PVal} (h : rp.map RP.key = ps.map PVal.key) {i : Nat} (hi : i < rp.length) (hj : i < ps.length) : rp[i].vars = ps[i].vars := by
  have h1 : (rp.map RP.key)[i]? = (ps.map PVal.key)[i]? := by rw [h]
  rw [List.getElem?_map, List.getElem?_map, List.getElem?_eq_getElem hi, List.getElem?_eq_getElem hj] at h1
  simp only [Option.map_some] at h1
  injection h1 with h1
  exact congrArg Prod.fst h1
theorem len_key {rp : List RP} {ps : List PVal} (h : rp.map RP.key = ps.map PVal.key) : rp.length = ps.length := by
  have := congrArg List.length h
  simpa using this
theorem rsigns_any (L : Option Addr) (c : Nat) (ps : List PVal) (w : World) (hn : ps.length ≤ 1000) (hrl : (rowsOf ps).length ≤ 100000) (hts : ∀ p ∈ ps, p.tv.length ≤ 100000)
    (hR : Calls Tryz.prog 30 #[.slice L ps.length c] w (RetAll ps w)) :
    Calls Tryz.prog 11 #[.slice L ps.length c] w (RetRSigns ps w) := by
  have HR := Lib.hid hR
  have HTS := Lib.hid hts
  clear hR hts
  go_enter Tryz.func11, Tryz.ntmps11
  go_wp2_with (fail)
  refine HR.out.mono ?_
  rintro e w1 ⟨hb1, ⟨hbad, rfl⟩ | ⟨hok, R, cr, rp, rfl, hP, hkey⟩⟩
  · have HB := Lib.hid hbad
    clear hbad
    go_wp2
    go_ret2
    exact ⟨hb1, .inl ⟨HB.out, rfl⟩⟩
  · have hlen := len_key hkey
    have HKEY := Lib.hid hkey
    have HOK := Lib.hid hok
    have hrn : rp.length ≤ 1000 := by omega
    have HLEN := Lib.hid hlen
    clear hkey hok hlen
    by_cases h0 : rp.length = 0
    · have hz : ((rp.length : Int) == 0) = true := by simp [h0]
      have hz' : (rp.length == 0) = true := by simp [h0]
      have HE : Hid (ps = []) := Lib.hid (List.eq_nil_of_length_eq_zero (by have := HLEN.out; omega))
      clear h0
      go_wp2
      go_ret2
      exact ⟨hb1, .inr (.inl ⟨HOK.out, .inl HE.out, rfl⟩)⟩
    · have hz : ((rp.length : Int) == 0) = false := beq_eq_false_iff_ne.2 (by omega)
      have hz' : (rp.length == 0) = false := beq_eq_false_iff_ne.2 h0
      obtain ⟨ad, rfl, d0, _, _⟩ := RPolysAt.at hP (k := 0) (by omega)
      have HV0 : Hid (rp[0].vars = (ps.getD 0 ⟨0, none, 0, []⟩).vars) := Lib.hid (by
        have hl := HLEN.out
        rw [vars_key HKEY.out (by omega) (by omega)]
        have : 0 < ps.length := by omega
        simp [this])
      rw [Nat.zero_mul] at d0
      have d00 : w1.cell? ad = some (.int .i64 rp[0].vars) := by simpa [Addr.add] using d0
      generalize rp[0].vars = v0 at d00 HV0
      clear d0
      go_wp2
      go_loopw [6] (fun i wr => ∃ k : Nat, k ≤ rp.length ∧ i = .int .i64 k ∧ Hid (∀ p ∈ rp.take k, p.vars = v0) ∧ Dr w1 wr) (fun i _ => rp.length - (intOf i).toNat)
      case atStart => exact ⟨0, Nat.zero_le _, rfl, Lib.hid (by simp), Dr.refl _⟩
      case round =>
        obtain ⟨k, hk, rfl, HI, hdr⟩ := hrel
        have e00 := keep_cell hdr.below d00
        by_cases hkl : k < rp.length
        · obtain ⟨ad', hh, e1, _, _⟩ := RPolysAt.at (hP.keep hdr.below) hkl
          obtain rfl : ad = ad' := by simpa using hh
          clear hh
          have HT0 : Hid (rp.take (k + 1) = rp.take k ++ [rp[k]]) := Lib.hid (List.take_succ_eq_append_getElem hkl)
          have HVK : Hid (∃ p ∈ ps, p.vars = rp[k].vars) := Lib.hid (by
            have hl := HLEN.out
            exact ⟨ps[k]'(by omega), List.getElem_mem _, (vars_key HKEY.out hkl (by omega)).symm⟩)
          generalize rp[k] = p at *
          obtain ⟨pv, T, ct, ts⟩ := p
          simp only at *
          by_cases hv : pv = v0
          · have hb : (pv != v0) = false := by simp [hv]
            have HI2 : Hid (∀ p ∈ rp.take (k + 1), p.vars = v0) := Lib.hid (by
              rw [HT0.out]
              intro p hp
              rcases List.mem_append.1 hp with h | h
              · exact HI.out p h
              · simp at h; subst h; exact hv)
            clear hv
            go_wp2
            go_quiet (fail)
            go_wp2
            go_roundw
            case rel => exact ⟨k + 1, by omega, by go_num, HI2, hdr.drewN _⟩
            case measure => simp [intOf]; omega
          · have hb : (pv != v0) = true := by simp [hv]
            have HNE : Hid (∃ p ∈ ps, p.vars ≠ (ps.getD 0 ⟨0, none, 0, []⟩).vars) := Lib.hid (by
              obtain ⟨p, hp, e⟩ := HVK.out
              exact ⟨p, hp, by rw [e, ← HV0.out]; exact hv⟩)
            clear hv
            go_wp2
            go_quiet (fail)
            go_wp2
            go_ret2
            exact ⟨below_all hb1 (hdr.drewN _).below, .inr (.inl ⟨HOK.out, .inr HNE.out, rfl⟩)⟩
        · have hall : ∀ p ∈ rp, p.vars = v0 := by have := HI.out; rwa [List.take_of_length_le (by omega)] at this
          have hpall : ∀ p ∈ ps, p.vars = v0 := by
            intro p hp
            obtain ⟨i, hi, rfl⟩ := List.getElem_of_mem hp
            have hl := HLEN.out
            rw [← vars_key HKEY.out (by omega) hi]
            exact hall _ (List.getElem_mem _)
          have hne : ps ≠ [] := by
            intro e
            have hl := HLEN.out
            rw [e] at hl
            exact h0 hl
          obtain ⟨n, hn6, rfl⟩ : ∃ n : Nat, n ≤ 6 ∧ v0 = (n : Int) := by
            obtain ⟨p, hp⟩ := List.exists_mem_of_ne_nil ps hne
            have h1 := (HOK.out p hp).2.1.1
            have h2 := (HOK.out p hp).2.1.2.1
            have h3 := hpall p hp
            exact ⟨v0.toNat, by omega, by omega⟩
          have HROW := Lib.hid (rows_key HKEY.out)
          have hrows : ∀ r ∈ rowsOf ps, n ≤ r.length ∧ ∀ x ∈ r, 0 ≤ x ∧ x ≤ 1048576 := by
            intro r hr
            obtain ⟨p, hp, hr⟩ := List.mem_flatMap.1 hr
            obtain ⟨t, ht, rfl⟩ := List.mem_map.1 hr
            have h1 := ok_term (HOK.out p hp) ht
            have h2 := hpall p hp
            exact ⟨by omega, h1.2⟩
          have hP' := hP.keep hdr.below
          have K1 : Hid (∀ W, Below wr.heap.size wr W → Calls Tryz.prog 32 #[.slice (some ad) rp.length cr] W fun e w' => ∃ A d, e = .returned (.slice A (rowsOf ps).length d) ∧ Lists w' A (rowsOf ps) ∧ Below wr.heap.size wr w') := Lib.hid (fun W hW => by
            have hrt : (rterms rp).length = (rowsOf ps).length := by rw [← HROW.out, List.length_map]
            have := rrows_any (some ad) cr rp W (hP'.keep hW) hrn (by omega) (fun p hp => by
              obtain ⟨i, hi, rfl⟩ := List.getElem_of_mem hp
              have hl := HLEN.out
              have h1 : (rp.map RP.key)[i]? = (ps.map PVal.key)[i]? := by rw [HKEY.out]
              rw [List.getElem?_map, List.getElem?_map, List.getElem?_eq_getElem hi, List.getElem?_eq_getElem (by omega)] at h1
              simp only [Option.map_some] at h1
              injection h1 with h1
              have h2 := congrArg (fun x => x.2.length) h1
              simp only [RP.key, PVal.key, List.length_map] at h2
              rw [h2]
              exact HTS.out _ (List.getElem_mem _))
            rw [HROW.out] at this
            exact this.mono fun e w' ⟨A, d, h1, h2, h3⟩ => ⟨A, d, h1, h2, below_all hW h3⟩)
          have K2 : Hid (∀ W A d, Lists W A (rowsOf ps) → Below wr.heap.size wr W → Calls Tryz.prog 31 #[.slice A (rowsOf ps).length d, .int .i64 n] W fun e w' => ∃ A c, e = .returned (.slice A ((kern (keepB (rowsOf ps) n) n (2 ^ n - 1)).map (unp · n)).length c) ∧ Lists w' A ((kern (keepB (rowsOf ps) n) n (2 ^ n - 1)).map (unp · n)) ∧ Below wr.heap.size wr w') := Lib.hid (fun W A d hA hW => by
            have := kernel_any A d (rowsOf ps) n W hA (by omega) hn6 hrows
            rw [kern_same (fun r hr y hy => ((hrows r hr).2 y hy).1)] at this
            exact this.mono fun e w' ⟨A, d, h1, h2, h3⟩ => ⟨A, d, h1, h2, below_all hW h3⟩)
          have HFIN : Hid (ps ≠ [] ∧ ∀ p ∈ ps, p.vars = n) := Lib.hid ⟨hne, hpall⟩
          have hbwr := below_all hb1 hdr.below
          obtain ⟨K, hK⟩ : ∃ K, (kern (keepB (rowsOf ps) n) n (2 ^ n - 1)).map (unp · n) = K := ⟨_, rfl⟩
          rw [hK] at K2
          have HK := Lib.hid hK
          clear hK
          clear hall hpall hne hrows hP hP' hdr HROW d00
          go_wp2
          have hbe : Below wr.heap.size wr wr.drew := (Below.refl _ _).drew
          have qz : (0 : Int) < (rp.length : Int) := by omega
          have qz' : 0 < rp.length := by omega
          go_region_held3 (fun w' => w'.cell? ad = some (.int .i64 (n : Int))) (first | go_keep | exact keep_cell hbe e00)
            (first
              | (go_at_call 32; refine (K1.out _ (by assumption)).mono ?_; rintro e w' ⟨A1, d1, rfl, hLA, hbe⟩)
              | (go_at_call 31; refine (K2.out _ _ _ (by assumption) (by assumption)).mono ?_; rintro e w' ⟨A2, d2, rfl, hLK, hbe⟩))
          all_goals
            go_wp2
            go_ret2
            have hK := HK.out
            subst hK
            exact ⟨below_all hbwr hbe, .inr (.inr ⟨HOK.out, n, hn6, HFIN.out.1, HFIN.out.2, A2, d2, rfl, hLK⟩)⟩
end Go.Proofs.Tg
end
