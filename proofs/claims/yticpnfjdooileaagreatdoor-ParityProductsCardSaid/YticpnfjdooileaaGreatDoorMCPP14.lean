/- Parts of the proof: E5, XK6, LS1, XR1. -/
import Derived.Test.YticpnfjdooileaaGreatDoorMCPP4
import Derived.Test.YticpnfjdooileaaGreatDoorMCPP12
import Derived.Test.YticpnfjdooileaaGreatDoorMCPP13
section
/- What the reference's search keeps is what the plain search keeps. Plain numbers. -/
namespace Go.Ev
theorem orth_Vb {rs : List (List Int)} {n x : Nat} (hx : x < 2 ^ n) (ha : ∀ r ∈ rs, ∀ y ∈ r, 0 ≤ y) : orth rs (unp x n) = Vb rs n x := by
  unfold orth Vb
  rw [decide_eq_true hx, Bool.true_and]
  rw [Bool.eq_iff_iff, List.all_eq_true, List.all_eq_true]
  have key : ∀ r ∈ rs, dotN r (unp x n) (unp x n).length = (pr r x n : Nat) := by
    intro r hr
    have := dotN_pr r (unp x n) n (unp_bit x n) (unp_len x n).symm (ha r hr) n (Nat.le_refl _)
    rw [pk_unp hx] at this
    rw [unp_len]; exact this
  constructor
  · intro h r hr
    have := h r hr
    rw [key r hr, beq_iff_eq] at this
    rw [beq_iff_eq]; omega
  · intro h r hr
    have := h r hr
    rw [beq_iff_eq] at this
    rw [key r hr, beq_iff_eq]; omega
theorem fidx_lead {x n l : Nat} (hx : x < 2 ^ n) (h : Lead x l) : (unp x n).findIdx (· == 1) = l := by
  have hl := lead_lt hx h
  have hlen := unp_len x n
  have hg : ∀ i (hi : i < n), (unp x n)[i]'(by rw [hlen]; exact hi) = if x.testBit i = true then 1 else 0 := by
    intro i hi
    have := unp_getD x n i hi
    rw [← this]; simp [hlen, hi]
  have h1 : ¬ l < (unp x n).findIdx (· == 1) := by
    intro hlt
    have := List.not_of_lt_findIdx hlt
    rw [hg l hl, if_pos h.1] at this
    cases this
  by_cases e : (unp x n).findIdx (· == 1) = l
  · exact e
  · exfalso
    have hlt : (unp x n).findIdx (· == 1) < l := by omega
    have hin : (unp x n).findIdx (· == 1) < (unp x n).length := by omega
    have := List.findIdx_getElem (w := hin)
    rw [hg _ (by omega), h.2 _ hlt] at this
    cases this
theorem fidx_zero (n : Nat) : (unp 0 n).findIdx (· == 1) = n := by
  have hlen := unp_len 0 n
  by_cases e : (unp 0 n).findIdx (· == 1) < (unp 0 n).length
  · exfalso
    have h := List.findIdx_getElem (w := e)
    have hg : ∀ i (hi : i < n), (unp 0 n)[i]'(by rw [hlen]; exact hi) = 0 := by
      intro i hi
      have := unp_getD 0 n i hi
      simp at this
      simp [unp]
    rw [hg _ (by omega)] at h
    cases h
  · have := List.findIdx_le_length (xs := unp 0 n) (p := (· == 1))
    omega
theorem redR_redB {rs : List (List Int)} {n x : Nat} (hx : x < 2 ^ n) (ha : ∀ r ∈ rs, ∀ y ∈ r, 0 ≤ y) : redR rs n (unp x n) = redB rs n x := by
  rw [Bool.eq_iff_iff, redB_iff hx]
  unfold redR
  rw [List.all_eq_true]
  constructor
  · intro h t k l ht hk hl hlk
    have htn : t < 2 ^ n := ht.1
    have ht0 : t ≠ 0 := by
      intro e
      subst e
      have := hk.1
      simp at this
    have hkn := lead_lt htn hk
    have h0 := h (rev n t) (List.mem_range.2 (rev_lt n t))
    have hr0 : rev n t ≠ 0 := fun e => ht0 ((rev_zero htn).1 e)
    have e1 : ov n (rev n t) = unp t n := by unfold ov; rw [rev_rev htn]
    unfold badT at h0
    rw [e1, fidx_lead htn hk, fidx_lead hx hl, orth_Vb htn ha, Vb_iff.2 ht, unp_getD x n k hkn] at h0
    cases hb : x.testBit k with
    | false => rfl
    | true => rw [hb] at h0; simp [hr0, hlk] at h0
  · intro h t htm
    have htn := List.mem_range.1 htm
    by_cases ht0 : t = 0
    · simp [ht0]
    · have hr0 : rev n t ≠ 0 := fun e => ht0 ((rev_zero htn).1 e)
      obtain ⟨k, hk⟩ := lead_exists hr0
      have hkn := lead_lt (rev_lt n t) hk
      unfold badT
      have e1 : ov n t = unp (rev n t) n := rfl
      rw [e1, fidx_lead (rev_lt n t) hk, orth_Vb (rev_lt n t) ha, unp_getD x n k hkn]
      by_cases hx0 : x = 0
      · subst hx0
        rw [fidx_zero, decide_eq_false (by omega)]; simp
      · obtain ⟨l, hl⟩ := lead_exists hx0
        rw [fidx_lead hx hl]
        by_cases hlk : l < k
        · by_cases hV : V rs n (rev n t)
          · rw [h (rev n t) k l hV hk hl hlk]; simp
          · have : Vb rs n (rev n t) = false := by
              cases hv : Vb rs n (rev n t) with
              | false => rfl
              | true => exact absurd (Vb_iff.1 hv) hV
            rw [this]; simp
        · rw [decide_eq_false hlk]; simp
/-- The reference's kernel is the plain one. -/
theorem kern_same {rs : List (List Int)} {n k : Nat} (ha : ∀ r ∈ rs, ∀ y ∈ r, 0 ≤ y) : kern (keepR rs n) n k = kern (keepB rs n) n k := by
  unfold kern
  apply List.filter_congr
  intro x hx
  obtain ⟨t, _, rfl⟩ := List.mem_map.1 hx
  unfold keepR keepB
  rw [orth_Vb (rev_lt _ _) ha, redR_redB (rev_lt _ _) ha]
end Go.Ev
end
section
/- The reference's Signs, over what its ReadAll gives. -/
namespace Go.Proofs.Tg
open Go.RowKit Go.Gr Go.Ev Go.Mo
set_option maxHeartbeats 4000000
set_option maxRecDepth 100000
def PVal.key (p : PVal) : Int × List (List Int) := (p.vars, p.tv.map TV.exps)
def RP.key (p : RP) : Int × List (List Int) := (p.vars, p.ts.map RT.exps)
/-- What the reference's reading of all polynomials returns. -/
def RetAll (ps : List PVal) (w : World) (e : Ending) (w' : World) : Prop :=
  Below w.heap.size w w' ∧ ((¬ (∀ p ∈ ps, p.ok) ∧ e = .returned (.tuple #[.slice none 0 0, .bool false])) ∨
    ((∀ p ∈ ps, p.ok) ∧ ∃ L c rp, e = .returned (.tuple #[.slice L rp.length c, .bool true]) ∧ RPolysAt w' L rp ∧ rp.map RP.key = ps.map PVal.key))
/-- What the reference's search returns. -/
def RetRSigns (ps : List PVal) (w : World) (e : Ending) (w' : World) : Prop :=
  Below w.heap.size w w' ∧
  ((¬ (∀ p ∈ ps, p.ok) ∧ e = .returned (.tuple #[.slice none 0 0, .int .i64 1])) ∨
   ((∀ p ∈ ps, p.ok) ∧ (ps = [] ∨ ∃ p ∈ ps, p.vars ≠ (ps.getD 0 ⟨0, none, 0, []⟩).vars) ∧ e = .returned (.tuple #[.slice none 0 0, .int .i64 4])) ∨
   ((∀ p ∈ ps, p.ok) ∧ ∃ n : Nat, n ≤ 6 ∧ ps ≠ [] ∧ (∀ p ∈ ps, p.vars = n) ∧ ∃ A c, e = .returned (.tuple #[.slice A ((kern (keepB (rowsOf ps) n) n (2 ^ n - 1)).map (unp · n)).length c, .int .i64 0]) ∧ Lists w' A ((kern (keepB (rowsOf ps) n) n (2 ^ n - 1)).map (unp · n))))
theorem rows_key {rp : List RP} {ps : List PVal} (h : rp.map RP.key = ps.map PVal.key) : (rterms rp).map RT.exps = rowsOf ps := by
  have e1 : (rterms rp).map RT.exps = (rp.map RP.key).flatMap Prod.snd := by
    unfold rterms
    rw [List.map_flatMap, List.flatMap_map]; rfl
  have e2 : rowsOf ps = (ps.map PVal.key).flatMap Prod.snd := by
    unfold rowsOf
    rw [List.flatMap_map]; rfl
  rw [e1, e2, h]
theorem vars_key {rp : List RP} {ps : List PVal} (h : rp.map RP.key = ps.map PVal.key) {i : Nat} (hi : i < rp.length) (hj : i < ps.length) : rp[i].vars = ps[i].vars := by
  have h1 : (rp.map RP.key)[i]? = (ps.map PVal.key)[i]? := by rw [h]
  rw [List.getElem?_map, List.getElem?_map, List.getElem?_eq_getElem hi, List.getElem?_eq_getElem hj] at h1
  simp only [Option.map_some] at h1
  injection h1 with h1
  exact congrArg Prod.fst h1
theorem len_key {rp : List RP} {ps : List PVal} (h : rp.map RP.key = ps.map PVal.key) : rp.length = ps.length := by
  have := congrArg List.length h
  simpa using this
theorem rsigns_any (L : Option Addr) (c : Nat) (ps : List PVal) (w : World) (hn : ps.length ≤ 1000) (hrl : (rowsOf ps).length ≤ 100000) (hts : ∀ p ∈ ps, p.tv.length ≤ 100000)
    (hR : Calls Tryz.prog 30 #[.slice L ps.length c] w (RetAll ps w)) :
    Calls Tryz.prog 11 #[.slice L ps.length c] w (RetRSigns ps w) := by
  have HR := Lib.hid hR
  have HTS := Lib.hid hts
  clear hR hts
  go_enter Tryz.func11, Tryz.ntmps11
  go_wp2_with (fail)
  refine HR.out.mono ?_
  rintro e w1 ⟨hb1, ⟨hbad, rfl⟩ | ⟨hok, R, cr, rp, rfl, hP, hkey⟩⟩
  · have HB := Lib.hid hbad
    clear hbad
    go_wp2
    go_ret2
    exact ⟨hb1, .inl ⟨HB.out, rfl⟩⟩
  · have hlen := len_key hkey
    have HKEY := Lib.hid hkey
    have HOK := Lib.hid hok
    have hrn : rp.length ≤ 1000 := by omega
    have HLEN := Lib.hid hlen
    clear hkey hok hlen
    by_cases h0 : rp.length = 0
    · have hz : ((rp.length : Int) == 0) = true := by simp [h0]
      have hz' : (rp.length == 0) = true := by simp [h0]
      have HE : Hid (ps = []) := Lib.hid (List.eq_nil_of_length_eq_zero (by have := HLEN.out; omega))
      clear h0
      go_wp2
      go_ret2
      exact ⟨hb1, .inr (.inl ⟨HOK.out, .inl HE.out, rfl⟩)⟩
    · have hz : ((rp.length : Int) == 0) = false := beq_eq_false_iff_ne.2 (by omega)
      have hz' : (rp.length == 0) = false := beq_eq_false_iff_ne.2 h0
      obtain ⟨ad, rfl, d0, _, _⟩ := RPolysAt.at hP (k := 0) (by omega)
      have HV0 : Hid (rp[0].vars = (ps.getD 0 ⟨0, none, 0, []⟩).vars) := Lib.hid (by
        have hl := HLEN.out
        rw [vars_key HKEY.out (by omega) (by omega)]
        have : 0 < ps.length := by omega
        simp [this])
      rw [Nat.zero_mul] at d0
      have d00 : w1.cell? ad = some (.int .i64 rp[0].vars) := by simpa [Addr.add] using d0
      generalize rp[0].vars = v0 at d00 HV0
      clear d0
      go_wp2
      go_loopw [6] (fun i wr => ∃ k : Nat, k ≤ rp.length ∧ i = .int .i64 k ∧ Hid (∀ p ∈ rp.take k, p.vars = v0) ∧ Dr w1 wr) (fun i _ => rp.length - (intOf i).toNat)
      case atStart => exact ⟨0, Nat.zero_le _, rfl, Lib.hid (by simp), Dr.refl _⟩
      case round =>
        obtain ⟨k, hk, rfl, HI, hdr⟩ := hrel
        have e00 := keep_cell hdr.below d00
        by_cases hkl : k < rp.length
        · obtain ⟨ad', hh, e1, _, _⟩ := RPolysAt.at (hP.keep hdr.below) hkl
          obtain rfl : ad = ad' := by simpa using hh
          clear hh
          have HT0 : Hid (rp.take (k + 1) = rp.take k ++ [rp[k]]) := Lib.hid (List.take_succ_eq_append_getElem hkl)
          have HVK : Hid (∃ p ∈ ps, p.vars = rp[k].vars) := Lib.hid (by
            have hl := HLEN.out
            exact ⟨ps[k]'(by omega), List.getElem_mem _, (vars_key HKEY.out hkl (by omega)).symm⟩)
          generalize rp[k] = p at *
          obtain ⟨pv, T, ct, ts⟩ := p
          simp only at *
          by_cases hv : pv = v0
          · have hb : (pv != v0) = false := by simp [hv]
            have HI2 : Hid (∀ p ∈ rp.take (k + 1), p.vars = v0) := Lib.hid (by
              rw [HT0.out]
              intro p hp
              rcases List.mem_append.1 hp with h | h
              · exact HI.out p h
              · simp at h; subst h; exact hv)
            clear hv
            go_wp2
            go_quiet (fail)
            go_wp2
            go_roundw
            case rel => exact ⟨k + 1, by omega, by go_num, HI2, hdr.drewN _⟩
            case measure => simp [intOf]; omega
          · have hb : (pv != v0) = true := by simp [hv]
            have HNE : Hid (∃ p ∈ ps, p.vars ≠ (ps.getD 0 ⟨0, none, 0, []⟩).vars) := Lib.hid (by
              obtain ⟨p, hp, e⟩ := HVK.out
              exact ⟨p, hp, by rw [e, ← HV0.out]; exact hv⟩)
            clear hv
            go_wp2
            go_quiet (fail)
            go_wp2
            go_ret2
            exact ⟨below_all hb1 (hdr.drewN _).below, .inr (.inl ⟨HOK.out, .inr HNE.out, rfl⟩)⟩
        · have hall : ∀ p ∈ rp, p.vars = v0 := by have := HI.out; rwa [List.take_of_length_le (by omega)] at this
          have hpall : ∀ p ∈ ps, p.vars = v0 := by
            intro p hp
            obtain ⟨i, hi, rfl⟩ := List.getElem_of_mem hp
            have hl := HLEN.out
            rw [← vars_key HKEY.out (by omega) hi]
            exact hall _ (List.getElem_mem _)
          have hne : ps ≠ [] := by
            intro e
            have hl := HLEN.out
            rw [e] at hl
            exact h0 hl
          obtain ⟨n, hn6, rfl⟩ : ∃ n : Nat, n ≤ 6 ∧ v0 = (n : Int) := by
            obtain ⟨p, hp⟩ := List.exists_mem_of_ne_nil ps hne
            have h1 := (HOK.out p hp).2.1.1
            have h2 := (HOK.out p hp).2.1.2.1
            have h3 := hpall p hp
            exact ⟨v0.toNat, by omega, by omega⟩
          have HROW := Lib.hid (rows_key HKEY.out)
          have hrows : ∀ r ∈ rowsOf ps, n ≤ r.length ∧ ∀ x ∈ r, 0 ≤ x ∧ x ≤ 1048576 := by
            intro r hr
            obtain ⟨p, hp, hr⟩ := List.mem_flatMap.1 hr
            obtain ⟨t, ht, rfl⟩ := List.mem_map.1 hr
            have h1 := ok_term (HOK.out p hp) ht
            have h2 := hpall p hp
            exact ⟨by omega, h1.2⟩
          have hP' := hP.keep hdr.below
          have K1 : Hid (∀ W, Below wr.heap.size wr W → Calls Tryz.prog 32 #[.slice (some ad) rp.length cr] W fun e w' => ∃ A d, e = .returned (.slice A (rowsOf ps).length d) ∧ Lists w' A (rowsOf ps) ∧ Below wr.heap.size wr w') := Lib.hid (fun W hW => by
            have hrt : (rterms rp).length = (rowsOf ps).length := by rw [← HROW.out, List.length_map]
            have := rrows_any (some ad) cr rp W (hP'.keep hW) hrn (by omega) (fun p hp => by
              obtain ⟨i, hi, rfl⟩ := List.getElem_of_mem hp
              have hl := HLEN.out
              have h1 : (rp.map RP.key)[i]? = (ps.map PVal.key)[i]? := by rw [HKEY.out]
              rw [List.getElem?_map, List.getElem?_map, List.getElem?_eq_getElem hi, List.getElem?_eq_getElem (by omega)] at h1
              simp only [Option.map_some] at h1
              injection h1 with h1
              have h2 := congrArg (fun x => x.2.length) h1
              simp only [RP.key, PVal.key, List.length_map] at h2
              rw [h2]
              exact HTS.out _ (List.getElem_mem _))
            rw [HROW.out] at this
            exact this.mono fun e w' ⟨A, d, h1, h2, h3⟩ => ⟨A, d, h1, h2, below_all hW h3⟩)
          have K2 : Hid (∀ W A d, Lists W A (rowsOf ps) → Below wr.heap.size wr W → Calls Tryz.prog 31 #[.slice A (rowsOf ps).length d, .int .i64 n] W fun e w' => ∃ A c, e = .returned (.slice A ((kern (keepB (rowsOf ps) n) n (2 ^ n - 1)).map (unp · n)).length c) ∧ Lists w' A ((kern (keepB (rowsOf ps) n) n (2 ^ n - 1)).map (unp · n)) ∧ Below wr.heap.size wr w') := Lib.hid (fun W A d hA hW => by
            have := kernel_any A d (rowsOf ps) n W hA (by omega) hn6 hrows
            rw [kern_same (fun r hr y hy => ((hrows r hr).2 y hy).1)] at this
            exact this.mono fun e w' ⟨A, d, h1, h2, h3⟩ => ⟨A, d, h1, h2, below_all hW h3⟩)
          have HFIN : Hid (ps ≠ [] ∧ ∀ p ∈ ps, p.vars = n) := Lib.hid ⟨hne, hpall⟩
          have hbwr := below_all hb1 hdr.below
          obtain ⟨K, hK⟩ : ∃ K, (kern (keepB (rowsOf ps) n) n (2 ^ n - 1)).map (unp · n) = K := ⟨_, rfl⟩
          rw [hK] at K2
          have HK := Lib.hid hK
          clear hK
          clear hall hpall hne hrows hP hP' hdr HROW d00
          go_wp2
          have hbe : Below wr.heap.size wr wr.drew := (Below.refl _ _).drew
          have qz : (0 : Int) < (rp.length : Int) := by omega
          have qz' : 0 < rp.length := by omega
          go_region_held3 (fun w' => w'.cell? ad = some (.int .i64 (n : Int))) (first | go_keep | exact keep_cell hbe e00)
            (first
              | (go_at_call 32; refine (K1.out _ (by assumption)).mono ?_; rintro e w' ⟨A1, d1, rfl, hLA, hbe⟩)
              | (go_at_call 31; refine (K2.out _ _ _ (by assumption) (by assumption)).mono ?_; rintro e w' ⟨A2, d2, rfl, hLK, hbe⟩))
          all_goals
            go_wp2
            go_ret2
            have hK := HK.out
            subst hK
            exact ⟨below_all hbwr hbe, .inr (.inr ⟨HOK.out, n, hn6, HFIN.out.1, HFIN.out.2, A2, d2, rfl, hLK⟩)⟩
end Go.Proofs.Tg
end
section
/- The statement ParitySigns, walked, over what the reference's ReadAll gives. -/
namespace Go.Proofs.Tg
open Go.RowKit Go.Gr Go.Ev Go.Mo Go.Qn
set_option maxHeartbeats 4000000
set_option maxRecDepth 100000
/-- Both searches answer alike. -/
theorem both_signs (ps : List PVal) : ∃ (K : List (List Int)) (c : Int), K.length ≤ 1000000 ∧ (∀ l ∈ K, l.length ≤ 1000000) ∧
    (∀ w e w', RetSigns ps w e w' → ∃ A d, e = .returned (.tuple #[.slice A K.length d, .int .i64 c]) ∧ Lists w' A K ∧ Below w.heap.size w w') ∧
    (∀ w e w', RetRSigns ps w e w' → ∃ A d, e = .returned (.tuple #[.slice A K.length d, .int .i64 c]) ∧ Lists w' A K ∧ Below w.heap.size w w') := by
  have lnil : ∀ w, Lists w none [] := fun w => ⟨fun _ => (none, 0), Sl.nil _ _ _, fun i hi => by simp at hi⟩
  by_cases hok : ∀ p ∈ ps, p.ok
  · by_cases hd : ps = [] ∨ ∃ p ∈ ps, p.vars ≠ (ps.getD 0 ⟨0, none, 0, []⟩).vars
    · have hno : ∀ n : Nat, ps ≠ [] → (∀ p ∈ ps, p.vars = n) → False := by
        intro n hne hall
        rcases hd with h | ⟨p, hp, h⟩
        · exact hne h
        · apply h
          have h0 : 0 < ps.length := List.length_pos_iff.2 hne
          rw [hall p hp]
          have := hall ps[0] (List.getElem_mem _)
          simp [h0, this]
      refine ⟨[], 4, by simp, by simp, ?_, ?_⟩
      · rintro w e w' ⟨hb, h | h | h⟩
        · exact absurd hok h.1
        · exact ⟨none, 0, h.2.2, lnil _, hb⟩
        · obtain ⟨_, n, _, hne, hall, _⟩ := h
          exact (hno n hne hall).elim
      · rintro w e w' ⟨hb, h | h | h⟩
        · exact absurd hok h.1
        · exact ⟨none, 0, h.2.2, lnil _, hb⟩
        · obtain ⟨_, n, _, hne, hall, _⟩ := h
          exact (hno n hne hall).elim
    · have hne : ps ≠ [] := fun h => hd (.inl h)
      obtain ⟨p0, hp0⟩ := List.exists_mem_of_ne_nil ps hne
      have hlt : ∀ n : Nat, n ≤ 6 → ((kern (keepB (rowsOf ps) n) n (2 ^ n - 1)).map (unp · n)).length ≤ 1000000 := by
        intro n hn
        have h6 : 2 ^ n ≤ 2 ^ 6 := Nat.pow_le_pow_right (by omega) hn
        have := kern_len (keepB (rowsOf ps) n) n (2 ^ n - 1)
        rw [List.length_map]; omega
      have h1 := (hok p0 hp0).2.1.1
      have h2 := (hok p0 hp0).2.1.2.1
      refine ⟨(kern (keepB (rowsOf ps) p0.vars.toNat) p0.vars.toNat (2 ^ p0.vars.toNat - 1)).map (unp · p0.vars.toNat), 0, hlt _ (by omega), ?_, ?_, ?_⟩
      · intro l hl
        obtain ⟨x, _, rfl⟩ := List.mem_map.1 hl
        rw [unp_len]; omega
      · rintro w e w' ⟨hb, h | h | h⟩
        · exact absurd hok h.1
        · exact absurd h.2.1 hd
        · obtain ⟨_, n, hn, _, hall, A, c, us, r, q, hE, _, he, hL⟩ := h
          have : p0.vars.toNat = n := by rw [hall p0 hp0]; simp
          rw [this]
          rw [rows_keep hE] at he hL
          exact ⟨A, c, he, hL, hb⟩
      · rintro w e w' ⟨hb, h | h | h⟩
        · exact absurd hok h.1
        · exact absurd h.2.1 hd
        · obtain ⟨_, n, hn, _, hall, A, c, he, hL⟩ := h
          have : p0.vars.toNat = n := by rw [hall p0 hp0]; simp
          rw [this]
          exact ⟨A, c, he, hL, hb⟩
  · refine ⟨[], 1, by simp, by simp, ?_, ?_⟩
    · rintro w e w' ⟨hb, h | h | h⟩
      · exact ⟨none, 0, h.2, lnil _, hb⟩
      · exact absurd h.1 hok
      · exact absurd h.1 hok
    · rintro w e w' ⟨hb, h | h | h⟩
      · exact ⟨none, 0, h.2, lnil _, hb⟩
      · exact absurd h.1 hok
      · exact absurd h.1 hok
theorem rows_few : ∀ (ps : List PVal), (∀ p ∈ ps, p.few 8 8) → (rowsOf ps).length ≤ 8 * ps.length
  | [], _ => by simp [rowsOf]
  | p :: ps, h => by
    have := rows_few ps (fun p hp => h p (by simp [hp]))
    have h1 := (h p (by simp)).1
    have e : rowsOf (p :: ps) = p.tv.map TV.exps ++ rowsOf ps := rfl
    rw [e, List.length_append, List.length_map, List.length_cons]; omega
/-- The law, where the reference's reading is known. -/
theorem law_signs' (L : Option Addr) (c : Nat) (ps : List PVal) (w : World) (hL : PolysAt w L ps) (hT : Tab w)
    (hR : ps.length ≤ 4 → (∀ p ∈ ps, p.few 8 8) → ∀ W, PolysAt W L ps → Tab W → Calls Tryz.prog 30 #[.slice L ps.length c] W (RetAll ps W)) :
    Calls Tryz.prog 3 #[.slice L ps.length c] w fun e w' => e = .returned (.bool true) ∧ Below w.heap.size w w' := by
  by_cases hs : ps.length ≤ 4 ∧ ∀ p ∈ ps, p.few 8 8
  · obtain ⟨K, cc, hK1, hK2, H1, H2⟩ := both_signs ps
    have HK2 := Lib.hid hK2
    have HM1 := Lib.hid H1
    have HM2 := Lib.hid H2
    have hlen : ps.length ≤ 4 := hs.1
    have HFS : Hid ((rowsOf ps).length ≤ 100000) := Lib.hid (by have := rows_few ps hs.2; omega)
    have HSM : Hid (∀ p ∈ ps, p.small) := Lib.hid (fun p hp => ⟨by have := (hs.2 p hp).1; omega, fun t ht => by have := (hs.2 p hp).2 t ht; omega⟩)
    have HTL : Hid (∀ p ∈ ps, p.tv.length ≤ 100000) := Lib.hid (fun p hp => by have := (hs.2 p hp).1; omega)
    have HR := Lib.hid (hR hs.1 hs.2)
    have HP := Lib.hid (fun W (h : PolysAt W L ps) => spolys_any L c 4 8 8 ps true W h (by simp [hs.1]; exact hs.2) (by omega) (by omega) (by omega))
    clear hs H1 H2 hR hK2
    go_enter Tryz.func3, Tryz.ntmps3
    go_wp2_with (fail)
    refine (HP.out w hL).mono ?_
    rintro e w0 ⟨rfl, hb0⟩
    go_wp2_with (fail)
    refine (signs_any L c ps w0 (hL.keep hb0) (by omega) HSM.out (hT.below hb0 hT.1)).mono ?_
    intro e w1 hm
    obtain ⟨A, d, rfl, hA, hb1⟩ := HM1.out _ _ _ hm
    clear hm
    have hb1 := below_all hb0 hb1
    clear hb0
    go_wp2_with (fail)
    refine (rsigns_any L c ps w1 (by omega) HFS.out HTL.out (HR.out w1 (hL.keep hb1) (hT.below hb1 hT.1))).mono ?_
    intro e w2 hm
    obtain ⟨B, d2, rfl, hB, hb2⟩ := HM2.out _ _ _ hm
    clear hm
    have hA := hA.keep hb2
    have hb2 := below_all hb1 hb2
    clear hb1
    go_wp2_with (fail)
    refine (lists_any A B K K d d2 w2 hA hB hK1 HK2.out).mono ?_
    rintro e w3 ⟨he, hdr⟩
    rw [decide_eq_true rfl] at he
    subst he
    have hb3 := below_all hb2 hdr.below
    clear hb2 hdr
    go_wp2_with (fail)
    refine (awake_any w3 (hT.below hb3 hT.1)).mono ?_
    rintro e w4 ⟨rfl, hb4⟩
    go_wp2_with (fail)
    go_ret
    exact ⟨rfl, below_all hb3 hb4⟩
  · have HP := Lib.hid (spolys_any L c 4 8 8 ps false w hL (by simp only [Bool.false_eq_true, false_iff]; exact hs) (by omega) (by omega) (by omega))
    clear hs hR
    go_enter Tryz.func3, Tryz.ntmps3
    go_wp2_with (fail)
    refine HP.out.mono ?_
    rintro e w0 ⟨rfl, hb0⟩
    go_wp2_with (fail)
    refine (awake_any w0 (hT.below hb0 hT.1)).mono ?_
    rintro e w4 ⟨rfl, hb4⟩
    go_wp2_with (fail)
    go_ret
    exact ⟨rfl, below_all hb0 hb4⟩
end Go.Proofs.Tg
end
section
/- The reference's order of monomials. -/
namespace Go.Proofs.Tg
open Go.RowKit Go.Gr Go.Mo
set_option maxHeartbeats 2000000
set_option maxRecDepth 100000
theorem rord_any (A B : Option Addr) (c d : Nat) (a b : List Int) (w : World) (hA : Ints w A a) (hB : Ints w B b) (hl : a.length = b.length) (hn : a.length ≤ 64) (ha : low20 a = true) (hb : low20 b = true) :
    Calls Tryz.prog 67 #[.slice A a.length c, .slice B b.length d] w fun e w' => e = .returned (.int .i64 (ord a b)) ∧ Dr w w' := by
  have HL := Lib.hid hl
  have HA := Lib.hid (low20_iff.1 ha)
  have HB := Lib.hid (low20_iff.1 hb)
  have hn2 : b.length ≤ 64 := by omega
  clear hl ha hb
  go_enter Tryz.func67, Tryz.ntmps67
  go_wp2
  go_loopw [5, 6, 7] (fun s t i wr => ∃ k : Nat, k ≤ a.length ∧ i = .int .i64 k ∧ ∃ y z : Int, s = .int .i64 y ∧ t = .int .i64 z ∧ 0 ≤ y ∧ y ≤ 1048576 * 64 ∧ 0 ≤ z ∧ z ≤ 1048576 * 64 ∧ Hid (y = (a.take k).sum ∧ z = (b.take k).sum) ∧ Dr w wr) (fun _ _ i _ => a.length - (intOf i).toNat)
  case atStart => exact ⟨0, Nat.zero_le _, rfl, 0, 0, rfl, rfl, by omega, by omega, by omega, by omega, Lib.hid ⟨rfl, rfl⟩, Dr.refl _⟩
  case round =>
    obtain ⟨k, hk, rfl, y, z, rfl, rfl, hy0, hy1, hz0, hz1, HZ, hdr⟩ := hrel
    by_cases hlt : k < a.length
    · have hlt2 : k < b.length := by have := HL.out; omega
      obtain ⟨ad, rfl, hc1⟩ := Ints.at (hA.keep hdr.below) hlt
      obtain ⟨bd, rfl, hc2⟩ := Ints.at (hB.keep hdr.below) hlt2
      have HS1 : Hid ((a.take (k + 1)).sum = y + a[k]) := Lib.hid (by rw [sum_take_succ a k hlt, ← HZ.out.1])
      have HS2 : Hid ((b.take (k + 1)).sum = z + b[k]) := Lib.hid (by rw [sum_take_succ b k hlt2, ← HZ.out.2])
      have hb1 := HA.out a[k] (List.getElem_mem _)
      have hb2 := HB.out b[k] (List.getElem_mem _)
      have hs1 := sum_bound a (k + 1) HA.out
      have hs2 := sum_bound b (k + 1) HB.out
      rw [HS1.out] at hs1
      rw [HS2.out] at hs2
      have hl1 : (a.take (k + 1)).length ≤ 64 := Nat.le_trans (List.length_take_le' _ _) hn
      have hl2 : (b.take (k + 1)).length ≤ 64 := Nat.le_trans (List.length_take_le' _ _) hn2
      obtain ⟨p1, p2⟩ := hb1
      obtain ⟨p3, p4⟩ := hb2
      have r1 : y + a[k] ≤ 1048576 * 64 := by omega
      have r2 : z + b[k] ≤ 1048576 * 64 := by omega
      clear hs1 hs2 hl1 hl2
      generalize a[k] = p at *
      generalize b[k] = q at *
      have q0 : (0 : Int) ≤ (k : Int) := by omega
      have q1 : (k : Int) < (a.length : Int) := by omega
      have q2 : (k : Int) < (b.length : Int) := by omega
      have q3 : ((k : Int)).toNat = k := by omega
      have q4 : IntKind.i64.wrap (y + p) = y + p := IntWalk.i64_in _ (by omega)
      have q5 : IntKind.i64.wrap (z + q) = z + q := IntWalk.i64_in _ (by omega)
      clear hA hB
      go_wp2
      go_quiet (fail)
      go_wp2
      go_roundw
      case rel => exact ⟨k + 1, by omega, by go_num, y + p, z + q, rfl, rfl, by omega, by omega, by omega, by omega, Lib.hid ⟨HS1.out.symm, HS2.out.symm⟩, hdr.drewN _⟩
      case measure => simp [intOf]; omega
    · obtain rfl : k = a.length := by omega
      have h1 : y = a.sum := by rw [HZ.out.1, List.take_length]
      have h2 : z = b.sum := by rw [HZ.out.2, HL.out, List.take_length]
      by_cases hyz : y = z
      · have hbb : (y != z) = false := by simp [hyz]
        have HO : Hid (ord a b = ordT a b a.length) := Lib.hid (by unfold ord; rw [if_pos (by rw [← h1, ← h2]; exact hyz)])
        clear h1 h2 hyz
        obtain ⟨wo, rfl⟩ : ∃ wo : World, wo = wr := ⟨_, rfl⟩
        go_wp2
        go_loopw [8] (fun i wr => ∃ z : Int, i = .int .i64 z ∧ -1 ≤ z ∧ z < a.length ∧ Hid (ord a b = ordT a b (z + 1).toNat) ∧ Dr w wr) (fun i _ => (intOf i + 1).toNat)
        case atStart => exact ⟨(a.length : Int) - 1, rfl, by omega, by omega, Lib.hid (by rw [HO.out]; congr 1; omega), hdr⟩
        case round =>
          clear hdr
          obtain ⟨z', rfl, hz2, hz3, HZ', hdr⟩ := hrel
          by_cases hneg : z' = -1
          · subst hneg
            have HF : Hid (ord a b = 0) := Lib.hid (by rw [HZ'.out]; rfl)
            go_wp2
            go_ret
            exact ⟨by rw [HF.out]; rfl, hdr⟩
          · obtain ⟨j, rfl⟩ : ∃ j : Nat, z' = j := ⟨z'.toNat, by omega⟩
            have hlt1 : j < a.length := by omega
            have hlt2 : j < b.length := by have := HL.out; omega
            obtain ⟨ad, rfl, hc1⟩ := Ints.at (hA.keep hdr.below) hlt1
            obtain ⟨bd, rfl, hc2⟩ := Ints.at (hB.keep hdr.below) hlt2
            have HX : Hid (ord a b = if a[j] = b[j] then ordT a b j else if b[j] < a[j] then -1 else 1) := Lib.hid (by
              rw [HZ'.out, show ((j : Int) + 1).toNat = j + 1 by omega, ordT]
              simp [hlt1, hlt2])
            have q0 : (0 : Int) ≤ (j : Int) := by omega
            have q1 : (j : Int) < (a.length : Int) := by omega
            have q2 : (j : Int) < (b.length : Int) := by omega
            have q3 : ((j : Int)).toNat = j := by omega
            clear hneg hA hB
            generalize a[j] = p at *
            generalize b[j] = q at *
            by_cases hpq : p = q
            · have hb2 : (p != q) = false := by simp [hpq]
              have HX2 : Hid (ord a b = ordT a b j) := Lib.hid (by rw [HX.out, if_pos hpq])
              clear hpq HX
              go_wp2
              go_quiet (fail)
              go_wp2
              go_roundw
              case rel => exact ⟨(j : Int) - 1, rfl, by omega, by omega, Lib.hid (by rw [HX2.out]; congr 1; omega), hdr.drewN _⟩
              case measure => simp [intOf]
            · have hb2 : (p != q) = true := by simp [hpq]
              have HX2 : Hid (ord a b = if q < p then -1 else 1) := Lib.hid (by rw [HX.out, if_neg hpq])
              clear hpq HX
              go_wp2
              go_quiet (fail)
              have k1 : (wr.drewN nq).cell? (ad.add j) = some (.int .i64 p) := hc1
              have k2 : (wr.drewN nq).cell? (bd.add j) = some (.int .i64 q) := hc2
              have hdr2 := hdr.drewN nq
              generalize wr.drewN nq = W at *
              by_cases hqp : q < p
              · have hb3 : decide (q < p) = true := by simpa using hqp
                have HX3 : Hid (ord a b = -1) := Lib.hid (by rw [HX2.out, if_pos hqp])
                go_wp2
                go_quiet (fail)
                go_wp2
                go_ret
                exact ⟨by rw [HX3.out]; rfl, hdr2.drewN _⟩
              · have hb3 : decide (q < p) = false := by simpa using hqp
                have HX3 : Hid (ord a b = 1) := Lib.hid (by rw [HX2.out, if_neg hqp])
                go_wp2
                go_quiet (fail)
                go_wp2
                go_ret
                exact ⟨by rw [HX3.out]; rfl, hdr2.drewN _⟩
      · have hbb : (y != z) = true := by simp [hyz]
        by_cases hlt3 : y < z
        · have hb3 : decide (y < z) = true := by simpa using hlt3
          have HO : Hid (ord a b = -1) := Lib.hid (by unfold ord; rw [if_neg (by rw [← h1, ← h2]; exact hyz), if_pos (by rw [← h1, ← h2]; exact hlt3)])
          clear h1 h2 hyz
          go_wp2
          go_ret
          exact ⟨by rw [HO.out]; rfl, hdr⟩
        · have hb3 : decide (y < z) = false := by simpa using hlt3
          have HO : Hid (ord a b = 1) := Lib.hid (by unfold ord; rw [if_neg (by rw [← h1, ← h2]; exact hyz), if_neg (by rw [← h1, ← h2]; exact hlt3)])
          clear h1 h2 hyz
          go_wp2
          go_ret
          exact ⟨by rw [HO.out]; rfl, hdr⟩
end Go.Proofs.Tg
end
