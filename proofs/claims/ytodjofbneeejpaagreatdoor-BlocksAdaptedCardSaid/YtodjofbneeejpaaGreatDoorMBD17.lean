/- Parts of the proof: AD6, AD7. -/
import Derived.Test.YtodjofbneeejpaaGreatDoorMBD10
import Derived.Test.YtodjofbneeejpaaGreatDoorMBD12
import Derived.Test.YtodjofbneeejpaaGreatDoorMBD13
import Derived.Test.YtodjofbneeejpaaGreatDoorMBD16
section
/- The package blocks: Adapted. -/
namespace Go.Pm
open Go.Mo Go.Sp
/-- Each of the list is no product of those ahead of it, and commutes with them. -/
def AdInd (n : Nat) (l : List (List Int)) : Prop := ∀ j (h : j < l.length), l[j] ∉ prods n (l.take j) ∧ ∀ b ∈ l.take j, cmp l[j] b = cmp b l[j]
/-- The images of the products of the subsets. -/
def imgs (n : Nat) (l b : List (List Int)) : List (List Int) := (prods n l).map fun p => img n p b
def chgTo (im : List (List Int)) (L k : Nat) : List (List (List Int)) := ((List.range k).map fun c => adTo c im L L).filter fun r => decide (0 < r.length)
theorem chgTo_succ (im : List (List Int)) (L k : Nat) : chgTo im L (k + 1) = chgTo im L k ++ if 0 < (adTo k im L L).length then [adTo k im L L] else [] := by
 unfold chgTo
 rw [List.range_succ, List.map_append, List.filter_append]
 congr 1
 by_cases h : 0 < (adTo k im L L).length
 ·rw [if_pos h]
  simp [h]
 ·rw [if_neg h]
  simp [h]
theorem idxL_get {l : List (List Int)} {x : List Int} (h : x ∈ l) : ∃ h2 : l.idxOf x < l.length, l[l.idxOf x] = x := ⟨List.idxOf_lt_length_of_mem h, List.getElem_idxOf _⟩
theorem img_perm {n : Nat} {p : List Int} {b : List (List Int)} (hb : b.Nodup) (ha : ActsOn n p b) (hinj : ∀ x ∈ b, ∀ y ∈ b, mv n p x = mv n p y → x = y) : Perm b.length (img n p b) := by
 refine ⟨by simp [img], fun x hx => ?_, ?_⟩
 ·obtain ⟨m, hm, rfl⟩ := List.mem_map.1 hx
  obtain ⟨this, _⟩ := idxL_get (ha m hm)
  omega
 ·unfold img
  refine List.pairwise_map.2 (List.Pairwise.imp_of_mem ?_ hb)
  intro x y hx hy hne e
  have h1 : b.idxOf (mv n p x) = b.idxOf (mv n p y) := by omega
  obtain ⟨hx1, e1⟩ := idxL_get (ha x hx)
  obtain ⟨hy1, e2⟩ := idxL_get (ha y hy)
  have e3 : b[b.idxOf (mv n p x)] = b[b.idxOf (mv n p y)] := by simp only [h1]
  exact hne (hinj x hx y hy (by rw [← e1, e3, e2]))
/-- What moving a monomial does, place by place. -/
theorem mvF_at {n : Nat} {a m : List Int} (ha : Perm n a) : ∀ k, k ≤ n → ∀ j, j < k → (mvF n a m k).getD (a.getD j 0).toNat 0 = m.getD j 0
  | 0, _, j, hj => absurd hj (by omega)
  | k + 1, hk, j, hj => by
    rw [mvF_succ]
    have hp := perm_get ha (show k < n by omega)
    have hpj := perm_get ha (show j < n by omega)
    by_cases he : j = k
    ·subst he
     rw [List.getD_eq_getElem?_getD, List.getElem?_set_self (by rw [mvF_len]; omega)]
     rfl
    ·have hne : (a.getD k 0).toNat ≠ (a.getD j 0).toNat := fun e => he (perm_inj ha (by omega) (by omega) (by omega))
     rw [List.getD_eq_getElem?_getD, List.getElem?_set_ne hne, ← List.getD_eq_getElem?_getD]
     exact mvF_at ha k (by omega) j (by omega)
theorem mv_inj {n : Nat} {a x y : List Int} (ha : Perm n a) (hx : x.length = n) (hy : y.length = n) (h : mv n a x = mv n a y) : x = y := by
 refine ext_get (by omega) fun j hj => ?_
 have h1 := mvF_at (m := x) ha n (Nat.le_refl _) j (by omega)
 have h2 := mvF_at (m := y) ha n (Nat.le_refl _) j (by omega)
 unfold mv at h
 rw [h] at h1
 exact h1.symm.trans h2
end Go.Pm
namespace Go.Proofs.Tg.Bk
open Go.RowKit Go.Gr Go.Sp Go.Ev Go.Pm Go.Mo
open Go.Proofs.Tg.Gp (PRow cellP RowsB ints_blk prow_info)
set_option maxHeartbeats 4000000
set_option maxRecDepth 100000
open Classical in
/-- The error of Adapted. -/
noncomputable def adE (l b : List (List Int)) : Int := if chE l b ≠ 0 then chE l b else if ¬ b.Nodup then 10 else if ¬ AdInd (adN l b) l then 11 else if ∃ p ∈ prods (adN l b) l, ¬ ActsOn (adN l b) p b then 8 else 0
/-- A change in memory: its rows, where their texts lie. -/
structure CV where
  rows : List (List Int)
  adr : Option Addr
  cap : Nat
def CV.cells (L : Nat) (c : CV) : List Value := [.int .i64 c.rows.length, .int .i64 L, .slice c.adr (c.rows.length * L) c.cap]
def CRows (w : World) (base L : Nat) (cs : List CV) : Prop := ∀ c ∈ cs, w.ownsRow base 9 1 (.slice c.adr (c.rows.length * L) c.cap) (c.rows.length * L) (c.rows.flatten.map fun x => Value.string (tx x))
/-- What the loop over the characters holds. -/
structure ChSt (w : World) (base L : Nat) (im : List (List Int)) (wr : World) (k : Nat) (A : Option Addr) (cA : Nat) (cs : List CV) : Prop where
  below : Below w.heap.size w wr
  own : wr.ownsRow base 50 3 (.slice A cs.length cA) cs.length (cs.flatMap (CV.cells L))
  rows : CRows wr base L cs
  eq : cs.map CV.rows = chgTo im L k
theorem ChSt.keep {w wr wz : World} {base L k cA : Nat} {im : List (List Int)} {A : Option Addr} {cs : List CV} (h : ChSt w base L im wr k A cA cs) (hb : Below wr.heap.size wr wz) : ChSt w base L im wz k A cA cs :=
  ⟨below_all h.below hb, own_below h.own hb (Nat.le_refl _), fun c hc => own_below (h.rows c hc) hb (Nat.le_refl _), h.eq⟩
theorem chg_info : (Tryz.prog.info? 50).map (fun i => (i.zero, i.size, i.bytes)) = some (some (.agg #[.int .i64 0, .int .i64 0, .slice none 0 0]), 3, 40) := by kernel_rfl
def RetAdapted (l b : List (List Int)) (w : World) (e : Ending) (w' : World) : Prop := Below w.heap.size w w' ∧
  ((adE l b ≠ 0 ∧ e = .returned (.tuple #[.slice none 0 0, .int .i64 (adE l b)])) ∨
   (adE l b = 0 ∧ ∃ A cA cs, e = .returned (.tuple #[.slice A cs.length cA, .int .i64 0]) ∧ ChSt w w.heap.size b.length (imgs (adN l b) l b) w' (imgs (adN l b) l b).length A cA cs))
/-- What the loop that adds the involutions holds. -/
structure InSt (w : World) (base n : Nat) (l : List (List Int)) (wr : World) (gs mb k : Nat) : Prop where
  below : Below base w wr
  sub : ∃ v rs S, SubAt wr base n (prods n (l.take k)) gs mb v rs S
  ok : ∀ j (h : j < l.length), j < k → l[j] ∉ prods n (l.take j) ∧ ∀ b ∈ l.take j, cmp l[j] b = cmp b l[j]
theorem adapt_facts {l b : List (List Int)} (h : chE l b = 0) : (∀ a ∈ l, Perm (adN l b) a ∧ cmp a a = unit (adN l b) ∧ a ≠ unit (adN l b)) ∧ adN l b ≤ 6 ∧ (∀ m ∈ b, domK (adN l b) 48 m) ∧ 0 < b.length ∧ b.length ≤ 64 := by
 unfold chE at h
 split at h
 ·cases h
 ·next h1 =>
  split at h
  ·cases h
  ·next h2 =>
   obtain ⟨h3, h4, h5⟩ := szE_ok h
   have hi : ∀ a ∈ l, Invo a := fun a ha => Classical.byContradiction fun hn => h1 (.inl ⟨a, ha, hn⟩)
   have hl : ∀ a ∈ l, a.length = adN l b := fun a ha => Classical.byContradiction fun hn => h2 ⟨a, ha, hn⟩
   have hv : ∀ m ∈ b, vldM m = true := fun m hm => by
    cases hv : vldM m with
    | true => rfl
    | false => exact absurd (.inr ⟨m, hm, hv⟩) h1
   refine ⟨fun a ha => ?_, ?_, fun m hm => ?_, h4, h5⟩
   ·obtain ⟨_, hp, hu, hc⟩ := hi a ha
    rw [hl a ha] at hp hu hc
    exact ⟨hp, hc, hu⟩
   ·have := (vldM_iff.1 (hv b[0] (List.getElem_mem h4))).1
    rw [← h3 b[0] (List.getElem_mem h4)]
    exact this
   ·obtain ⟨_, h6⟩ := vld_dom (hv m hm)
    exact ⟨h3 m hm, fun x hx => by have := h6 x hx; omega⟩
theorem ind_sub {n : Nat} {l : List (List Int)} (hp : ∀ a ∈ l, Perm n a ∧ cmp a a = unit n) {k : Nat} (hk : k ≤ l.length) (ho : ∀ j (h : j < l.length), j < k → l[j] ∉ prods n (l.take j) ∧ ∀ b ∈ l.take j, cmp l[j] b = cmp b l[j]) : Sub n (l.take k) ∧ (prods n (l.take k)).Nodup := by
 induction k with
 | zero => exact ⟨by simpa using Sub.nil n, by simp [prods_nil]⟩
 | succ k ih =>
   obtain ⟨h1, h2⟩ := ih (by omega) (fun j h hj => ho j h (by omega))
   have hkl : k < l.length := by omega
   obtain ⟨h3, h4⟩ := ho k hkl (by omega)
   have h5 := hp l[k] (List.getElem_mem _)
   rw [List.take_succ_eq_append_getElem hkl]
   exact ⟨h1.snoc h5.1 h5.2 h4, (h1.nodup_snoc h2 h5.1 h5.2).2 h3⟩
end Go.Proofs.Tg.Bk
end
section
/- The package blocks: Adapted, the walk. -/
namespace Go.Proofs.Tg.Bk
open Go.RowKit Go.Gr Go.Sp Go.Ev Go.Pm Go.Mo
open Go.Proofs.Tg.Gp (PRow cellP RowsB ints_blk prow_info)
set_option maxHeartbeats 4000000
set_option maxRecDepth 100000
theorem blk_cells {w : World} {g : Nat} {t : TypeId} {cs : List Value} (h : Blk w g t cs.toArray) : ∀ j u, cs[j]? = some u → w.cell? ((⟨g, 0, none⟩ : Addr).add j) = some u := by
 intro j u hu
 rw [add_lit, Nat.zero_add, h.cell]
 simpa using hu
theorem adTo_len {c : Nat} {im : List (List Int)} {L k : Nat} {r : List Int} (h : r ∈ adTo c im L k) : r.length = L := by
 obtain ⟨i, _, hi⟩ := List.mem_filterMap.1 h
 exact adRow_len hi
theorem adTo_sg {c : Nat} {im : List (List Int)} {L : Nat} (hs : SgOk c im L) {r : List Int} (h : r ∈ adTo c im L L) : ∀ x ∈ r, Sg x := by
 obtain ⟨i, hi, hr⟩ := List.mem_filterMap.1 h
 exact hs i (List.mem_range.1 hi) r hr
theorem adTo_few (c : Nat) (im : List (List Int)) (L : Nat) : (adTo c im L L).length ≤ L := by
 have := List.length_filterMap_le (adRow c im L) (List.range L)
 rwa [List.length_range] at this
theorem adapted_any (A B : Option Addr) (cA cB : Nat) (l b : List (List Int)) (w : World) (hA : Lists w A l) (hB : Lists w B b) (hl : l.length ≤ 6) (hb : b.length ≤ 1000) (hll : ∀ x ∈ l, x.length ≤ 1000) (hbb : ∀ x ∈ b, x.length ≤ 1000) (hT : PT w)
    (hs : adE l b = 0 → ∀ c, c < (imgs (adN l b) l b).length → SgOk c (imgs (adN l b) l b) b.length) :
    Calls Tryz.prog 11 #[.slice A l.length cA, .slice B b.length cB] w (RetAdapted l b w) := by
  have HA := Lib.hid hA
  have HB := Lib.hid hB
  have HT := Lib.hid hT
  have HCK := Lib.hid (chk_any A B cA cB l b w hA hB (by omega) hb hll hbb)
  have HS := Lib.hid hs
  clear hA hB hll hbb hT hs
  by_cases hz : chE l b = 0
  ·obtain ⟨hpl, hn6, hdb, hb0, hb64⟩ := adapt_facts hz
   have HZ := Lib.hid hz
   have HCK2 : Hid (Calls Tryz.prog 30 #[.slice A l.length cA, .slice B b.length cB] w fun e w' => e = .returned (.tuple #[.int .i64 (adN l b), .int .i64 0]) ∧ Below w.heap.size w w') := Lib.hid (HCK.out.mono (fun e w' h => by
    obtain ⟨h1, n, h2, h3⟩ := h
    rw [h3 hz, hz] at h2
    exact ⟨h2, h1⟩))
   have HPL := Lib.hid hpl
   have HDB := Lib.hid hdb
   clear HCK hz hpl hdb
   by_cases hnd : b.Nodup
   ·have HND := Lib.hid hnd
    have HE11 : Hid (¬ AdInd (adN l b) l → adE l b = 11) := Lib.hid (fun h => by
     unfold adE
     rw [if_neg (by rw [HZ.out]; simp), if_neg (fun h => h hnd), if_pos h])
    have HE8 : Hid (AdInd (adN l b) l → (∃ p ∈ prods (adN l b) l, ¬ ActsOn (adN l b) p b) → adE l b = 8) := Lib.hid (fun h h2 => by
     unfold adE
     rw [if_neg (by rw [HZ.out]; simp), if_neg (fun h => h hnd), if_neg (fun h3 => h3 h), if_pos h2])
    have HE0 : Hid (AdInd (adN l b) l → (∀ p ∈ prods (adN l b) l, ActsOn (adN l b) p b) → adE l b = 0) := Lib.hid (fun h h2 => by
     unfold adE
     rw [if_neg (by rw [HZ.out]; simp), if_neg (fun h => h hnd), if_neg (fun h3 => h3 h), if_neg (by
      rintro ⟨p, hp, hn⟩
      exact hn (h2 p hp))])
    unfold RetAdapted
    generalize adN l b = n at *
    have HPO : Hid (∀ W, Lists W B b → Calls Tryz.prog 31 #[.slice B b.length cB] W fun e w' => Below W.heap.size W w' ∧ ∃ mp, e = .returned (.tuple #[.map (some mp), .bool true]) ∧ IdxM w' mp b.length n b ∧ W.heap.size ≤ mp) :=
      Lib.hid (fun W h => (positions_any B cB n b true W h HDB.out hn6 hb ⟨fun _ => HND.out, fun _ => rfl⟩).mono (by
       rintro e w' ⟨h1, ⟨h2, _⟩ | ⟨_, h2⟩⟩
       ·cases h2
       ·exact ⟨h1, h2⟩))
    have HNS := Lib.hid (fun V => newsubs_any n V hn6)
    clear hnd
    go_enter Tryz.func11, Tryz.ntmps11
    go_wp2_with (first
      | (go_at_call 30; refine HCK2.out.mono ?_; rintro e w1 ⟨rfl, hb1⟩)
      | (go_at_call 31; refine (HPO.out _ (HB.out.keep hb1)).mono ?_; rintro e w2 ⟨hb2, mp, rfl, hM2, hmp⟩)
      | (go_at_call 32; refine (HNS.out _).mono ?_; rintro e w3 ⟨gs, mb, v, rs, S, rfl, hsub, hb3⟩))
    have HSUB0 : Hid (InSt w2 w2.heap.size n l w3 gs mb 0) := Lib.hid ⟨hb3, ⟨v, rs, S, by simpa using hsub⟩, fun j _ h => absurd h (by omega)⟩
    have hb02 := below_all hb1 hb2
    have hmpl := hM2.lt
    have HM2 := Lib.hid hM2
    clear hsub hb3 hM2 HPO HNS HCK2
    go_loopw [43] (fun s43 wr => ∃ k : Nat, s43 = .int .i64 k ∧ k ≤ l.length ∧ Hid (InSt w2 w2.heap.size n l wr gs mb k)) (fun s43 _ => l.length - (intOf s43).toNat)
    case atStart => exact ⟨0, rfl, Nat.zero_le _, HSUB0⟩
    case round =>
     clear HSUB0
     obtain ⟨wo, rfl⟩ : ∃ wo : World, wo = wr := ⟨_, rfl⟩
     obtain ⟨k, rfl, hk, HST⟩ := hrel
     have hbo := HST.out.below
     have hbw := hb02.trans (hbo.mono hb02.size)
     by_cases hkl : k < l.length
     ·obtain ⟨ad, E, ce, rfl, hc0, hE⟩ := HA.out.at hkl
      have hpk := HPL.out l[k] (List.getElem_mem _)
      rw [hpk.1.1] at hc0
      have hc := keep_cell hbw hc0
      have q0 : (0 : Int) ≤ (k : Int) := by omega
      have q1 : (k : Int) < (l.length : Int) := by omega
      have q3 : ((k : Int)).toNat = k := by omega
      obtain ⟨q, hq⟩ : ∃ q : Bool, q = true ↔ l[k] ∉ prods n (l.take k) ∧ ∀ b ∈ l.take k, cmp l[k] b = cmp b l[k] := by classical exact ⟨decide _, decide_eq_true_iff⟩
      obtain ⟨hS, hN⟩ := ind_sub (fun a ha => ⟨(HPL.out a ha).1, (HPL.out a ha).2.1⟩) (Nat.le_of_lt hkl) HST.out.ok
      obtain ⟨v, rs, S, hsub⟩ := HST.out.sub
      have HTK : Hid (l.take (k + 1) = l.take k ++ [l[k]]) := Lib.hid (List.take_succ_eq_append_getElem hkl)
      have HADD := Lib.hid (add_any E ce w2.heap.size n gs mb l[k] (l.take k) v rs S q wo (hE.keep hbw) hpk.1 hn6 hS (by rw [List.length_take]; omega) hsub hbo.size hq (fun h2 => (hS.nodup_snoc hN hpk.1 hpk.2.1).2 (hq.1 h2).1) (fun h0 ad' h1 => by
       obtain ⟨ad2, e2, h3, _⟩ := hE.lies (by rw [hpk.1.1]; exact h0)
       rw [e2] at h1
       injection h1 with h1
       rw [← h1]
       exact Nat.lt_of_lt_of_le h3 hb02.size))
      have HOK : Hid (q = true → ∀ j (h : j < l.length), j < k + 1 → l[j] ∉ prods n (l.take j) ∧ ∀ b ∈ l.take j, cmp l[j] b = cmp b l[j]) := Lib.hid (fun hq2 j h hj => by
       by_cases he : j = k
       ·subst he; exact hq.1 hq2
       ·exact HST.out.ok j h (by omega))
      have HBAD : Hid (q = false → adE l b = 11) := Lib.hid (fun hq2 => HE11.out (fun h => by
       have := hq.2 (h k hkl)
       rw [hq2] at this
       cases this))
      clear hpk hq hS hN hsub hE hc0
      generalize l[k] = x at *
      cases q with
      | false =>
        have HB2 := Lib.hid (HBAD.out rfl)
        clear HBAD HOK
        go_wp2_with (go_at_call 33; refine HADD.out.mono ?_; rintro e w4 ⟨rfl, hb4, hf4, _, _⟩)
        go_ret2
        refine ⟨hb02.trans (hbo.trans hb4 |>.mono hb02.size), .inl ⟨by rw [HB2.out]; decide, by rw [HB2.out]; rfl⟩⟩
      | true =>
        have HO2 := Lib.hid (HOK.out rfl)
        clear HBAD HOK
        go_wp2_with (go_at_call 33; refine HADD.out.mono ?_; rintro e w4 ⟨rfl, hb4, hf4, _, hyes⟩
                     have HYES := Lib.hid hyes
                     clear hyes)
        go_roundw
        case rel =>
         obtain ⟨v', rs', S', h1, _⟩ := HYES.out (by trivial)
         exact ⟨k + 1, by go_num, by omega, Lib.hid ⟨hbo.trans hb4, ⟨v', rs', S', by rw [HTK.out]; exact h1⟩, HO2.out⟩⟩
        case measure => simp [intOf]; omega
     ·obtain rfl : k = l.length := by omega
      have HIND : Hid (AdInd n l) := Lib.hid (fun j hj => HST.out.ok j hj hj)
      obtain ⟨v, rs, S, hsub⟩ := HST.out.sub
      rw [List.take_length] at hsub
      have HPP : Hid (∀ p ∈ prods n l, Perm n p) := Lib.hid (prods_perm (fun a ha => (HPL.out a ha).1))
      have hP64 : (prods n l).length ≤ 64 := by
       rw [prods_len]
       have : 2 ^ l.length ≤ 2 ^ 6 := Nat.pow_le_pow_right (by omega) hl
       exact this
      have HIMG : Hid (imgs n l b = (prods n l).map fun p => img n p b) := Lib.hid rfl
      have HE8 : Hid ((∃ p ∈ prods n l, ¬ ActsOn n p b) → adE l b = 8) := Lib.hid (HE8.out HIND.out)
      have HE0 : Hid ((∀ p ∈ prods n l, ActsOn n p b) → adE l b = 0) := Lib.hid (HE0.out HIND.out)
      obtain ⟨im, him⟩ : ∃ im, imgs n l b = im := ⟨_, rfl⟩
      rw [him] at HIMG HS
      have HIM := Lib.hid him
      clear him
      generalize prods n l = P at *
      have hrsE := congrArg List.length hsub.eq
      rw [List.length_map] at hrsE
      have HRE := Lib.hid hrsE
      have HEQ := Lib.hid hsub.eq
      have HRW := Lib.hid hsub.rows
      obtain ⟨od, cap, hv, hSl0, _, _⟩ := hsub.que.sl
      rw [List.length_map] at hv
      subst hv
      have HSL := Lib.hid hSl0
      obtain ⟨x0, x1, f0, f1⟩ := hsub.box.two
      have hgsl := hsub.box.lt
      have hrs64 : rs.length ≤ 64 := by omega
      have hmk := make_rows rs.length (by omega) wo
      have B0 := Blk.new wo 22 (madeCells #[.slice none 0 0] rs.length)
      have hal := Below.alloc (Below.refl wo.heap.size wo) (Nat.le_refl _) (.cells (madeCells #[.slice none 0 0] rs.length) 22)
      have x0' := keep_cell hal x0
      have H0 : Hid (AcSt wo n P b (wo.alloc (.cells (madeCells #[.slice none 0 0] rs.length) 22)) wo.heap.size 0 []) := Lib.hid ⟨hal, by rw [rowsMade_eq] at B0 ⊢; rw [← hrsE]; simpa using B0, fun r hr => absurd hr (by simp), by simp, fun j _ h => absurd h (by omega), Nat.le_refl _⟩
      have HMo := Lib.hid (HM2.out.below hbo hmpl)
      clear hsub hSl0 B0 HST hrsE
      generalize hW : wo.alloc (.cells (madeCells #[.slice none 0 0] rs.length) 22) = W at *
      go_wp2
      clear hmk hW x0 x1 x0' f0 f1 hal
      go_loopw [63] (fun s63 wr => ∃ (k : Nat) (qs : List PRow), s63 = .int .i64 k ∧ k ≤ rs.length ∧ Hid (AcSt wo n P b wr wo.heap.size k qs)) (fun s63 _ => rs.length - (intOf s63).toNat)
      case atStart => exact ⟨0, [], rfl, Nat.zero_le _, H0⟩
      case round =>
       clear H0
       obtain ⟨wi, rfl⟩ : ∃ wi : World, wi = wr := ⟨_, rfl⟩
       obtain ⟨k, qs, rfl, hk, HST⟩ := hrel
       have hbi := HST.out.below
       have hbwi := below_all hbw hbi
       by_cases hkl : k < rs.length
       ·have hkP : k < P.length := by rw [← HRE.out]; exact hkl
        obtain ⟨od', hod', z2'⟩ := Sl.at1 (HSL.out.keep hbi) (show k < (rs.map (cellP n)).length by simpa using hkl)
        injection hod' with hod'
        subst hod'
        have z2 : wi.cell? (od.add k) = some (.slice (some ⟨(rs[k]).1, 0, none⟩) n n) := by simpa [cellP] using z2'
        have hr2 : rs[k].2 = P[k] := by
         have h1 : (rs.map Prod.snd)[k]? = some P[k] := by rw [HEQ.out]; exact List.getElem?_eq_getElem hkP
         rw [List.getElem?_map, List.getElem?_eq_getElem hkl] at h1
         simpa using h1
        have hrb := (HRW.out rs[k] (List.getElem_mem _)).keep hbi (HRW.out rs[k] (List.getElem_mem _)).lt
        rw [hr2] at hrb
        have hpk := HPP.out P[k] (List.getElem_mem _)
        have q0 : (0 : Int) ≤ (k : Int) := by omega
        have q1 : (k : Int) < (rs.length : Int) := by omega
        have q3 : ((k : Int)).toNat = k := by omega
        have HSTAR := Lib.hid (star_any (some ⟨(rs[k]).1, 0, none⟩) B n cB n mp b.length P[k] b wi (ints_blk hrb hpk.1 hn6) hpk (HB.out.keep hbwi) HDB.out hn6 hb HND.out (HMo.out.below hbi (Nat.lt_of_lt_of_le hmpl hbo.size)))
        have HTK : Hid ((P.take (k + 1)).map (fun a => img n a b) = (P.take k).map (fun a => img n a b) ++ [img n P[k] b]) := Lib.hid (by rw [List.take_succ_eq_append_getElem hkP, List.map_append]; rfl)
        have HLN : Hid (qs.length = k) := Lib.hid (by
         have := congrArg List.length HST.out.eq
         rw [List.length_map, List.length_map, List.length_take] at this
         omega)
        by_cases hact : ActsOn n P[k] b
        ·have HSTY := Lib.hid (HSTAR.out.mono fun _ _ h => h.yes hact)
         clear HSTAR
         have hq4 : ∀ V, Below wi.heap.size wi V → Blk V wo.heap.size 22 (qs.map (cellP b.length) ++ List.replicate (P.length - k) (Value.slice none 0 0)).toArray := fun V h => HST.out.blk.keep h HST.out.blk.lt
         obtain ⟨old, hold⟩ : ∃ old, (qs.map (cellP b.length) ++ List.replicate (P.length - k) (Value.slice none 0 0))[k]? = some old := ⟨_, List.getElem?_eq_getElem (by
          have := HLN.out
          simp; omega)⟩
         have HOLD := Lib.hid hold
         have HQ4 := Lib.hid hq4
         have HYES : Hid (∀ j (h : j < P.length), j < k + 1 → ActsOn n P[j] b) := Lib.hid (fun j h hj => by
          by_cases he : j = k
          ·subst he; exact hact
          ·exact HST.out.acts j h (by omega))
         have hqlt := HST.out.blk.lt
         have HNE : Hid (wi.heap.size ≠ wo.heap.size) := Lib.hid (by omega)
         clear hq4 hold hact z2' hr2 hrb hpk
         generalize P[k] = x at *
         generalize rs[k].1 = gk at *
         go_wp2_with (go_at_call 34; refine HSTY.out.mono ?_; rintro e w4 ⟨hb4, rfl, hB4⟩
                      have c0 := (HQ4.out w4 hb4).cell k
                      have f0 := (HQ4.out w4 hb4).frozen k
                      rw [List.getElem?_toArray, HOLD.out] at c0
                      have HB4 := Lib.hid hB4
                      clear hB4)
         go_roundw
         case rel =>
          have hq4 := HQ4.out w4 hb4
          refine ⟨k + 1, qs ++ [(wi.heap.size, img n x b)], by go_num, by omega, Lib.hid ⟨below_far (below_all hbi hb4) (Nat.le_refl _) _ _, ?_, fun r hr => ?_, ?_, HYES.out, Nat.le_refl _⟩⟩
          ·have h1 := hq4.set k (.slice (some ⟨wi.heap.size, 0, none⟩) b.length b.length)
           rw [List.setIfInBounds_toArray] at h1
           have h2 := fillV_set (qs.map (cellP b.length)) (P.length - k) (.slice none 0 0) (.slice (some ⟨wi.heap.size, 0, none⟩) b.length b.length) (by omega)
           rw [List.length_map, HLN.out] at h2
           rw [h2] at h1
           rw [List.map_append, Nat.sub_add_eq]
           exact h1
          ·rcases List.mem_append.1 hr with h | h
           ·have h3 := HST.out.rows r h
            have h4 := h3.keep hb4 h3.lt
            exact h4.far (fun e => blk_ty h4 hq4 (by decide) e) _
           ·rw [List.mem_singleton.1 h]
            exact HB4.out.far HNE.out _
          ·rw [List.map_append, HST.out.eq, HTK.out]; rfl
         case measure => simp [intOf]; omega
        ·have HSTN := Lib.hid (HSTAR.out.mono fun _ _ h => h.no hact)
         clear HSTAR
         have he := Lib.hid (HE8.out ⟨_, List.getElem_mem hkP, hact⟩)
         clear hact z2' hr2 hrb hpk
         generalize P[k] = x at *
         generalize rs[k].1 = gk at *
         go_wp2_with (go_at_call 34; refine HSTN.out.mono ?_; rintro e w4 ⟨hb4, rfl⟩)
         go_ret2
         exact ⟨below_all hbwi hb4, .inl ⟨by rw [he.out]; decide, by rw [he.out]; rfl⟩⟩
       ·obtain rfl : k = rs.length := by omega
        have HER : Hid (adE l b = 0) := Lib.hid (HE0.out (fun p hp => by
         obtain ⟨j, hj, rfl⟩ := List.getElem_of_mem hp
         exact HST.out.acts j hj (by rw [HRE.out]; exact hj)))
        have hBq := HST.out.blk
        rw [HRE.out, Nat.sub_self, List.replicate_zero, List.append_nil] at hBq
        have hLS := lists_rows hBq HST.out.rows (fun r hr => by
         have h1 : r.2 ∈ qs.map Prod.snd := List.mem_map_of_mem hr
         rw [HST.out.eq] at h1
         obtain ⟨a, _, h2⟩ := List.mem_map.1 h1
         rw [← h2, img_len])
        rw [HST.out.eq, HRE.out, List.take_length, ← HIMG.out] at hLS
        have HLS := Lib.hid hLS
        have himl : im.length = rs.length := by rw [HIMG.out, List.length_map, HRE.out]
        have HSG := Lib.hid (HS.out HER.out)
        have HPI : Hid (∀ p ∈ im, Perm b.length p) := Lib.hid (fun p hp => by
         rw [HIMG.out] at hp
         obtain ⟨a, ha, rfl⟩ := List.mem_map.1 hp
         obtain ⟨j, hj, rfl⟩ := List.getElem_of_mem ha
         have hpj := HPP.out P[j] (List.getElem_mem _)
         exact img_perm HND.out (HST.out.acts j hj (by rw [HRE.out]; exact hj)) (fun x hx y hy h => mv_inj hpj (HDB.out x hx).1 (HDB.out y hy).1 h))
        have HTi := Lib.hid (HT.out.keep hbwi)
        have HSW := Lib.hid hbwi
        obtain ⟨j1, hj1, hjw0, hjw1, hjw2⟩ := info_parts chg_info
        clear hBq hLS HE8 HE0 HMo HSL HRW HEQ HS
        have H0 : Hid (ChSt wi wi.heap.size b.length im wi 0 none 0 []) := Lib.hid ⟨Below.refl _ _, World.ownsRow_nil _ _ _ _, fun c hc => absurd hc (by simp), by simp [chgTo]⟩
        have hwo := hbi.size
        have HIL := Lib.hid himl
        go_wp2
        go_loopw [18, 84] (fun s18 s84 wr => ∃ (k : Nat) (A2 : Option Addr) (c2 : Nat) (cs : List CV), s84 = .int .i64 k ∧ k ≤ rs.length ∧ s18 = .slice A2 cs.length c2 ∧ Hid (ChSt wi wi.heap.size b.length im wr k A2 c2 cs)) (fun _ s84 _ => rs.length - (intOf s84).toNat)
        case atStart => exact ⟨0, none, 0, [], rfl, Nat.zero_le _, rfl, H0⟩
        case round =>
         clear H0
         obtain ⟨wc, rfl⟩ : ∃ wc : World, wc = wr := ⟨_, rfl⟩
         obtain ⟨k, A2, c2, cs, rfl, hk, rfl, HCS⟩ := hrel
         have hbc := HCS.out.below
         by_cases hkl : k < rs.length
         ·have q0 : (0 : Int) ≤ (k : Int) := by omega
          have q1 : (k : Int) < (rs.length : Int) := by omega
          have q3 : ((k : Int)).toNat = k := by omega
          have hsgk := HSG.out k (by rw [HIL.out]; exact hkl)
          have HSK := Lib.hid hsgk
          have HAR : Hid (Calls Tryz.prog 35 #[.int .i64 k, .slice (some ⟨wo.heap.size, 0, none⟩) rs.length rs.length, .int .i64 b.length] wc (RetAr b.length k im wc)) := Lib.hid (by
           have := adrows_any (some ⟨wo.heap.size, 0, none⟩) rs.length k b.length im wc (HLS.out.keep hbc) HPI.out (by rw [HIL.out]; exact hrs64) hb64 (by omega) hsgk (HTi.out.keep hbc)
           rwa [HIL.out] at this)
          have HCG := Lib.hid (chgTo_succ im b.length k)
          have HTF := Lib.hid (adTo_few k im b.length)
          clear hsgk
          by_cases h0 : 0 < (adTo k im b.length b.length).length
          ·rw [if_pos h0] at HCG
           have H0 := Lib.hid h0
           have hcsl : cs.length ≤ k := by
            have h1 := congrArg List.length HCS.out.eq
            rw [List.length_map] at h1
            have h2 : (chgTo im b.length k).length ≤ k := by
             unfold chgTo
             have := List.length_filter_le (fun r : List (List Int) => decide (0 < r.length)) ((List.range k).map fun c => adTo c im b.length b.length)
             rwa [List.length_map, List.length_range] at this
            omega
           clear h0
           go_upto_region 28 with (go_at_call 35; refine HAR.out.mono ?_; rintro e w5 ⟨A5, c5, ts, rfl, h5⟩)
           have htl : ts.length = (adTo k im b.length b.length).length := by rw [← h5.eq, List.length_map]
           have ht0 : 0 < ts.length := by rw [htl]; exact H0.out
           have ht64 : ts.length ≤ 64 := by rw [htl]; have := HTF.out; omega
           have HNEW := Lib.hid (new_any A5 c5 b.length ts w5 (Sl.own h5.own) h5.rows (fun r hr => adTo_len (by rw [← h5.eq]; exact List.mem_map_of_mem hr)) (fun r hr => adTo_sg HSK.out (by rw [← h5.eq]; exact List.mem_map_of_mem hr)) ht0 hb0 ht64 hb64)
           have HE5 := Lib.hid h5.eq
           have hb5 := h5.below
           have d0 : decide ((0 : Int) < (ts.length : Int)) = true := decide_eq_true (by omega)
           have d1 : decide (0 < ts.length) = true := decide_eq_true ht0
           have HCW := Lib.hid (HCS.out.keep hb5)
           clear htl h5
           go_upto_region 32 with (go_at_call 36; refine HNEW.out.mono ?_; rintro e w6 ⟨E, c6, rfl, hown6, hb6⟩)
           have hB6 := Blk.new w6 48 #[.int .i64 ts.length, .int .i64 b.length, .slice E (ts.length * b.length) c6]
           have hal6 := Below.alloc (Below.refl w6.heap.size w6) (Nat.le_refl _) (.cells #[.int .i64 ts.length, .int .i64 b.length, .slice E (ts.length * b.length) c6] 48)
           have hown7 := own_base (own_below hown6 hal6 (Nat.le_refl _)) (show wi.heap.size ≤ w5.heap.size from Nat.le_trans hbc.size hb5.size)
           have H7 := (HCW.out.keep hb6).keep hal6
           have hbx := below_all (below_all hb5 hb6) hal6
           generalize hw7 : w6.alloc (.cells #[.int .i64 ts.length, .int .i64 b.length, .slice E (ts.length * b.length) c6] 48) = w7 at *
           obtain ⟨b0, b1, b2, _⟩ := hB6.three
           have hl7 := hB6.lt
           have HO7 := Lib.hid hown7
           have hcown := H7.own
           clear hw7 hown6 hb6 hal6 hB6 hown7
           go_wp2_with (at_builtin
                        refine wpList_append_own_at _ rfl _ _ 32 rfl wi.heap.size 50 j1 (.agg #[.int .i64 0, .int .i64 0, .slice none 0 0]) 3 40 Tryz.underlying32 hj1 hjw0 hjw1 hjw2 rfl (by decide) (.slice A2 cs.length c2) cs.length (cs.flatMap (CV.cells b.length)) rfl (hcown.alloc _) ⟨w7.heap.size, 0, none⟩ 1 1 [.int .i64 ts.length, .int .i64 b.length, .slice E (ts.length * b.length) c6] rfl rfl (blk_cells (Blk.new _ _ _)) (by intro u hu; simp at hu; rcases hu with rfl | rfl | rfl <;> rfl) (by simp only [maxLen]; omega) (by omega) (by have := hbc.size; have := hbx.size; simp; omega) ?_
                        intro v8 w8 hown8 hg8 _ hat8
                        obtain ⟨A8, c8, hv8, _, _⟩ := Sl.of_own hown8
                        subst hv8)
           go_roundw
           case rel =>
            have hox := hcown.alloc (.cells #[.int .i64 ts.length, .int .i64 b.length, .slice E (ts.length * b.length) c6] 50)
            have hal8 := Below.alloc (Below.refl w7.heap.size w7) (Nat.le_refl _) (.cells #[.int .i64 ts.length, .int .i64 b.length, .slice E (ts.length * b.length) c6] 50)
            have hb8 := below_all (below_all hbc hbx) hal8
            refine ⟨k + 1, A8, c8, cs ++ [⟨ts.map Prod.snd, E, c6⟩], by go_num, by omega, by simp, Lib.hid ⟨hb8.grown hg8 hb8.size (fun q hq => (hox.lt q hq).1), ?_, fun c hc => ?_, ?_⟩⟩
            ·rw [List.length_append, List.flatMap_append, List.flatMap_singleton]
             unfold CV.cells
             simp only [List.length_map]
             exact hown8
            ·rcases List.mem_append.1 hc with h | h
             ·have h1 := own_below (H7.rows c h) hal8 (Nat.le_refl _)
              exact h1.kept hg8 (own_ne h1 hox (by decide))
             ·rw [List.mem_singleton.1 h]
              simp only [List.length_map]
              have h1 := own_below HO7.out hal8 (Nat.le_refl _)
              exact h1.kept hg8 (own_ne h1 hox (by decide))
            ·rw [List.map_append, HCS.out.eq, HCG.out]
             simp only [List.map_cons, List.map_nil, HE5.out]
           case measure => simp [intOf]; omega
          ·rw [if_neg h0, List.append_nil] at HCG
           have H0 : Hid ((adTo k im b.length b.length).length = 0) := Lib.hid (by omega)
           clear h0
           go_upto_region 28 with (go_at_call 35; refine HAR.out.mono ?_; rintro e w5 ⟨A5, c5, ts, rfl, h5⟩)
           have htl : ts.length = 0 := by rw [← H0.out, ← h5.eq, List.length_map]
           have d0 : decide ((0 : Int) < (ts.length : Int)) = false := decide_eq_false (by omega)
           have d1 : decide (0 < ts.length) = false := decide_eq_false (by omega)
           have HCW := Lib.hid (HCS.out.keep h5.below)
           clear htl h5
           go_wp2
           go_roundw
           case rel => exact ⟨k + 1, A2, c2, cs, by go_num, by omega, rfl, Lib.hid ⟨HCW.out.below, HCW.out.own, HCW.out.rows, by rw [HCG.out]; exact HCW.out.eq⟩⟩
           case measure => simp [intOf]; omega
         ·obtain rfl : k = rs.length := by omega
          have dk : decide ((rs.length : Int) < (rs.length : Int)) = false := by simp
          have HFIN : Hid (ChSt w w.heap.size b.length im wc im.length A2 c2 cs) := Lib.hid ⟨below_all hbwi hbc, own_base HCS.out.own hbwi.size, fun c hc => own_base (HCS.out.rows c hc) hbwi.size, by rw [HIL.out]; exact HCS.out.eq⟩
          go_wp2
          go_ret2
          exact ⟨below_all hbwi hbc, .inr ⟨HER.out, A2, c2, cs, rfl, by rw [HIM.out]; exact HFIN.out⟩⟩
   ·have HER : Hid (adE l b = 10) := Lib.hid (by
     unfold adE
     rw [if_neg (by rw [HZ.out]; simp), if_pos hnd])
    generalize adN l b = n at *
    have HPO : Hid (∀ W, Lists W B b → Calls Tryz.prog 31 #[.slice B b.length cB] W fun e w' => Below W.heap.size W w' ∧ e = .returned (.tuple #[.map none, .bool false])) :=
      Lib.hid (fun W h => (positions_any B cB n b false W h HDB.out hn6 hb ⟨fun h => (by cases h), fun h => absurd h hnd⟩).mono (by
       rintro e w' ⟨h1, ⟨_, h2⟩ | ⟨h2, _⟩⟩
       ·exact ⟨h1, h2⟩
       ·cases h2))
    clear hnd
    go_enter Tryz.func11, Tryz.ntmps11
    go_wp2_with (first
      | (go_at_call 30; refine HCK2.out.mono ?_; rintro e w1 ⟨rfl, hb1⟩)
      | (go_at_call 31; refine (HPO.out _ (HB.out.keep hb1)).mono ?_; rintro e w2 ⟨hb2, rfl⟩))
    go_ret2
    exact ⟨below_all hb1 hb2, .inl ⟨by rw [HER.out]; decide, by rw [HER.out]; rfl⟩⟩
  ·have HER : Hid (adE l b = chE l b) := Lib.hid (by
    unfold adE
    rw [if_pos hz])
   have dz : decide (chE l b = 0) = false := decide_eq_false hz
   have dz2 : (chE l b == 0) = false := beq_eq_false_iff_ne.2 hz
   unfold RetChk at HCK
   have HZ := Lib.hid hz
   clear hz
   generalize chE l b = z at *
   go_enter Tryz.func11, Tryz.ntmps11
   go_wp2_with (go_at_call 30; refine HCK.out.mono ?_; rintro e w1 ⟨hb1, n, rfl, _⟩)
   go_ret2
   exact ⟨hb1, .inl ⟨by rw [HER.out]; exact HZ.out, by rw [HER.out]; rfl⟩⟩
end Go.Proofs.Tg.Bk
end
