/- Parts of the proof: LS1, XR1, NU1, NU2, NU3. -/
import Derived.Test.YticpnfjdooileaaGreatDoorMCPS5
import Derived.Test.YticpnfjdooileaaGreatDoorMCPS16
import Derived.Test.YticpnfjdooileaaGreatDoorMCPS17
import Derived.Test.YticpnfjdooileaaGreatDoorMCPS18
section
/- The statement ParitySigns, walked, over what the reference's ReadAll gives. -/
namespace Go.Proofs.Tg
open Go.RowKit Go.Gr Go.Ev Go.Mo Go.Qn
set_option maxHeartbeats 4000000
set_option maxRecDepth 100000
/-- Both searches answer alike. -/
theorem both_signs (ps : List PVal) : ∃ (K : List (List Int)) (c : Int), K.length ≤ 1000000 ∧ (∀ l ∈ K, l.length ≤ 1000000) ∧
    (∀ w e w', RetSigns ps w e w' → ∃ A d, e = .returned (.tuple #[.slice A K.length d, .int .i64 c]) ∧ Lists w' A K ∧ Below w.heap.size w w') ∧
    (∀ w e w', RetRSigns ps w e w' → ∃ A d, e = .returned (.tuple #[.slice A K.length d, .int .i64 c]) ∧ Lists w' A K ∧ Below w.heap.size w w') := by
  have lnil : ∀ w, Lists w none [] := fun w => ⟨fun _ => (none, 0), Sl.nil _ _ _, fun i hi => by simp at hi⟩
  by_cases hok : ∀ p ∈ ps, p.ok
  · by_cases hd : ps = [] ∨ ∃ p ∈ ps, p.vars ≠ (ps.getD 0 ⟨0, none, 0, []⟩).vars
    · have hno : ∀ n : Nat, ps ≠ [] → (∀ p ∈ ps, p.vars = n) → False := by
        intro n hne hall
        rcases hd with h | ⟨p, hp, h⟩
        · exact hne h
        · apply h
          have h0 : 0 < ps.length := List.length_pos_iff.2 hne
          rw [hall p hp]
          have := hall ps[0] (List.getElem_mem _)
          simp [h0, this]
      refine ⟨[], 4, by simp, by simp, ?_, ?_⟩
      · rintro w e w' ⟨hb, h | h | h⟩
        · exact absurd hok h.1
        · exact ⟨none, 0, h.2.2, lnil _, hb⟩
        · obtain ⟨_, n, _, hne, hall, _⟩ := h
          exact (hno n hne hall).elim
      · rintro w e w' ⟨hb, h | h | h⟩
        · exact absurd hok h.1
        · exact ⟨none, 0, h.2.2, lnil _, hb⟩
        · obtain ⟨_, n, _, hne, hall, _⟩ := h
          exact (hno n hne hall).elim
    · have hne : ps ≠ [] := fun h => hd (.inl h)
      obtain ⟨p0, hp0⟩ := List.exists_mem_of_ne_nil ps hne
      have hlt : ∀ n : Nat, n ≤ 6 → ((kern (keepB (rowsOf ps) n) n (2 ^ n - 1)).map (unp · n)).length ≤ 1000000 := by
        intro n hn
        have h6 : 2 ^ n ≤ 2 ^ 6 := Nat.pow_le_pow_right (by omega) hn
        have := kern_len (keepB (rowsOf ps) n) n (2 ^ n - 1)
        rw [List.length_map]; omega
      have h1 := (hok p0 hp0).2.1.1
      have h2 := (hok p0 hp0).2.1.2.1
      refine ⟨(kern (keepB (rowsOf ps) p0.vars.toNat) p0.vars.toNat (2 ^ p0.vars.toNat - 1)).map (unp · p0.vars.toNat), 0, hlt _ (by omega), ?_, ?_, ?_⟩
      · intro l hl
        obtain ⟨x, _, rfl⟩ := List.mem_map.1 hl
        rw [unp_len]; omega
      · rintro w e w' ⟨hb, h | h | h⟩
        · exact absurd hok h.1
        · exact absurd h.2.1 hd
        · obtain ⟨_, n, hn, _, hall, A, c, us, r, q, hE, _, he, hL⟩ := h
          have : p0.vars.toNat = n := by rw [hall p0 hp0]; simp
          rw [this]
          rw [rows_keep hE] at he hL
          exact ⟨A, c, he, hL, hb⟩
      · rintro w e w' ⟨hb, h | h | h⟩
        · exact absurd hok h.1
        · exact absurd h.2.1 hd
        · obtain ⟨_, n, hn, _, hall, A, c, he, hL⟩ := h
          have : p0.vars.toNat = n := by rw [hall p0 hp0]; simp
          rw [this]
          exact ⟨A, c, he, hL, hb⟩
  · refine ⟨[], 1, by simp, by simp, ?_, ?_⟩
    · rintro w e w' ⟨hb, h | h | h⟩
      · exact ⟨none, 0, h.2, lnil _, hb⟩
      · exact absurd h.1 hok
      · exact absurd h.1 hok
    · rintro w e w' ⟨hb, h | h | h⟩
      · exact ⟨none, 0, h.2, lnil _, hb⟩
      · exact absurd h.1 hok
      · exact absurd h.1 hok
theorem rows_few : ∀ (ps : List PVal), (∀ p ∈ ps, p.few 8 8) → (rowsOf ps).length ≤ 8 * ps.length
  | [], _ => by simp [rowsOf]
  | p :: ps, h => by
    have := rows_few ps (fun p hp => h p (by simp [hp]))
    have h1 := (h p (by simp)).1
    have e : rowsOf (p :: ps) = p.tv.map TV.exps ++ rowsOf ps := rfl
    rw [e, List.length_append, List.length_map, List.length_cons]; omega
/-- The law, where the reference's reading is known. -/
theorem law_signs' (L : Option Addr) (c : Nat) (ps : List PVal) (w : World) (hL : PolysAt w L ps) (hT : Tab w)
    (hR : ps.length ≤ 4 → (∀ p ∈ ps, p.few 8 8) → ∀ W, PolysAt W L ps → Tab W → Calls Tryz.prog 30 #[.slice L ps.length c] W (RetAll ps W)) :
    Calls Tryz.prog 3 #[.slice L ps.length c] w fun e w' => e = .returned (.bool true) ∧ Below w.heap.size w w' := by
  by_cases hs : ps.length ≤ 4 ∧ ∀ p ∈ ps, p.few 8 8
  · obtain ⟨K, cc, hK1, hK2, H1, H2⟩ := both_signs ps
    have HK2 := Lib.hid hK2
    have HM1 := Lib.hid H1
    have HM2 := Lib.hid H2
    have hlen : ps.length ≤ 4 := hs.1
    have HFS : Hid ((rowsOf ps).length ≤ 100000) := Lib.hid (by have := rows_few ps hs.2; omega)
    have HSM : Hid (∀ p ∈ ps, p.small) := Lib.hid (fun p hp => ⟨by have := (hs.2 p hp).1; omega, fun t ht => by have := (hs.2 p hp).2 t ht; omega⟩)
    have HTL : Hid (∀ p ∈ ps, p.tv.length ≤ 100000) := Lib.hid (fun p hp => by have := (hs.2 p hp).1; omega)
    have HR := Lib.hid (hR hs.1 hs.2)
    have HP := Lib.hid (fun W (h : PolysAt W L ps) => spolys_any L c 4 8 8 ps true W h (by simp [hs.1]; exact hs.2) (by omega) (by omega) (by omega))
    clear hs H1 H2 hR hK2
    go_enter Tryz.func3, Tryz.ntmps3
    go_wp2_with (fail)
    refine (HP.out w hL).mono ?_
    rintro e w0 ⟨rfl, hb0⟩
    go_wp2_with (fail)
    refine (signs_any L c ps w0 (hL.keep hb0) (by omega) HSM.out (hT.below hb0 hT.1)).mono ?_
    intro e w1 hm
    obtain ⟨A, d, rfl, hA, hb1⟩ := HM1.out _ _ _ hm
    clear hm
    have hb1 := below_all hb0 hb1
    clear hb0
    go_wp2_with (fail)
    refine (rsigns_any L c ps w1 (by omega) HFS.out HTL.out (HR.out w1 (hL.keep hb1) (hT.below hb1 hT.1))).mono ?_
    intro e w2 hm
    obtain ⟨B, d2, rfl, hB, hb2⟩ := HM2.out _ _ _ hm
    clear hm
    have hA := hA.keep hb2
    have hb2 := below_all hb1 hb2
    clear hb1
    go_wp2_with (fail)
    refine (lists_any A B K K d d2 w2 hA hB hK1 HK2.out).mono ?_
    rintro e w3 ⟨he, hdr⟩
    rw [decide_eq_true rfl] at he
    subst he
    have hb3 := below_all hb2 hdr.below
    clear hb2 hdr
    go_wp2_with (fail)
    refine (awake_any w3 (hT.below hb3 hT.1)).mono ?_
    rintro e w4 ⟨rfl, hb4⟩
    go_wp2_with (fail)
    go_ret
    exact ⟨rfl, below_all hb3 hb4⟩
  · have HP := Lib.hid (spolys_any L c 4 8 8 ps false w hL (by simp only [Bool.false_eq_true, false_iff]; exact hs) (by omega) (by omega) (by omega))
    clear hs hR
    go_enter Tryz.func3, Tryz.ntmps3
    go_wp2_with (fail)
    refine HP.out.mono ?_
    rintro e w0 ⟨rfl, hb0⟩
    go_wp2_with (fail)
    refine (awake_any w0 (hT.below hb0 hT.1)).mono ?_
    rintro e w4 ⟨rfl, hb4⟩
    go_wp2_with (fail)
    go_ret
    exact ⟨rfl, below_all hb0 hb4⟩
end Go.Proofs.Tg
end
section
/- The reference's order of monomials. -/
namespace Go.Proofs.Tg
open Go.RowKit Go.Gr Go.Mo
set_option maxHeartbeats 2000000
set_option maxRecDepth 100000
theorem rord_any (A B : Option Addr) (c d : Nat) (a b : List Int) (w : World) (hA : Ints w A a) (hB : Ints w B b) (hl : a.length = b.length) (hn : a.length ≤ 64) (ha : low20 a = true) (hb : low20 b = true) :
    Calls Tryz.prog 67 #[.slice A a.length c, .slice B b.length d] w fun e w' => e = .returned (.int .i64 (ord a b)) ∧ Dr w w' := by
  have HL := Lib.hid hl
  have HA := Lib.hid (low20_iff.1 ha)
  have HB := Lib.hid (low20_iff.1 hb)
  have hn2 : b.length ≤ 64 := by omega
  clear hl ha hb
  go_enter Tryz.func67, Tryz.ntmps67
  go_wp2
  go_loopw [5, 6, 7] (fun s t i wr => ∃ k : Nat, k ≤ a.length ∧ i = .int .i64 k ∧ ∃ y z : Int, s = .int .i64 y ∧ t = .int .i64 z ∧ 0 ≤ y ∧ y ≤ 1048576 * 64 ∧ 0 ≤ z ∧ z ≤ 1048576 * 64 ∧ Hid (y = (a.take k).sum ∧ z = (b.take k).sum) ∧ Dr w wr) (fun _ _ i _ => a.length - (intOf i).toNat)
  case atStart => exact ⟨0, Nat.zero_le _, rfl, 0, 0, rfl, rfl, by omega, by omega, by omega, by omega, Lib.hid ⟨rfl, rfl⟩, Dr.refl _⟩
  case round =>
    obtain ⟨k, hk, rfl, y, z, rfl, rfl, hy0, hy1, hz0, hz1, HZ, hdr⟩ := hrel
    by_cases hlt : k < a.length
    · have hlt2 : k < b.length := by have := HL.out; omega
      obtain ⟨ad, rfl, hc1⟩ := Ints.at (hA.keep hdr.below) hlt
      obtain ⟨bd, rfl, hc2⟩ := Ints.at (hB.keep hdr.below) hlt2
      have HS1 : Hid ((a.take (k + 1)).sum = y + a[k]) := Lib.hid (by rw [sum_take_succ a k hlt, ← HZ.out.1])
      have HS2 : Hid ((b.take (k + 1)).sum = z + b[k]) := Lib.hid (by rw [sum_take_succ b k hlt2, ← HZ.out.2])
      have hb1 := HA.out a[k] (List.getElem_mem _)
      have hb2 := HB.out b[k] (List.getElem_mem _)
      have hs1 := sum_bound a (k + 1) HA.out
      have hs2 := sum_bound b (k + 1) HB.out
      rw [HS1.out] at hs1
      rw [HS2.out] at hs2
      have hl1 : (a.take (k + 1)).length ≤ 64 := Nat.le_trans (List.length_take_le' _ _) hn
      have hl2 : (b.take (k + 1)).length ≤ 64 := Nat.le_trans (List.length_take_le' _ _) hn2
      obtain ⟨p1, p2⟩ := hb1
      obtain ⟨p3, p4⟩ := hb2
      have r1 : y + a[k] ≤ 1048576 * 64 := by omega
      have r2 : z + b[k] ≤ 1048576 * 64 := by omega
      clear hs1 hs2 hl1 hl2
      generalize a[k] = p at *
      generalize b[k] = q at *
      have q0 : (0 : Int) ≤ (k : Int) := by omega
      have q1 : (k : Int) < (a.length : Int) := by omega
      have q2 : (k : Int) < (b.length : Int) := by omega
      have q3 : ((k : Int)).toNat = k := by omega
      have q4 : IntKind.i64.wrap (y + p) = y + p := IntWalk.i64_in _ (by omega)
      have q5 : IntKind.i64.wrap (z + q) = z + q := IntWalk.i64_in _ (by omega)
      clear hA hB
      go_wp2
      go_quiet (fail)
      go_wp2
      go_roundw
      case rel => exact ⟨k + 1, by omega, by go_num, y + p, z + q, rfl, rfl, by omega, by omega, by omega, by omega, Lib.hid ⟨HS1.out.symm, HS2.out.symm⟩, hdr.drewN _⟩
      case measure => simp [intOf]; omega
    · obtain rfl : k = a.length := by omega
      have h1 : y = a.sum := by rw [HZ.out.1, List.take_length]
      have h2 : z = b.sum := by rw [HZ.out.2, HL.out, List.take_length]
      by_cases hyz : y = z
      · have hbb : (y != z) = false := by simp [hyz]
        have HO : Hid (ord a b = ordT a b a.length) := Lib.hid (by unfold ord; rw [if_pos (by rw [← h1, ← h2]; exact hyz)])
        clear h1 h2 hyz
        obtain ⟨wo, rfl⟩ : ∃ wo : World, wo = wr := ⟨_, rfl⟩
        go_wp2
        go_loopw [8] (fun i wr => ∃ z : Int, i = .int .i64 z ∧ -1 ≤ z ∧ z < a.length ∧ Hid (ord a b = ordT a b (z + 1).toNat) ∧ Dr w wr) (fun i _ => (intOf i + 1).toNat)
        case atStart => exact ⟨(a.length : Int) - 1, rfl, by omega, by omega, Lib.hid (by rw [HO.out]; congr 1; omega), hdr⟩
        case round =>
          clear hdr
          obtain ⟨z', rfl, hz2, hz3, HZ', hdr⟩ := hrel
          by_cases hneg : z' = -1
          · subst hneg
            have HF : Hid (ord a b = 0) := Lib.hid (by rw [HZ'.out]; rfl)
            go_wp2
            go_ret
            exact ⟨by rw [HF.out]; rfl, hdr⟩
          · obtain ⟨j, rfl⟩ : ∃ j : Nat, z' = j := ⟨z'.toNat, by omega⟩
            have hlt1 : j < a.length := by omega
            have hlt2 : j < b.length := by have := HL.out; omega
            obtain ⟨ad, rfl, hc1⟩ := Ints.at (hA.keep hdr.below) hlt1
            obtain ⟨bd, rfl, hc2⟩ := Ints.at (hB.keep hdr.below) hlt2
            have HX : Hid (ord a b = if a[j] = b[j] then ordT a b j else if b[j] < a[j] then -1 else 1) := Lib.hid (by
              rw [HZ'.out, show ((j : Int) + 1).toNat = j + 1 by omega, ordT]
              simp [hlt1, hlt2])
            have q0 : (0 : Int) ≤ (j : Int) := by omega
            have q1 : (j : Int) < (a.length : Int) := by omega
            have q2 : (j : Int) < (b.length : Int) := by omega
            have q3 : ((j : Int)).toNat = j := by omega
            clear hneg hA hB
            generalize a[j] = p at *
            generalize b[j] = q at *
            by_cases hpq : p = q
            · have hb2 : (p != q) = false := by simp [hpq]
              have HX2 : Hid (ord a b = ordT a b j) := Lib.hid (by rw [HX.out, if_pos hpq])
              clear hpq HX
              go_wp2
              go_quiet (fail)
              go_wp2
              go_roundw
              case rel => exact ⟨(j : Int) - 1, rfl, by omega, by omega, Lib.hid (by rw [HX2.out]; congr 1; omega), hdr.drewN _⟩
              case measure => simp [intOf]
            · have hb2 : (p != q) = true := by simp [hpq]
              have HX2 : Hid (ord a b = if q < p then -1 else 1) := Lib.hid (by rw [HX.out, if_neg hpq])
              clear hpq HX
              go_wp2
              go_quiet (fail)
              have k1 : (wr.drewN nq).cell? (ad.add j) = some (.int .i64 p) := hc1
              have k2 : (wr.drewN nq).cell? (bd.add j) = some (.int .i64 q) := hc2
              have hdr2 := hdr.drewN nq
              generalize wr.drewN nq = W at *
              by_cases hqp : q < p
              · have hb3 : decide (q < p) = true := by simpa using hqp
                have HX3 : Hid (ord a b = -1) := Lib.hid (by rw [HX2.out, if_pos hqp])
                go_wp2
                go_quiet (fail)
                go_wp2
                go_ret
                exact ⟨by rw [HX3.out]; rfl, hdr2.drewN _⟩
              · have hb3 : decide (q < p) = false := by simpa using hqp
                have HX3 : Hid (ord a b = 1) := Lib.hid (by rw [HX2.out, if_neg hqp])
                go_wp2
                go_quiet (fail)
                go_wp2
                go_ret
                exact ⟨by rw [HX3.out]; rfl, hdr2.drewN _⟩
      · have hbb : (y != z) = true := by simp [hyz]
        by_cases hlt3 : y < z
        · have hb3 : decide (y < z) = true := by simpa using hlt3
          have HO : Hid (ord a b = -1) := Lib.hid (by unfold ord; rw [if_neg (by rw [← h1, ← h2]; exact hyz), if_pos (by rw [← h1, ← h2]; exact hlt3)])
          clear h1 h2 hyz
          go_wp2
          go_ret
          exact ⟨by rw [HO.out]; rfl, hdr⟩
        · have hb3 : decide (y < z) = false := by simpa using hlt3
          have HO : Hid (ord a b = 1) := Lib.hid (by unfold ord; rw [if_neg (by rw [← h1, ← h2]; exact hyz), if_neg (by rw [← h1, ← h2]; exact hlt3)])
          clear h1 h2 hyz
          go_wp2
          go_ret
          exact ⟨by rw [HO.out]; rfl, hdr⟩
end Go.Proofs.Tg
end
section
/- The harness's numbers: trim. -/
namespace Go.Proofs.Tg
open Go.RowKit Go.Gr
set_option maxHeartbeats 4000000
set_option maxRecDepth 100000
def vd (x : Nat) : Value := .int .u32 (x : Nat)
/-- A slice of digits. -/
def Digs (w : World) (A : Option Addr) (xs : List Nat) : Prop := Sl w A xs.length 1 (xs.map vd)
theorem Digs.keep {w w' : World} {A : Option Addr} {xs : List Nat} (h : Digs w A xs) (hb : Below w.heap.size w w') : Digs w' A xs := Sl.keep h hb
theorem Digs.at {w : World} {A : Option Addr} {xs : List Nat} (h : Digs w A xs) {k : Nat} (hk : k < xs.length) : ∃ ad, A = some ad ∧ w.cell? (ad.add k) = some (.int .u32 (xs[k] : Nat)) := by
  obtain ⟨ad, rfl, hc⟩ := Sl.at1 h hk
  exact ⟨ad, rfl, by simpa [vd] using hc⟩
theorem Digs.take {w : World} {A : Option Addr} {xs : List Nat} (h : Digs w A xs) (k : Nat) (hk : k ≤ xs.length) : Digs w A (xs.take k) := by
  refine ⟨by simp, fun hp => ?_⟩
  have hl : (xs.take k).length = k := by rw [List.length_take]; omega
  rw [hl] at hp
  obtain ⟨ad, rfl, hlt, ha⟩ := h.lies (by omega)
  refine ⟨ad, rfl, hlt, fun j u hu => ha j u ?_⟩
  have hj := (List.getElem?_eq_some_iff.1 hu).1
  rw [List.length_map, hl] at hj
  rw [List.getElem?_map] at hu ⊢
  rwa [List.getElem?_take_of_lt hj] at hu
/-- How many digits are left of the first k when the leading zeros are struck. -/
def tzl (xs : List Nat) : Nat → Nat
  | 0 => 0
  | k + 1 => if xs.getD k 0 = 0 then tzl xs k else k + 1
theorem tzl_le (xs : List Nat) : ∀ k, tzl xs k ≤ k
  | 0 => Nat.le_refl _
  | k + 1 => by
    unfold tzl
    have := tzl_le xs k
    split <;> omega
theorem trim_any (A : Option Addr) (c : Nat) (xs : List Nat) (w : World) (hA : Digs w A xs) (hn : xs.length ≤ 1000) (hc : xs.length ≤ c) :
    Calls Tryz.prog 100 #[.slice A xs.length c] w fun e w' => e = .returned (.slice A (tzl xs xs.length) c) ∧ w = w' := by
  obtain ⟨r, hr⟩ : ∃ r, tzl xs xs.length = r := ⟨_, rfl⟩
  rw [hr]
  have HR : Hid (tzl xs xs.length = r) := Lib.hid hr
  clear hr
  go_enter Tryz.func100, Tryz.ntmps100
  go_wp2
  go_loop [0] (fun s0 => ∃ k : Nat, s0 = .slice A k c ∧ k ≤ xs.length ∧ Hid (tzl xs k = r)) (fun s0 => match s0 with | .slice _ k _ => k | _ => 0)
  case atStart => exact ⟨xs.length, rfl, Nat.le_refl _, HR⟩
  case round =>
    obtain ⟨k, rfl, hk, HK⟩ := hrel
    cases k with
    | zero =>
      obtain rfl : r = 0 := HK.out.symm
      go_wp2
      go_ret
      exact ⟨rfl, rfl⟩
    | succ k =>
      obtain ⟨ad, rfl, hck⟩ := Digs.at hA (k := k) (by omega)
      have HX : Hid (xs.getD k 0 = xs[k]) := Lib.hid (by simp [show k < xs.length by omega])
      generalize xs[k] = x at hck HX
      by_cases hx : x = 0
      · subst hx
        have HK2 : Hid (tzl xs k = r) := Lib.hid (by have := HK.out; unfold tzl at this; rwa [if_pos HX.out] at this)
        go_wp2
        go_round
        case rel => exact ⟨k, rfl, by omega, HK2⟩
        case measure => simp
      · have hb : ((x : Int) == 0) = false := by simp [hx]
        have hb' : (x == 0) = false := by simp [hx]
        obtain rfl : r = k + 1 := by have := HK.out; unfold tzl at this; rw [if_neg (by rw [HX.out]; exact hx)] at this; exact this.symm
        go_wp2
        go_ret
        exact ⟨rfl, rfl⟩
theorem make1_any (b : Bool) (A : Option Addr) (n c : Nat) (w : World) (v : Bool) (hv : (b && decide (0 < n)) = v) (hn : n ≤ 1000000) :
    Calls Tryz.prog 69 #[.bool b, .slice A n c] w fun e w' => e = .returned (.agg #[.bool v, .slice A n c]) ∧ Below w.heap.size w w' := by
  have hbA : Below w.heap.size w (w.alloc (.cells #[.bool v, .slice A n c] 80)) := (Below.refl _ _).alloc (Nat.le_refl _) _
  have hB := Blk.new w 80 #[.bool v, .slice A n c]
  cases b with
  | false =>
    obtain rfl : v = false := by rw [← hv]; rfl
    obtain ⟨a0, a1, _, _⟩ := hB.two
    go_enter Tryz.func69, Tryz.ntmps69
    go_wp2
    exact bodyPost_ret (v := .agg #[.bool false, .slice A n c]) (by simp [results, Tryz.results69, go_sem, a0, a1]) rfl ⟨rfl, hbA⟩
  | true =>
    obtain rfl : decide (0 < n) = v := by rw [← hv]; rfl
    obtain ⟨a0, a1, _, _⟩ := hB.two
    by_cases h0 : 0 < n
    · have hd : decide ((0 : Int) < (n : Int)) = true := by simp; omega
      have hd' : decide (0 < n) = true := by simp; omega
      rw [hd'] at a0 a1 hbA ⊢
      clear hv hB
      go_enter Tryz.func69, Tryz.ntmps69
      go_wp2
      exact bodyPost_ret (v := .agg #[.bool true, .slice A n c]) (by simp [results, Tryz.results69, go_sem, a0, a1]) rfl ⟨rfl, hbA⟩
    · have hd : decide ((0 : Int) < (n : Int)) = false := by simp; omega
      have hd' : decide (0 < n) = false := by simp; omega
      rw [hd'] at a0 a1 hbA ⊢
      clear hv hB
      go_enter Tryz.func69, Tryz.ntmps69
      go_wp2
      exact bodyPost_ret (v := .agg #[.bool false, .slice A n c]) (by simp [results, Tryz.results69, go_sem, a0, a1]) rfl ⟨rfl, hbA⟩
theorem sign_any (b : Bool) (A : Option Addr) (n c : Nat) (w : World) (hn : n ≤ 1000000) (s : Int) (hs : (if b = true then -1 else if n = 0 then 0 else 1) = s) :
    Calls Tryz.prog 80 #[.agg #[.bool b, .slice A n c]] w fun e w' => e = .returned (.int .i64 s) ∧ Below w.heap.size w w' := by
  have hbA : Below w.heap.size w (w.alloc (.cells #[.bool b, .slice A n c] 80)) := (Below.refl _ _).alloc (Nat.le_refl _) _
  cases b with
  | true =>
    obtain rfl : s = -1 := by rw [← hs]; rfl
    clear hs
    go_enter Tryz.func80, Tryz.ntmps80
    go_wp2
    go_ret
    exact ⟨rfl, hbA⟩
  | false =>
    by_cases h0 : n = 0
    · subst h0
      obtain rfl : s = 0 := by rw [← hs]; rfl
      clear hs
      go_enter Tryz.func80, Tryz.ntmps80
      go_wp2
      go_ret
      exact ⟨rfl, hbA⟩
    · obtain rfl : s = 1 := by rw [← hs, if_neg (by simp), if_neg h0]
      have hz : ((n : Int) == 0) = false := beq_eq_false_iff_ne.2 (by omega)
      have hz' : (n == 0) = false := beq_eq_false_iff_ne.2 h0
      clear h0 hs
      go_enter Tryz.func80, Tryz.ntmps80
      go_wp2
      go_ret
      exact ⟨rfl, hbA⟩
end Go.Proofs.Tg
end
section
/- The harness's numbers: the sign of a fraction. -/
namespace Go.Proofs.Tg
open Go.RowKit Go.Gr
set_option maxHeartbeats 1000000
set_option maxRecDepth 100000
theorem rsign_any (b b2 : Bool) (A A2 : Option Addr) (n c n2 c2 : Nat) (w : World) (hn : n ≤ 1000000) (s : Int) (hs : (if b = true then -1 else if n = 0 then 0 else 1) = s) :
    Calls Tryz.prog 66 #[.agg #[.bool b, .slice A n c, .bool b2, .slice A2 n2 c2]] w fun e w' => e = .returned (.int .i64 s) ∧ Below w.heap.size w w' := by
  have hbA : Below w.heap.size w (w.alloc (.cells #[.bool b, .slice A n c, .bool b2, .slice A2 n2 c2] 82)) := (Below.refl _ _).alloc (Nat.le_refl _) _
  have HS := Lib.hid (fun W => sign_any b A n c W hn s hs)
  clear hs
  go_enter Tryz.func66, Tryz.ntmps66
  go_wp2_with (fail)
  refine (HS.out _).mono ?_
  rintro e w2 ⟨rfl, hb2⟩
  go_wp2
  go_ret
  exact ⟨rfl, below_all hbA hb2⟩
/-- The product with an empty number is empty. -/
theorem mul_nil (B : Option Addr) (c m d : Nat) (A : Option Addr) (w : World) :
    Calls Tryz.prog 99 #[.slice A 0 c, .slice B m d] w fun e w' => e = .returned (.slice none 0 0) ∧ w = w' := by
  go_enter Tryz.func99, Tryz.ntmps99
  go_wp2
  go_ret
  exact ⟨rfl, rfl⟩
end Go.Proofs.Tg
end
section
/- The harness's numbers: the sum of nothing and one digit. -/
namespace Go.Proofs.Tg
open Go.RowKit Go.Gr
set_option maxHeartbeats 1000000
set_option maxRecDepth 100000
theorem dig_info : (Tryz.prog.info? 99).map (fun i => (i.zero, i.size, i.bytes)) = some (some (.int .u32 0), 1, 4) := by kernel_rfl
theorem make_digs (n : Nat) (hn : n ≤ 1000000) (w : World) : (Instr.makeSlice 78 (.int .i64 (n : Int)) (.int .i64 (n : Int))).run Tryz.prog w = .ok (.slice (some ⟨w.heap.size, 0, none⟩) n n) (w.alloc (.cells (madeCells #[.int .u32 0] n) 99)) := by
  obtain ⟨i0, hi, hz0, hz1, hz2⟩ := info_parts dig_info
  have hr := run_make (P := Tryz.prog) w 78 99 i0 (.int .u32 0) Tryz.underlying78 hi hz0 .i64 .i64 n n (by omega) (by omega) (by rw [hz2]; omega) (by omega)
  rw [hz1, Nat.mul_one, Int.toNat_natCast] at hr
  exact hr
theorem make_digs2 (w : World) : (Instr.makeSlice 78 (.int .i64 2) (.int .i64 2)).run Tryz.prog w = .ok (.slice (some ⟨w.heap.size, 0, none⟩) 2 2) (w.alloc (.cells #[.int .u32 0, .int .u32 0] 99)) := by
  have e : madeCells #[Value.int .u32 0] 2 = #[.int .u32 0, .int .u32 0] := by kernel_rfl
  have := make_digs 2 (by omega) w
  rw [e] at this
  exact this
theorem add_one (A : Option Addr) (c d g v : Nat) (w : World) (hB : Blk w g 99 #[.int .u32 (v : Nat)]) (hv : v < 4294967296) :
    Calls Tryz.prog 98 #[.slice A 0 c, .slice (some ⟨g, 0, none⟩) 1 d] w fun e w' => e = .returned (.slice (some ⟨w.heap.size, 0, none⟩) (tzl [v, 0] 2) 2) ∧ Blk w' w.heap.size 99 #[.int .u32 (v : Nat), .int .u32 0] ∧ Below w.heap.size w w' := by
  have hmk := fun W => make_digs2 W
  have hc := hB.cell 0
  simp at hc
  have hg := hB.lt
  go_enter Tryz.func98, Tryz.ntmps98
  have hdv : (v : Int) / 4294967296 = 0 := by omega
  have hB2 := Blk.new w 99 #[.int .u32 (v : Nat), .int .u32 0]
  have hbA : Below w.heap.size w (w.alloc (.cells #[.int .u32 (v : Nat), .int .u32 0] 99)) := (Below.refl _ _).alloc (Nat.le_refl _) _
  have hD : Digs (w.alloc (.cells #[.int .u32 (v : Nat), .int .u32 0] 99)) (some ⟨w.heap.size, 0, none⟩) [v, 0] := ⟨rfl, fun _ => ⟨_, rfl, hB2.lt, fun j u hu => by rw [add_lit, Nat.zero_add, hB2.cell j]; simpa [vd] using hu⟩⟩
  have HT := Lib.hid (trim_any (some ⟨w.heap.size, 0, none⟩) 2 [v, 0] _ hD (by simp) (by simp))
  have HB2 := Lib.hid hB2
  clear hD hB2
  go_wp2
  refine wp_loop_rounds 2 ?_
  rw [rounds_succ]
  go_wp2_with (fail)
  rw [rounds_succ]
  go_wp2_with (fail)
  refine HT.out.mono ?_
  rintro e _ ⟨rfl, rfl⟩
  go_wp2
  go_ret
  exact ⟨rfl, HB2.out, hbA⟩
end Go.Proofs.Tg
end
