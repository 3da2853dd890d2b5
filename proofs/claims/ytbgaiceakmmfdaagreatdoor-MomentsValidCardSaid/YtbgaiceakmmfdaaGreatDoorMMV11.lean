/- Parts of the proof: BN37, BN38. -/
import Derived.Deep.CutBlock
import Derived.Test.YtbgaiceakmmfdaaGreatDoorMMV9
import Derived.Test.YtbgaiceakmmfdaaGreatDoorMMV10
section
/- The harness's numbers: a number read, of any text of at most 64 bytes. (Written by mk_bn37.py from NU14.) -/
namespace Go.Proofs.Tg
open Go.RowKit Go.Gr Go.Bn Go.Qn
set_option maxHeartbeats 4000000
set_option maxRecDepth 100000
def RetRRw (l : List UInt8) (w : World) (e : Ending) (w' : World) : Prop :=
  Below w.heap.size w w' ∧ ((rd l = none ∧ ∃ x A n c y B m d, e = .returned (.tuple #[.agg #[.bool x, .slice A n c, .bool y, .slice B m d], .bool false])) ∨
    (∃ b n m, rd l = some (b, n, m) ∧ n < 10 ^ 64 ∧ m < 10 ^ 64 ∧ m ≠ 0 ∧ ∃ N cn D cd, e = .returned (.tuple #[.agg #[.bool b, .slice N (dg n).length cn, .bool false, .slice D (dg (dnz m)).length cd], .bool true]) ∧ ND w' N cn n ∧ ND w' D cd (dnz m)))
structure RSw (w : World) (g : Nat) (l : List UInt8) (sb : Bool) (n m : Nat) (N : Option Addr) (cn : Nat) (D : Option Addr) (cd : Nat) (wx : World) : Prop where
  below : Below w.heap.size w wx
  b2 : Blk wx w.heap.size 54 #[.bool false, .slice none 0 0, .bool false, .slice none 0 0]
  b10 : Blk wx g 54 #[.bool sb, .slice N (dg n).length cn, .bool false, .slice D (dg (dnz m)).length cd]
  dn : ND wx N cn n
  dd : ND wx D cd (dnz m)
  ref : refN l = some (sb, n, m)
  bn : n < 10 ^ 64
  bm : m < 10 ^ 64
  m0 : m ≠ 0
theorem rread_w (s : ByteArray) (w : World) (hs : s.size ≤ 64) :
    Calls Tryz.prog 19 #[.string s] w (RetRRw s.data.toList w) := by
  obtain ⟨l, hl⟩ : ∃ l, s.data.toList = l := ⟨_, rfl⟩
  rw [hl]
  obtain ⟨b, r, hc⟩ : ∃ b r, cut l = (b, r) := ⟨_, _, rfl⟩
  have hll : l.length = s.size := by rw [← hl]; exact len_size s
  have hrl : r.length ≤ 64 := by
   have := (spl_len hc).2
   omega
  obtain ⟨k0, hk0⟩ : ∃ k0, (r.takeWhile ne47).length = k0 := ⟨_, rfl⟩
  have hk0l : k0 ≤ r.length := by rw [← hk0]; exact tw_len _ _
  have HK0 := Lib.hid hk0
  have HC := Lib.hid hc
  have HLL := Lib.hid hl
  have HB : Hid (b = decide (s.data.toList.head? = some 45) ∧ bs r = if b = true then s.extract 1 s.size else s) := Lib.hid (by
   have h1 := hc
   unfold cut at h1
   rw [hl]
   by_cases h : l.head? = some 45
   ·rw [if_pos h] at h1
    injection h1 with e1 e2
    subst e1 e2
    rw [decide_eq_true h]
    exact ⟨rfl, by rw [if_pos rfl, ext_end, hl]; simp⟩
   ·rw [if_neg h] at h1
    injection h1 with e1 e2
    subst e1 e2
    rw [decide_eq_false h]
    exact ⟨rfl, by rw [if_neg (by simp), ← hl, bs_self]⟩)
  clear hk0 hc hl
  obtain ⟨R, hR⟩ : ∃ R, bs r = R := ⟨_, rfl⟩
  rw [hR] at HB
  have hRs : R.size ≤ 64 := by rw [← hR, bs_size]; exact hrl
  have hkR : k0 ≤ R.size := by rw [← hR, bs_size]; exact hk0l
  have HRR := Lib.hid hR
  have HRL : Hid (R.size = r.length) := Lib.hid (by rw [← hR, bs_size])
  clear hR hrl hk0l
  obtain ⟨W, hW⟩ : ∃ W, w.alloc (.cells #[.bool false, .slice none 0 0, .bool false, .slice none 0 0] 54) = W := ⟨_, rfl⟩
  have B2 : Blk W w.heap.size 54 #[.bool false, .slice none 0 0, .bool false, .slice none 0 0] := by rw [← hW]; exact Blk.new _ _ _
  have hbW : Below w.heap.size w W := by rw [← hW]; exact (Below.refl _ _).alloc (Nat.le_refl _) _
  go_enter Tryz.func19, Tryz.ntmps19
  go_upto_region 2 with (fail)
  try rw [hW]
  clear hW
  go_cut [5] from 13 (fun s5 wx => s5 = .bool b ∧ W = wx)
  case first =>
   by_cases h0 : 0 < s.size
   ·have hh : s.data.toList.head? = some s[0] := by
     have hlen := len_size s
     cases h : s.data.toList with
     | nil => rw [h] at hlen; simp at hlen; omega
     | cons x t =>
       simp only [List.head?_cons, Option.some.injEq]
       have : s[0] = s.data.toList[0]'(by rw [hlen]; exact h0) := rfl
       rw [this]; simp [h]
    have hd0 : decide ((0 : Int) < (s.size : Int)) = true := by simp; omega
    have hd0' : decide (0 < s.size) = true := by simp; omega
    by_cases h45 : s[0] = 45
    ·have hq : ((s[0].toNat : Int) == 45) = true := by rw [h45]; rfl
     have hb : b = true := by rw [HB.out.1, hh, h45]; rfl
     subst hb
     clear hh h45
     go_wp2
     go_meet
     exact ⟨rfl, rfl⟩
    ·have hq : ((s[0].toNat : Int) == 45) = false := by
      apply beq_eq_false_iff_ne.2
      intro e
      have e2 : s[0].toNat = 45 := by omega
      exact h45 (UInt8.toNat_inj.1 (by rw [e2]; rfl))
     have hb : b = false := by rw [HB.out.1, hh]; simp [h45]
     subst hb
     clear hh h45
     go_wp2
     go_meet
     exact ⟨rfl, rfl⟩
   ·have hb : b = false := by
     rw [HB.out.1]
     have hlen := len_size s
     have : s.data.toList = [] := List.eq_nil_of_length_eq_zero (by omega)
     rw [this]; rfl
    subst hb
    have hd0 : decide ((0 : Int) < (s.size : Int)) = false := decide_eq_false (by omega)
    have hd0' : decide (0 < s.size) = false := decide_eq_false h0
    go_wp2
    go_meet
    exact ⟨rfl, rfl⟩
  case rest =>
   obtain ⟨rfl, rfl⟩ := hcut
   go_upto_if 22 with (fail)
   go_cut [4] from 13 (fun s4 wx => s4 = .string R ∧ W = wx)
   case first =>
    have HBR := Lib.hid HB.out.2
    have hs1 : b = true → 1 ≤ (s.size : Int) := by
     intro h
     have h1 := HB.out.1
     rw [h] at h1
     have hlen := len_size s
     cases h2 : s.data.toList with
     | nil => rw [h2] at h1; simp at h1
     | cons x t => rw [h2] at hlen; simp at hlen; omega
    cases b with
    | true =>
      have hs1 := hs1 rfl
      go_wp2
      go_meet
      exact ⟨by rw [HBR.out, if_pos trivial], rfl⟩
    | false =>
      go_wp2
      go_meet
      exact ⟨by rw [HBR.out, if_neg (by simp)], rfl⟩
   case rest =>
    obtain ⟨rfl, rfl⟩ := hcut
    go_upto_block 0 with (fail)
    go_cut [6, 7] from 13 (fun s6 s7 wx => s6 = .int .i64 k0 ∧ W = wx)
    case first =>
     go_wp2
     go_loop [6, 7] (fun s6 s7 => ∃ k : Nat, s6 = .int .i64 R.size ∧ s7 = .int .i64 k ∧ k ≤ R.size ∧ Hid (∀ c ∈ r.take k, ne47 c = true)) (fun _ s7 => R.size - (intOf s7).toNat)
     case atStart => exact ⟨0, rfl, rfl, Nat.zero_le _, Lib.hid (by simp)⟩
     case round =>
      obtain ⟨k, rfl, rfl, hk, HN⟩ := hrel
      by_cases hlt : k < R.size
      ·have hlr : k < r.length := by rw [← HRL.out]; exact hlt
       have HX : Hid (R[k] = r[k]) := Lib.hid (by
        have h := HRR.out
        subst h
        rfl)
       have HT0 : Hid (r.take (k + 1) = r.take k ++ [r[k]]) := Lib.hid (List.take_succ_eq_append_getElem hlr)
       by_cases h47 : R[k] = 47
       ·have hq : ((R[k].toNat : Int) == 47) = true := by rw [h47]; rfl
        obtain rfl : k = k0 := by
         have h1 := tw47 r k HN.out (.inr ⟨hlr, by rw [← HX.out, h47]; rfl⟩)
         rw [HK0.out] at h1
         omega
        clear h47
        go_wp2
        go_meet
        exact ⟨rfl, rfl⟩
       ·have hq : ((R[k].toNat : Int) == 47) = false := by
         apply beq_eq_false_iff_ne.2
         intro e
         have e2 : R[k].toNat = 47 := by omega
         exact h47 (UInt8.toNat_inj.1 (by rw [e2]; rfl))
        have HN2 : Hid (∀ c ∈ r.take (k + 1), ne47 c = true) := Lib.hid (by
         rw [HT0.out]
         intro c hc
         rcases List.mem_append.1 hc with h | h
         ·exact HN.out c h
         ·simp only [List.mem_cons, List.not_mem_nil, or_false] at h
          rw [h, ← HX.out]
          unfold ne47
          simp [h47])
        clear h47
        go_wp2
        go_round
        case rel => exact ⟨k + 1, rfl, by go_num, by omega, HN2⟩
        case measure => simp [intOf]; omega
      ·have hkk : k0 = R.size := by
        have h1 := tw47 r k HN.out (.inl (by rw [← HRL.out]; omega))
        rw [HK0.out, ← HRL.out] at h1
        omega
       obtain rfl : k = R.size := by omega
       have dd : decide (R.size < R.size) = false := by simp
       have HKK := Lib.hid hkk
       clear hkk
       go_wp2
       go_meet
       exact ⟨by rw [HKK.out], rfl⟩
    case rest =>
     obtain ⟨rfl, rfl⟩ := hcut
     obtain ⟨ta, hta⟩ : ∃ ta, r.takeWhile ne47 = ta := ⟨_, rfl⟩
     have hex : R.extract 0 k0 = bs ta := by
      rw [← HRR.out, ext_bs, bs_data, ← hta]
      have := List.takeWhile_append_dropWhile (p := ne47) (l := r)
      have h2 : r.take k0 = r.takeWhile ne47 := by
       rw [← HK0.out]
       have h3 := List.take_left (l₁ := r.takeWhile ne47) (l₂ := r.dropWhile ne47)
       rw [this] at h3
       exact h3
      simpa using congrArg bs h2
     have htl : ta.length ≤ 64 := by rw [← hta, HK0.out]; omega
     have HFD1 : Hid (∀ V, Calls Tryz.prog 31 #[.string (R.extract 0 k0)] V (RetFDw ta V)) := Lib.hid (fun V => by
      rw [hex]
      exact fdigs_w (bs ta) V (by rw [bs_size]; exact htl))
     have q1 : (k0 : Int) ≤ (R.size : Int) := by omega
     have q2 : (0 : Int) ≤ (k0 : Int) := by omega
     have q3 : ((k0 : Int)).toNat = k0 := by omega
     have HTA := Lib.hid hta
     clear hta hex
     go_wp2_with (fail)
     refine (HFD1.out _).mono ?_
     rintro e w1 ⟨hb1, ⟨hno, n, A, c, rfl⟩ | ⟨hok, ad, c, rfl, hD⟩⟩
     ·have C2 := B2.keep hb1 B2.lt
      obtain ⟨a0, a1, a2, a3, f0, f1, f2, f3⟩ := C2.four
      have hlt2 := C2.lt
      have HRN : Hid (rd l = none) := Lib.hid (rd_none_of (by
       unfold refN
       rw [HC.out, HTA.out]
       simp [hno]))
      clear hno
      go_wp2
      refine bodyPost_ret (v := .tuple #[.agg #[.bool false, .slice none 0 0, .bool false, .slice none 0 0], .bool false]) (by simp [results, Tryz.results19, go_sem, a0, a1, a2, a3, hlt2]) rfl ⟨?_, .inl ⟨HRN.out, false, none, 0, 0, false, none, 0, 0, rfl⟩⟩
      have hsz := (below_all hbW hb1).size
      exact (below_far (below_far (below_far (below_far (below_all hbW hb1) (Nat.le_refl _) _ _) (Nat.le_refl _) _ _) (Nat.le_refl _) _ _) (Nat.le_refl _) _ _).alloc (by simp; omega) _
     ·have hxl : val ta < 10 ^ 64 := Nat.lt_of_lt_of_le (val_lt ta (numOk_iff.1 hok).1) (Nat.pow_le_pow_right (by decide) htl)
      obtain ⟨x, hx⟩ : ∃ x, val ta = x := ⟨_, rfl⟩
      rw [hx] at hxl hD
      have hml : (dg x).length ≤ 250 := len_250 (Nat.lt_of_lt_of_le hxl (Nat.pow_le_pow_right (by decide) (by decide)))
      obtain ⟨nx, hnx⟩ : ∃ nx, (dg x).length = nx := ⟨_, rfl⟩
      obtain ⟨sb, hsb⟩ : ∃ sb, (b && decide (x ≠ 0)) = sb := ⟨_, rfl⟩
      have HM : Hid (∀ V, Calls Tryz.prog 32 #[.bool b, .slice ad nx c] V fun e w' => e = .returned (.agg #[.bool sb, .slice ad nx c]) ∧ Below V.heap.size V w') := Lib.hid (fun V => by
       have := make1_any b ad (dg x).length c V sb (by rw [dg_sgn, hsb]) (by omega)
       rwa [hnx] at this)
      rw [hx, hnx]
      have HNX := Lib.hid hnx
      have HSB := Lib.hid hsb
      have HXV := Lib.hid hx
      have HOK := Lib.hid hok
      clear hnx hsb hx hok hml
      go_upto_region 14 with (fail)
      obtain ⟨V1, hV1⟩ : ∃ V1, w1.alloc (.cells #[.bool false, .slice ad nx c] 52) = V1 := ⟨_, rfl⟩
      have B8 : Blk V1 w1.heap.size 52 #[.bool false, .slice ad nx c] := by rw [← hV1]; exact Blk.new _ _ _
      have hbV1 : Below w1.heap.size w1 V1 := by rw [← hV1]; exact (Below.refl _ _).alloc (Nat.le_refl _) _
      obtain ⟨p0, p1, _, _⟩ := B8.two
      try rw [hV1]
      clear hV1
      go_upto_region 15 with (go_at_call 32; refine (HM.out _).mono ?_; rintro e w3 ⟨rfl, hb3⟩)
      obtain ⟨V3, hV3⟩ : ∃ V3, w3.alloc (.cells #[.bool sb, .slice ad nx c, .bool false, .slice none 0 0] 54) = V3 := ⟨_, rfl⟩
      have B10 : Blk V3 w3.heap.size 54 #[.bool sb, .slice ad nx c, .bool false, .slice none 0 0] := by rw [← hV3]; exact Blk.new _ _ _
      have hbV3 : Below w3.heap.size w3 V3 := by rw [← hV3]; exact (Below.refl _ _).alloc (Nat.le_refl _) _
      try rw [hV3]
      clear hV3
      have hb13 := below_all (below_all hbV1 hb3) hbV3
      have C2 := (B2.keep hb1 B2.lt).keep hb13 (B2.keep hb1 B2.lt).lt
      have hD3 := hD.keep hb13
      have hbw3 := below_all (below_all hbW hb1) hb13
      have hglt : w.heap.size < w3.heap.size := by
       have h1 := B2.lt
       have h2 := hb1.size
       have h3 := hbV1.size
       have h4 := hb3.size
       omega
      clear hb13 hb1 hb3 hbV1 hbV3 hD B2 p0 p1 B8
      go_upto_if 56 with (fail)
      go_cut [11, 12] from 13 (fun s11 s12 wx => ∃ n m N cn D cd, RSw w w3.heap.size l sb n m N cn D cd wx)
      case first =>
       by_cases hke : k0 < R.size
       ·obtain ⟨t, hdw, ht⟩ := drop47 (r := r) (by rw [HK0.out, ← HRL.out]; exact hke)
        have hex2 : R.extract (k0 + 1) R.size = bs t := by rw [ext_end, ← HRR.out, bs_data, ht, HK0.out]
        have htl2 : t.length ≤ 64 := by rw [ht, List.length_drop, HK0.out, ← HRL.out]; omega
        have HFD2 : Hid (∀ V, Calls Tryz.prog 31 #[.string (R.extract (k0 + 1) R.size)] V (RetFDw t V)) := Lib.hid (fun V => by
         rw [hex2]
         exact fdigs_w (bs t) V (by rw [bs_size]; exact htl2))
        have HDW := Lib.hid hdw
        clear hdw ht hex2
        have q4 : (k0 : Int) + 1 ≤ (R.size : Int) := by omega
        have q5 : ((k0 : Int) + 1).toNat = k0 + 1 := by omega
        have q6 : (0 : Int) ≤ (k0 : Int) + 1 := by omega
        have q7 : (k0 : Int) < (R.size : Int) := by omega
        have q8 : decide ((k0 : Int) < (R.size : Int)) = true := decide_eq_true q7
        have q9 : decide (k0 < R.size) = true := decide_eq_true hke
        go_wp2_with (fail)
        refine (HFD2.out _).mono ?_
        rintro e w4 ⟨hb4, ⟨hno, n2, A2, c2, rfl⟩ | ⟨hok2, ad2, c2, rfl, hD2⟩⟩
        ·have E2 := C2.keep hb4 C2.lt
         obtain ⟨a0, a1, a2, a3, f0, f1, f2, f3⟩ := E2.four
         have hlt2 := E2.lt
         have HRN : Hid (rd l = none) := Lib.hid (rd_none_of (by
          unfold refN
          rw [HC.out, HTA.out, HDW.out]
          simp [hno, HOK.out]))
         clear hno
         go_wp2
         refine bodyPost_ret (v := .tuple #[.agg #[.bool false, .slice none 0 0, .bool false, .slice none 0 0], .bool false]) (by simp [results, Tryz.results19, go_sem, a0, a1, a2, a3, hlt2]) rfl ⟨?_, .inl ⟨HRN.out, false, none, 0, 0, false, none, 0, 0, rfl⟩⟩
         have hsz := (below_all hbw3 hb4).size
         exact (below_far (below_far (below_far (below_far (below_all hbw3 hb4) (Nat.le_refl _) _ _) (Nat.le_refl _) _ _) (Nat.le_refl _) _ _) (Nat.le_refl _) _ _).alloc (by simp; omega) _
        ·have hyl : val t < 10 ^ 64 := Nat.lt_of_lt_of_le (val_lt t (numOk_iff.1 hok2).1) (Nat.pow_le_pow_right (by decide) htl2)
         obtain ⟨y, hy⟩ : ∃ y, val t = y := ⟨_, rfl⟩
         rw [hy] at hyl hD2 ⊢
         have HYV := Lib.hid hy
         have HOK2 := Lib.hid hok2
         clear hy hok2
         obtain ⟨ny, hny⟩ : ∃ ny, (dg y).length = ny := ⟨_, rfl⟩
         rw [hny]
         have HNY := Lib.hid hny
         clear hny
         have hny1 : ny ≤ 250 := by rw [← HNY.out]; exact len_250 (Nat.lt_of_lt_of_le hyl (Nat.pow_le_pow_right (by decide) (by decide)))
         have hnx1 : nx ≤ 250 := by rw [← HNX.out]; exact len_250 (Nat.lt_of_lt_of_le hxl (Nat.pow_le_pow_right (by decide) (by decide)))
         go_upto_region 17 with (fail)
         obtain ⟨V4, hV4⟩ : ∃ V4, w4.alloc (.cells #[.bool false, .slice ad2 ny c2] 52) = V4 := ⟨_, rfl⟩
         have B11 : Blk V4 w4.heap.size 52 #[.bool false, .slice ad2 ny c2] := by rw [← hV4]; exact Blk.new _ _ _
         have hbV4 : Below w4.heap.size w4 V4 := by rw [← hV4]; exact (Below.refl _ _).alloc (Nat.le_refl _) _
         try rw [hV4]
         clear hV4
         have hb34 := below_all hb4 hbV4
         have E2 := C2.keep hb34 C2.lt
         have E10 := B10.keep hb34 B10.lt
         have hDx := hD3.keep hb34
         have hDy := hD2.keep hbV4
         have hbw4 := below_all hbw3 hb34
         clear hb4 hbV4 hb34 hD2
         obtain ⟨p0, p1, _, _⟩ := B11.two
         by_cases hy0 : y = 0
         ·obtain rfl : ny = 0 := by rw [← HNY.out, hy0, dg_zero]; rfl
          have HS := Lib.hid (sign_any false ad2 0 c2 V4 (by omega) 0 (by simp))
          have HRN : Hid (rd l = none) := Lib.hid (rd_none_of (by
           unfold refN
           rw [HC.out, HTA.out, HDW.out]
           simp [HOK.out, HYV.out, hy0]))
          clear hy0
          go_wp2_with (go_at_call 33; refine HS.out.mono ?_; rintro e w5 ⟨rfl, hb5⟩
                       have F2 := E2.keep hb5 E2.lt
                       have hlt2 := F2.lt
                       obtain ⟨a0, a1, a2, a3, f0, f1, f2, f3⟩ := F2.four)
          refine bodyPost_ret (v := .tuple #[.agg #[.bool false, .slice none 0 0, .bool false, .slice none 0 0], .bool false]) (by simp [results, Tryz.results19, go_sem, a0, a1, a2, a3]) rfl ⟨?_, .inl ⟨HRN.out, false, none, 0, 0, false, none, 0, 0, rfl⟩⟩
          exact below_far (below_far (below_far (below_far (below_all hbw4 hb5) (Nat.le_refl _) _ _) (Nat.le_refl _) _ _) (Nat.le_refl _) _ _) (Nat.le_refl _) _ _
         ·have hnyp : 0 < ny := by rw [← HNY.out]; exact dg_len_pos.2 hy0
          have HS := Lib.hid (sign_any false ad2 ny c2 V4 (by omega) 1 (by rw [if_neg (by simp), if_neg (by omega)]))
          obtain ⟨gg, hgg⟩ : ∃ gg, Nat.gcd x y = gg := ⟨_, rfl⟩
          have HFR : Hid (∀ V, Below V4.heap.size V4 V → Calls Tryz.prog 34 #[.agg #[.bool sb, .slice ad nx c], .agg #[.bool false, .slice ad2 ny c2]] V (RetFr sb (x / gg) (y / gg) V)) := Lib.hid (fun V h => by
           have := frac_w sb ad ad2 c c2 x y V (hDx.keep h) (hDy.keep h) (by rw [HNX.out]; omega) (show (dg y).length ≤ 200000 by rw [HNY.out]; omega) hy0 (fun h2 => by
            have h3 := HSB.out
            rw [h2] at h3
            simp at h3
            exact h3.2)
           rw [HNX.out, HNY.out, hgg] at this
           exact this)
          have hg0 : 0 < gg := by rw [← hgg]; exact Nat.gcd_pos_of_pos_right _ (by omega)
          have hgy : gg ≤ y := by rw [← hgg]; exact Nat.gcd_le_right _ (by omega)
          have HRF : Hid (refN l = some (sb, x / gg, y / gg)) := Lib.hid (by
           unfold refN
           rw [HC.out, HTA.out, HDW.out]
           simp only [HOK.out, if_true, HOK2.out, HXV.out, HYV.out, hgg]
           rw [if_pos ⟨trivial, hy0⟩, HSB.out])
          have hm0 : y / gg ≠ 0 := Nat.pos_iff_ne_zero.1 (Nat.div_pos hgy hg0)
          have hml : y / gg ≤ y := Nat.div_le_self _ _
          have hnl : x / gg ≤ x := Nat.div_le_self _ _
          unfold RetFr at HFR
          generalize x / gg = qn at *
          generalize y / gg = qm at *
          clear hy0 hgg
          obtain ⟨r0, r1, r2, r3, s0, s1, s2, s3⟩ := E10.four
          go_wp2_with (first
            | (go_at_call 33; refine HS.out.mono ?_; rintro e w5 ⟨rfl, hb5⟩
               have F10 := E10.keep hb5 E10.lt
               have F11 := B11.keep hb5 B11.lt
               obtain ⟨r0, r1, r2, r3, s0, s1, s2, s3⟩ := F10.four
               obtain ⟨p0, p1, _, _⟩ := F11.two)
            | (go_at_call 34; refine (HFR.out _ hb5).mono ?_; rintro e w6 ⟨N, cn, D, cd, rfl, hN, hDD, hb6⟩
               have G10 := F10.keep hb6 F10.lt
               obtain ⟨r0, r1, r2, r3, s0, s1, s2, s3⟩ := G10.four))
          go_meet
          have hb56 := below_all hb5 hb6
          refine ⟨qn, qm, N, cn, D, cd, ?_, ?_, ?_, ?_, ?_, HRF.out, Nat.lt_of_le_of_lt hnl hxl, Nat.lt_of_le_of_lt hml hyl, hm0⟩
          ·exact below_far (below_far (below_far (below_far (below_all hbw4 hb56) (by omega) _ _) (by omega) _ _) (by omega) _ _) (by omega) _ _
          ·exact ((((E2.keep hb56 E2.lt).far (by simp; omega) _).far (by simp; omega) _).far (by simp; omega) _).far (by simp; omega) _
          ·exact (((G10.set 0 _).set 1 _).set 2 _).set 3 _
          ·exact ((((hN.far G10 (by decide) _ _).far (G10.set _ _) (by decide) _ _).far ((G10.set _ _).set _ _) (by decide) _ _).far (((G10.set _ _).set _ _).set _ _) (by decide) _ _)
          ·exact ((((hDD.far G10 (by decide) _ _).far (G10.set _ _) (by decide) _ _).far ((G10.set _ _).set _ _) (by decide) _ _).far (((G10.set _ _).set _ _).set _ _) (by decide) _ _)
       ·have q7 : ¬ (k0 : Int) < (R.size : Int) := by omega
        have q8 : decide ((k0 : Int) < (R.size : Int)) = false := decide_eq_false q7
        have q9 : decide (k0 < R.size) = false := decide_eq_false hke
        have HRF : Hid (refN l = some (sb, x, 1)) := Lib.hid (by
         have hdn : r.dropWhile ne47 = [] := by
          have e := congrArg List.length (List.takeWhile_append_dropWhile (p := ne47) (l := r))
          rw [List.length_append, HK0.out, ← HRL.out] at e
          exact List.eq_nil_of_length_eq_zero (by omega)
         unfold refN
         rw [HC.out, HTA.out, hdn]
         simp only [HOK.out, if_true, HXV.out]
         rw [HSB.out])
        go_wp2
        go_meet
        exact ⟨x, 1, ad, c, none, 0, hbw3, C2, by rw [HNX.out, dnz_one, dg_zero]; exact B10, hD3, ND.zero _, HRF.out, hxl, Nat.one_lt_pow (by decide) (by decide), by omega⟩
      case rest =>
       obtain ⟨n, m, N, cn, D, cd, hst⟩ := hcut
       obtain ⟨hbx, X2, X10, dn, dd, href, bn, bm, m0⟩ := hst
       have HT : Hid (∀ V, Below wc.heap.size wc V → Calls Tryz.prog 35 #[.agg #[.bool sb, .slice N (dg n).length cn, .bool false, .slice D (dg (dnz m)).length cd]] V fun e w' => e = .returned (.string (bs (text sb n m))) ∧ Below wc.heap.size wc w') := Lib.hid (fun V h => (text_w sb false N D cn cd n m V (dn.keep h) (dd.keep h) (Nat.lt_of_lt_of_le bn (Nat.pow_le_pow_right (by decide) (by decide))) (Nat.lt_of_lt_of_le bm (Nat.pow_le_pow_right (by decide) (by decide))) m0).mono fun e w' ⟨h1, h2⟩ => ⟨h1, below_all h h2⟩)
       have HDN := Lib.hid dn
       have HDD := Lib.hid dd
       have HX2 := Lib.hid X2
       have HX10 := Lib.hid X10
       have HREF := Lib.hid href
       have hbe : Below wc.heap.size wc wc.drew := (Below.refl _ _).drew
       have HTS : Hid (bs (text sb n m) = s ↔ text sb n m = l) := Lib.hid (by
        rw [← HLL.out]
        constructor
        ·intro h; rw [← h, bs_data]
        ·intro h; rw [h, bs_self])
       obtain ⟨ST, hST⟩ : ∃ ST, bs (text sb n m) = ST := ⟨_, rfl⟩
       rw [hST] at HT HTS
       obtain ⟨nn, hnn⟩ : ∃ nn, (dg n).length = nn := ⟨_, rfl⟩
       obtain ⟨nm, hnm⟩ : ∃ nm, (dg (dnz m)).length = nm := ⟨_, rfl⟩
       rw [hnn, hnm] at HT X10 HX10
       have HNN := Lib.hid hnn
       have HNM := Lib.hid hnm
       obtain ⟨a0, a1, a2, a3, f0, f1, f2, f3⟩ := X2.four
       obtain ⟨r0, r1, r2, r3, _, _, _, _⟩ := X10.four
       clear hST hnn hnm dn dd href X2 X10 C2 B10 hD3
       by_cases hts : ST = s
       ·have HEQ := Lib.hid (HTS.out.1 hts)
        subst hts
        go_wp2
        go_region_with (go_at_call 35; refine (HT.out _ (by assumption)).mono ?_; rintro e w' ⟨rfl, hbe⟩; have Y2 := HX2.out.keep hbe HX2.out.lt; have Y10 := HX10.out.keep hbe HX10.out.lt; obtain ⟨a0, a1, a2, a3, f0, f1, f2, f3⟩ := Y2.four; obtain ⟨r0, r1, r2, r3, _, _, _, _⟩ := Y10.four)
        all_goals
          go_wp2
          have dn' := HDN.out.keep hbe
          have dd' := HDD.out.keep hbe
          refine bodyPost_ret (v := .tuple #[.agg #[.bool sb, .slice N nn cn, .bool false, .slice D nm cd], .bool true]) (by simp [results, Tryz.results19, go_sem, a0, a1, a2, a3]) rfl ⟨?_, .inr ⟨sb, n, m, ref_rd.2 ⟨HREF.out, HEQ.out⟩, bn, bm, m0, N, cn, D, cd, by rw [HNN.out, HNM.out], ?_, ?_⟩⟩
          ·exact below_far (below_far (below_far (below_far (below_all hbx hbe) (Nat.le_refl _) _ _) (Nat.le_refl _) _ _) (Nat.le_refl _) _ _) (Nat.le_refl _) _ _
          ·exact ((((dn'.far Y2 (by decide) _ _).far (Y2.set _ _) (by decide) _ _).far ((Y2.set _ _).set _ _) (by decide) _ _).far (((Y2.set _ _).set _ _).set _ _) (by decide) _ _)
          ·exact ((((dd'.far Y2 (by decide) _ _).far (Y2.set _ _) (by decide) _ _).far ((Y2.set _ _).set _ _) (by decide) _ _).far (((Y2.set _ _).set _ _).set _ _) (by decide) _ _)
       ·have HNE : Hid (rd l = none) := Lib.hid (rd_none_text HREF.out (fun h => hts (HTS.out.2 h)))
        have hn1 : ¬ ST.toList = s.toList := by
         rw [Lib.toList_data, Lib.toList_data]
         intro h
         exact hts (by rw [← bs_self ST, ← bs_self s, h])
        have hn2 : (ST.toList == s.toList) = false := beq_eq_false_iff_ne.2 hn1
        go_wp2
        go_region_with (go_at_call 35; refine (HT.out _ (by assumption)).mono ?_; rintro e w' ⟨rfl, hbe⟩; have Y2 := HX2.out.keep hbe HX2.out.lt; have Y10 := HX10.out.keep hbe HX10.out.lt; obtain ⟨a0, a1, a2, a3, f0, f1, f2, f3⟩ := Y2.four; obtain ⟨r0, r1, r2, r3, _, _, _, _⟩ := Y10.four)
        all_goals
          go_wp2
          refine bodyPost_ret (v := .tuple #[.agg #[.bool sb, .slice N nn cn, .bool false, .slice D nm cd], .bool false]) (by simp [results, Tryz.results19, go_sem, a0, a1, a2, a3]) rfl ⟨?_, .inl ⟨HNE.out, sb, N, nn, cn, false, D, nm, cd, rfl⟩⟩
          exact below_far (below_far (below_far (below_far (below_all hbx hbe) (Nat.le_refl _) _ _) (Nat.le_refl _) _ _) (Nat.le_refl _) _ _) (Nat.le_refl _) _ _
end Go.Proofs.Tg
end
section
/- The harness's numbers: a list of texts read. -/
namespace Go.Proofs.Tg
open Go.RowKit Go.Gr Go.Bn Go.Qn
set_option maxHeartbeats 4000000
set_option maxRecDepth 100000
def zrat : Array Value := #[.bool false, .slice none 0 0, .bool false, .slice none 0 0]
theorem ratt_info : (Tryz.prog.info? 54).map (fun i => (i.zero, i.size, i.bytes)) = some (some (.agg zrat), 4, 64) := by kernel_rfl
theorem make_rats (n : Nat) (hn : n ≤ 1000000) (w : World) : ∃ cs : Array Value, cs.size = n * 4 ∧ (Instr.makeSlice 27 (.int .i64 (n : Int)) (.int .i64 (n : Int))).run Tryz.prog w = .ok (.slice (some ⟨w.heap.size, 0, none⟩) n n) (w.alloc (.cells cs 54)) := by
 obtain ⟨i0, hi, hz0, hz1, hz2⟩ := info_parts ratt_info
 have hr := run_make (P := Tryz.prog) w 27 54 i0 (.agg zrat) Tryz.underlying27 hi hz0 .i64 .i64 n n (by omega) (by omega) (by rw [hz2]; omega) (by omega)
 rw [hz1, Int.toNat_natCast] at hr
 exact ⟨_, size_madeCells _ _, hr⟩
theorem nums_w (A : Option Addr) (c : Nat) (ss : List ByteArray) (w : World) (hA : Sl w A ss.length 1 (ss.map Value.string)) (hs : ∀ s ∈ ss, s.size ≤ 64) (hn : ss.length ≤ 1000000) :
    Calls Tryz.prog 10 #[.slice A ss.length c] w fun e w' => ∃ R m cm, e = .returned (.tuple #[.slice R m cm, .bool (ss.all fun s => (rd s.data.toList).isSome)]) ∧ ((ss.all fun s => (rd s.data.toList).isSome) = true → m = ss.length) ∧ Below w.heap.size w w' := by
  have HV : Hid (∀ s ∈ ss, ∀ V, Calls Tryz.prog 19 #[.string s] V fun e w' => ∃ x A n c y B m d, e = .returned (.tuple #[.agg #[.bool x, .slice A n c, .bool y, .slice B m d], .bool (rd s.data.toList).isSome]) ∧ Hid (Below V.heap.size V w')) := Lib.hid (fun s h V => by
   refine (rread_w s V (hs s h)).mono ?_
   rintro e w' ⟨hb, ⟨h1, x, A, n, c, y, B, m, d, rfl⟩ | ⟨b, n, m, h1, _, _, _, N, cn, D, cd, rfl, _, _⟩⟩
   ·exact ⟨x, A, n, c, y, B, m, d, by rw [h1]; rfl, Lib.hid hb⟩
   ·exact ⟨b, N, _, cn, false, D, _, cd, by rw [h1]; rfl, Lib.hid hb⟩)
  obtain ⟨n, hn'⟩ : ∃ n, ss.length = n := ⟨_, rfl⟩
  have HA := Lib.hid hA
  obtain ⟨f, hf⟩ : ∃ f : ByteArray → Bool, (fun s : ByteArray => (rd s.data.toList).isSome) = f := ⟨_, rfl⟩
  have HF : Hid (∀ s : ByteArray, (rd s.data.toList).isSome = f s) := Lib.hid (fun s => by rw [← hf])
  rw [hf]
  obtain ⟨r, hr⟩ : ∃ r, ss.all f = r := ⟨_, rfl⟩
  rw [hr]
  have HR := Lib.hid hr
  rw [hn'] at hn ⊢
  have HN := Lib.hid hn'
  obtain ⟨cs, hcs, hmk⟩ := make_rats n hn w
  have HCS := Lib.hid hcs
  have HB0 : Hid (Blk (w.alloc (.cells cs 54)) w.heap.size 54 cs) := Lib.hid (Blk.new _ _ _)
  have HW0 : Hid (Below w.heap.size w (w.alloc (.cells cs 54))) := Lib.hid ((Below.refl _ _).alloc (Nat.le_refl _) _)
  clear hs hA hn' hr hf hcs
  obtain ⟨g, hg⟩ : ∃ g, w.heap.size = g := ⟨_, rfl⟩
  rw [hg] at hmk HB0
  have HG := Lib.hid hg
  clear hg
  generalize w.alloc (.cells cs 54) = w1 at *
  go_enter Tryz.func10, Tryz.ntmps10
  go_wp2
  go_loopw [5] (fun s5 wr => ∃ k : Nat, s5 = .int .i64 (k : Nat) ∧ k ≤ n ∧ Hid (Below w.heap.size w wr ∧ (∀ s ∈ ss.take k, f s = true) ∧ ∃ cs : Array Value, cs.size = n * 4 ∧ Blk wr g 54 cs)) (fun s5 _ => n - (intOf s5).toNat)
  case atStart => exact ⟨0, rfl, Nat.zero_le _, Lib.hid ⟨HW0.out, by simp, cs, HCS.out, HB0.out⟩⟩
  case round =>
   obtain ⟨wo, rfl⟩ : ∃ wo : World, wo = wr := ⟨_, rfl⟩
   obtain ⟨k, rfl, hk, HB⟩ := hrel
   clear hmk HB0 HW0
   by_cases hkn : k = n
   ·have e1 : decide ((k : Int) < (n : Int)) = false := decide_eq_false (by omega)
    have e1' : decide (k < n) = false := decide_eq_false (by omega)
    obtain rfl : r = true := by
     rw [← HR.out, List.all_eq_true]
     have := HB.out.2.1
     rwa [List.take_of_length_le (by rw [HN.out]; omega)] at this
    clear hkn
    go_wp2
    go_ret2
    exact ⟨_, _, ⟨_, rfl⟩, rfl, HB.out.1⟩
   ·have hkl : k < n := by omega
    have hks : k < ss.length := by rw [HN.out]; exact hkl
    have e1 : decide ((k : Int) < (n : Int)) = true := decide_eq_true (by omega)
    have e1' : decide (k < n) = true := decide_eq_true hkl
    obtain ⟨S, hS⟩ : ∃ S, ss[k] = S := ⟨_, rfl⟩
    have hSm : S ∈ ss := by rw [← hS]; exact List.getElem_mem hks
    obtain ⟨ad, rfl, hc0⟩ := Sl.at1 (HA.out.keep HB.out.1) (k := k) (by simpa using hks)
    have hc : wo.cell? (ad.add k) = some (.string S) := by simpa [hS] using hc0
    have HC := Lib.hid (HV.out S hSm wo)
    rw [HF.out] at HC
    have HT : Hid (ss.take (k + 1) = ss.take k ++ [S]) := Lib.hid (by rw [List.take_succ_eq_append_getElem hks, hS])
    obtain ⟨cs1, hcs1, hB1⟩ := HB.out.2.2
    have HB1 := Lib.hid hB1
    have HCS1 := Lib.hid hcs1
    have hgl := hB1.lt
    clear hkn hc0 hS hcs1 hB1
    cases hok : f S with
    | false =>
      rw [hok] at HC
      obtain rfl : r = false := by
       rw [← HR.out]
       exact List.all_eq_false.2 ⟨S, hSm, by simp [hok]⟩
      clear hok
      go_wp2_with (go_at_call 19; refine HC.out.mono ?_; rintro e w2 ⟨x, A1, n1, c1, y, B1, m1, d1, rfl, HB2⟩)
      go_ret2
      refine ⟨_, _, _, rfl, (fun h => by cases h), ?_⟩
      have h2 := below_all HB.out.1 HB2.out
      exact h2.alloc h2.size _
    | true =>
      rw [hok] at HC
      have HOK := Lib.hid hok
      clear hok
      go_upto_region 8 with (go_at_call 19; refine HC.out.mono ?_; rintro e w2 ⟨x, A1, n1, c1, y, B1, m1, d1, rfl, HB2⟩)
      have hBA : Blk w2 g 54 cs1 := HB1.out.keep HB2.out HB1.out.lt
      have f0 := hBA.frozen (k * 4)
      have f1 := hBA.frozen (k * 4 + 1)
      have f2 := hBA.frozen (k * 4 + 2)
      have f3 := hBA.frozen (k * 4 + 3)
      have c0 := hBA.cell (k * 4)
      have c1' := hBA.cell (k * 4 + 1)
      have c2' := hBA.cell (k * 4 + 2)
      have c3' := hBA.cell (k * 4 + 3)
      have hsz := HCS1.out
      rw [Array.getElem?_eq_getElem (by omega)] at c0 c1' c2' c3'
      have hgw : g < w2.heap.size := Nat.lt_of_lt_of_le hgl HB2.out.size
      go_wp2
      have h2 := below_all HB.out.1 HB2.out
      have hgw2 := HG.out
      have hb4 := below_far (below_far (below_far (below_far h2 (show w.heap.size ≤ g by omega) (k * 4) (.bool x)) (show w.heap.size ≤ g by omega) (k * 4 + 1) (.slice A1 n1 c1)) (show w.heap.size ≤ g by omega) (k * 4 + 2) (.bool y)) (show w.heap.size ≤ g by omega) (k * 4 + 3) (.slice B1 m1 d1)
      refine ⟨⟨k + 1, by go_num, by omega, Lib.hid ⟨hb4.alloc hb4.size _, ?_, _, ?_, ((((hBA.set (k * 4) (.bool x)).set (k * 4 + 1) (.slice A1 n1 c1)).set (k * 4 + 2) (.bool y)).set (k * 4 + 3) (.slice B1 m1 d1)).alloc _⟩⟩, by simp [intOf]; omega⟩
      ·rw [HT.out]
       intro s h
       rcases List.mem_append.1 h with h | h
       ·exact HB.out.2.1 s h
       ·simp at h; subst h; exact HOK.out
      ·simp [HCS1.out]
end Go.Proofs.Tg
end
