/- Parts of the proof: IM4, QS0, IM5, JB1. -/
import Derived.Deep.AppendSrc
import Derived.Deep.AppendLies
import Derived.Test.YtbgaiceakmmfdaaGreatDoorMMR0
import Derived.Test.YtbgaiceakmmfdaaGreatDoorMMR8
import Derived.Test.YtbgaiceakmmfdaaGreatDoorMMR10
set_option maxHeartbeats 64000000
set_option maxRecDepth 100000
section
namespace Go.Bw
theorem add_dig {x y c : Nat} : (x + y + c) % B + B * ((x + y + c) / B) = x + (y + c) := by simp only [B]; omega
theorem add_car {x y c : Nat} (hx : x < B) (hy : y < B) (hc : c ≤ 1) : (x + y + c) / B ≤ 1 := by simp only [B] at *; omega
theorem sub_dig {x y c : Nat} (hx : x < B) (hy : y < B) (hc : c ≤ 1) : (x + B - y - c) % B + (y + c) = x + B * (if x < y + c then 1 else 0) := by simp only [B] at *; split <;> omega
theorem sub_car {x y c : Nat} : (if x < y + c then 1 else 0) ≤ 1 := by split <;> omega
theorem lin_add1 {Z W Y P k x y d k' : Nat} (hs : Z + P * k = W + Y) (hd : d + B * k' = x + (y + k)) : Z + P * d + P * B * k' = W + P * x + (Y + P * y) := by
 have h1 := congrArg (P * ·) hd
 simp only [Nat.mul_add] at h1
 have e1 : P * (B * k') = P * B * k' := (Nat.mul_assoc _ _ _).symm
 omega
theorem lin_sub1 {Z W Y P k x y d k' : Nat} (hs : Z + Y = W + P * k) (hd : d + (y + k) = x + B * k') : Z + P * d + (Y + P * y) = W + P * x + P * B * k' := by
 have h1 := congrArg (P * ·) hd
 simp only [Nat.mul_add] at h1
 have e1 : P * (B * k') = P * B * k' := (Nat.mul_assoc _ _ _).symm
 omega
theorem win_rest {us zs : List Nat} {o i n : Nat} (hi : i ≤ n) (hn : o + n ≤ us.length) : us.take o ++ (zs ++ us.drop (o + i)) = us.take o ++ ((zs ++ (us.drop (o + i)).take (n - i)) ++ us.drop (o + n)) := by
 rw [List.append_assoc zs]
 congr 2
 have h := (List.take_append_drop (n - i) (us.drop (o + i))).symm
 rw [List.drop_drop, show o + i + (n - i) = o + n by omega] at h
 exact h
theorem win_val {us : List Nat} {o i n : Nat} (hi : i ≤ n) (hn : o + n ≤ us.length) : val ((us.drop o).take n) = val ((us.drop o).take i) + B ^ i * val ((us.drop (o + i)).take (n - i)) := by
 have h := val_take_drop ((us.drop o).take n) i (by rw [List.length_take, List.length_drop]; omega)
 rw [List.take_take, Nat.min_eq_left hi, List.drop_take, List.drop_drop] at h
 exact h
end Go.Bw
namespace Go.Proofs.Tg.Iw
open Go.RowKit Go.Bw Go.Gr Go.Proofs.Tg
theorem take_all {ys : List Nat} {i : Nat} (h : ys.length ≤ i) : ys.take i = ys := List.take_of_length_le h
structure AdM (w : World) (g o : Nat) (us ys : List Nat) (wr : World) (i k : Nat) (zs : List Nat) : Prop where
  len : zs.length = i
  dig : Dig zs
  le1 : k ≤ 1
  eq : val zs + B ^ i * k = val ((us.drop o).take i) + val (ys.take i)
  blk : Blk wr g 118 (warr (us.take o ++ (zs ++ us.drop (o + i))))
  only : Only g w wr
theorem AdM.next {w wr : World} {g o i k d k' x y : Nat} {us ys zs : List Nat} (s : AdM w g o us ys wr i k zs) (ho : o + i < us.length) (hx : us[o + i] = x) (hy : val (ys.take (i + 1)) = val (ys.take i) + B ^ i * y) (hd : d + B * k' = x + (y + k)) (hdB : d < B) (hk : k' ≤ 1) :
    AdM w g o us ys (wr.setCell ⟨g, o + i, none⟩ (.int .u64 (d : Nat))) (i + 1) k' (zs ++ [d]) := by
  have hb := s.blk.set (o + i) (.int .u64 (d : Nat)); rw [warr_set, mid_set ho s.len] at hb; refine ⟨by rw [List.length_append, s.len]; rfl, dig_snoc s.dig hdB, hk, ?_, hb, s.only.set _ _⟩; rw [val_snoc, s.len, win_succ ho, hy, pow_snoc, hx]; exact lin_add1 s.eq hd
def RetAdd (w : World) (g o n : Nat) (us ys : List Nat) (w' : World) : Prop := ∃ (k : Nat) (zs : List Nat), zs.length = n ∧ Dig zs ∧ k ≤ 1 ∧ val zs + B ^ n * k = val ((us.drop o).take n) + val ys ∧ Blk w' g 118 (warr (us.take o ++ (zs ++ us.drop (o + n)))) ∧ Only g w w'
theorem AdM.done {w wr : World} {g o i k n : Nat} {us ys zs : List Nat} (s : AdM w g o us ys wr i k zs) (hd : Dig us) (hm : ys.length ≤ i) (hi : i ≤ n) (hn : o + n ≤ us.length) (h : k = 0 ∨ i = n) : RetAdd w g o n us ys wr := by
 have he := s.eq
 rw [take_all hm] at he
 rcases h with rfl | rfl
 ·refine ⟨0, zs ++ (us.drop (o + i)).take (n - i), ?_, dig_app s.dig (dig_tak (dig_drop hd _) _), by omega, ?_, ?_, s.only⟩
  ·rw [List.length_append, s.len, List.length_take, List.length_drop]; omega
  ·rw [val_app, s.len, win_val hi hn]; rw [Nat.mul_zero] at he ⊢; omega
  ·have := s.blk
   rwa [win_rest hi hn] at this
 ·exact ⟨k, zs, s.len, s.dig, s.le1, he, s.blk, s.only⟩
theorem addinto_any (g o n c cy : Nat) (us ys : List Nat) (Y : Option Addr) (w : World) (hB : Blk w g 118 (warr us)) (hY : Sets w Y ys) (hne : ∀ ad, Y = some ad → ad.block ≠ g) (hdu : Dig us) (hdy : Dig ys) (ho : o + n ≤ us.length) (hm : ys.length ≤ n) (hn : n ≤ 1000000) :
    Calls Tryz.prog 99 #[.slice (some ⟨g, o, none⟩) n c, .slice Y ys.length cy] w fun e w' => e = .returned (.tuple #[]) ∧ RetAdd w g o n us ys w' := by
  have H0 : Hid (AdM w g o us ys w 0 0 []) := zh ⟨rfl, fun _ hx => absurd hx (by simp), by decide, by simp [val], by
   rw [List.nil_append, Nat.add_zero, List.take_append_drop]; exact hB, Only.refl _ _⟩
  have HY := zh hY; have HNE := zh hne; have HDU := zh hdu; have HDY := zh hdy; obtain ⟨m, hmm⟩ := eqx (ys.length); rw [hmm] at hm ⊢; have HN := zh hmm; have HO := zh ho; clear hB hY hne hdu hdy hmm; go_enter Tryz.func99, Tryz.ntmps99; go_wp2
  go_loopw [4, 10] (fun s4 s10 wr => ∃ (i k : Nat) (zs : List Nat), s10 = .int .i64 i ∧ i ≤ m ∧ s4 = .int .u64 (k : Nat) ∧ Hid (AdM w g o us ys wr i k zs)) (fun _ s10 _ => m - (intOf s10).toNat)
  case atStart => exact ⟨0, 0, [], rfl, Nat.zero_le _, rfl, H0⟩
  case round =>
   clear H0; obtain ⟨wo, rfl⟩ : ∃ wo : World, wo = wr := ⟨_, rfl⟩; obtain ⟨i, k, zs, rfl, hi, rfl, HS⟩ := hrel; have hk1 := HS.out.le1
   by_cases him : i < m
   ·have hiy : i < ys.length := by rw [HN.out]; exact him
    have hiu : o + i < us.length := by have := HO.out; omega
    obtain ⟨ad, hY2, hcy⟩ := Sets.at' (HY.out) hiy; have hnb := HNE.out ad hY2; subst hY2; have hcy : wo.cell? (ad.add i) = some (.int .u64 (ys[i] : Nat)) := (HS.out.only.cell (p := ad.add i) (by rw [add_block]; exact hnb)).trans hcy; have hbc := HS.out.blk.cell (o + i); rw [warr_at (win_get HS.out.len hiu)] at hbc; have hbf := HS.out.blk.frozen (o + i); have hxB := HDU.out us[o + i] (List.getElem_mem _); have hyB := HDY.out ys[i] (List.getElem_mem _); obtain ⟨x, hx⟩ := eqx (us[o + i]); have HNX : Hid (∀ d k', d + B * k' = x + (ys[i] + k) → d < B → k' ≤ 1 → AdM w g o us ys (wo.setCell ⟨g, o + i, none⟩ (.int .u64 (d : Nat))) (i + 1) k' (zs ++ [d])) := zh (fun d k' a b c => HS.out.next hiu hx (val_snoc_take hiy) a b c); rw [hx] at hbc hxB; clear hx; generalize ys[i] = y at *
    have hA : ∀ V, (callFunc 122 #[.int .u64 (x : Nat), .int .u64 (y : Nat), .int .u64 (k : Nat)]).run Tryz.prog V = _ := fun V => add64 x y k hk1 V
    obtain ⟨d, hd⟩ := eqx ((x + y + k) % B); obtain ⟨c2, hc2⟩ := eqx ((x + y + k) / B : Nat); rw [hd, hc2] at hA; have g1 := add_dig (x := x) (y := y) (c := k); rw [hd, hc2] at g1; have HY := zh (HNX.out d c2 g1 (by rw [← hd]; exact Nat.mod_lt _ (by decide)) (by rw [← hc2]; exact add_car hxB hyB hk1)); clear hd hc2 g1 HNX hxB hyB hnb
    have q0 : (0 : Int) ≤ (i : Int) := by omega
    have q1 : (i : Int) < (m : Int) := by omega
    have q2 : (i : Int) < (n : Int) := by omega
    have q3 : ((i : Int)).toNat = i := by omega
    have d1 : decide ((i : Int) < (m : Int)) = true := dT q1; have d2 : decide (i < m) = true := dT him; go_wp2; go_roundw
    case rel => exact ⟨i + 1, c2, _, by go_num, by omega, rfl, HY⟩
    case measure => simp [intOf]; omega
   ·obtain rfl : i = m := by omega
    have d1 : decide ((i : Int) < (i : Int)) = false := by simp
    have H1 := HS; clear HS; go_wp2
    go_loopw [4, 7] (fun s4 s7 wr => ∃ (j k : Nat) (zs : List Nat), s7 = .int .i64 j ∧ i ≤ j ∧ j ≤ n ∧ s4 = .int .u64 (k : Nat) ∧ Hid (AdM w g o us ys wr j k zs)) (fun _ s7 _ => n - (intOf s7).toNat)
    case atStart => exact ⟨i, k, zs, rfl, Nat.le_refl _, hm, rfl, H1⟩
    case round =>
     clear H1 hk1; obtain ⟨wp, rfl⟩ : ∃ wp : World, wp = wr := ⟨_, rfl⟩; obtain ⟨j, k, zs, rfl, hij, hj, rfl, HS⟩ := hrel; have hk1 := HS.out.le1
     by_cases hk0 : k = 0
     ·have hD := zh (HS.out.done HDU.out (by rw [HN.out]; exact hij) hj HO.out (.inl hk0)); subst hk0
      have e1 : (((0 : Nat) : Int) != 0) = false := by decide
      go_wp2
      go_end0
      exact ⟨rfl, hD.out⟩
     ·have e1 : ((k : Int) != 0) = true := bne_iff_ne.2 (by omega); have e2 : (k != 0) = true := bne_iff_ne.2 hk0; have e3 : ((k : Int) = 0) = False := eq_false (by omega); have e4 : (k = 0) = False := eq_false hk0
      by_cases hjn : j < n
      ·have hiu : o + j < us.length := by have := HO.out; omega
       have hbc := HS.out.blk.cell (o + j); rw [warr_at (win_get HS.out.len hiu)] at hbc; have hbf := HS.out.blk.frozen (o + j); have hxB := HDU.out us[o + j] (List.getElem_mem _); obtain ⟨x, hx⟩ := eqx (us[o + j]); have HNX : Hid (∀ d k', d + B * k' = x + (0 + k) → d < B → k' ≤ 1 → AdM w g o us ys (wp.setCell ⟨g, o + j, none⟩ (.int .u64 (d : Nat))) (j + 1) k' (zs ++ [d])) := zh (fun d k' a b c => HS.out.next hiu hx (by rw [take_all (by rw [HN.out]; omega), take_all (by rw [HN.out]; omega), Nat.mul_zero]; rfl) a b c); rw [hx] at hbc hxB; clear hx
       have hA : ∀ V, (callFunc 122 #[.int .u64 (x : Nat), .int .u64 0, .int .u64 (k : Nat)]).run Tryz.prog V = _ := fun V => add64 x 0 k hk1 V
       obtain ⟨d, hd⟩ := eqx ((x + 0 + k) % B); obtain ⟨c2, hc2⟩ := eqx ((x + 0 + k) / B : Nat); rw [hd, hc2] at hA
       have hyB : 0 < B := by decide
       have g1 := add_dig (x := x) (y := 0) (c := k); rw [hd, hc2] at g1; have HY := zh (HNX.out d c2 g1 (by rw [← hd]; exact Nat.mod_lt _ (by decide)) (by rw [← hc2]; exact add_car hxB hyB hk1)); clear hd hc2 g1 HNX hxB hyB hk0
       have q0 : (0 : Int) ≤ (j : Int) := by omega
       have q2 : (j : Int) < (n : Int) := by omega
       have q3 : ((j : Int)).toNat = j := by omega
       have d1 : decide ((j : Int) < (n : Int)) = true := dT q2; have d2 : decide (j < n) = true := dT hjn; go_wp2; go_roundw
       case rel => exact ⟨j + 1, c2, _, by go_num, by omega, by omega, rfl, HY⟩
       case measure => simp [intOf]; omega
      ·have hD := zh (HS.out.done HDU.out (by rw [HN.out]; exact hij) hj HO.out (.inr (by omega))); have d1 : decide ((j : Int) < (n : Int)) = false := dF (by omega); have d2 : decide (j < n) = false := dF hjn; clear hk0; go_wp2
       go_end0
       exact ⟨rfl, hD.out⟩
structure SuM (w : World) (g o : Nat) (us ys : List Nat) (wr : World) (i k : Nat) (zs : List Nat) : Prop where
  len : zs.length = i
  dig : Dig zs
  le1 : k ≤ 1
  eq : val zs + val (ys.take i) = val ((us.drop o).take i) + B ^ i * k
  blk : Blk wr g 118 (warr (us.take o ++ (zs ++ us.drop (o + i))))
  only : Only g w wr
theorem SuM.next {w wr : World} {g o i k d k' x y : Nat} {us ys zs : List Nat} (s : SuM w g o us ys wr i k zs) (ho : o + i < us.length) (hx : us[o + i] = x) (hy : val (ys.take (i + 1)) = val (ys.take i) + B ^ i * y) (hd : d + (y + k) = x + B * k') (hdB : d < B) (hk : k' ≤ 1) :
    SuM w g o us ys (wr.setCell ⟨g, o + i, none⟩ (.int .u64 (d : Nat))) (i + 1) k' (zs ++ [d]) := by
  have hb := s.blk.set (o + i) (.int .u64 (d : Nat)); rw [warr_set, mid_set ho s.len] at hb; refine ⟨by rw [List.length_append, s.len]; rfl, dig_snoc s.dig hdB, hk, ?_, hb, s.only.set _ _⟩; rw [val_snoc, s.len, win_succ ho, hy, pow_snoc, hx]; exact lin_sub1 s.eq hd
def RetSub (w : World) (g o n : Nat) (us ys : List Nat) (w' : World) : Prop := ∃ (k : Nat) (zs : List Nat), zs.length = n ∧ Dig zs ∧ k ≤ 1 ∧ val zs + val ys = val ((us.drop o).take n) + B ^ n * k ∧ Blk w' g 118 (warr (us.take o ++ (zs ++ us.drop (o + n)))) ∧ Only g w w'
theorem SuM.done {w wr : World} {g o i k n : Nat} {us ys zs : List Nat} (s : SuM w g o us ys wr i k zs) (hd : Dig us) (hm : ys.length ≤ i) (hi : i ≤ n) (hn : o + n ≤ us.length) (h : k = 0 ∨ i = n) : RetSub w g o n us ys wr := by
 have he := s.eq
 rw [take_all hm] at he
 rcases h with rfl | rfl
 ·refine ⟨0, zs ++ (us.drop (o + i)).take (n - i), ?_, dig_app s.dig (dig_tak (dig_drop hd _) _), by omega, ?_, ?_, s.only⟩
  ·rw [List.length_append, s.len, List.length_take, List.length_drop]; omega
  ·rw [val_app, s.len, win_val hi hn]; rw [Nat.mul_zero] at he ⊢; omega
  ·have := s.blk
   rwa [win_rest hi hn] at this
 ·exact ⟨k, zs, s.len, s.dig, s.le1, he, s.blk, s.only⟩
theorem subfrom_any (g o n c cy : Nat) (us ys : List Nat) (Y : Option Addr) (w : World) (hB : Blk w g 118 (warr us)) (hY : Sets w Y ys) (hne : ∀ ad, Y = some ad → ad.block ≠ g) (hdu : Dig us) (hdy : Dig ys) (ho : o + n ≤ us.length) (hm : ys.length ≤ n) (hn : n ≤ 1000000) :
    Calls Tryz.prog 104 #[.slice (some ⟨g, o, none⟩) n c, .slice Y ys.length cy] w fun e w' => e = .returned (.tuple #[]) ∧ RetSub w g o n us ys w' := by
  have H0 : Hid (SuM w g o us ys w 0 0 []) := zh ⟨rfl, fun _ hx => absurd hx (by simp), by decide, by simp [val], by
   rw [List.nil_append, Nat.add_zero, List.take_append_drop]; exact hB, Only.refl _ _⟩
  have HY := zh hY; have HNE := zh hne; have HDU := zh hdu; have HDY := zh hdy; obtain ⟨m, hmm⟩ := eqx (ys.length); rw [hmm] at hm ⊢; have HN := zh hmm; have HO := zh ho; clear hB hY hne hdu hdy hmm; go_enter Tryz.func104, Tryz.ntmps104; go_wp2
  go_loopw [4, 10] (fun s4 s10 wr => ∃ (i k : Nat) (zs : List Nat), s10 = .int .i64 i ∧ i ≤ m ∧ s4 = .int .u64 (k : Nat) ∧ Hid (SuM w g o us ys wr i k zs)) (fun _ s10 _ => m - (intOf s10).toNat)
  case atStart => exact ⟨0, 0, [], rfl, Nat.zero_le _, rfl, H0⟩
  case round =>
   clear H0; obtain ⟨wo, rfl⟩ : ∃ wo : World, wo = wr := ⟨_, rfl⟩; obtain ⟨i, k, zs, rfl, hi, rfl, HS⟩ := hrel; have hk1 := HS.out.le1
   by_cases him : i < m
   ·have hiy : i < ys.length := by rw [HN.out]; exact him
    have hiu : o + i < us.length := by have := HO.out; omega
    obtain ⟨ad, hY2, hcy⟩ := Sets.at' (HY.out) hiy; have hnb := HNE.out ad hY2; subst hY2; have hcy : wo.cell? (ad.add i) = some (.int .u64 (ys[i] : Nat)) := (HS.out.only.cell (p := ad.add i) (by rw [add_block]; exact hnb)).trans hcy; have hbc := HS.out.blk.cell (o + i); rw [warr_at (win_get HS.out.len hiu)] at hbc; have hbf := HS.out.blk.frozen (o + i); have hxB := HDU.out us[o + i] (List.getElem_mem _); have hyB := HDY.out ys[i] (List.getElem_mem _); obtain ⟨x, hx⟩ := eqx (us[o + i]); have HNX : Hid (∀ d k', d + (ys[i] + k) = x + B * k' → d < B → k' ≤ 1 → SuM w g o us ys (wo.setCell ⟨g, o + i, none⟩ (.int .u64 (d : Nat))) (i + 1) k' (zs ++ [d])) := zh (fun d k' a b c => HS.out.next hiu hx (val_snoc_take hiy) a b c); rw [hx] at hbc hxB; clear hx; generalize ys[i] = y at *
    have hA : ∀ V, (callFunc 113 #[.int .u64 (x : Nat), .int .u64 (y : Nat), .int .u64 (k : Nat)]).run Tryz.prog V = _ := fun V => sub64 x y k hk1 V
    obtain ⟨d, hd⟩ := eqx ((x + B - y - k) % B); obtain ⟨c2, hc2⟩ := eqx ((if x < y + k then 1 else 0) : Nat); rw [hd, hc2] at hA; have g1 := sub_dig (x := x) (y := y) (c := k) hxB hyB hk1; rw [hd, hc2] at g1; have HY := zh (HNX.out d c2 g1 (by rw [← hd]; exact Nat.mod_lt _ (by decide)) (by rw [← hc2]; exact sub_car)); clear hd hc2 g1 HNX hxB hyB hnb
    have q0 : (0 : Int) ≤ (i : Int) := by omega
    have q1 : (i : Int) < (m : Int) := by omega
    have q2 : (i : Int) < (n : Int) := by omega
    have q3 : ((i : Int)).toNat = i := by omega
    have d1 : decide ((i : Int) < (m : Int)) = true := dT q1; have d2 : decide (i < m) = true := dT him; go_wp2; go_roundw
    case rel => exact ⟨i + 1, c2, _, by go_num, by omega, rfl, HY⟩
    case measure => simp [intOf]; omega
   ·obtain rfl : i = m := by omega
    have d1 : decide ((i : Int) < (i : Int)) = false := by simp
    have H1 := HS; clear HS; go_wp2
    go_loopw [4, 7] (fun s4 s7 wr => ∃ (j k : Nat) (zs : List Nat), s7 = .int .i64 j ∧ i ≤ j ∧ j ≤ n ∧ s4 = .int .u64 (k : Nat) ∧ Hid (SuM w g o us ys wr j k zs)) (fun _ s7 _ => n - (intOf s7).toNat)
    case atStart => exact ⟨i, k, zs, rfl, Nat.le_refl _, hm, rfl, H1⟩
    case round =>
     clear H1 hk1; obtain ⟨wp, rfl⟩ : ∃ wp : World, wp = wr := ⟨_, rfl⟩; obtain ⟨j, k, zs, rfl, hij, hj, rfl, HS⟩ := hrel; have hk1 := HS.out.le1
     by_cases hk0 : k = 0
     ·have hD := zh (HS.out.done HDU.out (by rw [HN.out]; exact hij) hj HO.out (.inl hk0)); subst hk0
      have e1 : (((0 : Nat) : Int) != 0) = false := by decide
      go_wp2
      go_end0
      exact ⟨rfl, hD.out⟩
     ·have e1 : ((k : Int) != 0) = true := bne_iff_ne.2 (by omega); have e2 : (k != 0) = true := bne_iff_ne.2 hk0; have e3 : ((k : Int) = 0) = False := eq_false (by omega); have e4 : (k = 0) = False := eq_false hk0
      by_cases hjn : j < n
      ·have hiu : o + j < us.length := by have := HO.out; omega
       have hbc := HS.out.blk.cell (o + j); rw [warr_at (win_get HS.out.len hiu)] at hbc; have hbf := HS.out.blk.frozen (o + j); have hxB := HDU.out us[o + j] (List.getElem_mem _); obtain ⟨x, hx⟩ := eqx (us[o + j]); have HNX : Hid (∀ d k', d + (0 + k) = x + B * k' → d < B → k' ≤ 1 → SuM w g o us ys (wp.setCell ⟨g, o + j, none⟩ (.int .u64 (d : Nat))) (j + 1) k' (zs ++ [d])) := zh (fun d k' a b c => HS.out.next hiu hx (by rw [take_all (by rw [HN.out]; omega), take_all (by rw [HN.out]; omega), Nat.mul_zero]; rfl) a b c); rw [hx] at hbc hxB; clear hx
       have hA : ∀ V, (callFunc 113 #[.int .u64 (x : Nat), .int .u64 0, .int .u64 (k : Nat)]).run Tryz.prog V = _ := fun V => sub64 x 0 k hk1 V
       obtain ⟨d, hd⟩ := eqx ((x + B - 0 - k) % B); obtain ⟨c2, hc2⟩ := eqx ((if x < 0 + k then 1 else 0) : Nat); rw [hd, hc2] at hA
       have hyB : 0 < B := by decide
       have g1 := sub_dig (x := x) (y := 0) (c := k) hxB hyB hk1; rw [hd, hc2] at g1; have HY := zh (HNX.out d c2 g1 (by rw [← hd]; exact Nat.mod_lt _ (by decide)) (by rw [← hc2]; exact sub_car)); clear hd hc2 g1 HNX hxB hyB hk0
       have q0 : (0 : Int) ≤ (j : Int) := by omega
       have q2 : (j : Int) < (n : Int) := by omega
       have q3 : ((j : Int)).toNat = j := by omega
       have d1 : decide ((j : Int) < (n : Int)) = true := dT q2; have d2 : decide (j < n) = true := dT hjn; go_wp2; go_roundw
       case rel => exact ⟨j + 1, c2, _, by go_num, by omega, by omega, rfl, HY⟩
       case measure => simp [intOf]; omega
      ·have hD := zh (HS.out.done HDU.out (by rw [HN.out]; exact hij) hj HO.out (.inr (by omega))); have d1 : decide ((j : Int) < (n : Int)) = false := dF (by omega); have d2 : decide (j < n) = false := dF hjn; clear hk0; go_wp2
       go_end0
       exact ⟨rfl, hD.out⟩
end Go.Proofs.Tg.Iw
end
namespace Go.Proofs.Tg
section
open Go.RowKit
theorem src_sl {P : Program} {t e' : TypeId} (hk : P.underlying t = some (.slice e')) {w : World} {A : Option Addr} {m c : Nat} {news : List Value} (h : Sl w A m 1 news) (h1 : ∀ u ∈ news, u.oneCell' = true) : Src P 1 t (.slice A m c) m news w := by
 have hl := h.len
 cases A with
 | none =>
   have hm : m = 0 := by
    apply Classical.byContradiction; intro hne; obtain ⟨ad, h2, _⟩ := h.lies (by omega)
    cases h2
   subst hm; have : news = [] := List.eq_nil_of_length_eq_zero (by omega); subst this; exact Src.ofNil w hk c
 | some ad =>
   refine Src.ofSlice w hk ad m c news (by omega) (fun j u hu => ?_) h1; have hj := (List.getElem?_eq_some_iff.1 hu).1; obtain ⟨ad', h2, _, h3⟩ := h.lies (by omega)
   injection h2 with h2
   subst h2; exact h3 j u hu
end
end Go.Proofs.Tg
namespace Go.Proofs.Tg.Iw
section
open Go.RowKit Go.Bw Go.Gr Go.Proofs.Tg
theorem wpList_append_run {P : Program} (w : World) {ops : Array Oper} {rest : List Oper} {o : Oper} {a : Act} {Q : Exit → Act → World → Prop} (hgd : o.guard = none) (s x : Operand) (t : TypeId)
    (ho : o.op = .call { callee := .builtin .append, args := #[s, x], argTypes := #[t, t] }) (v xv : Value) (hs : a.eval s = v) (hx : a.eval x = xv) {v' : Value} {w' : World} (hr : (Builtin.append_ #[t, t] o.type #[v, xv]).run P w = .ok v' w')
    (h : wpList P ops Q rest (a.put o.dst v') w') : wpList P ops Q (o :: rest) a w :=
  wpList_plain hgd fun K hK => by
   unfold Oper.wp execOp; simp only [ho, resolve, invoke, builtin, Sem.run_bind, Sem.run_pure, Result.andThen_ok, List.map_toArray, List.map_cons, List.map_nil, hs, hx, hr]; exact hK _ _ h
theorem zero_words (k : Nat) : Builtin.zeroCells (Value.int .u64 0).cells k = warr (List.replicate k 0) := by
 have h : Builtin.zeroCells (Value.int .u64 0).cells k = madeCells #[.int .u64 0] k := by
  apply Array.ext
  ·simp [Builtin.zeroCells, size_madeCells, Value.cells]
  ·intro i h1 h2; simp [Builtin.zeroCells, madeCells, Value.cells]
 rw [h, warr_made]
theorem warr_app (a b : List Nat) : warr a ++ warr b = warr (a ++ b) := by simp [warr]
theorem u64_info : (Tryz.prog.info? 118).map (fun i => (i.zero, i.size, i.bytes)) = some (some (.int .u64 0), 1, 8) := by kernel_rfl
theorem u64_size : (Tryz.prog.info? 118).map (·.size) = some 1 := by kernel_rfl
theorem vs_one (xs : List Nat) : ∀ u ∈ xs.map vs, u.oneCell' = true := fun u hu => by
 obtain ⟨x, _, rfl⟩ := List.mem_map.1 hu
 rfl
def RetCl (xs : List Nat) (w : World) (e : Ending) (w' : World) : Prop := ∃ g ex : Nat, e = .returned (.slice (some ⟨g, 0, none⟩) xs.length (xs.length + ex)) ∧ Blk w' g 118 (warr (xs ++ List.replicate ex 0)) ∧ w.heap.size ≤ g ∧ xs.length + ex ≤ maxLen ∧ Below w.heap.size w w'
theorem wclone_any (X : Option Addr) (c : Nat) (xs : List Nat) (w : World) (hX : Sets w X xs) (h0 : 0 < xs.length) (hn : xs.length ≤ 1000000) :
    Calls Tryz.prog 84 #[.slice X xs.length c] w (RetCl xs w) := by
  obtain ⟨i0, hi0, hz0, hz1, hz2⟩ := info_parts u64_info; obtain ⟨ad, rfl, _⟩ := Sets.at' hX h0
  have hnn : ∀ W : World, (binOp BinOp.eql 66 (.slice (some ad) xs.length c) (.slice none 0 0)).run Tryz.prog W = .ok (.bool false) W := fun W => Lib.run_eql_slice_nil W _ _ _ _ _ _ _ Tryz.underlying66
  have hal := Below.alloc (Below.refl w.heap.size w) (Nat.le_refl _) (.cells #[] 118); have hXa : Sl (w.alloc (.cells #[] 118)) (some ad) xs.length 1 (xs.map vs) := Sl.keep hX hal
  have hsrc : Src Tryz.prog i0.size 66 (.slice (some ad) xs.length c) xs.length (xs.map vs) (w.alloc (.cells #[] 118)) := by
   rw [hz1]; exact src_sl Tryz.underlying66 hXa (vs_one xs)
  have hr := run_append_grow_src (P := Tryz.prog) (w.alloc (.cells #[] 118)) 66 66 66 118 i0 (.int .u64 0) Tryz.underlying66 hi0 hz0 (some ⟨w.heap.size, 0, none⟩) 0 0 []
    (by rw [hz1]; exact run_firstCells_some _ 1 0 ⟨w.heap.size, 0, none⟩ 0 0 [] (by simp) (fun j x hx => by simp at hx)) _ xs.length (xs.map vs) hsrc (by omega) (by omega) (growslice_fits (by omega) (by rw [hz2]; omega))
  obtain ⟨cap, hcap⟩ := eqx (grownCap (w.alloc (.cells #[] 118)) (0 + xs.length) 0 118); have hge := grownCap_ge (w.alloc (.cells #[] 118)) (0 + xs.length) 0 118; have hcm : grownCap (w.alloc (.cells #[] 118)) (0 + xs.length) 0 118 ≤ maxLen := grownCap_le_maxLen _ (0 + xs.length) 0 118 (by simp only [maxLen]; omega); rw [hcap] at hr hge hcm
  have hsz : (w.alloc (.cells #[] 118)).heap.size = w.heap.size + 1 := by simp
  rw [hsz] at hr; obtain ⟨W, hW⟩ := eqx ((w.alloc (.cells #[] 118)).drew.alloc (.cells (([] ++ xs.map vs).toArray ++ Builtin.zeroCells (Value.int IntKind.u64 0).cells (cap - (0 + xs.length))) 118)); rw [hW] at hr
  have hB : Blk W (w.heap.size + 1) 118 (warr (xs ++ List.replicate (cap - xs.length) 0)) := by
   rw [← hW, zero_words, List.nil_append, Nat.zero_add]; have := Blk.new (w.alloc (.cells #[] 118)).drew 118 ((xs.map vs).toArray ++ warr (List.replicate (cap - xs.length) 0)); rw [show (w.alloc (.cells #[] 118)).drew.heap.size = w.heap.size + 1 from hsz] at this; rw [← warr_app]; exact this
  have hbW : Below w.heap.size w W := by rw [← hW]; exact (hal.drew).alloc (by simp) _
  rw [Nat.zero_add] at hr hge; have hRET : RetCl xs w (.returned (.slice (some ⟨w.heap.size + 1, 0, none⟩) xs.length cap)) W := ⟨w.heap.size + 1, cap - xs.length, by rw [show xs.length + (cap - xs.length) = cap by omega], hB, by omega, by omega, hbW⟩; have HRET := zh hRET; clear hRET hB hbW hW hsrc hXa hcap hge hcm hX; go_enter Tryz.func84, Tryz.ntmps84; go_upto_region 3 with (fail); refine wp_region_list ?_; refine wpList_plain rfl (fun K hK => ?_); go_simp; refine hK _ _ ?_; clear hK K; refine wpList_plain rfl (fun K hK => ?_); go_simp; refine hK _ _ ?_; clear hK K; refine wpList_append_run _ rfl _ _ 66 rfl (.slice (some ⟨w.heap.size, 0, none⟩) 0 0) (.slice (some ad) xs.length c) rfl rfl hr ?_; clear hr; go_wp2; go_ret; exact HRET.out
end
end Go.Proofs.Tg.Iw
namespace Go.Proofs.Tg.Fi
section
open Go.RowKit Go.Rq Go.Qn Go.Lib Go.Sort Go.Proofs.Tg
def U8 (w : World) (g : Nat) : Prop := ∀ t cs, Blk w g t cs → ∀ v ∈ cs.toList, ∃ b : Int, v = .int .u8 b
theorem U8.same {w w' : World} {g : Nat} (h : U8 w g) (he : w'.heap[g]? = w.heap[g]?) : U8 w' g := fun t cs B v hv => h t cs (by unfold Blk at *; rw [← he]; exact B) v hv
theorem U8.set {w : World} {g : Nat} {t : TypeId} {cs : Array Value} (h : U8 w g) (B : Blk w g t cs) (o : Nat) (b : Int) : U8 (w.setCell ⟨g, o, none⟩ (.int .u8 b)) g := fun t' cs' B' v hv => by
 have B2 := B.set o (.int .u8 b)
 unfold Blk at B' B2
 rw [B'] at B2
 injection B2 with B2
 injection B2 with e1 e2
 subst e1
 rw [Array.toList_setIfInBounds] at hv
 rcases List.mem_or_eq_of_mem_set hv with h2 | h2
 ·exact h t cs B v h2
 ·exact ⟨b, h2⟩
theorem U8.sets {g : Nat} {t : TypeId} : ∀ (m : List UInt8) (o : Nat) (w : World) (cs : Array Value), Blk w g t cs → U8 w g → U8 (w.setCells g o (Lib.byteCells m)) g
  | [], _, _, _, _, h => h
  | b :: m, o, w, cs, B, h => U8.sets m (o + 1) _ _ (B.set o (.int .u8 (b.toNat : Int))) (h.set B o _)
theorem U8.new (w : World) (t : TypeId) {cs : Array Value} (h : ∀ v ∈ cs.toList, ∃ b : Int, v = .int .u8 b) : U8 (w.alloc (.cells cs t)) w.heap.size := fun t' cs' B v hv => by
 have B2 := Blk.new w t cs
 unfold Blk at B B2
 rw [B] at B2
 injection B2 with B2
 injection B2 with e1 e2
 subst e1
 exact h v hv
structure TxS (w : World) (A : Option Addr) (c : Nat) (l : List UInt8) : Prop where
  nil : A = none → l = [] ∧ c = 0
  own : ∀ ad, A = some ad → ∃ g, ad = ⟨g, 0, none⟩ ∧ Buf w g 5 c (Lib.byteCells l) ∧ U8 w g
  cap : l.length ≤ c
theorem TxS.zero (w : World) : TxS w none 0 [] := ⟨fun _ => ⟨rfl, rfl⟩, fun _ h => (by cases h), Nat.le_refl _⟩
theorem TxS.keep {w w' : World} {A : Option Addr} {c : Nat} {l : List UInt8} (h : TxS w A c l) (hb : Below w.heap.size w w') : TxS w' A c l :=
  ⟨h.nil, fun ad e => by obtain ⟨g, e, B, U⟩ := h.own ad e; exact ⟨g, e, B.keep hb, U.same (hb.block g B.lt)⟩, h.cap⟩
structure TxR (A : Option Addr) (w : World) (A' : Option Addr) (w' : World) : Prop where
  kept : w.grownBy w' (A.map Addr.block)
  at' : A' = A ∨ ∃ g, A' = some ⟨g, 0, none⟩ ∧ w.heap.size ≤ g
theorem TxR.of {A : Option Addr} {w w' : World} (h : Below w.heap.size w w') : TxR A w A w' := ⟨⟨h.os, h.tape, h.output, h.size, fun k hk _ => h.block k hk⟩, .inl rfl⟩
theorem TxR.trans {A A' A'' : Option Addr} {w w' w'' : World} (h : TxR A w A' w') (k : TxR A' w' A'' w'') : TxR A w A'' w'' := by
 refine ⟨⟨k.kept.os.trans h.kept.os, k.kept.tape.trans h.kept.tape, k.kept.output.trans h.kept.output, Nat.le_trans h.kept.size k.kept.size, fun j hj hn => ?_⟩, ?_⟩
 ·rw [k.kept.block j (Nat.lt_of_lt_of_le hj h.kept.size) ?_, h.kept.block j hj hn]
  rcases h.at' with e | ⟨g, e, hg⟩
  ·rw [e]; exact hn
  ·rw [e]; intro e2
   injection e2 with e2
   have e2 : j = g := e2; omega
 ·rcases k.at' with e | ⟨g, e, hg⟩
  ·rcases h.at' with e' | ⟨g, e', hg⟩
   ·exact .inl (e.trans e')
   ·exact .inr ⟨g, e.trans e', hg⟩
  ·exact .inr ⟨g, e, Nat.le_trans h.kept.size hg⟩
theorem TxR.below {A A' : Option Addr} {w w' : World} {B : Nat} (h : TxR A w A' w') (hB : B ≤ w.heap.size) (hA : ∀ ad, A = some ad → B ≤ ad.block) : Below B w w' :=
  ⟨h.kept.os, h.kept.tape, h.kept.output, h.kept.size, fun k hk => h.kept.block k (Nat.lt_of_lt_of_le hk hB) (by
   cases A with
   | none => simp
   | some ad => intro e; injection e with e; have := hA ad rfl; omega)⟩
theorem txs_append {w : World} {A : Option Addr} {c n : Nat} {l m : List UInt8} (h : TxS w A c l) (tx ty : TypeId) (x : Value) (hs : Src Tryz.prog 1 tx x n (Lib.byteCells m) w) (hn : m.length = n) (h1 : 0 < n) (hb : l.length + n ≤ 10000000) :
    ∃ A' c' w', (Builtin.append_ #[91, tx] ty #[.slice A l.length c, x]).run Tryz.prog w = .ok (.slice A' (l.length + n) c') w' ∧ TxS w' A' c' (l ++ m) ∧ TxR A w A' w' := by
  obtain ⟨i0, hi, hz0, hz1, hz2⟩ := info_parts byte_info; have hbl := Lib.byteCells_length l; have hbm := Lib.byteCells_length m
  have hap : Lib.byteCells (l ++ m) = Lib.byteCells l ++ Lib.byteCells m := by simp [Lib.byteCells]
  by_cases hroom : l.length + n ≤ c
  ·cases A with
   | none => have := (h.nil rfl).2; omega
   | some ad =>
     obtain ⟨g, rfl, B, U⟩ := h.own ad rfl
     have hU : U8 (w.setCells g (Lib.byteCells l).length (Lib.byteCells m)) g := by
      obtain ⟨cs, B2, _, _⟩ := B.ex; exact U8.sets m _ w cs B2 U
     obtain ⟨hr, hB, hT⟩ := buf_append B tx ty x n (Lib.byteCells m) hs (by omega); rw [hbl] at hr hB hT hU; exact ⟨some ⟨g, 0, none⟩, c, _, hr, ⟨fun e => (by cases e), fun ad e => ⟨g, by injection e with e; exact e.symm, by rw [hap]; exact hB, hU⟩, by rw [List.length_append]; omega⟩, ⟨hT, .inl rfl⟩⟩
  ·have hold : (Builtin.firstCells i0.size l.length (.slice A l.length c)).run Tryz.prog w.drew = .ok (Lib.byteCells l).toArray w.drew := by
    rw [hz1]
    cases A with
    | none =>
      obtain ⟨rfl, rfl⟩ := h.nil rfl; exact run_firstCells_none _ _ _ _ _
    | some ad =>
      obtain ⟨g, rfl, ⟨cs, B, hsz, ht⟩, _⟩ := h.own ad rfl; refine run_firstCells_some _ 1 l.length ⟨g, 0, none⟩ l.length c (Lib.byteCells l) (by omega) (fun j x hx => ?_); rw [add_lit, Nat.zero_add, World.cell?_drew, B.cell]; have hj := (List.getElem?_eq_some_iff.1 hx).1; rw [← ht, List.getElem?_take, if_pos hj] at hx; rw [← hx, Array.getElem?_toList]
   have hr := run_append_grow_src (P := Tryz.prog) w 91 tx ty 5 i0 (.int .u8 0) Tryz.underlying91 hi hz0 A l.length c (Lib.byteCells l) hold x n (Lib.byteCells m) (by rw [hz1]; exact hs) (by omega) (by omega) (growslice_fits (by omega) (by rw [hz2]; omega)); have hge := grownCap_ge w (l.length + n) c 5; generalize grownCap w (l.length + n) c 5 = cap at *; refine ⟨some ⟨w.heap.size, 0, none⟩, cap, _, hr, ⟨fun e => (by cases e), fun ad e => ⟨w.heap.size, by injection e with e; exact e.symm, ⟨_, Blk.new w.drew 5 _, ?_, ?_⟩, ?_⟩, by rw [List.length_append]; omega⟩, ⟨⟨rfl, rfl, rfl, by simp, fun k hk _ => heap_alloc_old w.drew _ hk⟩, .inr ⟨_, rfl, Nat.le_refl _⟩⟩⟩
   ·have : (Builtin.zeroCells (Value.int .u8 0).cells (cap - (l.length + n))).size = cap - (l.length + n) := by simp [Builtin.zeroCells, Value.cells]
    rw [Array.size_append, this, List.size_toArray, List.length_append, hbl, hbm]; omega
   ·rw [hap]
    have e : ((Lib.byteCells l ++ Lib.byteCells m).toArray ++ Builtin.zeroCells (Value.int .u8 0).cells (cap - (l.length + n))).toList = (Lib.byteCells l ++ Lib.byteCells m) ++ (Builtin.zeroCells (Value.int .u8 0).cells (cap - (l.length + n))).toList := by simp
    rw [e, List.take_left]
   ·refine U8.new w.drew 5 fun v hv => ?_
    rw [Array.toList_append] at hv
    rcases List.mem_append.1 hv with h2 | h2
    ·have h2 : v ∈ Lib.byteCells l ++ Lib.byteCells m := h2; rw [← hap] at h2; obtain ⟨b, _, rfl⟩ := List.mem_map.1 h2; exact ⟨_, rfl⟩
    ·simp [Builtin.zeroCells, Value.cells] at h2; obtain ⟨i, _, h3⟩ := h2; exact ⟨0, by rw [← h3, Nat.mod_one]; rfl⟩
theorem TxS.src {w : World} {A : Option Addr} {c : Nat} {l : List UInt8} (h : TxS w A c l) : Src Tryz.prog 1 91 (.slice A l.length c) l.length (Lib.byteCells l) w := by
 cases A with
 | none =>
   obtain ⟨rfl, rfl⟩ := h.nil rfl; exact Src.ofNil _ Tryz.underlying91 0
 | some ad =>
   obtain ⟨g, rfl, ⟨cs, B, hsz, ht⟩, _⟩ := h.own ad rfl; refine Src.ofSlice (P := Tryz.prog) (w := w) (size := 1) (tx := 91) Tryz.underlying91 ⟨g, 0, none⟩ l.length c (Lib.byteCells l) (by rw [Lib.byteCells_length]; omega) (fun j u hu => ?_) (by intro u' hu'; simp only [Lib.byteCells, List.mem_map] at hu'; obtain ⟨b, _, rfl⟩ := hu'; rfl); rw [add_lit, Nat.zero_add, B.cell]; have hj := (List.getElem?_eq_some_iff.1 hu).1; rw [← ht, List.getElem?_take, if_pos hj] at hu; rw [← hu, Array.getElem?_toList]
def RetTa (A : Option Addr) (l m : List UInt8) (w : World) (e : Ending) (w' : World) : Prop :=
  ∃ A' c', e = .returned (.slice A' (l.length + m.length) c') ∧ TxS w' A' c' (l ++ m) ∧ TxR A w A' w'
theorem tuint_small (u : Nat) (A : Option Addr) (c : Nat) (l : List UInt8) (w : World) (h : TxS w A c l) (hu : u < 100) (hl : l.length ≤ 9000000) :
    Calls Tryz.prog 96 #[.slice A l.length c, .int .u64 u, .int .i64 10] w (RetTa A l (Lib.decDigits u) w) := by
  have hlen : (Lib.decDigits u).length ≤ 20 ∧ 0 < (Lib.decDigits u).length := by
   rw [Lib.decDigits_length]
   by_cases h10 : u < 10
   ·rw [Lib.nDigits_small h10]; omega
   ·rw [Lib.nDigits_big h10, Lib.nDigits_small (show u / 10 < 10 by omega)]; omega
  have hsz : (bs (Lib.decDigits u)).size = (Lib.decDigits u).length := bs_size _; have hsrc := Src.ofString (P := Tryz.prog) (w := w) (tx := 9) Tryz.underlying9 (bs (Lib.decDigits u))
  have hbc : Go.byteCells (bs (Lib.decDigits u)) = Lib.byteCells (Lib.decDigits u) := by
   unfold Go.byteCells Lib.byteCells; rw [bs_data]
  rw [hbc, hsz] at hsrc; obtain ⟨A', c', W, hr, hB, hT⟩ := txs_append h 9 91 _ hsrc rfl hlen.2 (by omega); have HR := zh hr; have HB := zh hB; have HT := zh hT; have HS := zh (small_lay u hu); generalize bs (Lib.decDigits u) = S at *; clear hr hB hT hsrc hbc hsz h; obtain ⟨n, hn⟩ := eqx (l.length); unfold RetTa; rw [hn] at HR ⊢; clear hn hl; have hui : decide ((u : Int) < 100) = true := dT (by omega); have hun : decide (u < 100) = true := dT hu; go_enter Tryz.func96, Tryz.ntmps96
  go_wp2_with (first
    | (go_at_call 92; refine (HS.out _).mono ?_; rintro e w' ⟨rfl, rfl⟩)
    | (at_builtin; refine wpList_append_run _ rfl _ _ 91 9 rfl _ _ HR.out ?_))
  go_ret; exact ⟨_, _, rfl, HB.out, HT.out⟩
theorem tuint_big (u : Nat) (A : Option Addr) (c : Nat) (l : List UInt8) (w : World) (h : TxS w A c l) (hu : 100 ≤ u) (hu64 : u < 18446744073709551616) (hl : l.length ≤ 9000000) (ht : PT w) :
    Calls Tryz.prog 96 #[.slice A l.length c, .int .u64 u, .int .i64 10] w (RetTa A l (Lib.decDigits u) w) := by
  have hu1 : 1 ≤ u := by omega
  have hnd20 : Lib.nDigits u ≤ 20 := by have := Lib.numDigits_eq u hu1 hu64; split at this <;> omega
  have hnd0 : 0 < Lib.nDigits u := Lib.nDigits_pos u
  have hal : Tryz.prog.arrayLen 142 = 24 := by kernel_rfl
  have hsl : ∀ W, (Instr.sliceAt 142 (.pointer (some ⟨w.heap.size, 0, none⟩)) none (some (.int .i64 (Lib.nDigits u : Int))) none).run Tryz.prog W = .ok (.slice (some ⟨w.heap.size, 0, none⟩) (Lib.nDigits u) 24) W := fun W => by
   rw [run_sliceAt_array_h W 142 ⟨w.heap.size, 0, none⟩ (by simp [Program.arrayLen, Program.elem, Tryz.underlying142]) .i64 (Lib.nDigits u : Int) (by omega) (by rw [hal]; omega)]; go_simp
  have hH0 := Lib.holds_zero0 w 142 (Lib.nDigits u) (by omega)
  have hfmt : Calls Tryz.prog 94 #[.slice (some ⟨w.heap.size, 0, none⟩) (Array.replicate (Lib.nDigits u) (0 : UInt8)).size 24, .int .u64 u] (w.alloc (.cells Lib.zeros24 142)) fun e w' =>
   e = .returned (.tuple #[]) ∧ ∃ (n v' : Nat) (dk : Array UInt8), w' = (putRow (fun (b : UInt8) => Value.int .u8 (b.toNat : Int)) (w.alloc (.cells Lib.zeros24 142)) w.heap.size 0 dk).drewN n ∧ FmtInv (Array.replicate (Lib.nDigits u) (0 : UInt8)).size u 0 v' dk :=
   Any.internal_strconv_formatBase10 { fmtLay with } w.heap.size 0 24 u (Array.replicate (Lib.nDigits u) 0) (w.alloc (.cells Lib.zeros24 142)) hH0 (by rw [Array.size_replicate]; exact Lib.lt_pow_nDigits u) hu64 (by rw [Array.size_replicate]; omega)
  rw [Array.size_replicate] at hfmt; have HH0 := zh hH0
  have iu : (100 : Int) ≤ (u : Int) := by omega
  have HND := zh (ndig_lay u hu1 hu64 (w.alloc (.cells Lib.zeros24 142)) (Lib.tabIs_alloc ht _)); have HFM := zh hfmt; have HL := zh (Lib.decDigits_length u); unfold RetTa; obtain ⟨n, hn⟩ := eqx (l.length); have HN := zh hn; have HBF := zh h; rw [hn] at hl ⊢; clear hH0 hal hfmt hn h; go_enter Tryz.func96, Tryz.ntmps96
  go_wp2_with (go_at_call 93; refine HND.out.mono ?_; rintro e w' ⟨rfl, rfl⟩)
  refine HFM.out.mono ?_; rintro e w' ⟨rfl, k, v', dk, rfl, hF⟩
  have hcells : ∀ j u', (Lib.byteCells (Lib.decDigits u))[j]? = some u' → ((putRow (fun (b : UInt8) => Value.int .u8 (b.toNat : Int)) (w.alloc (.cells Lib.zeros24 142)) w.heap.size 0 dk).drewN k).cell? ((⟨w.heap.size, 0, none⟩ : Addr).add j) = some u' := by
   intro j u' hj
   have hjl : j < (Lib.decDigits u).length := by
    have h5 := (List.getElem?_eq_some_iff.1 hj).1
    rwa [Lib.byteCells_length] at h5
   have e5 : (Lib.byteCells (Lib.decDigits u))[j]? = some (Value.int .u8 ((Lib.decDigits u)[j].toNat : Int)) := by simp [Lib.byteCells, hjl]
   rw [e5] at hj
   cases hj
   rw [Lib.row_is_numeral hF j hjl, Lib.add_plain, World.cell?_drewN]; exact cell?_putRow (fun (b : UInt8) => Value.int .u8 (b.toNat : Int)) _ w.heap.size 0 _ dk HH0.out (by rw [hF.size, Array.size_replicate]) j (by rw [hF.size]; rw [Lib.decDigits_length] at hjl; exact hjl)
  obtain ⟨os, eo⟩ := Lib.fin_at w (.cells Lib.zeros24 142) dk k 0
  have hbe : Below w.heap.size w ((putRow (fun (b : UInt8) => Value.int .u8 (b.toNat : Int)) (w.alloc (.cells Lib.zeros24 142)) w.heap.size 0 dk).drewN k) := by rw [eo]; exact Lib.below_grow _ w (Nat.le_refl _) k os
  generalize (putRow (fun (b : UInt8) => Value.int .u8 (b.toNat : Int)) (w.alloc (.cells Lib.zeros24 142)) w.heap.size 0 dk).drewN k = W2 at hcells hbe ⊢; clear eo HH0 HFM; have hsrc := Src.ofSlice (P := Tryz.prog) (w := W2) (size := 1) (tx := 91) Tryz.underlying91 ⟨w.heap.size, 0, none⟩ (Lib.nDigits u) 24 (Lib.byteCells (Lib.decDigits u)) (by rw [Lib.byteCells_length, Lib.decDigits_length, Nat.mul_one]) hcells (by intro u' hu'; simp only [Lib.byteCells, List.mem_map] at hu'; obtain ⟨b, _, rfl⟩ := hu'; rfl); obtain ⟨A', c', W, hr, hB, hT⟩ := txs_append (HBF.out.keep hbe) 91 91 _ hsrc (Lib.decDigits_length u) hnd0 (by rw [HN.out]; omega); rw [HN.out] at hr; have HR := zh hr; have HB := zh hB; have HT := zh ((TxR.of hbe).trans hT); have HLL := zh HL.out.symm; generalize Lib.nDigits u = nd at *; clear hr hB hT hsrc hcells hbe
  go_wp2_with (at_builtin; refine wpList_append_run _ rfl _ _ 91 91 rfl _ _ HR.out ?_)
  go_ret; exact ⟨A', c', by first | rfl | (rw [HLL.out]; rfl) | (rw [← HLL.out]; rfl), HB.out, HT.out⟩
theorem tuint_any (u : Nat) (A : Option Addr) (c : Nat) (l : List UInt8) (w : World) (h : TxS w A c l) (hu64 : u < 18446744073709551616) (hl : l.length ≤ 9000000) (ht : PT w) :
    Calls Tryz.prog 100 #[.slice A l.length c, .int .u64 u, .int .i64 10] w (RetTa A l (Lib.decDigits u) w) := by
  have HI : Hid (Calls Tryz.prog 96 #[.slice A l.length c, .int .u64 u, .int .i64 10] w (RetTa A l (Lib.decDigits u) w)) := zh (by
   by_cases hu : u < 100
   ·exact tuint_small u A c l w h hu hl
   ·exact tuint_big u A c l w h (by omega) hu64 hl ht)
  obtain ⟨Q, hQ⟩ := eqx (RetTa A l (Lib.decDigits u) w); have HQ : Hid (∀ e w', Q e w' → ∃ v, e = .returned v) := zh (fun e w' h => by rw [← hQ] at h; obtain ⟨_, _, rfl, _⟩ := h; exact ⟨_, rfl⟩); rw [hQ] at HI ⊢; clear hQ h ht; generalize l.length = n at *; go_enter Tryz.func100, Tryz.ntmps100
  go_wp2_with (go_at_call 96; refine HI.out.mono ?_; rintro e w' h; obtain ⟨v, rfl⟩ := HQ.out _ _ h; have H := zh h; clear h)
  exact H.out
theorem buint_any (g u : Nat) (t : TypeId) (w : World) (h : Buf w g t 20 []) (hu64 : u < 18446744073709551616) (ht : PT w) :
    Calls Tryz.prog 100 #[.slice (some ⟨g, 0, none⟩) 0 20, .int .u64 u, .int .i64 10] w (RetBuf g t 20 [] (Lib.decDigits u) w) := by
  have HI := zh (auint_any g 20 u t [] w h hu64 (by simp) ht); obtain ⟨Q, hQ⟩ := eqx (RetBuf g t 20 [] (Lib.decDigits u) w); have HQ : Hid (∀ e w', Q e w' → ∃ v, e = .returned v) := zh (fun e w' h => by rw [← hQ] at h; obtain ⟨rfl, _⟩ := h; exact ⟨_, rfl⟩); rw [hQ] at HI ⊢; clear hQ h ht; have HI2 : Hid (Calls Tryz.prog 96 #[.slice (some ⟨g, 0, none⟩) 0 20, .int .u64 u, .int .i64 10] w Q) := HI; clear HI; go_enter Tryz.func100, Tryz.ntmps100
  go_wp2_with (go_at_call 96; refine HI2.out.mono ?_; rintro e w' h; obtain ⟨v, rfl⟩ := HQ.out _ _ h; have H := zh h; clear h)
  exact H.out
end
end Go.Proofs.Tg.Fi
