/- Parts of the proof: IM3, IM4, QS0, IM5, IM6, IM7. -/
import Derived.Deep.AppendSrc
import Derived.Deep.AppendLies
import Derived.Laws.CopyOwn
import Derived.Test.YtbgaiceakmmfdaaGreatDoorMMV0
import Derived.Test.YtbgaiceakmmfdaaGreatDoorMMV16
section
/- Walks: the program's words: a product added to, or taken from, a window of words in place. -/
namespace Go.Bw
theorem ma_lo {p k : Nat} : (p % B + k) % B = (p + k) % B := by simp only [B]; omega
theorem ma_hi {p k : Nat} : p / B + (p % B + k) / B = (p + k) / B := by simp only [B]; omega
theorem ma_fit {x y k : Nat} (hx : x < B) (hy : y < B) (hk : k < B) : x * y + k < B * B ∧ (x * y + k) / B < B := by
 have h1 : x * y ≤ (B - 1) * (B - 1) := Nat.mul_le_mul (by omega) (by omega)
 have h2 : (B - 1) * (B - 1) + B ≤ B * B := by decide
 have h3 : x * y + k < B * B := by omega
 exact ⟨h3, Nat.div_lt_of_lt_mul h3⟩
/-- One digit of a product added. -/
theorem addp_digit {x p k : Nat} (hx : x < B) (hp : (p + k) / B < B) (hp2 : x + (p + k) < B * B) : (x + (p + k) % B) % B + B * ((p + k) / B + (x + (p + k) % B) / B) = x + (p + k) ∧ (p + k) / B + (x + (p + k) % B) / B < B := by
 have e : B * B = 340282366920938463463374607431768211456 := by decide
 rw [e] at hp2
 simp only [B] at *
 omega
/-- One digit of a product taken away. -/
theorem subp_digit {x p k : Nat} (hx : x < B) (hp2 : p + k ≤ (B - 1) * B) : (x + B - (p + k) % B - 0) % B + (p + k) = x + B * ((p + k) / B + (if x < (p + k) % B + 0 then 1 else 0)) ∧ (p + k) / B + (if x < (p + k) % B + 0 then 1 else 0) < B := by
 have e : (B - 1) * B = 340282366920938463444927863358058659840 := by decide
 rw [e] at hp2
 simp only [B] at *
 split <;> omega
theorem lin_add {Z W Y P k x y h d k' : Nat} (hs : Z + P * k = W + h * Y) (hd : d + B * k' = x + (y * h + k)) : Z + P * d + P * B * k' = W + P * x + h * (Y + P * y) := by
 have h1 := congrArg (P * ·) hd
 simp only [Nat.mul_add] at h1
 have e1 : P * (B * k') = P * B * k' := (Nat.mul_assoc _ _ _).symm
 have e2 : h * (P * y) = P * (y * h) := by rw [Nat.mul_left_comm, Nat.mul_comm h y]
 rw [Nat.mul_add, e2]
 omega
theorem lin_sub {Z W Y P k x y h d k' : Nat} (hs : Z + h * Y = W + P * k) (hd : d + (y * h + k) = x + B * k') : Z + P * d + h * (Y + P * y) = W + P * x + P * B * k' := by
 have h1 := congrArg (P * ·) hd
 simp only [Nat.mul_add] at h1
 have e1 : P * (B * k') = P * B * k' := (Nat.mul_assoc _ _ _).symm
 have e2 : h * (P * y) = P * (y * h) := by rw [Nat.mul_left_comm, Nat.mul_comm h y]
 rw [Nat.mul_add, e2]
 omega
theorem val_snoc (zs : List Nat) (d : Nat) : val (zs ++ [d]) = val zs + B ^ zs.length * d := by
 rw [val_app]; simp [val]
theorem dig_snoc {zs : List Nat} {d : Nat} (h : Dig zs) (hd : d < B) : Dig (zs ++ [d]) := dig_app h (dig_cons hd (fun _ h => by cases h))
theorem win_at {us : List Nat} {o i : Nat} (h : o + i < us.length) : (us.drop o)[i]'(by rw [List.length_drop]; omega) = us[o + i] := by rw [List.getElem_drop]
theorem win_succ {us : List Nat} {o i : Nat} (h : o + i < us.length) : val ((us.drop o).take (i + 1)) = val ((us.drop o).take i) + B ^ i * us[o + i] := by
 rw [val_snoc_take (by rw [List.length_drop]; omega), win_at h]
theorem win_get {us zs : List Nat} {o i : Nat} (hl : zs.length = i) (h : o + i < us.length) : (us.take o ++ (zs ++ us.drop (o + i)))[o + i]? = some us[o + i] := mid_get h hl
end Go.Bw
namespace Go.Proofs.Tg.Iw
open Go.RowKit Go.Bw Go.Gr Go.Proofs.Tg
set_option maxHeartbeats 4000000
set_option maxRecDepth 100000
/-- A block of words. -/
def warr (l : List Nat) : Array Value := (l.map vs).toArray
theorem warr_size (l : List Nat) : (warr l).size = l.length := by simp [warr]
theorem warr_at {l : List Nat} {k v : Nat} (h : l[k]? = some v) : (warr l)[k]? = some (.int .u64 (v : Nat)) := by simp [warr, h, vs]
theorem warr_set (l : List Nat) (k v : Nat) : (warr l).setIfInBounds k (.int .u64 (v : Nat)) = warr (l.set k v) := by simp [warr, List.map_set, vs]
theorem warr_made (n : Nat) : madeCells #[.int .u64 0] n = warr (List.replicate n 0) := by
 apply Array.ext
 ·simp [warr, size_madeCells]
 ·intro i h1 h2
  simp [madeCells, warr, vs, Nat.mod_one]
/-- What stands while a product is added: i digits are done. -/
structure ApM (w : World) (g o h : Nat) (us ys : List Nat) (wr : World) (i k : Nat) (zs : List Nat) : Prop where
  len : zs.length = i
  dig : Dig zs
  lt : k < B
  eq : val zs + B ^ i * k = val ((us.drop o).take i) + h * val (ys.take i)
  blk : Blk wr g 118 (warr (us.take o ++ (zs ++ us.drop (o + i))))
  only : Only g w wr
structure SpM (w : World) (g o h : Nat) (us ys : List Nat) (wr : World) (i k : Nat) (zs : List Nat) : Prop where
  len : zs.length = i
  dig : Dig zs
  lt : k < B
  eq : val zs + h * val (ys.take i) = val ((us.drop o).take i) + B ^ i * k
  blk : Blk wr g 118 (warr (us.take o ++ (zs ++ us.drop (o + i))))
  only : Only g w wr
theorem pow_snoc (i : Nat) : B ^ (i + 1) = B ^ i * B := Nat.pow_succ ..
theorem ApM.next {w wr : World} {g o h i k d k' : Nat} {us ys zs : List Nat} (s : ApM w g o h us ys wr i k zs) (hi : i < ys.length) (ho : o + i < us.length) (hd : d + B * k' = us[o + i] + (ys[i] * h + k)) (hdB : d < B) (hk : k' < B) :
    ApM w g o h us ys (wr.setCell ⟨g, o + i, none⟩ (.int .u64 (d : Nat))) (i + 1) k' (zs ++ [d]) := by
  have hb := s.blk.set (o + i) (.int .u64 (d : Nat))
  rw [warr_set, mid_set ho s.len] at hb
  refine ⟨by rw [List.length_append, s.len]; rfl, dig_snoc s.dig hdB, hk, ?_, hb, s.only.set _ _⟩
  rw [val_snoc, s.len, win_succ ho, val_snoc_take hi, pow_snoc]
  exact lin_add s.eq hd
theorem SpM.next {w wr : World} {g o h i k d k' : Nat} {us ys zs : List Nat} (s : SpM w g o h us ys wr i k zs) (hi : i < ys.length) (ho : o + i < us.length) (hd : d + (ys[i] * h + k) = us[o + i] + B * k') (hdB : d < B) (hk : k' < B) :
    SpM w g o h us ys (wr.setCell ⟨g, o + i, none⟩ (.int .u64 (d : Nat))) (i + 1) k' (zs ++ [d]) := by
  have hb := s.blk.set (o + i) (.int .u64 (d : Nat))
  rw [warr_set, mid_set ho s.len] at hb
  refine ⟨by rw [List.length_append, s.len]; rfl, dig_snoc s.dig hdB, hk, ?_, hb, s.only.set _ _⟩
  rw [val_snoc, s.len, win_succ ho, val_snoc_take hi, pow_snoc]
  exact lin_sub s.eq hd
def RetAp (w : World) (g o h : Nat) (us ys : List Nat) (e : Ending) (w' : World) : Prop := ∃ (k : Nat) (zs : List Nat), e = .returned (.int .u64 (k : Nat)) ∧ ApM w g o h us ys w' ys.length k zs
def RetSp (w : World) (g o h : Nat) (us ys : List Nat) (e : Ending) (w' : World) : Prop := ∃ (k : Nat) (zs : List Nat), e = .returned (.int .u64 (k : Nat)) ∧ SpM w g o h us ys w' ys.length k zs
theorem addp_any (g o h c cx : Nat) (us ys : List Nat) (X : Option Addr) (w : World) (hB : Blk w g 118 (warr us)) (hX : Sets w X ys) (hne : ∀ ad, X = some ad → ad.block ≠ g) (hdu : Dig us) (hdy : Dig ys) (hh : h < B) (ho : o + ys.length ≤ us.length) (hn : us.length ≤ 1000000) :
    Calls Tryz.prog 97 #[.slice (some ⟨g, o, none⟩) ys.length c, .slice X ys.length cx, .int .u64 (h : Nat)] w (RetAp w g o h us ys) := by
  obtain ⟨Q, hQ⟩ : ∃ Q, RetAp w g o h us ys = Q := ⟨_, rfl⟩
  have HRET : Hid (∀ (k : Nat) (zs : List Nat) w', ApM w g o h us ys w' ys.length k zs → Q (.returned (.int .u64 (k : Nat))) w') := Lib.hid (fun k zs w' hs => by rw [← hQ]; exact ⟨k, zs, rfl, hs⟩)
  rw [hQ]
  clear hQ
  have H0 : Hid (ApM w g o h us ys w 0 0 []) := Lib.hid ⟨rfl, fun _ hx => absurd hx (by simp), by decide, by simp [val], by
   rw [List.nil_append, Nat.add_zero, List.take_append_drop]; exact hB, Only.refl _ _⟩
  have HX := Lib.hid hX
  have HNE := Lib.hid hne
  have HDU := Lib.hid hdu
  have HDY := Lib.hid hdy
  have HH := Lib.hid hh
  obtain ⟨n, hnn⟩ : ∃ n, ys.length = n := ⟨_, rfl⟩
  rw [hnn] at HRET ho ⊢
  have HN := Lib.hid hnn
  have HO := Lib.hid ho
  clear hB hX hne hdu hdy hh hnn
  go_enter Tryz.func97, Tryz.ntmps97
  go_wp2
  go_loopw [7, 16] (fun s7 s16 wr => ∃ (i k : Nat) (zs : List Nat), s16 = .int .i64 i ∧ i ≤ n ∧ s7 = .int .u64 (k : Nat) ∧ Hid (ApM w g o h us ys wr i k zs)) (fun _ s16 _ => n - (intOf s16).toNat)
  case atStart => exact ⟨0, 0, [], rfl, Nat.zero_le _, rfl, H0⟩
  case round =>
   clear H0
   obtain ⟨wo, rfl⟩ : ∃ wo : World, wo = wr := ⟨_, rfl⟩
   obtain ⟨i, k, zs, rfl, hi, rfl, HS⟩ := hrel
   by_cases hin : i < n
   ·have hiy : i < ys.length := by rw [HN.out]; exact hin
    have hiu : o + i < us.length := by have := HO.out; omega
    obtain ⟨ad, hX2, hcy⟩ := Sets.at' (HX.out) hiy
    have hnb := HNE.out ad hX2
    subst hX2
    have hcy : wo.cell? (ad.add i) = some (.int .u64 (ys[i] : Nat)) := (HS.out.only.cell (p := ad.add i) (by rw [add_block]; exact hnb)).trans hcy
    have hbc := HS.out.blk.cell (o + i)
    rw [warr_at (win_get HS.out.len hiu)] at hbc
    have hbf := HS.out.blk.frozen (o + i)
    have hxB := HDU.out us[o + i] (List.getElem_mem _)
    have hyB := HDY.out ys[i] (List.getElem_mem _)
    have hkB := HS.out.lt
    have HNX : Hid (∀ d k', d + B * k' = us[o + i] + (ys[i] * h + k) → d < B → k' < B → ApM w g o h us ys (wo.setCell ⟨g, o + i, none⟩ (.int .u64 (d : Nat))) (i + 1) k' (zs ++ [d])) := Lib.hid (fun d k' a b c => HS.out.next hiy hiu a b c)
    generalize us[o + i] = x at *
    generalize ys[i] = y at *
    obtain ⟨f1, f2⟩ := ma_fit hyB HH.out hkB
    have hM := mul64 y h hyB HH.out
    obtain ⟨hi2, hhi⟩ : ∃ z, y * h / B = z := ⟨_, rfl⟩
    obtain ⟨lo, hlo⟩ : ∃ z, y * h % B = z := ⟨_, rfl⟩
    rw [hhi, hlo] at hM
    have HM := Lib.hid hM
    have hA1 : ∀ V, (callFunc 122 #[.int .u64 (lo : Nat), .int .u64 (k : Nat), .int .u64 0]).run Tryz.prog V = _ := fun V => add64 lo k 0 (by omega) V
    obtain ⟨s, hs⟩ : ∃ z, (lo + k + 0) % B = z := ⟨_, rfl⟩
    obtain ⟨c1, hc1⟩ : ∃ z, (lo + k + 0) / B = z := ⟨_, rfl⟩
    rw [hs, hc1] at hA1
    have hA2 : ∀ V, (callFunc 122 #[.int .u64 (x : Nat), .int .u64 (s : Nat), .int .u64 0]).run Tryz.prog V = _ := fun V => add64 x s 0 (by omega) V
    obtain ⟨d, hd⟩ : ∃ z, (x + s + 0) % B = z := ⟨_, rfl⟩
    obtain ⟨c2, hc2⟩ : ∃ z, (x + s + 0) / B = z := ⟨_, rfl⟩
    rw [hd, hc2] at hA2
    have e1 : s = (y * h + k) % B := by rw [← hs, ← hlo, Nat.add_zero, ma_lo]
    have e2 : hi2 + c1 = (y * h + k) / B := by rw [← hhi, ← hc1, ← hlo, Nat.add_zero, ma_hi]
    obtain ⟨g1, g2⟩ := addp_digit (x := x) (p := y * h) (k := k) hxB f2 (by
     have a1 : y * h ≤ (B - 1) * (B - 1) := Nat.mul_le_mul (by have := hyB; simp only [B] at *; omega) (by have := HH.out; simp only [B] at *; omega)
     have a2 : (B - 1) * (B - 1) + 2 * B - 1 = B * B := by decide
     have e : (B - 1) * (B - 1) = 340282366920938463426481119284349108225 := by decide
     have e' : B * B = 340282366920938463463374607431768211456 := by decide
     rw [e] at a1
     rw [e']
     simp only [B] at hxB hkB
     omega)
    rw [← e1] at g1 g2
    have e3 : (x + s) % B = d := by rw [← hd, Nat.add_zero]
    have e4 : (x + s) / B = c2 := by rw [← hc2, Nat.add_zero]
    rw [e3, e4, ← e2] at g1
    rw [e4, ← e2] at g2
    have HY := HNX.out d (hi2 + c1 + c2) g1 (by rw [← e3]; exact Nat.mod_lt _ (by decide)) g2
    have HY := Lib.hid HY
    have w1 : IntKind.u64.wrap ((hi2 : Int) + (c1 : Int)) = ((hi2 + c1 : Nat) : Int) := by
     rw [Go.Proofs.Mul64.addN]; exact Go.Proofs.Mul64.wrapN _ (by simp only [B] at g2; omega)
    have w2 : IntKind.u64.wrap (((hi2 + c1 : Nat) : Int) + (c2 : Int)) = ((hi2 + c1 + c2 : Nat) : Int) := by
     rw [Go.Proofs.Mul64.addN]; exact Go.Proofs.Mul64.wrapN _ (by simp only [B] at g2; omega)
    obtain ⟨h2, hh2⟩ : ∃ z, hi2 + c1 = z := ⟨_, rfl⟩
    obtain ⟨k', hk'⟩ : ∃ z, hi2 + c1 + c2 = z := ⟨_, rfl⟩
    rw [hh2] at w1 w2
    rw [hh2] at hk' HY
    rw [hk'] at w2 HY
    clear hhi hlo hs hc1 hd hc2 e1 e2 e3 e4 g1 g2 f1 f2 hh2 hk' HNX hM hxB hyB hkB hnb
    have q0 : (0 : Int) ≤ (i : Int) := by omega
    have q1 : (i : Int) < (n : Int) := by omega
    have q3 : ((i : Int)).toNat = i := by omega
    have d1 : decide ((i : Int) < (n : Int)) = true := decide_eq_true q1
    have d2 : decide (i < n) = true := decide_eq_true hin
    go_wp2_with (go_at_call 121; refine (HM.out _).mono ?_; rintro e w1 ⟨rfl, rfl⟩)
    go_roundw
    case rel => exact ⟨i + 1, k', _, by go_num, by omega, rfl, HY⟩
    case measure => simp [intOf]; omega
   ·obtain rfl : i = n := by omega
    have d1 : decide ((i : Int) < (i : Int)) = false := by simp
    have hs := HS.out
    go_wp2
    exact HRET.out _ _ _ hs
theorem subp_any (g o h c cx : Nat) (us ys : List Nat) (X : Option Addr) (w : World) (hB : Blk w g 118 (warr us)) (hX : Sets w X ys) (hne : ∀ ad, X = some ad → ad.block ≠ g) (hdu : Dig us) (hdy : Dig ys) (hh : h < B) (ho : o + ys.length ≤ us.length) (hn : us.length ≤ 1000000) :
    Calls Tryz.prog 134 #[.slice (some ⟨g, o, none⟩) ys.length c, .slice X ys.length cx, .int .u64 (h : Nat)] w (RetSp w g o h us ys) := by
  obtain ⟨Q, hQ⟩ : ∃ Q, RetSp w g o h us ys = Q := ⟨_, rfl⟩
  have HRET : Hid (∀ (k : Nat) (zs : List Nat) w', SpM w g o h us ys w' ys.length k zs → Q (.returned (.int .u64 (k : Nat))) w') := Lib.hid (fun k zs w' hs => by rw [← hQ]; exact ⟨k, zs, rfl, hs⟩)
  rw [hQ]
  clear hQ
  have H0 : Hid (SpM w g o h us ys w 0 0 []) := Lib.hid ⟨rfl, fun _ hx => absurd hx (by simp), by decide, by simp [val], by
   rw [List.nil_append, Nat.add_zero, List.take_append_drop]; exact hB, Only.refl _ _⟩
  have HX := Lib.hid hX
  have HNE := Lib.hid hne
  have HDU := Lib.hid hdu
  have HDY := Lib.hid hdy
  have HH := Lib.hid hh
  obtain ⟨n, hnn⟩ : ∃ n, ys.length = n := ⟨_, rfl⟩
  rw [hnn] at HRET ho ⊢
  have HN := Lib.hid hnn
  have HO := Lib.hid ho
  clear hB hX hne hdu hdy hh hnn
  go_enter Tryz.func134, Tryz.ntmps134
  go_wp2
  go_loopw [7, 16] (fun s7 s16 wr => ∃ (i k : Nat) (zs : List Nat), s16 = .int .i64 i ∧ i ≤ n ∧ s7 = .int .u64 (k : Nat) ∧ Hid (SpM w g o h us ys wr i k zs)) (fun _ s16 _ => n - (intOf s16).toNat)
  case atStart => exact ⟨0, 0, [], rfl, Nat.zero_le _, rfl, H0⟩
  case round =>
   clear H0
   obtain ⟨wo, rfl⟩ : ∃ wo : World, wo = wr := ⟨_, rfl⟩
   obtain ⟨i, k, zs, rfl, hi, rfl, HS⟩ := hrel
   by_cases hin : i < n
   ·have hiy : i < ys.length := by rw [HN.out]; exact hin
    have hiu : o + i < us.length := by have := HO.out; omega
    obtain ⟨ad, hX2, hcy⟩ := Sets.at' (HX.out) hiy
    have hnb := HNE.out ad hX2
    subst hX2
    have hcy : wo.cell? (ad.add i) = some (.int .u64 (ys[i] : Nat)) := (HS.out.only.cell (p := ad.add i) (by rw [add_block]; exact hnb)).trans hcy
    have hbc := HS.out.blk.cell (o + i)
    rw [warr_at (win_get HS.out.len hiu)] at hbc
    have hbf := HS.out.blk.frozen (o + i)
    have hxB := HDU.out us[o + i] (List.getElem_mem _)
    have hyB := HDY.out ys[i] (List.getElem_mem _)
    have hkB := HS.out.lt
    have HNX : Hid (∀ d k', d + (ys[i] * h + k) = us[o + i] + B * k' → d < B → k' < B → SpM w g o h us ys (wo.setCell ⟨g, o + i, none⟩ (.int .u64 (d : Nat))) (i + 1) k' (zs ++ [d])) := Lib.hid (fun d k' a b c => HS.out.next hiy hiu a b c)
    generalize us[o + i] = x at *
    generalize ys[i] = y at *
    obtain ⟨f1, f2⟩ := ma_fit hyB HH.out hkB
    have hM := mul64 y h hyB HH.out
    obtain ⟨hi2, hhi⟩ : ∃ z, y * h / B = z := ⟨_, rfl⟩
    obtain ⟨lo, hlo⟩ : ∃ z, y * h % B = z := ⟨_, rfl⟩
    rw [hhi, hlo] at hM
    have HM := Lib.hid hM
    have hA1 : ∀ V, (callFunc 122 #[.int .u64 (lo : Nat), .int .u64 (k : Nat), .int .u64 0]).run Tryz.prog V = _ := fun V => add64 lo k 0 (by omega) V
    obtain ⟨s, hs⟩ : ∃ z, (lo + k + 0) % B = z := ⟨_, rfl⟩
    obtain ⟨c1, hc1⟩ : ∃ z, (lo + k + 0) / B = z := ⟨_, rfl⟩
    rw [hs, hc1] at hA1
    have hA2 : ∀ V, (callFunc 113 #[.int .u64 (x : Nat), .int .u64 (s : Nat), .int .u64 0]).run Tryz.prog V = _ := fun V => sub64 x s 0 (by omega) V
    obtain ⟨d, hd⟩ : ∃ z, (x + B - s - 0) % B = z := ⟨_, rfl⟩
    obtain ⟨c2, hc2⟩ : ∃ z : Nat, (if x < s + 0 then 1 else 0) = z := ⟨_, rfl⟩
    rw [hd, hc2] at hA2
    have e1 : s = (y * h + k) % B := by rw [← hs, ← hlo, Nat.add_zero, ma_lo]
    have e2 : hi2 + c1 = (y * h + k) / B := by rw [← hhi, ← hc1, ← hlo, Nat.add_zero, ma_hi]
    obtain ⟨g1, g2⟩ := subp_digit (x := x) (p := y * h) (k := k) hxB (by
     have a1 : y * h ≤ (B - 1) * (B - 1) := Nat.mul_le_mul (by have := hyB; simp only [B] at *; omega) (by have := HH.out; simp only [B] at *; omega)
     have e : (B - 1) * (B - 1) = 340282366920938463426481119284349108225 := by decide
     have e' : (B - 1) * B = 340282366920938463444927863358058659840 := by decide
     rw [e] at a1
     rw [e']
     simp only [B] at hxB hkB
     omega)
    rw [← e1, ← e2, hd, hc2] at g1
    rw [← e1, ← e2, hc2] at g2
    have HY := HNX.out d (hi2 + c1 + c2) g1 (by rw [← hd]; exact Nat.mod_lt _ (by decide)) g2
    have HY := Lib.hid HY
    have w1 : IntKind.u64.wrap ((hi2 : Int) + (c1 : Int)) = ((hi2 + c1 : Nat) : Int) := by
     rw [Go.Proofs.Mul64.addN]; exact Go.Proofs.Mul64.wrapN _ (by simp only [B] at g2; omega)
    have w2 : IntKind.u64.wrap (((hi2 + c1 : Nat) : Int) + (c2 : Int)) = ((hi2 + c1 + c2 : Nat) : Int) := by
     rw [Go.Proofs.Mul64.addN]; exact Go.Proofs.Mul64.wrapN _ (by simp only [B] at g2; omega)
    obtain ⟨h2, hh2⟩ : ∃ z, hi2 + c1 = z := ⟨_, rfl⟩
    obtain ⟨k', hk'⟩ : ∃ z, hi2 + c1 + c2 = z := ⟨_, rfl⟩
    rw [hh2] at w1 w2
    rw [hh2] at hk' HY
    rw [hk'] at w2 HY
    clear hhi hlo hs hc1 hd hc2 e1 e2 g1 g2 f1 f2 hh2 hk' HNX hM hxB hyB hkB hnb
    have q0 : (0 : Int) ≤ (i : Int) := by omega
    have q1 : (i : Int) < (n : Int) := by omega
    have q3 : ((i : Int)).toNat = i := by omega
    have d1 : decide ((i : Int) < (n : Int)) = true := decide_eq_true q1
    have d2 : decide (i < n) = true := decide_eq_true hin
    go_wp2_with (go_at_call 121; refine (HM.out _).mono ?_; rintro e w1 ⟨rfl, rfl⟩)
    go_roundw
    case rel => exact ⟨i + 1, k', _, by go_num, by omega, rfl, HY⟩
    case measure => simp [intOf]; omega
   ·obtain rfl : i = n := by omega
    have d1 : decide ((i : Int) < (i : Int)) = false := by simp
    have hs := HS.out
    go_wp2
    exact HRET.out _ _ _ hs
end Go.Proofs.Tg.Iw
end
section
/- Walks: the program's words: sums and differences in place (printed by wip/tools/mk_im4.py). -/
namespace Go.Bw
theorem add_dig {x y c : Nat} : (x + y + c) % B + B * ((x + y + c) / B) = x + (y + c) := by simp only [B]; omega
theorem add_car {x y c : Nat} (hx : x < B) (hy : y < B) (hc : c ≤ 1) : (x + y + c) / B ≤ 1 := by simp only [B] at *; omega
theorem sub_dig {x y c : Nat} (hx : x < B) (hy : y < B) (hc : c ≤ 1) : (x + B - y - c) % B + (y + c) = x + B * (if x < y + c then 1 else 0) := by simp only [B] at *; split <;> omega
theorem sub_car {x y c : Nat} : (if x < y + c then 1 else 0) ≤ 1 := by split <;> omega
theorem lin_add1 {Z W Y P k x y d k' : Nat} (hs : Z + P * k = W + Y) (hd : d + B * k' = x + (y + k)) : Z + P * d + P * B * k' = W + P * x + (Y + P * y) := by
 have h1 := congrArg (P * ·) hd
 simp only [Nat.mul_add] at h1
 have e1 : P * (B * k') = P * B * k' := (Nat.mul_assoc _ _ _).symm
 omega
end Go.Bw
namespace Go.Proofs.Tg.Iw
open Go.RowKit Go.Bw Go.Gr Go.Proofs.Tg
set_option maxHeartbeats 4000000
set_option maxRecDepth 100000
theorem take_all {ys : List Nat} {i : Nat} (h : ys.length ≤ i) : ys.take i = ys := List.take_of_length_le h
/-- What stands in the two loops of addInto: i digits are done. -/
structure AdM (w : World) (g o : Nat) (us ys : List Nat) (wr : World) (i k : Nat) (zs : List Nat) : Prop where
  len : zs.length = i
  dig : Dig zs
  le1 : k ≤ 1
  eq : val zs + B ^ i * k = val ((us.drop o).take i) + val (ys.take i)
  blk : Blk wr g 118 (warr (us.take o ++ (zs ++ us.drop (o + i))))
  only : Only g w wr
theorem AdM.next {w wr : World} {g o i k d k' x y : Nat} {us ys zs : List Nat} (s : AdM w g o us ys wr i k zs) (ho : o + i < us.length) (hx : us[o + i] = x) (hy : val (ys.take (i + 1)) = val (ys.take i) + B ^ i * y) (hd : d + B * k' = x + (y + k)) (hdB : d < B) (hk : k' ≤ 1) :
    AdM w g o us ys (wr.setCell ⟨g, o + i, none⟩ (.int .u64 (d : Nat))) (i + 1) k' (zs ++ [d]) := by
  have hb := s.blk.set (o + i) (.int .u64 (d : Nat))
  rw [warr_set, mid_set ho s.len] at hb
  refine ⟨by rw [List.length_append, s.len]; rfl, dig_snoc s.dig hdB, hk, ?_, hb, s.only.set _ _⟩
  rw [val_snoc, s.len, win_succ ho, hy, pow_snoc, hx]
  exact lin_add1 s.eq hd
end Go.Proofs.Tg.Iw
end
section
/- What a slice yields, whatever its address. -/
namespace Go.Proofs.Tg
open Go.RowKit
set_option maxHeartbeats 1000000
/-- What a slice yields, whatever its address. -/
theorem src_sl {P : Program} {t e' : TypeId} (hk : P.underlying t = some (.slice e')) {w : World} {A : Option Addr} {m c : Nat} {news : List Value} (h : Sl w A m 1 news) (h1 : ∀ u ∈ news, u.oneCell' = true) : Src P 1 t (.slice A m c) m news w := by
 have hl := h.len
 cases A with
 | none =>
   have hm : m = 0 := by
    apply Classical.byContradiction
    intro hne
    obtain ⟨ad, h2, _⟩ := h.lies (by omega)
    cases h2
   subst hm
   have : news = [] := List.eq_nil_of_length_eq_zero (by omega)
   subst this
   exact Src.ofNil w hk c
 | some ad =>
   refine Src.ofSlice w hk ad m c news (by omega) (fun j u hu => ?_) h1
   have hj := (List.getElem?_eq_some_iff.1 hu).1
   obtain ⟨ad', h2, _, h3⟩ := h.lies (by omega)
   injection h2 with h2
   subst h2
   exact h3 j u hu
end Go.Proofs.Tg
end
section
/- Walks: the program's words: copies, sums and differences of numbers. -/
namespace Go.Proofs.Tg.Iw
open Go.RowKit Go.Bw Go.Gr Go.Proofs.Tg
set_option maxHeartbeats 4000000
set_option maxRecDepth 100000
/-- An append whose outcome is known. -/
theorem wpList_append_run {P : Program} (w : World) {ops : Array Oper} {rest : List Oper} {o : Oper} {a : Act} {Q : Exit → Act → World → Prop} (hgd : o.guard = none) (s x : Operand) (t : TypeId)
    (ho : o.op = .call { callee := .builtin .append, args := #[s, x], argTypes := #[t, t] }) (v xv : Value) (hs : a.eval s = v) (hx : a.eval x = xv) {v' : Value} {w' : World} (hr : (Builtin.append_ #[t, t] o.type #[v, xv]).run P w = .ok v' w')
    (h : wpList P ops Q rest (a.put o.dst v') w') : wpList P ops Q (o :: rest) a w :=
  wpList_plain hgd fun K hK => by
   unfold Oper.wp execOp
   simp only [ho, resolve, invoke, builtin, Sem.run_bind, Sem.run_pure, Result.andThen_ok, List.map_toArray, List.map_cons, List.map_nil, hs, hx, hr]
   exact hK _ _ h
theorem zero_words (k : Nat) : Builtin.zeroCells (Value.int .u64 0).cells k = warr (List.replicate k 0) := by
 have h : Builtin.zeroCells (Value.int .u64 0).cells k = madeCells #[.int .u64 0] k := by
  apply Array.ext
  ·simp [Builtin.zeroCells, size_madeCells, Value.cells]
  ·intro i h1 h2
   simp [Builtin.zeroCells, madeCells, Value.cells]
 rw [h, warr_made]
theorem warr_app (a b : List Nat) : warr a ++ warr b = warr (a ++ b) := by simp [warr]
theorem u64_info : (Tryz.prog.info? 118).map (fun i => (i.zero, i.size, i.bytes)) = some (some (.int .u64 0), 1, 8) := by kernel_rfl
theorem u64_size : (Tryz.prog.info? 118).map (·.size) = some 1 := by kernel_rfl
theorem vs_one (xs : List Nat) : ∀ u ∈ xs.map vs, u.oneCell' = true := fun u hu => by
 obtain ⟨x, _, rfl⟩ := List.mem_map.1 hu
 rfl
/-- A copy in a block of its own, with room behind. -/
def RetCl (xs : List Nat) (w : World) (e : Ending) (w' : World) : Prop := ∃ g ex : Nat, e = .returned (.slice (some ⟨g, 0, none⟩) xs.length (xs.length + ex)) ∧ Blk w' g 118 (warr (xs ++ List.replicate ex 0)) ∧ w.heap.size ≤ g ∧ xs.length + ex ≤ maxLen ∧ Below w.heap.size w w'
theorem wclone_any (X : Option Addr) (c : Nat) (xs : List Nat) (w : World) (hX : Sets w X xs) (h0 : 0 < xs.length) (hn : xs.length ≤ 1000000) :
    Calls Tryz.prog 84 #[.slice X xs.length c] w (RetCl xs w) := by
  obtain ⟨i0, hi0, hz0, hz1, hz2⟩ := info_parts u64_info
  obtain ⟨ad, rfl, _⟩ := Sets.at' hX h0
  have hnn : ∀ W : World, (binOp BinOp.eql 66 (.slice (some ad) xs.length c) (.slice none 0 0)).run Tryz.prog W = .ok (.bool false) W := fun W => Lib.run_eql_slice_nil W _ _ _ _ _ _ _ Tryz.underlying66
  have hal := Below.alloc (Below.refl w.heap.size w) (Nat.le_refl _) (.cells #[] 118)
  have hXa : Sl (w.alloc (.cells #[] 118)) (some ad) xs.length 1 (xs.map vs) := Sl.keep hX hal
  have hsrc : Src Tryz.prog i0.size 66 (.slice (some ad) xs.length c) xs.length (xs.map vs) (w.alloc (.cells #[] 118)) := by
   rw [hz1]; exact src_sl Tryz.underlying66 hXa (vs_one xs)
  have hr := run_append_grow_src (P := Tryz.prog) (w.alloc (.cells #[] 118)) 66 66 66 118 i0 (.int .u64 0) Tryz.underlying66 hi0 hz0 (some ⟨w.heap.size, 0, none⟩) 0 0 []
    (by rw [hz1]; exact run_firstCells_some _ 1 0 ⟨w.heap.size, 0, none⟩ 0 0 [] (by simp) (fun j x hx => by simp at hx)) _ xs.length (xs.map vs) hsrc (by omega) (by omega) (growslice_fits (by omega) (by rw [hz2]; omega))
  obtain ⟨cap, hcap⟩ : ∃ cap, grownCap (w.alloc (.cells #[] 118)) (0 + xs.length) 0 118 = cap := ⟨_, rfl⟩
  have hge := grownCap_ge (w.alloc (.cells #[] 118)) (0 + xs.length) 0 118
  have hcm : grownCap (w.alloc (.cells #[] 118)) (0 + xs.length) 0 118 ≤ maxLen := grownCap_le_maxLen _ (0 + xs.length) 0 118 (by simp only [maxLen]; omega)
  rw [hcap] at hr hge hcm
  have hsz : (w.alloc (.cells #[] 118)).heap.size = w.heap.size + 1 := by simp
  rw [hsz] at hr
  obtain ⟨W, hW⟩ : ∃ W, (w.alloc (.cells #[] 118)).drew.alloc (.cells (([] ++ xs.map vs).toArray ++ Builtin.zeroCells (Value.int IntKind.u64 0).cells (cap - (0 + xs.length))) 118) = W := ⟨_, rfl⟩
  rw [hW] at hr
  have hB : Blk W (w.heap.size + 1) 118 (warr (xs ++ List.replicate (cap - xs.length) 0)) := by
   rw [← hW, zero_words, List.nil_append, Nat.zero_add]
   have := Blk.new (w.alloc (.cells #[] 118)).drew 118 ((xs.map vs).toArray ++ warr (List.replicate (cap - xs.length) 0))
   rw [show (w.alloc (.cells #[] 118)).drew.heap.size = w.heap.size + 1 from hsz] at this
   rw [← warr_app]
   exact this
  have hbW : Below w.heap.size w W := by rw [← hW]; exact (hal.drew).alloc (by simp) _
  rw [Nat.zero_add] at hr hge
  have hRET : RetCl xs w (.returned (.slice (some ⟨w.heap.size + 1, 0, none⟩) xs.length cap)) W := ⟨w.heap.size + 1, cap - xs.length, by rw [show xs.length + (cap - xs.length) = cap by omega], hB, by omega, by omega, hbW⟩
  have HRET := Lib.hid hRET
  clear hRET hB hbW hW hsrc hXa hcap hge hcm hX
  go_enter Tryz.func84, Tryz.ntmps84
  go_upto_region 3 with (fail)
  refine wp_region_list ?_
  refine wpList_plain rfl (fun K hK => ?_)
  go_simp
  refine hK _ _ ?_
  clear hK K
  refine wpList_plain rfl (fun K hK => ?_)
  go_simp
  refine hK _ _ ?_
  clear hK K
  refine wpList_append_run _ rfl _ _ 66 rfl (.slice (some ⟨w.heap.size, 0, none⟩) 0 0) (.slice (some ad) xs.length c) rfl rfl hr ?_
  clear hr
  go_wp2
  go_ret
  exact HRET.out
end Go.Proofs.Tg.Iw
end
section
/- Walks: the program's words: the sum and the difference of two numbers (printed by wip/tools/mk_im6.py). -/
namespace Go.Proofs.Tg.Iw
open Go.RowKit Go.Bw Go.Gr Go.Proofs.Tg
set_option maxHeartbeats 4000000
set_option maxRecDepth 100000
theorem sets_blk {w : World} {g n : Nat} {xs : List Nat} (h : Blk w g 118 (warr xs)) (hl : xs.length = n) : Sl w (some ⟨g, 0, none⟩) n 1 (xs.map vs) :=
  ⟨by simp [hl], fun _ => ⟨_, rfl, h.lt, fun j u hu => by rw [add_lit, Nat.zero_add, h.cell j]; unfold warr; rw [List.getElem?_toArray]; exact hu⟩⟩
theorem sets_pre {w : World} {g n : Nat} {xs rs : List Nat} (h : Blk w g 118 (warr (xs ++ rs))) (hl : xs.length = n) : Sl w (some ⟨g, 0, none⟩) n 1 (xs.map vs) :=
  ⟨by simp [hl], fun _ => ⟨_, rfl, h.lt, fun j u hu => by
   rw [add_lit, Nat.zero_add, h.cell j]
   unfold warr
   rw [List.getElem?_toArray, List.map_append, List.getElem?_append_left (List.getElem?_eq_some_iff.1 hu).1]
   exact hu⟩⟩
theorem make_words (n : Nat) (hn : n ≤ 1000000) (w : World) : (Instr.makeSlice 66 (.int .i64 (n : Int)) (.int .i64 (n : Int))).run Tryz.prog w = .ok (.slice (some ⟨w.heap.size, 0, none⟩) n n) (w.alloc (.cells (madeCells #[.int .u64 0] n) 118)) := by
 obtain ⟨i0, hi, hz0, hz1, hz2⟩ := info_parts u64_info
 have hr := run_make (P := Tryz.prog) w 66 118 i0 (.int .u64 0) Tryz.underlying66 hi hz0 .i64 .i64 n n (by omega) (by omega) (by rw [hz2]; omega) (by omega)
 rw [hz1, Nat.mul_one, Int.toNat_natCast] at hr
 exact hr
/-- A number of words is returned. -/
def RetW (n : Nat) (w : World) (e : Ending) (w' : World) : Prop := ∃ R c, e = .returned (.slice R (dg n).length c) ∧ NW w' R c n ∧ Below w.heap.size w w'
theorem len_zero {n : Nat} (h : (dg n).length = 0) : n = 0 := by
 have := val_dg n
 rw [List.eq_nil_of_length_eq_zero h] at this
 exact this.symm
theorem val_lt_dg (n : Nat) : n < B ^ (dg n).length := by
 have := val_lt (dg_dig n)
 rwa [val_dg] at this
theorem val_zero_end (xs : List Nat) : val (xs ++ [0]) = val xs := by rw [val_app]; simp [val]
theorem copy_words {xs : List Nat} {n : Nat} (h : xs.length = n) (k : Nat) : ((warr (List.replicate (n + k) 0)).toList.take 0 ++ (xs.map vs ++ (warr (List.replicate (n + k) 0)).toList.drop (0 + (xs.map vs).length))).toArray = warr (xs ++ List.replicate k 0) := by
 simp [warr, h]
end Go.Proofs.Tg.Iw
end
section
/- Walks: the program's words: shifts by less than a word. -/
namespace Go.Bw
theorem shl_low {s c x : Nat} (hs : s < 64) (hc : c < 2 ^ s) : c ||| (x * 2 ^ s) % B = (x * 2 ^ s) % B + c ∧ (x * 2 ^ s) % B + c < B := by
 have hB := pow_split hs
 have h1 : (x * 2 ^ s) % B = (x % 2 ^ (64 - s)) * 2 ^ s := by rw [hB, Nat.mul_comm (2 ^ s), Nat.mul_mod_mul_right]
 rw [h1]
 have hx : x % 2 ^ (64 - s) < 2 ^ (64 - s) := Nat.mod_lt _ (Nat.pow_pos (by decide))
 generalize x % 2 ^ (64 - s) = y at *
 refine ⟨?_, ?_⟩
 ·rw [Nat.or_comm, Nat.mul_comm]
  exact (Nat.two_pow_add_eq_or_of_lt hc y).symm
 ·have h2 := Nat.mul_le_mul_right (2 ^ s) (show y + 1 ≤ 2 ^ (64 - s) from hx)
  rw [Nat.add_mul, Nat.one_mul, Nat.mul_comm (2 ^ (64 - s)), ← hB] at h2
  omega
theorem shl_high {s x : Nat} (hs : s < 64) (hx : x < B) : x / 2 ^ (64 - s) = x * 2 ^ s / B ∧ x * 2 ^ s / B < 2 ^ s := by
 have hB := pow_split hs
 have hp : 0 < 2 ^ s := Nat.pow_pos (by decide)
 have e : x * 2 ^ s / B = x / 2 ^ (64 - s) := by
  rw [hB, Nat.mul_comm (2 ^ s), Nat.mul_div_mul_right _ _ hp]
 refine ⟨e.symm, ?_⟩
 rw [e, Nat.div_lt_iff_lt_mul (Nat.pow_pos (by decide)), ← hB]
 exact hx
theorem lin_shl {Z P c V x d c' S : Nat} (hs : Z + P * c = V * S) (hd : d + B * c' = x * S + c) : Z + P * d + P * B * c' = (V + P * x) * S := by
 have h1 := congrArg (P * ·) hd
 simp only [Nat.mul_add] at h1
 rw [Nat.add_mul, Nat.mul_assoc P B, Nat.mul_assoc P x]
 omega
end Go.Bw
namespace Go.Proofs.Tg.Iw
open Go.RowKit Go.Bw Go.Gr Go.Proofs.Tg
set_option maxHeartbeats 4000000
set_option maxRecDepth 100000
structure ShL (w0 : World) (g s n : Nat) (xs : List Nat) (wr : World) (i c : Nat) (zs : List Nat) : Prop where
  len : zs.length = i
  dig : Dig zs
  lt : c < 2 ^ s
  eq : val zs + B ^ i * c = val (xs.take i) * 2 ^ s
  blk : Blk wr g 118 (warr (zs ++ (c :: List.replicate (n - i) 0)))
  below : Below w0.heap.size w0 wr
theorem ShL.next {w0 wr : World} {g s n i c d c' : Nat} {xs zs : List Nat} (h : ShL w0 g s n xs wr i c zs) (hi : i < n) (hx : i < xs.length) (hg : w0.heap.size ≤ g) (hd : d + B * c' = xs[i] * 2 ^ s + c) (hdB : d < B) (hc : c' < 2 ^ s) :
    ShL w0 g s n xs ((wr.setCell ⟨g, i, none⟩ (.int .u64 (d : Nat))).setCell ⟨g, i + 1, none⟩ (.int .u64 (c' : Nat))) (i + 1) c' (zs ++ [d]) := by
  have hb := (h.blk.set i (.int .u64 (d : Nat))).set (i + 1) (.int .u64 (c' : Nat))
  rw [warr_set, warr_set] at hb
  have e : ((zs ++ c :: List.replicate (n - i) 0).set i d).set (i + 1) c' = (zs ++ [d]) ++ c' :: List.replicate (n - (i + 1)) 0 := by
   obtain ⟨m, hm⟩ : ∃ m, n - i = m + 1 := ⟨n - i - 1, by omega⟩
   rw [hm, show n - (i + 1) = m by omega, List.replicate_succ]
   have hl := h.len
   clear hb hx hd hdB hc hm h hi
   subst hl
   simp
  rw [e] at hb
  refine ⟨by rw [List.length_append, h.len]; rfl, dig_snoc h.dig hdB, hc, ?_, hb, below_far (below_far h.below hg _ _) hg _ _⟩
  rw [val_snoc, h.len, val_snoc_take hx, pow_snoc]
  exact lin_shl h.eq hd
theorem shl_w (X : Option Addr) (cx a s : Nat) (w : World) (hX : NW w X cx a) (hs : s < 64) (hn : (dg a).length ≤ 500000) :
    Calls Tryz.prog 126 #[.slice X (dg a).length cx, .int .u64 (s : Nat)] w (RetW (a * 2 ^ s) w) := by
  obtain ⟨Q, hQ⟩ : ∃ Q, RetW (a * 2 ^ s) w = Q := ⟨_, rfl⟩
  have HX := Lib.hid hX
  by_cases h0 : (dg a).length = 0 ∨ s = 0
  ·have HRET : Hid (Q (.returned (.slice X (dg a).length cx)) w) := Lib.hid (by
    rw [← hQ]
    rcases h0 with h0 | h0
    ·have := len_zero h0
     subst this
     rw [Nat.zero_mul]
     exact ⟨X, cx, rfl, HX.out, Below.refl _ _⟩
    ·subst h0
     rw [Nat.pow_zero, Nat.mul_one]
     exact ⟨X, cx, rfl, HX.out, Below.refl _ _⟩)
   rw [hQ]
   clear hQ hX
   by_cases h1 : (dg a).length = 0
   ·have z1 : (((dg a).length : Int) == 0) = true := beq_iff_eq.2 (by omega)
    have z2 : ((dg a).length == 0) = true := beq_iff_eq.2 h1
    clear h0 h1
    generalize (dg a).length = la at *
    go_enter Tryz.func126, Tryz.ntmps126
    go_wp2
    exact HRET.out
   ·have hs0 : s = 0 := h0.resolve_left h1
    have z1 : (((dg a).length : Int) == 0) = false := beq_eq_false_iff_ne.2 (by omega)
    have z2 : ((dg a).length == 0) = false := beq_eq_false_iff_ne.2 h1
    have z3 : ((dg a).length = 0) = False := eq_false h1
    have y1 : ((s : Int) == 0) = true := beq_iff_eq.2 (by omega)
    have y2 : (s == 0) = true := beq_iff_eq.2 hs0
    clear h0 h1 hs0
    generalize (dg a).length = la at *
    go_enter Tryz.func126, Tryz.ntmps126
    go_wp2
    exact HRET.out
  ·have h1 : (dg a).length ≠ 0 := fun e => h0 (.inl e)
   have h2 : s ≠ 0 := fun e => h0 (.inr e)
   have z1 : (((dg a).length : Int) == 0) = false := beq_eq_false_iff_ne.2 (by omega)
   have z2 : ((dg a).length == 0) = false := beq_eq_false_iff_ne.2 h1
   have z3 : ((dg a).length = 0) = False := eq_false h1
   have y1 : ((s : Int) == 0) = false := beq_eq_false_iff_ne.2 (by omega)
   have y2 : (s == 0) = false := beq_eq_false_iff_ne.2 h2
   have y3 : (s = 0) = False := eq_false h2
   have s1 : (s : Int) / 64 = 0 := by omega
   have s2 : (s : Int) % 64 = (s : Int) := by omega
   have s3 : (s : Int).tdiv 64 = 0 := by rw [Int.tdiv_eq_ediv_of_nonneg (by omega)]; exact s1
   have s4 : (s : Int).tmod 64 = (s : Int) := by rw [Int.tmod_eq_emod_of_nonneg (by omega)]; exact s2
   have HRET : Hid (∀ zs w', zs.length = (dg a).length + 1 → Dig zs → val zs = a * 2 ^ s → Sets w' (some ⟨w.heap.size, 0, none⟩) zs → Below w.heap.size w w' → Calls Tryz.prog 88 #[.slice (some ⟨w.heap.size, 0, none⟩) ((dg a).length + 1) ((dg a).length + 1)] w' fun e w'' => Q e w'' ∧ ∃ v, e = .returned v) := Lib.hid (fun zs w' h1 h2 h3 h4 h5 => by
    have := trim_n (some ⟨w.heap.size, 0, none⟩) ((dg a).length + 1) zs w' h4 h2 (by omega) (by omega)
    rw [h1, h3] at this
    refine this.mono ?_
    rintro e w'' ⟨rfl, rfl, hN⟩
    exact ⟨by rw [← hQ]; exact ⟨_, _, rfl, hN, h5⟩, _, rfl⟩)
   have hmk := make_words ((dg a).length + 1) (by omega) w
   have hc1 : (((dg a).length + 1 : Nat) : Int) = ((dg a).length : Int) + 1 := by omega
   rw [hc1] at hmk
   have hwr : IntKind.i64.wrap (((dg a).length : Int) + 1) = ((dg a).length : Int) + 1 := IntWalk.i64_in _ (by omega)
   obtain ⟨W, hW⟩ : ∃ W, w.alloc (.cells (madeCells #[.int .u64 0] ((dg a).length + 1)) 118) = W := ⟨_, rfl⟩
   have H0 : Hid (ShL w w.heap.size s (dg a).length (dg a) W 0 0 []) := Lib.hid (by
    refine ⟨rfl, fun _ hx => absurd hx (by simp), Nat.pow_pos (by decide), by simp [val], ?_, ?_⟩
    ·rw [← hW, List.nil_append, Nat.sub_zero, ← List.replicate_succ, ← warr_made]; exact Blk.new _ _ _
    ·rw [← hW]; exact (Below.refl _ _).alloc (Nat.le_refl _) _)
   rw [hW] at hmk
   have HVA : Hid (val (dg a) = a) := Lib.hid (val_dg a)
   have HDA := Lib.hid (dg_dig a)
   have HWD := Lib.hid hX.wds
   rw [hQ]
   have HXL : Hid ((dg a).length = (dg a).length) := Lib.hid rfl
   obtain ⟨n, hnn⟩ : ∃ n, (dg a).length = n := ⟨_, rfl⟩
   have HNN := Lib.hid hnn
   rw [hnn] at hn h1 z1 z2 z3 HRET hmk hwr H0 ⊢
   clear hQ hX hc1 hW h0 h1 h2 hnn HXL HX
   generalize dg a = xs at *
   go_enter Tryz.func126, Tryz.ntmps126
   go_wp2
   clear hmk
   go_loopw [31] (fun s31 wr => ∃ (i c : Nat) (zs : List Nat), s31 = .int .i64 i ∧ i ≤ n ∧ Hid (ShL w w.heap.size s n xs wr i c zs)) (fun s31 _ => n - (intOf s31).toNat)
   case atStart => exact ⟨0, 0, [], rfl, Nat.zero_le _, H0⟩
   case round =>
    clear H0
    obtain ⟨wo, rfl⟩ : ∃ wo : World, wo = wr := ⟨_, rfl⟩
    obtain ⟨i, c, zs, rfl, hi, HS⟩ := hrel
    by_cases hin : i < n
    ·have hix : i < xs.length := by rw [HNN.out]; exact hin
     obtain ⟨ad, hX2, hcx⟩ := Sets.at' (Sl.keep HWD.out HS.out.below) hix
     subst hX2
     have hxB := HDA.out xs[i] (List.getElem_mem _)
     have c0 := HS.out.blk.cell i
     have f0 := HS.out.blk.frozen i
     have c1 := HS.out.blk.cell (i + 1)
     have f1 := HS.out.blk.frozen (i + 1)
     have e0 : (zs ++ (c :: List.replicate (n - i) 0))[i]? = some c := by
      rw [List.getElem?_append_right (by rw [HS.out.len]; omega), HS.out.len, Nat.sub_self]; rfl
     have e1 : (zs ++ (c :: List.replicate (n - i) 0))[i + 1]? = some 0 := by
      obtain ⟨m, hm⟩ : ∃ m, n - i = m + 1 := ⟨n - i - 1, by omega⟩
      rw [List.getElem?_append_right (by rw [HS.out.len]; omega), HS.out.len, Nat.add_sub_cancel_left, hm, List.replicate_succ]; rfl
     rw [warr_at e0] at c0
     rw [warr_at e1] at c1
     have hcs := HS.out.lt
     have HNX : Hid (∀ d c', d + B * c' = xs[i] * 2 ^ s + c → d < B → c' < 2 ^ s → ShL w w.heap.size s n xs ((wo.setCell ⟨w.heap.size, i, none⟩ (.int .u64 (d : Nat))).setCell ⟨w.heap.size, i + 1, none⟩ (.int .u64 (c' : Nat))) (i + 1) c' (zs ++ [d])) := Lib.hid (fun d c' a b c => HS.out.next hin hix (Nat.le_refl _) a b c)
     generalize xs[i] = x at *
     obtain ⟨g1, g2⟩ := shl_low (x := x) hs hcs
     obtain ⟨g3, g4⟩ := shl_high hs hxB
     obtain ⟨v, hv⟩ : ∃ v, x * 2 ^ s % B = v := ⟨_, rfl⟩
     obtain ⟨u, hu⟩ : ∃ u, x / 2 ^ (64 - s) = u := ⟨_, rfl⟩
     have hvB : v < B := by rw [← hv]; exact Nat.mod_lt _ (by decide)
     have W1 : IntKind.u64.wrap ((x : Int) * 2 ^ s) = (v : Int) := by
      have e : (x : Int) * 2 ^ s = ((x * 2 ^ s : Nat) : Int) := by simp
      rw [e, ← hv]
      exact Go.Proofs.Mul64.wrapM _
     have W2 : (x : Int) / 2 ^ (64 - s) = (u : Int) := by
      have e : (x : Int) / 2 ^ (64 - s) = ((x / 2 ^ (64 - s) : Nat) : Int) := by simp
      rw [e, hu]
     have hcB : c < 18446744073709551616 := Nat.lt_of_lt_of_le hcs (by
      have := Nat.pow_le_pow_right (show 0 < 2 by decide) (show s ≤ 64 by omega)
      exact this)
     obtain ⟨d, hd⟩ : ∃ d, v + c = d := ⟨_, rfl⟩
     rw [hv, hd] at g1 g2
     rw [hu] at g3
     have W3 : bits .or .u64 (c : Int) (v : Int) = (d : Int) := by rw [u64_or_nat c v hcB hvB, g1]
     have HY := Lib.hid (HNX.out d u (by
      have := Nat.div_add_mod (x * 2 ^ s) B
      rw [hv, ← g3] at this
      omega) g2 (by rw [g3]; exact g4))
     clear HNX g1 g2 g3 g4 hv hu hd hxB hcs hcB hvB e0 e1
     have q0 : (0 : Int) ≤ (i : Int) := by omega
     have q1 : (i : Int) < (n : Int) := by omega
     have q3 : ((i : Int)).toNat = i := by omega
     have q4 : (i : Int) < (n : Int) + 1 := by omega
     have q5 : (i : Int) + 1 < (n : Int) + 1 := by omega
     have q6 : ((i : Int) + 1).toNat = i + 1 := by omega
     have d1 : decide ((i : Int) < (n : Int)) = true := decide_eq_true q1
     have d2 : decide (i < n) = true := decide_eq_true hin
     have y4 : IntKind.i64.wrap ((i : Int) + 1) = (i : Int) + 1 := IntWalk.i64_in _ (by omega)
     go_wp2
     go_roundw
     case rel => exact ⟨i + 1, u, _, by go_num, by omega, HY⟩
     case measure => simp [intOf]; omega
    ·obtain rfl : i = n := by omega
     have d1 : decide ((i : Int) < (i : Int)) = false := by simp
     have HT : Hid (Calls Tryz.prog 88 #[.slice (some ⟨w.heap.size, 0, none⟩) (i + 1) (i + 1)] wo fun e w'' => Q e w'' ∧ ∃ v, e = .returned v) := Lib.hid (by
      have h := HS.out
      have hcB : c < B := Nat.lt_of_lt_of_le h.lt (Nat.pow_le_pow_right (show 0 < 2 by decide) (show s ≤ 64 by omega))
      have hb := h.blk
      rw [Nat.sub_self, List.replicate_zero] at hb
      refine HRET.out (zs ++ [c]) wo (by rw [List.length_append, h.len]; rfl) (dig_snoc h.dig hcB) ?_ (sets_blk hb rfl) h.below
      rw [val_snoc, h.len, h.eq, take_all (by rw [HNN.out]; omega), HVA.out])
     clear HS HRET
     go_wp2_with (go_at_call 88; refine HT.out.mono ?_; rintro e w4 ⟨hq4, v4, rfl⟩; have HQ4 := Lib.hid hq4; clear hq4)
     exact HQ4.out
end Go.Proofs.Tg.Iw
end
