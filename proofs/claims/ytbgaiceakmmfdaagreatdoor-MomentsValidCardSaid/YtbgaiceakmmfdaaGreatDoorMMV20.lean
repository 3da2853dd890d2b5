/- Parts of the proof: IM13, IL2. -/
import Derived.Test.YtbgaiceakmmfdaaGreatDoorMMV14
import Derived.Test.YtbgaiceakmmfdaaGreatDoorMMV19
section
/- Walks: the program's words: the division of two numbers that are not both long. -/
namespace Go.Proofs.Tg.Iw
open Go.RowKit Go.Bw Go.Gr Go.Proofs.Tg
set_option maxHeartbeats 4000000
set_option maxRecDepth 100000
theorem divs_any (X Y : Option Addr) (cx cy a b : Nat) (w : World) (hX : NW w X cx a) (hY : NW w Y cy b) (hn : (dg a).length ≤ 400000) (hb : b ≠ 0) :
    Calls Tryz.prog 111 #[.slice X (dg a).length cx, .slice Y (dg b).length cy] w (RetDiv a b w) := by
  by_cases h : a < b
  ·exact div_small X Y cx cy a b w hX hY hn h
  ·by_cases h1 : (dg b).length = 1
   ·exact div_one X Y cx cy a b w hX hY hn (by omega) h1
   ·refine div_long X Y cx cy a b w hX hY hn (by omega) ?_
    have : (dg b).length ≠ 0 := fun e => hb (len_zero e)
    omega
theorem divw_any (X Y : Option Addr) (cx cy a b : Nat) (w : World) (hX : NW w X cx a) (hY : NW w Y cy b) (hn : (dg a).length ≤ 400000) (hnb : (dg b).length ≤ 400000) (hb : b ≠ 0) (hs : (dg b).length < 80 ∨ (dg a).length < (dg b).length + 80) :
    Calls Tryz.prog 86 #[.slice X (dg a).length cx, .slice Y (dg b).length cy] w (RetDiv a b w) := by
  have hD := divs_any X Y cx cy a b w hX hY hn hb
  have HD : Hid (Calls Tryz.prog 111 #[.slice X (dg a).length cx, .slice Y (dg b).length cy] w fun e w' => ∃ v1 v2, e = .returned (.tuple #[v1, v2]) ∧ RetDiv a b w (.returned (.tuple #[v1, v2])) w') := Lib.hid (hD.mono fun e w' h => by
   obtain ⟨Q, cq, R, cr, rfl, h2⟩ := h
   exact ⟨_, _, rfl, Q, cq, R, cr, rfl, h2⟩)
  obtain ⟨P, hP⟩ : ∃ P, RetDiv a b w = P := ⟨_, rfl⟩
  obtain ⟨la, hla⟩ : ∃ la, (dg a).length = la := ⟨_, rfl⟩
  obtain ⟨lb, hlb2⟩ : ∃ lb, (dg b).length = lb := ⟨_, rfl⟩
  rw [hla, hlb2] at HD ⊢
  rw [hla] at hn
  rw [hla, hlb2] at hs
  rw [hP] at HD ⊢
  rw [hlb2] at hnb
  clear hD hX hY hla hlb2 hP
  by_cases h80 : 80 ≤ lb
  ·have d1 : decide ((80 : Int) ≤ (lb : Int)) = true := decide_eq_true (by omega)
   have d2 : decide (80 ≤ lb) = true := decide_eq_true h80
   have w1 : IntKind.i64.wrap ((la : Int) - (lb : Int)) = (la : Int) - (lb : Int) := IntWalk.i64_in _ (by omega)
   have d3 : decide ((80 : Int) ≤ (la : Int) - (lb : Int)) = false := decide_eq_false (by omega)
   go_enter Tryz.func86, Tryz.ntmps86
   go_wp2_with (go_at_call 111; refine HD.out.mono ?_; rintro e w1 ⟨v1, v2, rfl, h1⟩; have H1 := Lib.hid h1; clear h1)
   exact H1.out
  ·have d1 : decide ((80 : Int) ≤ (lb : Int)) = false := decide_eq_false (by omega)
   have d2 : decide (80 ≤ lb) = false := decide_eq_false h80
   go_enter Tryz.func86, Tryz.ntmps86
   go_wp2_with (go_at_call 111; refine HD.out.mono ?_; rintro e w1 ⟨v1, v2, rfl, h1⟩; have H1 := Lib.hid h1; clear h1)
   exact H1.out
end Go.Proofs.Tg.Iw
end
section
/- Walks: the program's words: several steps of the Euclidean algorithm, found from the first words (simulate). -/
namespace Go.Bw
theorem word_or {k s t : Nat} (hk : k < 64) (hs : s < B) (ht : t * 2 ^ k < B) : s / 2 ^ (64 - k) < 2 ^ k ∧ t * 2 ^ k ||| s / 2 ^ (64 - k) = t * 2 ^ k + s / 2 ^ (64 - k) ∧ t * 2 ^ k + s / 2 ^ (64 - k) < B := by
 have hB : B = 2 ^ k * 2 ^ (64 - k) := pow_split hk
 have h1 : s / 2 ^ (64 - k) < 2 ^ k := by
  rw [Nat.div_lt_iff_lt_mul (Nat.pow_pos (by decide)), ← hB]; exact hs
 refine ⟨h1, ?_, ?_⟩
 ·rw [Nat.mul_comm]; exact (Nat.two_pow_add_eq_or_of_lt h1 t).symm
 ·rw [hB] at ht ⊢
  rw [Nat.mul_comm t] at ht ⊢
  have h2 := Nat.lt_of_mul_lt_mul_left ht
  have h3 := Nat.mul_le_mul_left (2 ^ k) (show t + 1 ≤ 2 ^ (64 - k) from h2)
  rw [Nat.mul_add, Nat.mul_one] at h3
  omega
theorem first_two {x s t k n : Nat} {lo : List Nat} (hx : dg x = lo ++ [s, t]) (hl : lo.length = n - 2) (hk : k < 64) : x / (B ^ (n - 2) * 2 ^ (64 - k)) = t * 2 ^ k + s / 2 ^ (64 - k) := by
 have hv := val_dg x
 have hd : Dig lo := fun z hz => dg_dig x z (by rw [hx]; simp [hz])
 rw [hx, val_two hl] at hv
 have hlo := val_lt hd
 rw [hl] at hlo
 have hp : 0 < B ^ (n - 2) := Nat.pow_pos (by decide)
 rw [← Nat.div_div_eq_div_mul, ← hv, Nat.mul_comm (t * B + s), Nat.add_mul_div_left _ _ hp, Nat.div_eq_of_lt hlo, Nat.zero_add]
 have e : t * B + s = s + 2 ^ (64 - k) * (t * 2 ^ k) := by
  rw [pow_split hk, ← Nat.mul_assoc, Nat.mul_comm (t * 2 ^ k)]; omega
 rw [e, Nat.add_mul_div_left _ _ (Nat.pow_pos (by decide))]
 omega
theorem first_one {x s k n : Nat} {lo : List Nat} (hx : dg x = lo ++ [s]) (hl : lo.length = n - 2) : x / (B ^ (n - 2) * 2 ^ (64 - k)) = s / 2 ^ (64 - k) := by
 have hv := val_dg x
 have hd : Dig lo := fun z hz => dg_dig x z (by rw [hx]; simp [hz])
 rw [hx, val_snoc, hl] at hv
 have hlo := val_lt hd
 rw [hl] at hlo
 have hp : 0 < B ^ (n - 2) := Nat.pow_pos (by decide)
 rw [← Nat.div_div_eq_div_mul, ← hv, Nat.add_mul_div_left _ _ hp, Nat.div_eq_of_lt hlo, Nat.zero_add]
theorem first_none {x k n : Nat} (hx : (dg x).length ≤ n - 2) : x / (B ^ (n - 2) * 2 ^ (64 - k)) = 0 := by
 refine Nat.div_eq_of_lt ?_
 have h1 := val_lt (dg_dig x)
 rw [val_dg] at h1
 have h2 : B ^ (dg x).length ≤ B ^ (n - 2) := Nat.pow_le_pow_right (by decide) hx
 have h3 : B ^ (n - 2) * 1 ≤ B ^ (n - 2) * 2 ^ (64 - k) := Nat.mul_le_mul_left _ (Nat.pow_pos (by decide))
 omega
theorem two_tops {x n : Nat} (hl : (dg x).length = n) (hn : 2 ≤ n) : ∃ lo s t, dg x = lo ++ [s, t] ∧ lo.length = n - 2 ∧ s < B ∧ t < B ∧ t ≠ 0 := by
 have h0 : x ≠ 0 := fun e => by rw [e, dg_zero] at hl; simp at hl; omega
 obtain ⟨lo, t, h1, h2, h3⟩ := top_digit h0
 have hll : lo.length = n - 1 := by
  have := congrArg List.length h1
  rw [hl] at this
  simp at this
  omega
 have hne : lo ≠ [] := fun e => by rw [e] at hll; simp at hll; omega
 refine ⟨lo.dropLast, lo.getLast hne, t, ?_, by rw [List.length_dropLast]; omega, ?_, h3, h2⟩
 ·rw [h1]
  conv => lhs; rw [← List.dropLast_concat_getLast hne]
  simp
 ·exact dg_dig x _ (by rw [h1]; exact List.mem_append_left _ (List.getLast_mem hne))
end Go.Bw
namespace Go.Proofs.Tg.Iw
open Go.RowKit Go.Bw Go.Gr Go.Proofs.Tg
set_option maxHeartbeats 8000000
set_option maxRecDepth 100000
/-- The cells of the found steps. -/
def stp (u0 u1 v0 v1 : Nat) (odd : Bool) : Array Value := #[.int .u64 (u0 : Nat), .int .u64 (u1 : Nat), .int .u64 (v0 : Nat), .int .u64 (v1 : Nat), .bool odd]
theorem stp_cells {w : World} {g u0 u1 v0 v1 : Nat} {odd : Bool} {t : TypeId} (h : Blk w g t (stp u0 u1 v0 v1 odd)) :
    w.cell? ⟨g, 0, none⟩ = some (.int .u64 (u0 : Nat)) ∧ w.cell? ⟨g, 1, none⟩ = some (.int .u64 (u1 : Nat)) ∧ w.cell? ⟨g, 2, none⟩ = some (.int .u64 (v0 : Nat)) ∧ w.cell? ⟨g, 3, none⟩ = some (.int .u64 (v1 : Nat)) ∧ w.cell? ⟨g, 4, none⟩ = some (.bool odd) ∧
    w.frozen? ⟨g, 0, none⟩ = false ∧ w.frozen? ⟨g, 1, none⟩ = false ∧ w.frozen? ⟨g, 2, none⟩ = false ∧ w.frozen? ⟨g, 3, none⟩ = false ∧ w.frozen? ⟨g, 4, none⟩ = false :=
  ⟨h.cell 0, h.cell 1, h.cell 2, h.cell 3, h.cell 4, h.frozen 0, h.frozen 1, h.frozen 2, h.frozen 3, h.frozen 4⟩
def RetSim (a b : Nat) (w : World) (e : Ending) (w' : World) : Prop := ∃ (u0 u1 v0 v1 : Nat) (odd : Bool), e = .returned (.agg #[.int .u64 (u0 : Nat), .int .u64 (u1 : Nat), .int .u64 (v0 : Nat), .int .u64 (v1 : Nat), .bool odd]) ∧ u0 < B ∧ u1 < B ∧ v0 < B ∧ v1 < B ∧ (v0 ≠ 0 → ∃ P R, LmRet a b u0 u1 v0 v1 odd P R) ∧ Below w.heap.size w w'
/-- What the loop of simulate holds. -/
structure SiM (w : World) (gr gs a b A C : Nat) (wr : World) (f g u2 v2 : Nat) : Prop where
  ex : ∃ u0 u1 v0 v1 odd, LmSt a b A C f g u0 u1 u2 v0 v1 v2 odd ∧ Blk wr gs 133 (stp u0 u1 v0 v1 odd) ∧ u0 < B ∧ u1 < B ∧ v0 < B ∧ v1 < B
  br : Blk wr gr 133 (stp 0 0 0 0 false)
  below : Below w.heap.size w wr
theorem sim_any (X Y : Option Addr) (cx cy a b : Nat) (w : World) (hX : NW w X cx a) (hY : NW w Y cy b) (hn : (dg a).length ≤ 400000) (hab : b ≤ a) (hb2 : 2 ≤ (dg b).length) :
    Calls Tryz.prog 85 #[.slice X (dg a).length cx, .slice Y (dg b).length cy] w (RetSim a b w) := by
  have hlen := Go.Bw.dg_len_mono hab
  obtain ⟨n, hnn⟩ : ∃ n, (dg a).length = n := ⟨_, rfl⟩
  obtain ⟨lo, s, t, hlo, hll, hsB, htB, ht0⟩ := two_tops hnn (by omega)
  obtain ⟨k1, k2, k3⟩ := lz_spec ht0 htB
  obtain ⟨k, hk⟩ : ∃ k, 64 - Lib.bitLen t = k := ⟨_, rfl⟩
  have HLZ := Lib.hid (lz64 t k htB hk (blen64 ht0 htB).2.1)
  rw [hk] at k1 k2 k3
  clear hk
  obtain ⟨D, hD⟩ : ∃ D, B ^ (n - 2) * 2 ^ (64 - k) = D := ⟨_, rfl⟩
  have hD0 : 0 < D := by rw [← hD]; exact Nat.mul_pos (Nat.pow_pos (by decide)) (Nat.pow_pos (by decide))
  have hA := first_two hlo hll k1
  rw [hD] at hA
  obtain ⟨o1, o2, o3⟩ := word_or k1 hsB k2
  rw [← hA] at o2 o3
  obtain ⟨A, hAA⟩ : ∃ A, a / D = A := ⟨_, rfl⟩
  obtain ⟨C, hCC⟩ : ∃ C, b / D = C := ⟨_, rfl⟩
  rw [hAA] at o2 o3
  have hCA : C ≤ A := by rw [← hAA, ← hCC]; exact Nat.div_le_div_right hab
  have hCB : C < B := Nat.lt_of_le_of_lt hCA o3
  have hda : a = A * D + a % D := by rw [← hAA, Nat.mul_comm]; exact (Nat.div_add_mod _ _).symm
  have hdb : b = C * D + b % D := by rw [← hCC, Nat.mul_comm]; exact (Nat.div_add_mod _ _).symm
  have HNX : Hid (∀ f g u0 u1 u2 v0 v1 v2 odd, LmSt a b A C f g u0 u1 u2 v0 v1 v2 odd → v2 ≤ g → v1 + v2 ≤ f - g → LmSt a b A C g (f % g) u1 u2 (u1 + f / g * u2) v1 v2 (v1 + f / g * v2) (!odd)) := Lib.hid (fun f g u0 u1 u2 v0 v1 v2 odd h1 h2 h3 => h1.next hda hdb (Nat.mod_lt _ hD0) (Nat.mod_lt _ hD0) hab h2 h3)
  -- the words of a
  obtain ⟨ad, hXd, hxc⟩ : ∃ ad, X = some ad ∧ ∀ V, Below w.heap.size w V → V.cell? (ad.add (n - 1)) = some (.int .u64 (t : Nat)) ∧ V.cell? (ad.add (n - 2)) = some (.int .u64 (s : Nat)) := by
   obtain ⟨ad, e, _, hc⟩ := Sl.lies hX.wds (by omega)
   refine ⟨ad, e, fun V hV => ⟨keep_cell hV (hc _ _ ?_), keep_cell hV (hc _ _ ?_)⟩⟩
   ·rw [hlo, List.getElem?_map, List.getElem?_append_right (by omega), hll, show n - 1 - (n - 2) = 1 by omega]; rfl
   ·rw [hlo, List.getElem?_map, List.getElem?_append_right (by omega), hll, Nat.sub_self]; rfl
  subst hXd
  have HXC := Lib.hid hxc
  obtain ⟨nb, hnb⟩ : ∃ nb, (dg b).length = nb := ⟨_, rfl⟩
  -- the words of b: three cases
  have HYC : Hid (∃ yd, Y = some yd ∧ ((nb = n ∧ ∃ y0 y1, C = y1 * 2 ^ k + y0 / 2 ^ (64 - k) ∧ y1 * 2 ^ k < B ∧ y0 < B ∧ ∀ V, Below w.heap.size w V → V.cell? (yd.add (n - 1)) = some (.int .u64 (y1 : Nat)) ∧ V.cell? (yd.add (n - 2)) = some (.int .u64 (y0 : Nat))) ∨
      (nb + 1 = n ∧ ∃ y0, C = y0 / 2 ^ (64 - k) ∧ y0 < B ∧ ∀ V, Below w.heap.size w V → V.cell? (yd.add (n - 2)) = some (.int .u64 (y0 : Nat))) ∨ (nb + 1 < n ∧ C = 0))) := Lib.hid (by
    obtain ⟨yd, e, _, hc⟩ := Sl.lies hY.wds (by omega)
    refine ⟨yd, e, ?_⟩
    rcases Nat.lt_trichotomy (nb + 1) n with h | h | h
    ·exact .inr (.inr ⟨h, by rw [← hCC, ← hD]; exact first_none (by omega)⟩)
    ·right; left
     have hb0 : b ≠ 0 := fun e => by rw [e, dg_zero] at hb2; simp at hb2
     obtain ⟨l2, y0, e1, _, e3⟩ := top_digit hb0
     have hl2 : l2.length = n - 2 := by
      have := congrArg List.length e1
      rw [hnb] at this
      simp at this
      omega
     refine ⟨h, y0, ?_, e3, fun V hV => keep_cell hV (hc _ _ ?_)⟩
     ·rw [← hCC, ← hD]; exact first_one e1 hl2
     ·rw [e1, List.getElem?_map, List.getElem?_append_right (by omega), hl2, Nat.sub_self]; rfl
    ·left
     have hbn : nb = n := by omega
     obtain ⟨l2, y0, y1, e1, e2, e3, e4, _⟩ := two_tops (hnb.trans hbn) (by omega)
     have hc2 := first_two (k := k) e1 e2 k1
     rw [hD, hCC] at hc2
     refine ⟨hbn, y0, y1, hc2, Nat.lt_of_le_of_lt (by rw [hc2]; exact Nat.le_add_right _ _) hCB, e3, fun V hV => ⟨keep_cell hV (hc _ _ ?_), keep_cell hV (hc _ _ ?_)⟩⟩
     ·rw [e1, List.getElem?_map, List.getElem?_append_right (by omega), e2, show n - 1 - (n - 2) = 1 by omega]; rfl
     ·rw [e1, List.getElem?_map, List.getElem?_append_right (by omega), e2, Nat.sub_self]; rfl)
  have HST0 := Lib.hid (LmSt.start (a := a) (b := b) hCA)
  obtain ⟨Q, hQ⟩ : ∃ Q, RetSim a b w = Q := ⟨_, rfl⟩
  have HRET : Hid (∀ wz f g u2 v2 u0 u1 v0 v1 odd, LmSt a b A C f g u0 u1 u2 v0 v1 v2 odd → u0 < B → u1 < B → v0 < B → v1 < B → Below w.heap.size w wz → Q (.returned (.agg #[.int .u64 (u0 : Nat), .int .u64 (u1 : Nat), .int .u64 (v0 : Nat), .int .u64 (v1 : Nat), .bool odd])) wz) := Lib.hid (fun wz f g u2 v2 u0 u1 v0 v1 odd h1 h2 h3 h4 h5 h6 => by
   rw [← hQ]
   exact ⟨u0, u1, v0, v1, odd, rfl, h2, h3, h4, h5, h1.ret, h6⟩)
  rw [hQ, hnn, hnb]
  rw [hnn] at hn
  clear hQ hxc hda hdb hX hY hlo hll hA hAA hCC hD hD0 hab hnn hlen
  obtain ⟨ls, hls⟩ : ∃ x, s / 2 ^ (64 - k) = x := ⟨_, rfl⟩
  obtain ⟨ts, hts⟩ : ∃ x, t * 2 ^ k = x := ⟨_, rfl⟩
  rw [hls] at o1 o2
  rw [hts] at o2 k2
  have hlsB : ls < 18446744073709551616 := Nat.lt_of_le_of_lt (by rw [← hls]; exact Nat.div_le_self _ _) hsB
  have hn2 : 2 ≤ n := by
   rcases HYC.out with ⟨_, _, ⟨h, _⟩ | ⟨h, _⟩ | ⟨h, _⟩⟩ <;> omega
  have W1 : IntKind.u64.wrap ((t : Int) * 2 ^ k) = (ts : Int) := by
   have e : (t : Int) * 2 ^ k = ((t * 2 ^ k : Nat) : Int) := by simp
   rw [e, hts]; exact Go.Proofs.Mul64.wrapN _ k2
  have W2 : (s : Int) / 2 ^ (64 - k) = (ls : Int) := by
   have e : (s : Int) / 2 ^ (64 - k) = ((s / 2 ^ (64 - k) : Nat) : Int) := by simp
   rw [e, hls]
  have W3 : bits .or .u64 (ts : Int) (ls : Int) = (A : Int) := by rw [u64_or_nat ts ls k2 hlsB, o2]
  obtain ⟨n1, hn1⟩ : ∃ n1, n - 1 = n1 := ⟨_, rfl⟩
  obtain ⟨n2, hn2'⟩ : ∃ n2, n - 2 = n2 := ⟨_, rfl⟩
  rw [hn1, hn2'] at HXC HYC
  have x1 : (n : Int) - 1 = (n1 : Int) := by omega
  have x2 : (n : Int) - 2 = (n2 : Int) := by omega
  have x3 : IntKind.i64.wrap ((n : Int) - 1) = (n1 : Int) := (IntWalk.i64_in _ (by omega)).trans x1
  have x4 : IntKind.i64.wrap ((n : Int) - 2) = (n2 : Int) := (IntWalk.i64_in _ (by omega)).trans x2
  have x5 : IntKind.i64.wrap (n1 : Int) = (n1 : Int) := IntWalk.i64_in _ (by omega)
  have x6 : IntKind.i64.wrap (n2 : Int) = (n2 : Int) := IntWalk.i64_in _ (by omega)
  have p1 : (0 : Int) ≤ (n1 : Int) := by omega
  have p2 : (0 : Int) ≤ (n2 : Int) := by omega
  have t1 : ((n1 : Int)).toNat = n1 := by omega
  have t2 : ((n2 : Int)).toNat = n2 := by omega
  have l1 : (n1 : Int) < (n : Int) := by omega
  have l2 : (n2 : Int) < (n : Int) := by omega
  have k4 : IntKind.u64.wrap (k : Int) = (k : Int) := Go.Proofs.Mul64.wrapN _ (by omega)
  have hABl : A < 18446744073709551616 := o3
  have hCBl : C < 18446744073709551616 := hCB
  clear hls hts hsB htB ht0 o1 o2 o3 k2 k3 hlsB
  go_enter Tryz.func85, Tryz.ntmps85
  go_upto_region 2 with (fail)
  obtain ⟨W0, hW0⟩ : ∃ W, w.alloc (.cells #[.int .u64 0, .int .u64 0, .int .u64 0, .int .u64 0, .bool false] 133) = W := ⟨_, rfl⟩
  have hBR0 : Blk W0 w.heap.size 133 (stp 0 0 0 0 false) := by rw [← hW0]; exact Blk.new w 133 (stp 0 0 0 0 false)
  have hb0 : Below w.heap.size w W0 := by rw [← hW0]; exact (Below.refl _ _).alloc (Nat.le_refl _) _
  rw [hW0]
  clear hW0
  obtain ⟨xc1, xc2⟩ := HXC.out W0 hb0
  go_upto_region 3 with (go_at_call 109; refine (HLZ.out _).mono ?_; rintro e w2 ⟨rfl, rfl⟩)
  go_quiet (fail)
  have hb1 : Below w.heap.size w (W0.drewN nq) := below_drewN hb0 _
  have hBR1 : Blk (W0.drewN nq) w.heap.size 133 (stp 0 0 0 0 false) := hBR0.keep (below_drewN (Below.refl _ _) _) hBR0.lt
  clear xc1 xc2 hb0 hBR0 W1 W2 W3 HXC
  generalize W0.drewN nq = W1 at *
  have HB1 := Lib.hid hb1
  have HBR1 := Lib.hid hBR1
  clear hBR1
  go_upto_block 0 with (fail)
  go_cut [8] from 40 (fun s8 wx => s8 = .int .u64 (C : Nat) ∧ Below W1.heap.size W1 wx)
  case first =>
   clear HNX HST0 HRET HBR1
   obtain ⟨yd, hY, hcs⟩ := HYC.out
   subst hY
   rcases hcs with ⟨rfl, y0, y1, hC, hy1, hy0, hyc⟩ | ⟨hnb1, y0, hC, hy0, hyc⟩ | ⟨hnb1, hC⟩
   ·obtain ⟨o1, o2, o3⟩ := word_or k1 hy0 hy1
    obtain ⟨yc1, yc2⟩ := hyc W1 HB1.out
    obtain ⟨ls, hls⟩ : ∃ x, y0 / 2 ^ (64 - k) = x := ⟨_, rfl⟩
    obtain ⟨ts, hts⟩ : ∃ x, y1 * 2 ^ k = x := ⟨_, rfl⟩
    rw [hls, hts] at o2
    rw [hts] at hy1
    have hlsB : ls < 18446744073709551616 := Nat.lt_of_le_of_lt (by rw [← hls]; exact Nat.div_le_self _ _) hy0
    have W1' : IntKind.u64.wrap ((y1 : Int) * 2 ^ k) = (ts : Int) := by
     have e : (y1 : Int) * 2 ^ k = ((y1 * 2 ^ k : Nat) : Int) := by simp
     rw [e, hts]; exact Go.Proofs.Mul64.wrapN _ hy1
    have W2' : (y0 : Int) / 2 ^ (64 - k) = (ls : Int) := by
     have e : (y0 : Int) / 2 ^ (64 - k) = ((y0 / 2 ^ (64 - k) : Nat) : Int) := by simp
     rw [e, hls]
    have W3' : bits .or .u64 (ts : Int) (ls : Int) = (C : Int) := by rw [u64_or_nat ts ls hy1 hlsB, o2, hC, hls, hts]
    have b1 : ((nb : Int) == (nb : Int)) = true := by simp
    clear hC hls hts o1 o2 o3 hyc HYC
    go_wp2
    go_quiet (fail)
    go_wp2
    go_meet
    exact ⟨rfl, below_drewN (Below.refl _ _) _⟩
   ·have yc2 := hyc W1 HB1.out
    have W2' : (y0 : Int) / 2 ^ (64 - k) = (C : Int) := by
     have e : (y0 : Int) / 2 ^ (64 - k) = ((y0 / 2 ^ (64 - k) : Nat) : Int) := by simp
     rw [e, hC]
    have b1 : ((nb : Int) == (n : Int)) = false := beq_eq_false_iff_ne.2 (by omega)
    have b1' : (nb == n) = false := beq_eq_false_iff_ne.2 (by omega)
    have b1n : (nb = n) = False := eq_false (by omega)
    have b1m : (n = nb) = False := eq_false (by omega)
    have hb21 : nb = n1 := by omega
    have b2 : ((nb : Int) == (n1 : Int)) = true := beq_iff_eq.2 (by omega)
    have b2' : (nb == n1) = true := beq_iff_eq.2 hb21
    have l3 : (n2 : Int) < (nb : Int) := by omega
    clear hC hyc HYC hb21
    go_wp2
    go_meet
    exact ⟨rfl, Below.refl _ _⟩
   ·have b1 : ((nb : Int) == (n : Int)) = false := beq_eq_false_iff_ne.2 (by omega)
    have b1' : (nb == n) = false := beq_eq_false_iff_ne.2 (by omega)
    have b1n : (nb = n) = False := eq_false (by omega)
    have b2 : ((nb : Int) == (n1 : Int)) = false := beq_eq_false_iff_ne.2 (by omega)
    have b2' : (nb == n1) = false := beq_eq_false_iff_ne.2 (by omega)
    have b2n : (nb = n1) = False := eq_false (by omega)
    subst hC
    clear HYC
    go_wp2
    go_meet
    exact ⟨rfl, Below.refl _ _⟩
  case rest =>
   obtain ⟨rfl, hbc⟩ := hcut
   have hbc0 := HBR1.out.keep hbc HBR1.out.lt
   have hbw := below_all HB1.out hbc
   have hwc := hbw.size
   have HBRc := Lib.hid hbc0
   have HBWc := Lib.hid hbw
   clear hbc HBR1 HB1 hb1 HYC hbc0 hbw x1 x2 x3 x4 x5 x6 p1 p2 t1 t2 l1 l2
   obtain ⟨gs, hgs⟩ : ∃ g, wc.heap.size = g := ⟨_, rfl⟩
   obtain ⟨gr, hgr⟩ : ∃ g, w.heap.size = g := ⟨_, rfl⟩
   have hrs : gr < gs := by have := HBRc.out.lt; omega
   go_upto_region 12 with (fail)
   have HS0 : Hid (SiM w gr gs a b A C (wc.alloc (.cells #[.int .u64 0, .int .u64 1, .int .u64 0, .int .u64 0, .bool false] 133)) A C 0 1) := Lib.hid (by
    have hB := Blk.new wc 133 (stp 0 1 0 0 false)
    rw [hgs] at hB
    have hr := HBRc.out.alloc (.cells (stp 0 1 0 0 false) 133)
    rw [hgr] at hr
    exact ⟨⟨0, 1, 0, 0, false, HST0.out, hB, by decide, by decide, by decide, by decide⟩, hr, HBWc.out.alloc hwc (.cells (stp 0 1 0 0 false) 133)⟩)
   try rw [hgs]
   generalize wc.alloc (.cells #[.int .u64 0, .int .u64 1, .int .u64 0, .int .u64 0, .bool false] 133) = W5 at *
   try rw [hgr]
   clear HST0 HBRc HBWc
   go_wp2
   go_loopw [7, 8, 10, 11] (fun s7 s8 s10 s11 wr => ∃ f g u2 v2 : Nat, s7 = .int .u64 (f : Nat) ∧ s8 = .int .u64 (g : Nat) ∧ s10 = .int .u64 (u2 : Nat) ∧ s11 = .int .u64 (v2 : Nat) ∧ f ≤ A ∧ g ≤ f ∧ Hid (SiM w gr gs a b A C wr f g u2 v2)) (fun _ s8 _ _ _ => (intOf s8).toNat)
   case atStart => exact ⟨A, C, 0, 1, rfl, rfl, rfl, rfl, Nat.le_refl _, hCA, HS0⟩
   case round =>
    clear HS0
    obtain ⟨wo, rfl⟩ : ∃ wo : World, wo = wr := ⟨_, rfl⟩
    obtain ⟨f, g, u2, v2, rfl, rfl, rfl, rfl, hfA, hgf, HS⟩ := hrel
    obtain ⟨u0, u1, v0, v1, odd, hL, hBs, b0, b1, b2, b3⟩ := HS.out.ex
    obtain ⟨c0, c1, c2, c3, c4, f0, f1, f2, f3, f4⟩ := stp_cells hBs
    have HL := Lib.hid hL
    have HBs := Lib.hid hBs
    have HBr := Lib.hid HS.out.br
    have HBw := Lib.hid HS.out.below
    have HRET2 : Hid (∀ wz, Below w.heap.size w wz → Q (.returned (.agg #[.int .u64 (u0 : Nat), .int .u64 (u1 : Nat), .int .u64 (v0 : Nat), .int .u64 (v1 : Nat), .bool odd])) wz) := Lib.hid (fun wz h => HRET.out wz f g u2 v2 u0 u1 v0 v1 odd hL b0 b1 b2 b3 h)
    have hrest : ∀ (x : Nat) (V : World), Blk V gr 133 (stp 0 0 0 0 false) → True := fun _ _ _ => trivial
    clear hrest hL hBs
    by_cases hvg : v2 ≤ g
    ·obtain ⟨e1, e2, e3, e4, e5, e6⟩ := HL.out.fit hvg
     have d1 : decide ((v2 : Int) ≤ (g : Int)) = true := decide_eq_true (by omega)
     have d2 : decide (v2 ≤ g) = true := decide_eq_true hvg
     obtain ⟨d, hd⟩ : ∃ d, f - g = d := ⟨_, rfl⟩
     obtain ⟨vv, hvv⟩ : ∃ x, v1 + v2 = x := ⟨_, rfl⟩
     have m1 : IntKind.u64.wrap ((f : Int) - (g : Int)) = (d : Int) := by
      rw [show (f : Int) - (g : Int) = (d : Int) by omega]; exact Go.Proofs.Mul64.wrapN _ (by omega)
     have m2 : IntKind.u64.wrap ((v1 : Int) + (v2 : Int)) = (vv : Int) := by
      rw [show (v1 : Int) + (v2 : Int) = (vv : Int) by omega]; exact Go.Proofs.Mul64.wrapN _ (by omega)
     have m1' : (f : Int) - (g : Int) = (d : Int) := by omega
     have m2' : (v1 : Int) + (v2 : Int) = (vv : Int) := by omega
     have m3 : IntKind.u64.wrap (d : Int) = (d : Int) := Go.Proofs.Mul64.wrapN _ (by omega)
     have m4 : IntKind.u64.wrap (vv : Int) = (vv : Int) := Go.Proofs.Mul64.wrapN _ (by omega)
     by_cases hfg : vv ≤ d
     ·have d3 : decide ((vv : Int) ≤ (d : Int)) = true := decide_eq_true (by omega)
      have d4 : decide (vv ≤ d) = true := decide_eq_true hfg
      have HN2 := Lib.hid (HNX.out f g u0 u1 u2 v0 v1 v2 odd HL.out hvg (by rw [hvv, hd]; exact hfg))
      obtain ⟨q, hq⟩ : ∃ q, f / g = q := ⟨_, rfl⟩
      obtain ⟨r, hr⟩ : ∃ r, f % g = r := ⟨_, rfl⟩
      have hrg : r < g := by rw [← hr]; exact Nat.mod_lt _ e1
      have D1 : (f : Int).tdiv (g : Int) = (q : Int) := by rw [← hq]; rfl
      have D1' : (f : Int) / (g : Int) = (q : Int) := by rw [← hq]; rfl
      have D2 : (f : Int).tmod (g : Int) = (r : Int) := by rw [← hr]; rfl
      have D2' : (f : Int) % (g : Int) = (r : Int) := by rw [← hr]; rfl
      have hqf : q ≤ f := by rw [← hq]; exact Nat.div_le_self _ _
      have D3 : IntKind.u64.wrap (q : Int) = (q : Int) := Go.Proofs.Mul64.wrapN _ (by omega)
      have D4 : IntKind.u64.wrap (r : Int) = (r : Int) := Go.Proofs.Mul64.wrapN _ (by omega)
      have g0 : ((g : Int) == 0) = false := beq_eq_false_iff_ne.2 (by omega)
      have g0' : (g == 0) = false := beq_eq_false_iff_ne.2 (by omega)
      have g0n : ((g : Int) = 0) = False := eq_false (by omega)
      have g0m : (g = 0) = False := eq_false (by omega)
      rw [hq] at e3 e4 e5 e6 HN2
      rw [hr] at HN2
      obtain ⟨qu, hqu⟩ : ∃ x, q * u2 = x := ⟨_, rfl⟩
      obtain ⟨qv, hqv⟩ : ∃ x, q * v2 = x := ⟨_, rfl⟩
      rw [hqu, hqv] at HN2
      rw [hqv] at e3 e5
      rw [hqu] at e4 e6
      have M1 : (q : Int) * (u2 : Int) = (qu : Int) := by rw [Go.Proofs.Mul64.mulN, hqu]
      have M2 : (q : Int) * (v2 : Int) = (qv : Int) := by rw [Go.Proofs.Mul64.mulN, hqv]
      have M3 : IntKind.u64.wrap (qu : Int) = (qu : Int) := Go.Proofs.Mul64.wrapN _ (by omega)
      have M4 : IntKind.u64.wrap (qv : Int) = (qv : Int) := Go.Proofs.Mul64.wrapN _ (by omega)
      obtain ⟨u3, hu3⟩ : ∃ x, u1 + qu = x := ⟨_, rfl⟩
      obtain ⟨v3, hv3⟩ : ∃ x, v1 + qv = x := ⟨_, rfl⟩
      rw [hu3] at e4
      rw [hv3] at e3
      rw [hu3, hv3] at HN2
      have N1 : (u1 : Int) + (qu : Int) = (u3 : Int) := by omega
      have N2 : (v1 : Int) + (qv : Int) = (v3 : Int) := by omega
      have N3 : IntKind.u64.wrap (u3 : Int) = (u3 : Int) := Go.Proofs.Mul64.wrapN _ (by omega)
      have N4 : IntKind.u64.wrap (v3 : Int) = (v3 : Int) := Go.Proofs.Mul64.wrapN _ (by omega)
      have hu2B : u2 < B := by have := HN2.out.le2; have h2 := HL.out.le2; simp only [B]; omega
      have hv2B : v2 < B := by simp only [B]; omega
      clear hq hr hqu hqv hu3 hv3 hd hvv
      go_upto_region 15 with (fail)
      go_quiet (fail)
      have hbq : Below wo.heap.size wo (wo.drewN nq) := below_drewN (Below.refl _ _) _
      have hB6 := HBs.out.keep hbq HBs.out.lt
      have hR6 := HBr.out.keep hbq HBr.out.lt
      have hW6 := below_all HBw.out hbq
      clear c0 c1 c2 c3 c4 f0 f1 f2 f3 f4 hbq HS HBs HBr HBw
      generalize wo.drewN nq = W6 at *
      obtain ⟨c0, c1, c2, c3, c4, f0, f1, f2, f3, f4⟩ := stp_cells hB6
      go_upto_region 17 with (fail)
      have hB7 : Blk ((W6.setCell ⟨gs, 0, none⟩ (.int .u64 (u1 : Nat))).setCell ⟨gs, 1, none⟩ (.int .u64 (u2 : Nat))) gs 133 (stp u1 u2 v0 v1 odd) := (hB6.set 0 (.int .u64 (u1 : Nat))).set 1 (.int .u64 (u2 : Nat))
      have hR7 := (hR6.far (p := ⟨gs, 0, none⟩) (show gr ≠ gs by omega) (.int .u64 (u1 : Nat))).far (p := ⟨gs, 1, none⟩) (show gr ≠ gs by omega) (.int .u64 (u2 : Nat))
      have hW7 := below_far (below_far hW6 (show w.heap.size ≤ gs by omega) 0 (.int .u64 (u1 : Nat))) (show w.heap.size ≤ gs by omega) 1 (.int .u64 (u2 : Nat))
      clear c0 c1 c2 c3 c4 f0 f1 f2 f3 f4 hB6 hR6 hW6
      generalize (W6.setCell ⟨gs, 0, none⟩ (.int .u64 (u1 : Nat))).setCell ⟨gs, 1, none⟩ (.int .u64 (u2 : Nat)) = W7 at *
      obtain ⟨c0, c1, c2, c3, c4, f0, f1, f2, f3, f4⟩ := stp_cells hB7
      go_upto_region 18 with (fail)
      have hB8 : Blk ((W7.setCell ⟨gs, 2, none⟩ (.int .u64 (v1 : Nat))).setCell ⟨gs, 3, none⟩ (.int .u64 (v2 : Nat))) gs 133 (stp u1 u2 v1 v2 odd) := (hB7.set 2 (.int .u64 (v1 : Nat))).set 3 (.int .u64 (v2 : Nat))
      have hR8 := (hR7.far (p := ⟨gs, 2, none⟩) (show gr ≠ gs by omega) (.int .u64 (v1 : Nat))).far (p := ⟨gs, 3, none⟩) (show gr ≠ gs by omega) (.int .u64 (v2 : Nat))
      have hW8 := below_far (below_far hW7 (show w.heap.size ≤ gs by omega) 2 (.int .u64 (v1 : Nat))) (show w.heap.size ≤ gs by omega) 3 (.int .u64 (v2 : Nat))
      clear c0 c1 c2 c3 c4 f0 f1 f2 f3 f4 hB7 hR7 hW7
      generalize (W7.setCell ⟨gs, 2, none⟩ (.int .u64 (v1 : Nat))).setCell ⟨gs, 3, none⟩ (.int .u64 (v2 : Nat)) = W8 at *
      obtain ⟨c0, c1, c2, c3, c4, f0, f1, f2, f3, f4⟩ := stp_cells hB8
      have HNW : Hid (SiM w gr gs a b A C (W8.setCell ⟨gs, 4, none⟩ (.bool (!odd))) g r u3 v3) := Lib.hid ⟨⟨u1, u2, v1, v2, !odd, HN2.out, hB8.set 4 (.bool (!odd)), b1, hu2B, b3, hv2B⟩, hR8.far (show gr ≠ gs by omega) _, below_far hW8 (by omega) _ _⟩
      clear hB8 hR8 hW8 HN2
      go_wp2
      go_roundw
      case rel => exact ⟨g, r, u3, v3, rfl, rfl, rfl, rfl, by omega, by omega, HNW⟩
      case measure => simp [intOf]; omega
     ·have d3 : decide ((vv : Int) ≤ (d : Int)) = false := decide_eq_false (by omega)
      have d4 : decide (vv ≤ d) = false := decide_eq_false hfg
      go_upto_region 19 with (fail)
      obtain ⟨r0, r1, r2, r3, r4, rf0, rf1, rf2, rf3, rf4⟩ := stp_cells HBr.out
      go_wp2
      have B' := ((((HBr.out.set 0 (.int .u64 (u0 : Nat))).set 1 (.int .u64 (u1 : Nat))).set 2 (.int .u64 (v0 : Nat))).set 3 (.int .u64 (v1 : Nat))).set 4 (.bool odd)
      obtain ⟨z0, z1, z2, z3, z4, _⟩ := stp_cells (u0 := u0) (u1 := u1) (v0 := v0) (v1 := v1) (odd := odd) B'
      refine bodyPost_ret (v := .agg #[.int .u64 (u0 : Nat), .int .u64 (u1 : Nat), .int .u64 (v0 : Nat), .int .u64 (v1 : Nat), .bool odd]) (by simp [results, Tryz.results85, go_sem, z0, z1, z2, z3, z4]) rfl (HRET2.out _ ?_)
      exact below_far (below_far (below_far (below_far (below_far HBw.out (show w.heap.size ≤ gr by omega) _ _) (show w.heap.size ≤ gr by omega) _ _) (show w.heap.size ≤ gr by omega) _ _) (show w.heap.size ≤ gr by omega) _ _) (show w.heap.size ≤ gr by omega) _ _
    ·have d1 : decide ((v2 : Int) ≤ (g : Int)) = false := decide_eq_false (by omega)
     have d2 : decide (v2 ≤ g) = false := decide_eq_false hvg
     go_upto_region 19 with (fail)
     obtain ⟨r0, r1, r2, r3, r4, rf0, rf1, rf2, rf3, rf4⟩ := stp_cells HBr.out
     go_wp2
     have B' := ((((HBr.out.set 0 (.int .u64 (u0 : Nat))).set 1 (.int .u64 (u1 : Nat))).set 2 (.int .u64 (v0 : Nat))).set 3 (.int .u64 (v1 : Nat))).set 4 (.bool odd)
     obtain ⟨z0, z1, z2, z3, z4, _⟩ := stp_cells (u0 := u0) (u1 := u1) (v0 := v0) (v1 := v1) (odd := odd) B'
     refine bodyPost_ret (v := .agg #[.int .u64 (u0 : Nat), .int .u64 (u1 : Nat), .int .u64 (v0 : Nat), .int .u64 (v1 : Nat), .bool odd]) (by simp [results, Tryz.results85, go_sem, z0, z1, z2, z3, z4]) rfl (HRET2.out _ ?_)
     exact below_far (below_far (below_far (below_far (below_far HBw.out (show w.heap.size ≤ gr by omega) _ _) (show w.heap.size ≤ gr by omega) _ _) (show w.heap.size ≤ gr by omega) _ _) (show w.heap.size ≤ gr by omega) _ _) (show w.heap.size ≤ gr by omega) _ _
end Go.Proofs.Tg.Iw
end
