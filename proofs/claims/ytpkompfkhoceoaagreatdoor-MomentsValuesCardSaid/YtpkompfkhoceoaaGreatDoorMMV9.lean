/- Parts of the proof: BN10, BN13, BN2, BN5, BN3, BN6. -/
import Derived.Deep.Cut
import Derived.Laws.BitsAllLaws
import Derived.Test.YtpkompfkhoceoaaGreatDoorMMV1
import Derived.Test.YtpkompfkhoceoaaGreatDoorMMV3
import Derived.Test.YtpkompfkhoceoaaGreatDoorMMV8
section
/- The loop that lowers the estimate of a digit, and what is left to subtract: plain numbers. -/
namespace Go.Bn
/-- The estimate in the loop; b: it has been lowered already. -/
structure Est (top v1 q e r : Nat) : Prop where
  eq : e * v1 + r = top
  ge : q ≤ e
  le : e ≤ B + 1
/-- One round: the estimate is lowered by one. -/
theorem Est.round {u v top u2 v1 v2 P q e r : Nat} (h : Tops u v top u2 v1 v2 P) (hq : q * v ≤ u) (hqB : q < B) (s : Est top v1 q e r) (ht : B ≤ e ∨ r * B + u2 < e * v2) : Est top v1 q (e - 1) (r + v1) ∧ e - 1 ≤ B ∧ 0 < e := by
  have hpos : 0 < e := by
    rcases ht with ht | ht
    · exact Nat.lt_of_lt_of_le (by decide) ht
    · rcases Nat.eq_zero_or_pos e with rfl | h0
      · rw [Nat.zero_mul] at ht; exact absurd ht (Nat.not_lt_zero _)
      · exact h0
  have hle := s.le
  refine ⟨⟨?_, ?_, by omega⟩, by omega, hpos⟩
  · have he := s.eq
    obtain ⟨d, rfl⟩ : ∃ d, e = d + 1 := ⟨e - 1, by omega⟩
    rw [Nat.add_sub_cancel]
    rw [Nat.add_mul, Nat.one_mul] at he
    omega
  · rcases ht with ht | ht
    · omega
    · exact h.down hq s.eq ht s.ge
end Go.Bn
end
section
/- One digit of the long division, and what the whole division comes to: plain numbers. -/
namespace Go.Bn
/-- The division so far: the digits of the quotient from place k on, and what is left. -/
structure DvSt (A V L M : Nat) (k : Nat) (us qs : List Nat) : Prop where
  len : us.length = L
  dig : Dig us
  rest : val (us.drop k) < V
  qlen : qs.length + k = M
  qdig : Dig qs
  sum : A = val us + B ^ k * V * val qs
/-- The division is done. -/
theorem DvSt.done {A V L M : Nat} {us qs : List Nat} (h : DvSt A V L M 0 us qs) : val qs = A / V ∧ val us = A % V := by
  have hs := h.sum
  have hr := h.rest
  rw [List.drop_zero] at hr
  rw [Nat.pow_zero, Nat.one_mul] at hs
  have hV : 0 < V := by omega
  constructor
  · rw [hs, Nat.add_comm, Nat.mul_add_div hV, Nat.div_eq_of_lt hr, Nat.add_zero]
  · rw [hs, Nat.add_comm, Nat.mul_add_mod, Nat.mod_eq_of_lt hr]
end Go.Bn
end
section
/- The harness's digits: trim strikes the zeros at the end, whatever the length. -/
namespace Go.Proofs.Tg
open Go.RowKit Go.Gr Go.Bn
set_option maxHeartbeats 4000000
set_option maxRecDepth 100000
theorem tzl_val (xs : List Nat) : ∀ k, k ≤ xs.length → val (xs.take (tzl xs k)) = val (xs.take k) ∧ Norm (xs.take (tzl xs k))
  | 0, _ => ⟨rfl, fun h => absurd rfl h⟩
  | k + 1, hk => by
    have hx : xs.getD k 0 = xs[k] := by simp [show k < xs.length by omega]
    have ht : xs.take (k + 1) = xs.take k ++ [xs[k]] := List.take_succ_eq_append_getElem hk
    unfold tzl
    by_cases h0 : xs.getD k 0 = 0
    · rw [if_pos h0]
      obtain ⟨h1, h2⟩ := tzl_val xs k (by omega)
      refine ⟨?_, h2⟩
      rw [h1, ht, ← hx, h0, dg_append_zero]
    · rw [if_neg h0]
      refine ⟨rfl, fun hne => ?_⟩
      have : ∀ (l : List Nat) (hl : l ≠ []), l = xs.take k ++ [xs[k]] → l.getLast hl ≠ 0 := fun l hl e => by
        subst e
        rw [List.getLast_append_of_ne_nil hl (by simp), List.getLast_singleton, ← hx]
        exact h0
      exact this _ hne ht
theorem dig_take {xs : List Nat} (h : Dig xs) (k : Nat) : Dig (xs.take k) := fun x hx => h x (List.mem_of_mem_take hx)
theorem tzl_dg {xs : List Nat} (h : Dig xs) : xs.take (tzl xs xs.length) = dg (val xs) ∧ tzl xs xs.length = (dg (val xs)).length := by
  obtain ⟨h1, h2⟩ := tzl_val xs xs.length (Nat.le_refl _)
  rw [List.take_length] at h1
  have e := dg_val (dig_take h (tzl xs xs.length)) h2
  rw [h1] at e
  refine ⟨e.symm, ?_⟩
  rw [e, List.length_take]
  have := tzl_le xs xs.length
  omega
theorem dg_val_len {xs : List Nat} (h : Dig xs) : (dg (val xs)).length ≤ xs.length := by
  rw [← (tzl_dg h).2]
  exact tzl_le _ _
theorem trim_dg (A : Option Addr) (c : Nat) (xs : List Nat) (w : World) (hA : Digs w A xs) (hd : Dig xs) (hn : xs.length ≤ 1000000) (hc : xs.length ≤ c) :
    Calls Tryz.prog 79 #[.slice A xs.length c] w fun e w' => e = .returned (.slice A (dg (val xs)).length c) ∧ w = w' ∧ Digs w' A (dg (val xs)) := by
  have h := trim_any A c xs w hA hn hc
  obtain ⟨h1, h2⟩ := tzl_dg hd
  refine h.mono ?_
  rintro e w' ⟨rfl, rfl⟩
  refine ⟨by rw [h2], rfl, ?_⟩
  rw [← h1]
  exact hA.take _ (tzl_le _ _)
/-- A number's digits in a slice. -/
structure ND (w : World) (R : Option Addr) (c n : Nat) : Prop where
  digs : Digs w R (dg n)
  cap : (dg n).length ≤ c
  nilc : R = none → c = 0
theorem ND.keep {w w' : World} {R : Option Addr} {c n : Nat} (h : ND w R c n) (hb : Below w.heap.size w w') : ND w' R c n := ⟨h.digs.keep hb, h.cap, h.nilc⟩
theorem ND.zero (w : World) : ND w none 0 0 := ⟨by rw [dg_zero]; exact Digs.nil _ _, by rw [dg_zero]; exact Nat.le_refl _, fun _ => rfl⟩
theorem ND.some {w : World} {a : Addr} {c n : Nat} (h : Digs w (some a) (dg n)) (hc : (dg n).length ≤ c) : ND w (some a) c n := ⟨h, hc, fun e => by cases e⟩
def RetDg (n : Nat) (w : World) (e : Ending) (w' : World) : Prop := ∃ R cr, e = .returned (.slice R (dg n).length cr) ∧ ND w' R cr n ∧ Below w.heap.size w w'
def darr (l : List Nat) : Array Value := (l.map vd).toArray
theorem darr_made (n : Nat) : madeCells #[.int .u32 0] n = darr (List.replicate n 0) := by
  apply Array.ext
  · simp [darr, size_madeCells]
  · intro i h1 h2
    simp [madeCells, darr, vd, Nat.mod_one]
theorem darr_set (l : List Nat) (k s : Nat) : (darr l).setIfInBounds k (.int .u32 (s : Nat)) = darr (l.set k s) := by
  unfold darr
  simp [List.map_set, vd]
theorem darr_at (l : List Nat) {k : Nat} (hk : k < l.length) : (darr l)[k]? = some (.int .u32 (l[k] : Nat)) := by simp [darr, hk, vd]
end Go.Proofs.Tg
end
section
/- The harness's comparison of absolute values, whatever their length. -/
namespace Go.Bn
theorem val_split (xs : List Nat) (i : Nat) (h : i ≤ xs.length) : val xs = val (xs.take i) + B ^ i * val (xs.drop i) := by
  have := val_app (xs.take i) (xs.drop i)
  rw [List.take_append_drop, List.length_take, Nat.min_eq_left h] at this
  exact this
theorem val_drop {xs : List Nat} {i : Nat} (h : i < xs.length) : val (xs.drop i) = xs[i] + B * val (xs.drop (i + 1)) := by
  rw [List.drop_eq_getElem_cons h]; rfl
/-- Equal above a digit, less there. -/
theorem val_less {xs ys : List Nat} {i : Nat} (hx : i < xs.length) (hy : i < ys.length) (hd : xs.drop (i + 1) = ys.drop (i + 1)) (hX : Dig xs) (hlt : xs[i] < ys[i]) : val xs < val ys := by
  rw [val_split xs i (by omega), val_split ys i (by omega), val_drop hx, val_drop hy, hd]
  have h1 : val (xs.take i) < B ^ i := by
    have := val_lt (xs := xs.take i) (fun x h => hX x (List.mem_of_mem_take h))
    rwa [List.length_take, Nat.min_eq_left (by omega)] at this
  have h2 : B ^ i * (xs[i] + B * val (ys.drop (i + 1))) + B ^ i ≤ B ^ i * (ys[i] + B * val (ys.drop (i + 1))) := by
    have : xs[i] + B * val (ys.drop (i + 1)) + 1 ≤ ys[i] + B * val (ys.drop (i + 1)) := by omega
    have := Nat.mul_le_mul_left (B ^ i) this
    rwa [Nat.mul_add, Nat.mul_one] at this
  omega
theorem dg_lt_of_len {a b : Nat} (h : (dg a).length < (dg b).length) : a < b := by
  rcases Nat.lt_or_ge a b with h1 | h1
  · exact h1
  · have h2 := val_lt (dg_dig b)
    rw [val_dg] at h2
    have h3 := val_lt (dg_dig a)
    rw [val_dg] at h3
    have h4 : B ^ (dg a).length ≤ b := by
      have hb : b ≠ 0 := fun e => by subst e; rw [dg_zero] at h; simp at h
      have h5 : (dg b).length - 1 < (dg b).length := by omega
      have h6 : B ^ ((dg b).length - 1) ≤ b := by
        rcases Nat.lt_or_ge b (B ^ ((dg b).length - 1)) with h7 | h7
        · have := dg_len_lt h7; omega
        · exact h7
      exact Nat.le_trans (Nat.pow_le_pow_right (by decide) (by omega)) h6
    omega
end Go.Bn
namespace Go.Proofs.Tg
open Go.RowKit Go.Gr Go.Bn
set_option maxHeartbeats 4000000
set_option maxRecDepth 100000
theorem ncmp_len (X Y : Option Addr) (cx cy m n : Nat) (w : World) (r : Int) (h : (m < n ∧ r = -1) ∨ (n < m ∧ r = 1)) :
    Calls Tryz.prog 92 #[.slice X m cx, .slice Y n cy] w fun e w' => e = .returned (.int .i64 r) ∧ w = w' := by
  rcases h with ⟨h, rfl⟩ | ⟨h, rfl⟩
  · have h1 : ((m : Int) != (n : Int)) = true := by simp; omega
    have h2 : decide ((m : Int) < (n : Int)) = true := decide_eq_true (by omega)
    have h1' : (m != n) = true := by simp; omega
    have h2' : decide (m < n) = true := decide_eq_true h
    clear h
    go_enter Tryz.func92, Tryz.ntmps92
    go_wp2
    go_ret
    exact ⟨rfl, rfl⟩
  · have h1 : ((m : Int) != (n : Int)) = true := by simp; omega
    have h2 : decide ((m : Int) < (n : Int)) = false := decide_eq_false (by omega)
    have h1' : (m != n) = true := by simp; omega
    have h2' : decide (m < n) = false := decide_eq_false (by omega)
    clear h
    go_enter Tryz.func92, Tryz.ntmps92
    go_wp2
    go_ret
    exact ⟨rfl, rfl⟩
theorem ncmp_same (X Y : Option Addr) (cx cy : Nat) (xs ys : List Nat) (w : World) (hX : Digs w X xs) (hY : Digs w Y ys) (hx : Dig xs) (hy : Dig ys) (hl : ys.length = xs.length) (hn : xs.length ≤ 1000000) :
    Calls Tryz.prog 92 #[.slice X xs.length cx, .slice Y ys.length cy] w fun e w' => e = .returned (.int .i64 (if val xs < val ys then -1 else if val xs = val ys then 0 else 1)) ∧ Dr w w' := by
  rw [hl]
  have HX := Lib.hid hX
  have HY := Lib.hid hY
  have HDX := Lib.hid hx
  have HDY := Lib.hid hy
  have HL := Lib.hid hl
  obtain ⟨r, hr⟩ : ∃ r : Int, (if val xs < val ys then -1 else if val xs = val ys then 0 else 1) = r := ⟨_, rfl⟩
  rw [hr]
  have HR := Lib.hid hr
  clear hX hY hx hy hl hr
  go_enter Tryz.func92, Tryz.ntmps92
  go_wp2
  go_loopw [5] (fun s5 wr => ∃ k : Nat, s5 = .int .i64 ((k : Int) - 1) ∧ k ≤ xs.length ∧ Hid (xs.drop k = ys.drop k) ∧ Dr w wr) (fun s5 _ => (intOf s5 + 1).toNat)
  case atStart => exact ⟨xs.length, rfl, Nat.le_refl _, Lib.hid (by rw [List.drop_length, ← HL.out, List.drop_length]), Dr.refl _⟩
  case round =>
    obtain ⟨wo, rfl⟩ : ∃ wo : World, wo = wr := ⟨_, rfl⟩
    obtain ⟨k, rfl, hk, HD, hdr⟩ := hrel
    cases k with
    | zero =>
      have hv : xs = ys := by simpa using HD.out
      obtain rfl : r = 0 := by rw [← HR.out, hv]; simp
      have dd : decide ((0 : Int) ≤ ((0 : Nat) : Int) - 1) = false := by decide
      clear hv
      go_wp2
      go_ret
      exact ⟨rfl, hdr⟩
    | succ j =>
      have hj : j < xs.length := by omega
      have hj2 : j < ys.length := by have := HL.out; omega
      have e : (((j + 1 : Nat) : Int) - 1) = (j : Int) := by omega
      rw [e]
      clear e
      obtain ⟨ad, rfl, hcx⟩ := Digs.at (HX.out.keep hdr.below) hj
      obtain ⟨bd, rfl, hcy⟩ := Digs.at (HY.out.keep hdr.below) hj2
      have HLT : Hid (xs[j] < ys[j] → val xs < val ys) := Lib.hid (fun h => val_less hj hj2 HD.out HDX.out h)
      have HGT : Hid (ys[j] < xs[j] → val ys < val xs) := Lib.hid (fun h => val_less hj2 hj HD.out.symm HDY.out h)
      have HEQ : Hid (xs[j] = ys[j] → xs.drop j = ys.drop j) := Lib.hid (fun h => by rw [List.drop_eq_getElem_cons hj, List.drop_eq_getElem_cons hj2, h, HD.out])
      generalize xs[j] = x at *
      generalize ys[j] = y at *
      have q0 : (0 : Int) ≤ (j : Int) := by omega
      have q1 : (j : Int) < (xs.length : Int) := by omega
      have q3 : ((j : Int)).toNat = j := by omega
      have d0 : decide ((0 : Int) ≤ (j : Int)) = true := decide_eq_true q0
      by_cases hxy : x = y
      · have HE2 := Lib.hid (HEQ.out hxy)
        clear HEQ HLT HGT
        subst hxy
        have hne : ((x : Int) != (x : Int)) = false := by simp
        go_wp2
        go_quiet (fail)
        go_wp2
        go_roundw
        case rel => exact ⟨j, by go_num, by omega, HE2, hdr.drewN _⟩
        case measure => simp [intOf]
      · have hne : ((x : Int) != (y : Int)) = true := by simp; omega
        by_cases hlt : x < y
        · obtain rfl : r = -1 := by rw [← HR.out, if_pos (HLT.out hlt)]
          have d1 : decide ((x : Int) < (y : Int)) = true := decide_eq_true (by omega)
          have d1' : decide (x < y) = true := decide_eq_true hlt
          clear hxy hlt
          go_wp2
          go_quiet (fail)
          generalize hW : wo.drewN _ = W
          have hdW : Dr w W := by rw [← hW]; exact hdr.drewN _
          have hcx' : W.cell? (ad.add j) = some (.int .u32 (x : Nat)) := by rw [← hW]; exact hcx
          have hcy' : W.cell? (bd.add j) = some (.int .u32 (y : Nat)) := by rw [← hW]; exact hcy
          clear hW hcx hcy
          go_wp2
          go_quiet (fail)
          go_wp2
          go_ret
          exact ⟨rfl, hdW.drewN _⟩
        · obtain rfl : r = 1 := by
            have := HGT.out (by omega)
            rw [← HR.out, if_neg (by omega), if_neg (by omega)]
          have d1 : decide ((x : Int) < (y : Int)) = false := decide_eq_false (by omega)
          have d1' : decide (x < y) = false := decide_eq_false hlt
          clear hxy hlt
          go_wp2
          go_quiet (fail)
          generalize hW : wo.drewN _ = W
          have hdW : Dr w W := by rw [← hW]; exact hdr.drewN _
          have hcx' : W.cell? (ad.add j) = some (.int .u32 (x : Nat)) := by rw [← hW]; exact hcx
          have hcy' : W.cell? (bd.add j) = some (.int .u32 (y : Nat)) := by rw [← hW]; exact hcy
          clear hW hcx hcy
          go_wp2
          go_quiet (fail)
          go_wp2
          go_ret
          exact ⟨rfl, hdW.drewN _⟩
/-- The comparison of two numbers. -/
theorem ncmp_any (X Y : Option Addr) (cx cy a b : Nat) (w : World) (hX : Digs w X (dg a)) (hY : Digs w Y (dg b)) (ha : (dg a).length ≤ 1000000) :
    Calls Tryz.prog 92 #[.slice X (dg a).length cx, .slice Y (dg b).length cy] w fun e w' => e = .returned (.int .i64 (if a < b then -1 else if a = b then 0 else 1)) ∧ Dr w w' := by
  by_cases hl : (dg b).length = (dg a).length
  · have := ncmp_same X Y cx cy (dg a) (dg b) w hX hY (dg_dig a) (dg_dig b) hl ha
    rwa [val_dg, val_dg] at this
  · rcases Nat.lt_or_ge (dg a).length (dg b).length with h | h
    · have hab := dg_lt_of_len h
      refine (ncmp_len X Y cx cy _ _ w (-1) (.inl ⟨h, rfl⟩)).mono ?_
      rintro e w' ⟨rfl, rfl⟩
      exact ⟨by rw [if_pos hab], Dr.refl _⟩
    · have hab := dg_lt_of_len (a := b) (b := a) (by omega)
      refine (ncmp_len X Y cx cy _ _ w 1 (.inr ⟨by omega, rfl⟩)).mono ?_
      rintro e w' ⟨rfl, rfl⟩
      exact ⟨by rw [if_neg (by omega), if_neg (by omega)], Dr.refl _⟩
end Go.Proofs.Tg
end
section
/- The harness's sum of absolute values, whatever their length. -/
namespace Go.Proofs.Tg
open Go.RowKit Go.Gr Go.Bn
set_option maxHeartbeats 4000000
set_option maxRecDepth 100000
/-- The digits made so far. -/
structure AddSt (us vs : List Nat) (g : Nat) (w0 wr : World) (k cr : Nat) (zs : List Nat) : Prop where
  len : zs.length = k
  dig : Dig zs
  le1 : cr ≤ 1
  sum : val zs + B ^ k * cr = val (us.take k) + val (vs.take k)
  blk : Blk wr g 137 (darr (zs ++ List.replicate (us.length + 1 - k) 0))
  below : Below w0.heap.size w0 wr
theorem val_take_succ {xs : List Nat} {k : Nat} (h : k < xs.length) : val (xs.take (k + 1)) = val (xs.take k) + B ^ k * xs[k] := by
  rw [List.take_succ_eq_append_getElem h, val_app, List.length_take, Nat.min_eq_left (by omega)]
  simp [val]
theorem val_take_all {xs : List Nat} {k : Nat} (h : xs.length ≤ k) : val (xs.take k) = val xs := by rw [List.take_of_length_le h]
theorem zs_set {zs : List Nat} {k n : Nat} (h : zs.length = k) (hk : k < n) (s : Nat) : (zs ++ List.replicate (n - k) 0).set k s = (zs ++ [s]) ++ List.replicate (n - (k + 1)) 0 := by
  rw [List.set_append_right _ _ (by omega), h, Nat.sub_self, show n - k = (n - (k + 1)) + 1 by omega, List.replicate_succ, List.set_cons_zero]; simp
/-- One digit more. -/
theorem add_step {zs : List Nat} {k s : Nat} (h : zs.length = k) : val (zs ++ [s % B]) + B ^ (k + 1) * (s / B) = val zs + B ^ k * s := by
  rw [val_app, h]
  simp only [val, Nat.mul_zero, Nat.add_zero]
  rw [Nat.pow_succ, Nat.mul_assoc, Nat.add_assoc, ← Nat.mul_add, Nat.mod_add_div]
theorem AddSt.step {us vs : List Nat} {g : Nat} {w0 wo : World} {k cr : Nat} {zs : List Nat} (h : AddSt us vs g w0 wo k cr zs) (hk : k < us.length) (hg : w0.heap.size ≤ g) {x y : Nat} (hx : x < B) (hy : y < B)
    (h1 : val (us.take (k + 1)) = val (us.take k) + B ^ k * x) (h2 : val (vs.take (k + 1)) = val (vs.take k) + B ^ k * y) :
    AddSt us vs g w0 (wo.setCell ⟨g, k, none⟩ (.int .u32 (((cr + x + y) % B : Nat) : Int))) (k + 1) ((cr + x + y) / B) (zs ++ [(cr + x + y) % B]) := by
  have hc := h.le1
  refine ⟨by rw [List.length_append, h.len]; rfl, fun z hz => ?_, ?_, ?_, ?_, below_far h.below hg _ _⟩
  · rcases List.mem_append.1 hz with hz | hz
    · exact h.dig z hz
    · rw [List.mem_singleton.1 hz]; exact Nat.mod_lt _ (by decide)
  · simp only [B] at *; omega
  · rw [add_step h.len, h1, h2, Nat.add_assoc cr x y, Nat.mul_add, Nat.mul_add, ← Nat.add_assoc, h.sum]; omega
  · have := h.blk.set k (.int .u32 (((cr + x + y) % B : Nat) : Int))
    rwa [darr_set, zs_set h.len (by omega)] at this
theorem addloop (X Y : Option Addr) (cx cy : Nat) (us vs : List Nat) (w : World) (hX : Digs w X us) (hY : Digs w Y vs) (hu : Dig us) (hv : Dig vs) (hl : vs.length ≤ us.length) (hn : us.length ≤ 400000) :
    Calls Tryz.prog 91 #[.slice X us.length cx, .slice Y vs.length cy] w (RetDg (val us + val vs) w) := by
  have hd : decide ((us.length : Int) < (vs.length : Int)) = false := decide_eq_false (by omega)
  have hd' : decide (us.length < vs.length) = false := decide_eq_false (by omega)
  have HU := Lib.hid hu
  have HV := Lib.hid hv
  have HX := Lib.hid hX
  have HY := Lib.hid hY
  have hmk := fun W => make_digs (us.length + 1) (by omega) W
  have hc1 : ((us.length + 1 : Nat) : Int) = (us.length : Int) + 1 := by omega
  rw [hc1] at hmk
  clear hc1
  clear hu hv hX hY
  go_enter Tryz.func91, Tryz.ntmps91
  go_upto_region 4 with (fail)
  obtain ⟨W, hW⟩ : ∃ W, w.alloc (.cells (madeCells #[.int .u32 0] (us.length + 1)) 137) = W := ⟨_, rfl⟩
  have G5 : Blk W w.heap.size 137 (darr ([] ++ List.replicate (us.length + 1 - 0) 0)) := by
    rw [← hW, List.nil_append, Nat.sub_zero, ← darr_made]
    exact Blk.new _ _ _
  have hbW : Below w.heap.size w W := by rw [← hW]; exact (Below.refl _ _).alloc (Nat.le_refl _) _
  rw [hW]
  clear hW hmk
  go_wp2
  go_loopw [6, 7] (fun s6 s7 wr => ∃ (k cr : Nat) (zs : List Nat), s6 = .int .u64 cr ∧ s7 = .int .i64 k ∧ k ≤ us.length ∧ Hid (AddSt us vs w.heap.size w wr k cr zs)) (fun _ s7 _ => us.length - (intOf s7).toNat)
  case atStart => exact ⟨0, 0, [], rfl, rfl, Nat.zero_le _, Lib.hid (AddSt.mk rfl (fun x hx => absurd hx (by simp)) (by omega) (by simp [val]) G5 hbW)⟩
  case round =>
    clear G5 hbW
    obtain ⟨wo, rfl⟩ : ∃ wo : World, wo = wr := ⟨_, rfl⟩
    obtain ⟨k, cr, zs, rfl, rfl, hk, HST⟩ := hrel
    have hcr := HST.out.le1
    by_cases hku : k < us.length
    · obtain ⟨ad, rfl, hcx⟩ := Digs.at (HX.out.keep HST.out.below) hku
      have hxB : us[k] < 4294967296 := HU.out us[k] (List.getElem_mem _)
      have HTX := Lib.hid (val_take_succ hku)
      generalize us[k] = x at *
      have q0 : (0 : Int) ≤ (k : Int) := by omega
      have q1 : (k : Int) < (us.length : Int) := by omega
      have q1' : (k : Int) < (us.length : Int) + 1 := by omega
      have q3 : ((k : Int)).toNat = k := by omega
      have w1 : IntKind.u64.wrap ((cr : Int) + (x : Int)) = ((cr + x : Nat) : Int) := by have := wrap_nat (cr + x) (by omega); simpa using this
      have c0 := HST.out.blk.cell k
      have f0 := HST.out.blk.frozen k
      have hzl : (zs ++ List.replicate (us.length + 1 - k) 0).length = us.length + 1 := by rw [List.length_append, List.length_replicate, HST.out.len]; omega
      rw [darr_at _ (by rw [hzl]; omega)] at c0
      generalize (zs ++ List.replicate (us.length + 1 - k) 0)[k]'(by rw [hzl]; omega) = old at c0
      by_cases hkv : k < vs.length
      · obtain ⟨bd, rfl, hcy⟩ := Digs.at (HY.out.keep HST.out.below) hkv
        have hyB : vs[k] < 4294967296 := HV.out vs[k] (List.getElem_mem _)
        have HTY := Lib.hid (val_take_succ hkv)
        generalize vs[k] = y at *
        have q2 : (k : Int) < (vs.length : Int) := by omega
        have d1 : decide ((k : Int) < (vs.length : Int)) = true := decide_eq_true q2
        have d1' : decide (k < vs.length) = true := decide_eq_true hkv
        have w2 : IntKind.u64.wrap (((cr + x : Nat) : Int) + (y : Int)) = ((cr + x + y : Nat) : Int) := by have := wrap_nat (cr + x + y) (by omega); simpa using this
        go_wp2
        go_roundw
        case rel =>
          have hs := HST.out.step hku (Nat.le_refl _) hxB hyB HTX.out HTY.out
          have e : (((cr + x + y) % B : Nat) : Int) = ((cr : Int) + (x : Int) + (y : Int)) % 4294967296 := by simp only [B]; omega
          rw [e] at hs
          exact ⟨k + 1, (cr + x + y) / B, _, by simp only [B]; congr 1, by go_num, by omega, Lib.hid hs⟩
        case measure => simp [intOf]; omega
      · have d1 : decide ((k : Int) < (vs.length : Int)) = false := decide_eq_false (by omega)
        have d1' : decide (k < vs.length) = false := decide_eq_false hkv
        have HTY : Hid (val (vs.take (k + 1)) = val (vs.take k) + B ^ k * 0) := Lib.hid (by rw [val_take_all (by omega), val_take_all (by omega)]; omega)
        go_wp2
        go_roundw
        case rel =>
          have hs := HST.out.step hku (Nat.le_refl _) hxB (y := 0) (by decide) HTX.out HTY.out
          have e : (((cr + x + 0) % B : Nat) : Int) = ((cr : Int) + (x : Int)) % 4294967296 := by simp only [B]; omega
          rw [e] at hs
          exact ⟨k + 1, (cr + x + 0) / B, _, by simp only [B]; congr 1, by go_num, by omega, Lib.hid hs⟩
        case measure => simp [intOf]; omega
    · obtain rfl : k = us.length := by omega
      have dd : decide (us.length < us.length) = false := by simp
      have hz1 : us.length + 1 - us.length = 1 := by omega
      have hb1 := HST.out.blk
      rw [hz1] at hb1
      have c0 := hb1.cell us.length
      have f0 := hb1.frozen us.length
      have hzl : (zs ++ List.replicate 1 0).length = us.length + 1 := by rw [List.length_append, List.length_replicate, HST.out.len]
      rw [darr_at _ (by rw [hzl]; omega)] at c0
      generalize (zs ++ List.replicate 1 0)[us.length]'(by rw [hzl]; omega) = old at c0
      have hsum := HST.out.sum
      rw [List.take_length, val_take_all hl] at hsum
      have q1' : (us.length : Int) < (us.length : Int) + 1 := by omega
      have hcm : (cr : Int) % 4294967296 = (cr : Int) := by omega
      have hB2 : Blk (wo.setCell ⟨w.heap.size, us.length, none⟩ (.int .u32 (cr : Nat))) w.heap.size 137 (darr (zs ++ [cr])) := by
        have := hb1.set us.length (.int .u32 (cr : Nat))
        rwa [darr_set, show zs ++ List.replicate 1 0 = zs ++ [0] from rfl, List.set_append_right _ _ (by rw [HST.out.len]; exact Nat.le_refl _), HST.out.len, Nat.sub_self, List.set_cons_zero] at this
      have hdig : Dig (zs ++ [cr]) := fun z hz => by
        rcases List.mem_append.1 hz with hz | hz
        · exact HST.out.dig z hz
        · rw [List.mem_singleton.1 hz]; simp only [B]; omega
      have hlen : (zs ++ [cr]).length = us.length + 1 := by rw [List.length_append, HST.out.len]; rfl
      have HT := Lib.hid (trim_dg (some ⟨w.heap.size, 0, none⟩) (us.length + 1) (zs ++ [cr]) _ (digs_of hB2) hdig (by omega) (by omega))
      have HVL : Hid (val (zs ++ [cr]) = val us + val vs) := Lib.hid (by rw [val_app, HST.out.len]; simp only [val, Nat.mul_zero, Nat.add_zero]; exact hsum)
      have hdl := dg_val_len hdig
      rw [hlen, HVL.out] at HT
      rw [hlen, HVL.out] at hdl
      clear hsum hzl hB2 hdig hlen hb1 hz1
      go_wp2_with (go_at_call 79; refine HT.out.mono ?_; rintro e w' ⟨rfl, rfl, hD⟩)
      go_ret
      exact ⟨_, _, rfl, ND.some hD hdl, below_far HST.out.below (Nat.le_refl _) _ _⟩
end Go.Proofs.Tg
end
section
/- The harness's division by a digit, whatever the length. -/
namespace Go.Proofs.Tg
open Go.RowKit Go.Gr Go.Bn
set_option maxHeartbeats 4000000
set_option maxRecDepth 100000
/-- The digits of the quotient made so far, from the top. -/
structure DivSt (us : List Nat) (d g : Nat) (w0 wr : World) (k r : Nat) (zs : List Nat) : Prop where
  len : zs.length = us.length - k
  dig : Dig zs
  lt : r < d
  sum : val zs * d + r = val (us.drop k)
  blk : Blk wr g 137 (darr (List.replicate k 0 ++ zs))
  below : Below w0.heap.size w0 wr
theorem val_drop {xs : List Nat} {k : Nat} (h : k < xs.length) : val (xs.drop k) = xs[k] + B * val (xs.drop (k + 1)) := by
  rw [List.drop_eq_getElem_cons h]; rfl
theorem zs_put {zs : List Nat} (k s : Nat) : (List.replicate (k + 1) 0 ++ zs).set k s = List.replicate k 0 ++ s :: zs := by
  have : List.replicate (k + 1) 0 ++ zs = List.replicate k 0 ++ 0 :: zs := by rw [List.replicate_succ']; simp
  rw [this, List.set_append_right _ _ (by simp), List.length_replicate, Nat.sub_self, List.set_cons_zero]
theorem div_step {v d r x : Nat} : ((r * B + x) / d + B * v) * d + (r * B + x) % d = x + B * (v * d + r) := by
  have h := Nat.div_add_mod (r * B + x) d
  rw [Nat.add_mul, Nat.mul_add, Nat.mul_assoc, Nat.mul_comm B r]
  rw [Nat.mul_comm d] at h
  omega
theorem or_low {r x : Nat} (hx : x < B) : r * B ||| x = r * B + x := by
  have := Nat.shiftLeft_add_eq_or_of_lt (i := 32) (b := x) hx r
  rw [Nat.shiftLeft_eq] at this
  exact this.symm
theorem div_dig {r d x : Nat} (hr : r < d) (hx : x < B) : (r * B + x) / d < B := by
  rw [Nat.div_lt_iff_lt_mul (by omega)]
  have : (r + 1) * B ≤ d * B := Nat.mul_le_mul_right _ hr
  rw [Nat.add_mul] at this
  rw [Nat.mul_comm B d]
  omega
theorem DivSt.step {us : List Nat} {d g : Nat} {w0 wo : World} {k r : Nat} {zs : List Nat} (h : DivSt us d g w0 wo (k + 1) r zs) (hk : k < us.length) (hg : w0.heap.size ≤ g) {x : Nat} (hx : x < B)
    (h1 : val (us.drop k) = x + B * val (us.drop (k + 1))) :
    DivSt us d g w0 (wo.setCell ⟨g, k, none⟩ (.int .u32 (((r * B + x) / d : Nat) : Int))) k ((r * B + x) % d) ((r * B + x) / d :: zs) := by
  have hl := h.lt
  refine ⟨by rw [List.length_cons, h.len]; omega, fun z hz => ?_, Nat.mod_lt _ (by omega), ?_, ?_, below_far h.below hg _ _⟩
  · rcases List.mem_cons.1 hz with rfl | hz
    · exact div_dig hl hx
    · exact h.dig z hz
  · rw [h1, ← h.sum]; exact div_step
  · have := h.blk.set k (.int .u32 (((r * B + x) / d : Nat) : Int))
    rwa [darr_set, zs_put] at this
/-- A quotient by a digit, and what is left. -/
def RetSQ (n d : Nat) (w : World) (e : Ending) (w' : World) : Prop := ∃ R cr, e = .returned (.tuple #[.slice R (dg (n / d)).length cr, .int .u32 ((n % d : Nat))]) ∧ ND w' R cr (n / d) ∧ Below w.heap.size w w'
theorem sdivloop (X : Option Addr) (cx : Nat) (us : List Nat) (d : Nat) (w : World) (hX : Digs w X us) (hu : Dig us) (hd : d < B) (hd0 : 0 < d) (hn : us.length ≤ 400000) :
    Calls Tryz.prog 85 #[.slice X us.length cx, .int .u32 (d : Nat)] w (RetSQ (val us) d w) := by
  have HU := Lib.hid hu
  have HX := Lib.hid hX
  have hdB : d < 4294967296 := hd
  have hmk := fun W => make_digs us.length (by omega) W
  clear hu hX hd
  go_enter Tryz.func85, Tryz.ntmps85
  go_upto_region 2 with (fail)
  obtain ⟨W, hW⟩ : ∃ W, w.alloc (.cells (madeCells #[.int .u32 0] us.length) 137) = W := ⟨_, rfl⟩
  have G5 : Blk W w.heap.size 137 (darr (List.replicate us.length 0 ++ [])) := by
    rw [← hW, List.append_nil, ← darr_made]
    exact Blk.new _ _ _
  have hbW : Below w.heap.size w W := by rw [← hW]; exact (Below.refl _ _).alloc (Nat.le_refl _) _
  rw [hW]
  clear hW hmk
  go_wp2
  go_loopw [7, 8] (fun s7 s8 wr => ∃ (k r : Nat) (zs : List Nat), s7 = .int .u64 r ∧ s8 = .int .i64 ((k : Int) - 1) ∧ k ≤ us.length ∧ Hid (DivSt us d w.heap.size w wr k r zs)) (fun _ s8 _ => (intOf s8 + 1).toNat)
  case atStart => exact ⟨us.length, 0, [], rfl, rfl, Nat.le_refl _, Lib.hid (DivSt.mk (by simp) (fun x hx => absurd hx (by simp)) hd0 (by simp [val]) G5 hbW)⟩
  case round =>
    clear G5 hbW
    obtain ⟨wo, rfl⟩ : ∃ wo : World, wo = wr := ⟨_, rfl⟩
    obtain ⟨k, r, zs, rfl, rfl, hk, HST⟩ := hrel
    have hrl := HST.out.lt
    cases k with
    | succ k =>
      have hku : k < us.length := hk
      obtain ⟨ad, rfl, hcx⟩ := Digs.at (HX.out.keep HST.out.below) hku
      have hxB : us[k] < 4294967296 := HU.out us[k] (List.getElem_mem _)
      have HTX := Lib.hid (val_drop hku)
      generalize us[k] = x at *
      have hkk : ((k + 1 : Nat) : Int) - 1 = (k : Int) := by omega
      rw [hkk]
      have q0 : (0 : Int) ≤ (k : Int) := by omega
      have q0' : decide ((0 : Int) ≤ (k : Int)) = true := decide_eq_true q0
      have q1 : (k : Int) < (us.length : Int) := by omega
      have q3 : ((k : Int)).toNat = k := by omega
      have w1 : IntKind.u64.wrap ((r : Int) * 4294967296) = ((r * B : Nat) : Int) := by have := wrap_nat (r * B) (by simp only [B]; omega); simpa [B] using this
      have w2 := u64_or_nat (r * B) x (by simp only [B]; omega) (by omega)
      rw [or_low hxB] at w2
      have c0 := HST.out.blk.cell k
      have f0 := HST.out.blk.frozen k
      have hzl : (List.replicate (k + 1) 0 ++ zs).length = us.length := by rw [List.length_append, List.length_replicate, HST.out.len]; omega
      rw [darr_at _ (by rw [hzl]; omega)] at c0
      generalize (List.replicate (k + 1) 0 ++ zs)[k]'(by rw [hzl]; omega) = old at c0
      go_wp2
      go_roundw
      case rel =>
        have hs := HST.out.step hku (Nat.le_refl _) hxB HTX.out
        have hq := div_dig hrl hxB
        have w3 : bits BinOp.or IntKind.u64 ((r : Int) * 4294967296) (x : Int) = ((r * B + x : Nat) : Int) := by rw [← w2]; congr 1
        have w4 : (((r * B + x : Nat) : Int)).tmod (d : Int) = (((r * B + x) % d : Nat) : Int) := rfl
        have w5 : (((r * B + x : Nat) : Int)).tdiv (d : Int) = (((r * B + x) / d : Nat) : Int) := rfl
        rw [w3, w4, w5]
        generalize (r * B + x) / d = q at hs hq ⊢
        generalize (r * B + x) % d = r' at hs ⊢
        simp only [B] at hq
        rw [wrap_nat q (by omega), Int.emod_eq_of_lt (by omega) (by omega)]
        exact ⟨k, r', _, rfl, rfl, by omega, Lib.hid hs⟩
      case measure => simp [intOf]
    | zero =>
      have hb1 := HST.out.blk
      rw [List.replicate_zero, List.nil_append] at hb1
      have hlen := HST.out.len
      rw [Nat.sub_zero] at hlen
      have hsum := HST.out.sum
      rw [List.drop_zero] at hsum
      have hdig := HST.out.dig
      have hvz : val zs = val us / d := by
        rw [← hsum, Nat.mul_comm, Nat.mul_add_div hd0, Nat.div_eq_of_lt hrl, Nat.add_zero]
      have hvr : r = val us % d := by
        rw [← hsum, Nat.mul_comm, Nat.mul_add_mod, Nat.mod_eq_of_lt hrl]
      have HT := Lib.hid (trim_dg (some ⟨w.heap.size, 0, none⟩) us.length zs _ (digs_of hb1) hdig (by omega) (by omega))
      have hdl := dg_val_len hdig
      rw [hlen, hvz] at HT
      rw [hlen, hvz] at hdl
      have hrB : (r : Int) % 4294967296 = (r : Int) := by omega
      have hz : ((0 : Nat) : Int) - 1 = -1 := rfl
      rw [hz]
      clear hsum hb1 hdig hlen hvz
      go_wp2_with (go_at_call 79; refine HT.out.mono ?_; rintro e w' ⟨rfl, rfl, hD⟩)
      go_ret2
      exact ⟨_, _, rfl, ND.some hD hdl, HST.out.below⟩
theorem sdiv_any (X : Option Addr) (cx a d : Nat) (w : World) (hX : Digs w X (dg a)) (hd : d < B) (hd0 : 0 < d) (hn : (dg a).length ≤ 400000) :
    Calls Tryz.prog 85 #[.slice X (dg a).length cx, .int .u32 (d : Nat)] w (RetSQ a d w) := by
  have := sdivloop X cx (dg a) d w hX (dg_dig a) hd hd0 hn
  rwa [val_dg] at this
end Go.Proofs.Tg
end
