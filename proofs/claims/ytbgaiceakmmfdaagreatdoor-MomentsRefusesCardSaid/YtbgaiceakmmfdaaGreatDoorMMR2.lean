/- Parts of the proof: Fr37, BN1, BN9, BN10, BN11, BN12, BN13, BN2, BN5. -/
import Derived.SliceStrings
import Derived.Laws.ShiftsVarLaws
import Derived.Carry
import Derived.Test.YtbgaiceakmmfdaaGreatDoorMMR0
import Derived.Test.YtbgaiceakmmfdaaGreatDoorMMR1
set_option maxHeartbeats 64000000
set_option maxRecDepth 100000
section
namespace Go.Proofs.YtbgaiceakmmfdaaGreatDoor.Fr
open Go.ChangeShapes Go.WideShapes Go.ChangeAt Go.RowKit Go.Deep Go.Proofs.Tg Go.Gr
section
variable {H : Type} {enc : TypeId × Value → H} {W : World}
theorem cellsStr : Tryz.prog.cellsOf 9 = 1 := by kernel_rfl
theorem cellsStrs : Tryz.prog.cellsOf 22 = 1 := by kernel_rfl
theorem texts_of {fuel : Nat} {v : Value} {x : DataW H × List MemPlace} (h : DataW.trod enc Tryz.prog W 0 (fun _ => true) true fuel 22 [v] = some x) :
    ∃ (A : Option Addr) (ss : List ByteArray) (c : Nat), v = .slice A ss.length c ∧ Sl W A ss.length 1 (ss.map Value.string) ∧ ss.length ≤ c ∧ ss.length < 9223372036854775808 := by
  rcases open_strings Tryz.underlying22 Tryz.underlying9 cellsStr h with ⟨h1, _⟩ | ⟨a, l, c, zs, h1, _, hl, hm, hz, _, hx, _⟩
  ·injection h1 with h1
   exact ⟨none, [], 0, h1, Sl.nil _ _ _, by simp, by simp⟩
  ·injection h1 with h1
   simp only [if_true] at hz
   have hlen : (zs.take l).length = l := by rw [List.length_take]; omega
   refine ⟨some a, zs.take l, c, by rw [hlen, h1], ⟨by simp, fun hn => ⟨a, rfl, ?_, ?_⟩⟩, by omega, by rw [hlen]; simp only [maxLen] at hm; omega⟩
   ·rw [hlen] at hn; exact World.block_lt_of_cell? W _ (hx 0 (by omega))
   ·intro j u hu
    have hj : j < l := by
     have := (List.getElem?_eq_some_iff.1 hu).1; rw [List.length_map, hlen] at this; exact this
    have e : u = .string (zs.getD j ByteArray.empty) := by
     rw [List.getElem?_map, List.getElem?_take, if_pos hj] at hu; simp only [List.getElem?_eq_getElem (show j < zs.length by omega), Option.map_some] at hu
     injection hu with hu
     rw [← hu]; simp [show j < zs.length by omega]
    rw [e]; exact hx j (by omega)
end
end Go.Proofs.YtbgaiceakmmfdaaGreatDoor.Fr
end
namespace Go.Bn
section
abbrev B : Nat := 4294967296
def val : List Nat → Nat
  | [] => 0
  | x :: xs => x + B * val xs
def Dig (xs : List Nat) : Prop := ∀ x ∈ xs, x < B
def Norm (xs : List Nat) : Prop := ∀ h : xs ≠ [], xs.getLast h ≠ 0
theorem val_app (xs ys : List Nat) : val (xs ++ ys) = val xs + B ^ xs.length * val ys := by
 induction xs with
 | nil => simp [val]
 | cons x xs ih =>
   simp only [List.cons_append, val, ih, List.length_cons, Nat.pow_succ]; rw [Nat.mul_add, Nat.mul_comm (B ^ xs.length) B, Nat.mul_assoc]; omega
theorem val_lt {xs : List Nat} (h : Dig xs) : val xs < B ^ xs.length := by
 induction xs with
 | nil => simp [val]
 | cons x xs ih =>
   have h1 := h x (by simp); have h2 := ih (fun y hy => h y (by simp [hy])); simp only [val, List.length_cons, Nat.pow_succ]; have : B * (val xs + 1) ≤ B * B ^ xs.length := Nat.mul_le_mul_left _ h2; rw [Nat.mul_comm (B ^ xs.length) B]; rw [Nat.mul_add] at this; omega
theorem val_zeros (n : Nat) : val (List.replicate n 0) = 0 := by
 induction n with
 | zero => rfl
 | succ n ih => rw [List.replicate_succ]; simp [val, ih]
def dg (n : Nat) : List Nat := if _h : n = 0 then [] else n % B :: dg (n / B)
termination_by n
decreasing_by exact Nat.div_lt_self (by omega) (by decide)
theorem dg_zero : dg 0 = [] := by unfold dg; rfl
theorem dg_pos {n : Nat} (h : n ≠ 0) : dg n = n % B :: dg (n / B) := by rw [dg]; simp [h]
theorem dg_small {n : Nat} (h : n ≠ 0) (hb : n < B) : dg n = [n] := by
 rw [dg_pos h, Nat.mod_eq_of_lt hb, Nat.div_eq_of_lt hb, dg_zero]
theorem val_dg (n : Nat) : val (dg n) = n := by
 induction n using Nat.strongRecOn with
 | _ n ih =>
   by_cases h : n = 0
   ·subst h; rw [dg_zero]; rfl
   ·rw [dg_pos h]; simp only [val]; rw [ih _ (Nat.div_lt_self (by omega) (by decide))]; have := Nat.mod_add_div n B; omega
theorem dg_dig (n : Nat) : Dig (dg n) := by
 induction n using Nat.strongRecOn with
 | _ n ih =>
   by_cases h : n = 0
   ·subst h; rw [dg_zero]; intro x hx; cases hx
   ·rw [dg_pos h]; intro x hx
    rcases List.mem_cons.1 hx with rfl | hx
    ·exact Nat.mod_lt _ (by decide)
    ·exact ih _ (Nat.div_lt_self (by omega) (by decide)) x hx
theorem norm_cons {x : Nat} {xs : List Nat} (h : Norm (x :: xs)) : Norm xs := by
 intro hne
 have := h (by simp)
 rwa [List.getLast_cons hne] at this
theorem norm_pos {xs : List Nat} (h : Norm xs) (hv : val xs = 0) : xs = [] := by
 induction xs with
 | nil => rfl
 | cons x xs ih =>
   simp only [val] at hv
   have h1 : x = 0 := by omega
   have h2 : val xs = 0 := by
    have : B * val xs = 0 := by omega
    rcases Nat.mul_eq_zero.1 this with h | h
    ·exact absurd h (by decide)
    ·exact h
   have h3 := ih (norm_cons h) h2; subst h3 h1; exact absurd rfl (h (by simp))
theorem dg_val {xs : List Nat} (hd : Dig xs) (hn : Norm xs) : dg (val xs) = xs := by
 induction xs with
 | nil => exact dg_zero
 | cons x xs ih =>
   have hx := hd x (by simp); have ih := ih (fun y hy => hd y (by simp [hy])) (norm_cons hn)
   have hv : val (x :: xs) ≠ 0 := fun e => by have := norm_pos hn e; cases this
   rw [dg_pos hv]; simp only [val] at hv ⊢; rw [Nat.add_mul_mod_self_left, Nat.mod_eq_of_lt hx, Nat.add_mul_div_left _ _ (by decide), Nat.div_eq_of_lt hx, Nat.zero_add, ih]
theorem dg_norm (n : Nat) : Norm (dg n) := by
 induction n using Nat.strongRecOn with
 | _ n ih =>
   by_cases h : n = 0
   ·subst h; rw [dg_zero]; intro h; exact absurd rfl h
   ·intro hne; have hlt : n / B < n := Nat.div_lt_self (by omega) (by decide); have ih := ih _ hlt; have e := dg_pos h
    by_cases h2 : n / B = 0
    ·have hb : n < B := by
      rcases Nat.div_eq_zero_iff.1 h2 with h3 | h3
      ·exact absurd h3 (by decide)
      ·exact h3
     have : ∀ (l : List Nat) (hl : l ≠ []), l = [n] → l.getLast hl ≠ 0 := fun l hl el => by subst el; simpa using h
     exact this _ hne (dg_small h hb)
    ·have hd : dg (n / B) ≠ [] := fun e2 => h2 (by have := val_dg (n / B); rw [e2] at this; exact this.symm)
     have : ∀ (l : List Nat) (hl : l ≠ []), l = n % B :: dg (n / B) → l.getLast hl ≠ 0 := fun l hl el => by
      subst el; rw [List.getLast_cons hd]; exact ih hd
     exact this _ hne e
theorem dg_append_zero (xs : List Nat) : val (xs ++ [0]) = val xs := by rw [val_app]; simp [val]
theorem dg_len_lt {n k : Nat} (h : n < B ^ k) : (dg n).length ≤ k := by
 induction k generalizing n with
 | zero => have : n = 0 := by simpa using h
           subst this; rw [dg_zero]; simp
 | succ k ih =>
   by_cases h0 : n = 0
   ·subst h0; rw [dg_zero]; simp
   ·rw [dg_pos h0, List.length_cons]
    have : n / B < B ^ k := by
     rw [Nat.pow_succ] at h; exact Nat.div_lt_of_lt_mul (by rw [Nat.mul_comm]; exact h)
    have := ih this; omega
theorem dg_ge {n k : Nat} (h : B ^ k ≤ n) : k < (dg n).length := by
 have h1 := val_lt (dg_dig n)
 rw [val_dg] at h1
 rcases Nat.lt_or_ge k (dg n).length with h2 | h2
 ·exact h2
 ·have := Nat.pow_le_pow_right (show 0 < B by decide) h2
  omega
structure Tops (u v top u2 v1 v2 P : Nat) : Prop where
  u_hi : (top * B + u2) * P ≤ u
  u_lo : u < (top * B + u2 + 1) * P
  v_hi : (v1 * B + v2) * P ≤ v
  v_lo : v < (v1 * B + v2 + 1) * P
  u2lt : u2 < B
  v2lt : v2 < B
  big : B ≤ 2 * v1
  v1lt : v1 < B
theorem Tops.two {u v top u2 v1 v2 P q : Nat} (h : Tops u v top u2 v1 v2 P) (hq : q * v ≤ u) : q * (v1 * B + v2) ≤ top * B + u2 := by
 have h1 : q * ((v1 * B + v2) * P) ≤ q * v := Nat.mul_le_mul_left _ h.v_hi
 have h2 : q * (v1 * B + v2) * P < (top * B + u2 + 1) * P := by
  rw [Nat.mul_assoc]; exact Nat.lt_of_le_of_lt (Nat.le_trans h1 hq) h.u_lo
 have := Nat.lt_of_mul_lt_mul_right h2
 omega
theorem Tops.first {u v top u2 v1 v2 P q : Nat} (h : Tops u v top u2 v1 v2 P) (hq : q * v ≤ u) : q ≤ top / v1 := by
 have h1 := h.two hq
 have hu := h.u2lt
 have hb := h.big
 rw [Nat.mul_add, ← Nat.mul_assoc] at h1
 have h2 : q * v1 * B < (top + 1) * B := by rw [Nat.add_mul]; omega
 have h3 := Nat.lt_of_mul_lt_mul_right h2
 rw [Nat.le_div_iff_mul_le (by simp only [B] at hb; omega)]
 omega
theorem Tops.down {u v top u2 v1 v2 P q e r : Nat} (h : Tops u v top u2 v1 v2 P) (hq : q * v ≤ u) (he : e * v1 + r = top) (ht : r * B + u2 < e * v2) (hqe : q ≤ e) : q ≤ e - 1 := by
 rcases Nat.lt_or_ge q e with h1 | h1
 ·omega
 ·have : q = e := by omega
  subst this; have h2 := h.two hq; rw [Nat.mul_add, ← Nat.mul_assoc, ← he, Nat.add_mul] at h2; omega
theorem Tops.small {u v top u2 v1 v2 P : Nat} (h : Tops u v top u2 v1 v2 P) (hlt : u < v * B) : top / v1 ≤ B + 1 := by
 have hb := h.big
 have hv2 := h.v2lt
 have h1 : (top * B + u2) * P < (v1 * B + v2 + 1) * P * B := Nat.lt_of_le_of_lt h.u_hi (Nat.lt_of_lt_of_le hlt (Nat.mul_le_mul_right _ (Nat.le_of_lt h.v_lo)))
 have h2 : (top * B + u2) * P < ((v1 * B + v2 + 1) * B) * P := by rw [Nat.mul_right_comm]; exact h1
 have h3 := Nat.lt_of_mul_lt_mul_right h2
 have h4 : (v1 * B + v2 + 1) * B ≤ (v1 * B + B) * B := Nat.mul_le_mul_right _ (by omega)
 have h5 : top * B < (v1 * B + B) * B := Nat.lt_of_le_of_lt (Nat.le_add_right _ u2) (Nat.lt_of_lt_of_le h3 h4)
 have h6 : top < v1 * B + B := Nat.lt_of_mul_lt_mul_right h5
 have h7 : top < (B + 2) * v1 := by
  simp only [B] at h6 hb ⊢; omega
 have := (Nat.div_lt_iff_lt_mul (by simp only [B] at hb; omega)).2 h7
 omega
theorem Tops.near {u v top u2 v1 v2 P e r : Nat} (h : Tops u v top u2 v1 v2 P) (hP : 0 < P) (he : e * v1 + r = top) (heB : e ≤ B) (ht : e * v2 ≤ r * B + u2 ∨ B ≤ r) : e * v < u + v := by
 have hv2 := h.v2lt
 have hbg := h.big
 have h0 : e * v2 ≤ r * B + u2 := by
  rcases ht with ht | ht
  ·exact ht
  ·have h1 : e * v2 ≤ B * B := Nat.mul_le_mul heB (Nat.le_of_lt hv2); have h2 : B * B ≤ r * B := Nat.mul_le_mul_right _ ht; omega
 have h1 : e * (v1 * B + v2) ≤ top * B + u2 := by
  rw [Nat.mul_add, ← Nat.mul_assoc, ← he, Nat.add_mul]; omega
 have h2 : e * (v1 * B + v2) * P ≤ u := Nat.le_trans (Nat.mul_le_mul_right _ h1) h.u_hi
 rcases Nat.eq_zero_or_pos e with rfl | hpos
 ·have h3 : 1 * P ≤ (v1 * B + v2) * P := Nat.mul_le_mul_right _ (by simp only [B] at hbg ⊢; omega)
  have := h.v_hi; omega
 ·have h3 : e * v < e * ((v1 * B + v2 + 1) * P) := Nat.mul_lt_mul_of_pos_left h.v_lo hpos
  have h4 : e * ((v1 * B + v2 + 1) * P) = e * (v1 * B + v2) * P + e * P := by rw [← Nat.mul_assoc, Nat.mul_add, Nat.add_mul, Nat.mul_one]
  have h5 : e * P ≤ v := by
   refine Nat.le_trans (Nat.mul_le_mul_right P ?_) h.v_hi; simp only [B] at hbg heB ⊢; omega
  omega
structure Est (top v1 q e r : Nat) : Prop where
  eq : e * v1 + r = top
  ge : q ≤ e
  le : e ≤ B + 1
theorem Est.start {u v top u2 v1 v2 P q : Nat} (h : Tops u v top u2 v1 v2 P) (hq : q * v ≤ u) (hlt : u < v * B) : Est top v1 q (top / v1) (top % v1) :=
  ⟨by rw [Nat.mul_comm]; exact Nat.div_add_mod _ _, h.first hq, h.small hlt⟩
theorem Est.round {u v top u2 v1 v2 P q e r : Nat} (h : Tops u v top u2 v1 v2 P) (hq : q * v ≤ u) (hqB : q < B) (s : Est top v1 q e r) (ht : B ≤ e ∨ r * B + u2 < e * v2) : Est top v1 q (e - 1) (r + v1) ∧ e - 1 ≤ B ∧ 0 < e := by
 have hpos : 0 < e := by
  rcases ht with ht | ht
  ·exact Nat.lt_of_lt_of_le (by decide) ht
  ·rcases Nat.eq_zero_or_pos e with rfl | h0
   ·rw [Nat.zero_mul] at ht; exact absurd ht (Nat.not_lt_zero _)
   ·exact h0
 have hle := s.le
 refine ⟨⟨?_, ?_, by omega⟩, by omega, hpos⟩
 ·have he := s.eq
  obtain ⟨d, rfl⟩ : ∃ d, e = d + 1 := ⟨e - 1, by omega⟩; rw [Nat.add_sub_cancel]; rw [Nat.add_mul, Nat.one_mul] at he; omega
 ·rcases ht with ht | ht
  ·omega
  ·exact h.down hq s.eq ht s.ge
theorem Est.stop {u v top u2 v1 v2 P q e r : Nat} (h : Tops u v top u2 v1 v2 P) (hP : 0 < P) (hq : q = u / v) (hv : 0 < v) (s : Est top v1 q e r) (heB : e ≤ B) (ht : e * v2 ≤ r * B + u2 ∨ B ≤ r) : e = q ∨ e = q + 1 := by
 have h1 := h.near hP s.eq heB ht
 have h2 := s.ge
 have h3 : e < q + 2 := by
  refine Nat.lt_of_mul_lt_mul_right (a := v) ?_; have h4 := Nat.lt_div_mul_add (a := u) hv; rw [← hq] at h4; rw [Nat.add_mul]; omega
 omega
theorem est_fit {e v2 r u2 : Nat} (he : e ≤ B + 1) (hv : v2 < B) (hr : r < B) (hu : u2 < B) : e * v2 < B * B ∧ r * B + u2 < B * B := by
 have h1 : e * v2 ≤ (B + 1) * (B - 1) := Nat.mul_le_mul he (by omega)
 have h2 : (B + 1) * (B - 1) < B * B := by decide
 have h3 : (r + 1) * B ≤ B * B := Nat.mul_le_mul_right _ hr
 rw [Nat.add_mul, Nat.one_mul] at h3
 exact ⟨Nat.lt_of_le_of_lt h1 h2, by omega⟩
theorem msub_fit {h y c : Nat} (hh : h ≤ B) (hy : y < B) (hc : c < B) : h * y + c < B * B ∧ (h * y + c) / B < B := by
 have h1 : h * y ≤ B * (B - 1) := Nat.mul_le_mul hh (by omega)
 have h2 : B * (B - 1) + (B - 1) < B * B := by decide
 have h3 : h * y + c < B * B := by omega
 exact ⟨h3, by rw [Nat.div_lt_iff_lt_mul (by decide)]; exact h3⟩
theorem msub_digit {x a bo : Nat} (hx : x < B) (ha : a < B) (hb : bo ≤ 1) : (x + 18446744073709551616 - (a + bo)) % 18446744073709551616 % B + a + bo = x + B * ((x + 18446744073709551616 - (a + bo)) % 18446744073709551616 / B % 2) := by
 simp only [B] at *
 omega
theorem msub_step {x p bo x' bo' : Nat} (h : x' + p % B + bo = x + B * bo') : x' + p + bo = x + B * (p / B + bo') := by
 have hm := Nat.mod_add_div p B
 rw [Nat.mul_add]
 omega
theorem msub_round {U U' V h c bo x x' y bo' K : Nat} (hs : U' + h * V = U + K * (c + bo)) (hd : x' + (h * y + c) + bo = x + B * ((h * y + c) / B + bo')) :
    U' + K * x' + h * (V + K * y) = U + K * x + K * B * ((h * y + c) / B + bo') := by
  have e1 : K * x' + K * (h * y + c) + K * bo = K * x + K * B * ((h * y + c) / B + bo') := by
   rw [← Nat.mul_add, ← Nat.mul_add, hd, Nat.mul_add, Nat.mul_assoc]
  have e2 : h * (V + K * y) = h * V + K * (h * y) := by rw [Nat.mul_add, Nat.mul_left_comm]
  rw [Nat.mul_add K (h * y)] at e1; rw [Nat.mul_add] at hs; rw [e2]; omega
theorem back_round {U U' V c x y K : Nat} (hs : U' + K * c = U + V) : U' + K * ((c + (x + y)) % B) + K * B * ((c + (x + y)) / B) = U + K * x + (V + K * y) := by
 have hm := Nat.mod_add_div (c + (x + y)) B
 have e : K * ((c + (x + y)) % B) + K * B * ((c + (x + y)) / B) = K * c + K * x + K * y := by
  rw [Nat.mul_assoc, ← Nat.mul_add, hm, Nat.mul_add, Nat.mul_add, Nat.add_assoc]
 omega
theorem val_two {l : List Nat} {m a b : Nat} (hl : l.length = m) : val (l ++ [a, b]) = val l + (b * B + a) * B ^ m := by
 rw [val_app, hl]
 simp only [val, Nat.mul_zero, Nat.add_zero]
 rw [Nat.mul_comm (B ^ m), Nat.mul_comm B b, Nat.add_comm a]
theorem val_three {l : List Nat} {m a b c : Nat} (hl : l.length = m) : val (l ++ [a, b, c]) = val l + ((c * B + b) * B + a) * B ^ m := by
 rw [val_app, hl]
 simp only [val, Nat.mul_zero, Nat.add_zero]
 rw [Nat.mul_comm (B ^ m), Nat.mul_comm B c, Nat.add_comm b, Nat.mul_comm B (c * B + b), Nat.add_comm a]
theorem tops_of {us vs : List Nat} {m a b c x y : Nat} (hu : us.length = m) (hv : vs.length = m) (du : Dig us) (dv : Dig vs) (ha : a < B) (hx : x < B) (hy : y < B) (hbig : B ≤ 2 * y) :
    Tops (val (us ++ [a, b, c])) (val (vs ++ [x, y])) (c * B + b) a y x (B ^ m) := by
  have h1 := val_lt du; have h2 := val_lt dv; rw [hu] at h1; rw [hv] at h2; rw [val_three hu, val_two hv]; refine ⟨Nat.le_add_left _ _, ?_, Nat.le_add_left _ _, ?_, ha, hx, hbig, hy⟩
  ·rw [Nat.add_mul _ 1, Nat.one_mul]; omega
  ·rw [Nat.add_mul _ 1, Nat.one_mul]; omega
theorem digit_right {W V q e low top c bo K z : Nat} (hq : q = W / V) (hV : 0 < V) (hVK : V ≤ K) (he : e = q ∨ e = q + 1) (hW : W = low + K * top) (hs : z + e * V = low + K * (c + bo)) (_ : z < K) (ht : c + bo ≤ top) :
    e = q ∧ z = W % V ∧ top = c + bo := by
  have hm := Nat.div_add_mod W V; have hlt := Nat.mod_lt W hV; rw [← hq, Nat.mul_comm] at hm; obtain ⟨d, rfl⟩ : ∃ d, top = c + bo + d := ⟨top - (c + bo), by omega⟩; rw [Nat.mul_add K (c + bo)] at hW
  have h1 : e = q := by
   rcases he with h | h
   ·exact h
   ·subst h; rw [Nat.add_mul, Nat.one_mul] at hs; omega
  subst h1
  have h2 : z + K * d = W % V := by omega
  have h3 : d = 0 := by
   rcases Nat.eq_zero_or_pos d with h | h
   ·exact h
   ·have : K * 1 ≤ K * d := Nat.mul_le_mul_left _ h; omega
  subst h3; exact ⟨rfl, by omega, by omega⟩
theorem digit_wrong {W V q e low top c bo K z : Nat} (hq : q = W / V) (hV : 0 < V) (hVK : V ≤ K) (he : e = q ∨ e = q + 1) (hW : W = low + K * top) (hs : z + e * V = low + K * (c + bo)) (hz : z < K) (ht : top < c + bo) :
    e = q + 1 ∧ c + bo = top + 1 ∧ z + V = W % V + K := by
  have hm := Nat.div_add_mod W V; have hlt := Nat.mod_lt W hV; rw [← hq, Nat.mul_comm] at hm; obtain ⟨d, hd⟩ : ∃ d, c + bo = top + 1 + d := ⟨c + bo - top - 1, by omega⟩; rw [hd, Nat.mul_add, Nat.mul_add, Nat.mul_one] at hs
  have h1 : e = q + 1 := by
   rcases he with h | h
   ·subst h; omega
   ·exact h
  subst h1; rw [Nat.add_mul, Nat.one_mul] at hs
  have h3 : d = 0 := by
   rcases Nat.eq_zero_or_pos d with h | h
   ·exact h
   ·have : K * 1 ≤ K * d := Nat.mul_le_mul_left _ h; omega
  subst h3; rw [Nat.mul_zero] at hs; exact ⟨rfl, by omega, by omega⟩
structure DvSt (A V L M : Nat) (k : Nat) (us qs : List Nat) : Prop where
  len : us.length = L
  dig : Dig us
  rest : val (us.drop k) < V
  qlen : qs.length + k = M
  qdig : Dig qs
  sum : A = val us + B ^ k * V * val qs
theorem val_take_drop (us : List Nat) (k : Nat) (h : k ≤ us.length) : val us = val (us.take k) + B ^ k * val (us.drop k) := by
 conv => lhs; rw [← List.take_append_drop k us, val_app, List.length_take, Nat.min_eq_left h]
theorem dig_drop {xs : List Nat} (h : Dig xs) (k : Nat) : Dig (xs.drop k) := fun x hx => h x (List.mem_of_mem_drop hx)
theorem dig_tak {xs : List Nat} (h : Dig xs) (k : Nat) : Dig (xs.take k) := fun x hx => h x (List.mem_of_mem_take hx)
theorem dig_app {xs ys : List Nat} (h : Dig xs) (g : Dig ys) : Dig (xs ++ ys) := fun x hx => by
 rcases List.mem_append.1 hx with hx | hx
 ·exact h x hx
 ·exact g x hx
theorem dig_cons {x : Nat} {xs : List Nat} (h : x < B) (g : Dig xs) : Dig (x :: xs) := fun y hy => by
 rcases List.mem_cons.1 hy with rfl | hy
 ·exact h
 ·exact g y hy
theorem val_cons_drop {us : List Nat} {k : Nat} (h : k < us.length) : val (us.drop k) = us[k] + B * val (us.drop (k + 1)) := by
 rw [List.drop_eq_getElem_cons h]; rfl
theorem val_above {us : List Nat} {n : Nat} (h : val us < B ^ n) (hn : n ≤ us.length) : val (us.drop n) = 0 := by
 have h1 := val_take_drop us n hn
 rcases Nat.eq_zero_or_pos (val (us.drop n)) with h2 | h2
 ·exact h2
 ·have : B ^ n * 1 ≤ B ^ n * val (us.drop n) := Nat.mul_le_mul_left _ h2
  omega
theorem DvSt.window {A V L M j n : Nat} {us qs : List Nat} (h : DvSt A V L M (j + 1) us qs) (hV : V ≤ B ^ n) (hj : j + n < L) (hn : 0 < n) :
    val (us.drop j) = val ((us.drop j).take n) + B ^ n * (us.drop j).getD n 0 ∧ val (us.drop j) < V * B ∧ val (us.drop (j + n + 1)) = 0 := by
  have hl := h.len; have h0 : val (us.drop (j + 1)) < B ^ n := Nat.lt_of_lt_of_le h.rest hV
  have h1 : val (us.drop (j + n + 1)) = 0 := by
   have := val_above h0 (by rw [List.length_drop]; omega)
   rwa [List.drop_drop, show j + 1 + n = j + n + 1 by omega] at this
  have h2 := val_take_drop (us.drop j) n (by rw [List.length_drop]; omega); rw [List.drop_drop, val_cons_drop (show j + n < us.length by omega), h1, Nat.mul_zero, Nat.add_zero] at h2
  have h3 : (us.drop j).getD n 0 = us[j + n]'(by omega) := by simp [show j + n < us.length by omega]
  refine ⟨by rw [h3]; exact h2, ?_, h1⟩; rw [val_cons_drop (show j < us.length by omega)]; have h4 := h.dig us[j] (List.getElem_mem _); have h5 := h.rest; have h6 : B * (val (us.drop (j + 1)) + 1) ≤ B * V := Nat.mul_le_mul_left _ h5; rw [Nat.mul_add, Nat.mul_one] at h6; rw [Nat.mul_comm V]; omega
theorem DvSt.next {A V L M j n q : Nat} {us qs zs : List Nat} (h : DvSt A V L M (j + 1) us qs) (hV : V ≤ B ^ n) (hj : j + n < L) (hn : 0 < n) (hq : q = val (us.drop j) / V) (hV0 : 0 < V) (hz : val zs = val (us.drop j) % V) (hzl : zs.length = n) (hzd : Dig zs) :
    DvSt A V L M j (us.take j ++ (zs ++ 0 :: us.drop (j + n + 1))) (q :: qs) := by
  obtain ⟨_, hw, h1⟩ := h.window hV hj hn; have hl := h.len
  have htl : (us.take j).length = j := by rw [List.length_take]; omega
  have hv : val (zs ++ 0 :: us.drop (j + n + 1)) = val (us.drop j) % V := by
   rw [val_app, hz]; simp [val, h1]
  refine ⟨?_, ?_, ?_, ?_, ?_, ?_⟩
  ·simp only [List.length_append, htl, List.length_cons, hzl, List.length_drop]; omega
  ·exact dig_app (dig_tak h.dig _) (dig_app hzd (dig_cons (by decide) (dig_drop h.dig _)))
  ·rw [List.drop_append_of_le_length (by omega), List.drop_of_length_le (by omega), List.nil_append, hv]; exact Nat.mod_lt _ hV0
  ·rw [List.length_cons]; have := h.qlen; omega
  ·refine dig_cons ?_ h.qdig; rw [hq, Nat.div_lt_iff_lt_mul hV0, Nat.mul_comm]; exact hw
  ·rw [val_app, htl, hv]; have hs := h.sum; rw [val_take_drop us j (by omega)] at hs; have hm := Nat.div_add_mod (val (us.drop j)) V; rw [← hq] at hm; simp only [val]
   have e1 : B ^ j * val (us.drop j) = B ^ j * (V * q) + B ^ j * (val (us.drop j) % V) := by rw [← Nat.mul_add, hm]
   have e2 : B ^ j * V * (q + B * val qs) = B ^ j * (V * q) + B ^ (j + 1) * V * val qs := by
    rw [Nat.mul_add, Nat.mul_assoc (B ^ j) V q, Nat.pow_succ]
    congr 1
    rw [Nat.mul_assoc (B ^ j), Nat.mul_assoc (B ^ j), Nat.mul_assoc (B ^ j), Nat.mul_left_comm V, Nat.mul_assoc B]
   rw [e2]; omega
theorem DvSt.done {A V L M : Nat} {us qs : List Nat} (h : DvSt A V L M 0 us qs) : val qs = A / V ∧ val us = A % V := by
 have hs := h.sum
 have hr := h.rest
 rw [List.drop_zero] at hr
 rw [Nat.pow_zero, Nat.one_mul] at hs
 have hV : 0 < V := by omega
 constructor
 ·rw [hs, Nat.add_comm, Nat.mul_add_div hV, Nat.div_eq_of_lt hr, Nat.add_zero]
 ·rw [hs, Nat.add_comm, Nat.mul_add_mod, Nat.mod_eq_of_lt hr]
end
end Go.Bn
namespace Go.Proofs.Tg
section
open Go.RowKit Go.Gr Go.Bn
theorem tzl_val (xs : List Nat) : ∀ k, k ≤ xs.length → val (xs.take (tzl xs k)) = val (xs.take k) ∧ Norm (xs.take (tzl xs k))
  | 0, _ => ⟨rfl, fun h => absurd rfl h⟩
  | k + 1, hk => by
    have hx : xs.getD k 0 = xs[k] := by simp [show k < xs.length by omega]
    have ht : xs.take (k + 1) = xs.take k ++ [xs[k]] := List.take_succ_eq_append_getElem hk; unfold tzl
    by_cases h0 : xs.getD k 0 = 0
    ·rw [if_pos h0]; obtain ⟨h1, h2⟩ := tzl_val xs k (by omega); refine ⟨?_, h2⟩; rw [h1, ht, ← hx, h0, dg_append_zero]
    ·rw [if_neg h0]; refine ⟨rfl, fun hne => ?_⟩
     have : ∀ (l : List Nat) (hl : l ≠ []), l = xs.take k ++ [xs[k]] → l.getLast hl ≠ 0 := fun l hl e => by
      subst e; rw [List.getLast_append_of_ne_nil hl (by simp), List.getLast_singleton, ← hx]; exact h0
     exact this _ hne ht
theorem dig_take {xs : List Nat} (h : Dig xs) (k : Nat) : Dig (xs.take k) := fun x hx => h x (List.mem_of_mem_take hx)
theorem tzl_dg {xs : List Nat} (h : Dig xs) : xs.take (tzl xs xs.length) = dg (val xs) ∧ tzl xs xs.length = (dg (val xs)).length := by
 obtain ⟨h1, h2⟩ := tzl_val xs xs.length (Nat.le_refl _)
 rw [List.take_length] at h1
 have e := dg_val (dig_take h (tzl xs xs.length)) h2
 rw [h1] at e
 refine ⟨e.symm, ?_⟩
 rw [e, List.length_take]
 have := tzl_le xs xs.length
 omega
theorem dg_val_len {xs : List Nat} (h : Dig xs) : (dg (val xs)).length ≤ xs.length := by
 rw [← (tzl_dg h).2]
 exact tzl_le _ _
theorem trim_dg (A : Option Addr) (c : Nat) (xs : List Nat) (w : World) (hA : Digs w A xs) (hd : Dig xs) (hn : xs.length ≤ 1000000) (hc : xs.length ≤ c) :
    Calls Tryz.prog 58 #[.slice A xs.length c] w fun e w' => e = .returned (.slice A (dg (val xs)).length c) ∧ w = w' ∧ Digs w' A (dg (val xs)) := by
  have h := trim_any A c xs w hA hn hc; obtain ⟨h1, h2⟩ := tzl_dg hd; refine h.mono ?_; rintro e w' ⟨rfl, rfl⟩; refine ⟨by rw [h2], rfl, ?_⟩; rw [← h1]; exact hA.take _ (tzl_le _ _)
structure ND (w : World) (R : Option Addr) (c n : Nat) : Prop where
  digs : Digs w R (dg n)
  cap : (dg n).length ≤ c
  nilc : R = none → c = 0
theorem ND.keep {w w' : World} {R : Option Addr} {c n : Nat} (h : ND w R c n) (hb : Below w.heap.size w w') : ND w' R c n := ⟨h.digs.keep hb, h.cap, h.nilc⟩
theorem ND.zero (w : World) : ND w none 0 0 := ⟨by rw [dg_zero]; exact Digs.nil _ _, by rw [dg_zero]; exact Nat.le_refl _, fun _ => rfl⟩
theorem ND.some {w : World} {a : Addr} {c n : Nat} (h : Digs w (some a) (dg n)) (hc : (dg n).length ≤ c) : ND w (some a) c n := ⟨h, hc, fun e => by cases e⟩
def RetDg (n : Nat) (w : World) (e : Ending) (w' : World) : Prop := ∃ R cr, e = .returned (.slice R (dg n).length cr) ∧ ND w' R cr n ∧ Below w.heap.size w w'
def darr (l : List Nat) : Array Value := (l.map vd).toArray
theorem darr_made (n : Nat) : madeCells #[.int .u32 0] n = darr (List.replicate n 0) := by
 apply Array.ext
 ·simp [darr, size_madeCells]
 ·intro i h1 h2
  simp [madeCells, darr, vd, Nat.mod_one]
theorem darr_set (l : List Nat) (k s : Nat) : (darr l).setIfInBounds k (.int .u32 (s : Nat)) = darr (l.set k s) := by
 unfold darr
 simp [List.map_set, vd]
theorem darr_at (l : List Nat) {k : Nat} (hk : k < l.length) : (darr l)[k]? = some (.int .u32 (l[k] : Nat)) := by simp [darr, hk, vd]
end
end Go.Proofs.Tg
section
namespace Go.Bn
theorem val_split (xs : List Nat) (i : Nat) (h : i ≤ xs.length) : val xs = val (xs.take i) + B ^ i * val (xs.drop i) := by
 have := val_app (xs.take i) (xs.drop i)
 rw [List.take_append_drop, List.length_take, Nat.min_eq_left h] at this
 exact this
theorem val_drop {xs : List Nat} {i : Nat} (h : i < xs.length) : val (xs.drop i) = xs[i] + B * val (xs.drop (i + 1)) := by
 rw [List.drop_eq_getElem_cons h]; rfl
theorem val_less {xs ys : List Nat} {i : Nat} (hx : i < xs.length) (hy : i < ys.length) (hd : xs.drop (i + 1) = ys.drop (i + 1)) (hX : Dig xs) (hlt : xs[i] < ys[i]) : val xs < val ys := by
 rw [val_split xs i (by omega), val_split ys i (by omega), val_drop hx, val_drop hy, hd]
 have h1 : val (xs.take i) < B ^ i := by
  have := val_lt (xs := xs.take i) (fun x h => hX x (List.mem_of_mem_take h))
  rwa [List.length_take, Nat.min_eq_left (by omega)] at this
 have h2 : B ^ i * (xs[i] + B * val (ys.drop (i + 1))) + B ^ i ≤ B ^ i * (ys[i] + B * val (ys.drop (i + 1))) := by
  have : xs[i] + B * val (ys.drop (i + 1)) + 1 ≤ ys[i] + B * val (ys.drop (i + 1)) := by omega
  have := Nat.mul_le_mul_left (B ^ i) this
  rwa [Nat.mul_add, Nat.mul_one] at this
 omega
theorem dg_lt_of_len {a b : Nat} (h : (dg a).length < (dg b).length) : a < b := by
 rcases Nat.lt_or_ge a b with h1 | h1
 ·exact h1
 ·have h2 := val_lt (dg_dig b)
  rw [val_dg] at h2; have h3 := val_lt (dg_dig a); rw [val_dg] at h3
  have h4 : B ^ (dg a).length ≤ b := by
   have hb : b ≠ 0 := fun e => by subst e; rw [dg_zero] at h; simp at h
   have h5 : (dg b).length - 1 < (dg b).length := by omega
   have h6 : B ^ ((dg b).length - 1) ≤ b := by
    rcases Nat.lt_or_ge b (B ^ ((dg b).length - 1)) with h7 | h7
    ·have := dg_len_lt h7; omega
    ·exact h7
   exact Nat.le_trans (Nat.pow_le_pow_right (by decide) (by omega)) h6
  omega
end Go.Bn
namespace Go.Proofs.Tg
open Go.RowKit Go.Gr Go.Bn
theorem ncmp_len (X Y : Option Addr) (cx cy m n : Nat) (w : World) (r : Int) (h : (m < n ∧ r = -1) ∨ (n < m ∧ r = 1)) :
    Calls Tryz.prog 105 #[.slice X m cx, .slice Y n cy] w fun e w' => e = .returned (.int .i64 r) ∧ w = w' := by
  rcases h with ⟨h, rfl⟩ | ⟨h, rfl⟩
  ·have h1 : ((m : Int) != (n : Int)) = true := by simp; omega
   have h2 : decide ((m : Int) < (n : Int)) = true := dT (by omega)
   have h1' : (m != n) = true := by simp; omega
   have h2' : decide (m < n) = true := dT h; clear h; go_enter Tryz.func105, Tryz.ntmps105; go_wp2; go_ret; exact ⟨rfl, rfl⟩
  ·have h1 : ((m : Int) != (n : Int)) = true := by simp; omega
   have h2 : decide ((m : Int) < (n : Int)) = false := dF (by omega)
   have h1' : (m != n) = true := by simp; omega
   have h2' : decide (m < n) = false := dF (by omega); clear h; go_enter Tryz.func105, Tryz.ntmps105; go_wp2; go_ret; exact ⟨rfl, rfl⟩
theorem ncmp_same (X Y : Option Addr) (cx cy : Nat) (xs ys : List Nat) (w : World) (hX : Digs w X xs) (hY : Digs w Y ys) (hx : Dig xs) (hy : Dig ys) (hl : ys.length = xs.length) (hn : xs.length ≤ 1000000) :
    Calls Tryz.prog 105 #[.slice X xs.length cx, .slice Y ys.length cy] w fun e w' => e = .returned (.int .i64 (if val xs < val ys then -1 else if val xs = val ys then 0 else 1)) ∧ Dr w w' := by
  rw [hl]; have HX := zh hX; have HY := zh hY; have HDX := zh hx; have HDY := zh hy; have HL := zh hl; obtain ⟨r, hr⟩ := eqx ((if val xs < val ys then -1 else if val xs = val ys then 0 else 1) : Int); rw [hr]; have HR := zh hr; clear hX hY hx hy hl hr; go_enter Tryz.func105, Tryz.ntmps105; go_wp2
  go_loopw [5] (fun s5 wr => ∃ k : Nat, s5 = .int .i64 ((k : Int) - 1) ∧ k ≤ xs.length ∧ Hid (xs.drop k = ys.drop k) ∧ Dr w wr) (fun s5 _ => (intOf s5 + 1).toNat)
  case atStart => exact ⟨xs.length, rfl, Nat.le_refl _, zh (by rw [List.drop_length, ← HL.out, List.drop_length]), Dr.refl _⟩
  case round =>
   obtain ⟨wo, rfl⟩ : ∃ wo : World, wo = wr := ⟨_, rfl⟩; obtain ⟨k, rfl, hk, HD, hdr⟩ := hrel
   cases k with
   | zero =>
     have hv : xs = ys := by simpa using HD.out
     obtain rfl : r = 0 := by rw [← HR.out, hv]; simp
     have dd : decide ((0 : Int) ≤ ((0 : Nat) : Int) - 1) = false := by decide
     clear hv; go_wp2; go_ret; exact ⟨rfl, hdr⟩
   | succ j =>
     have hj : j < xs.length := by omega
     have hj2 : j < ys.length := by have := HL.out; omega
     have e : (((j + 1 : Nat) : Int) - 1) = (j : Int) := by omega
     rw [e]; clear e; obtain ⟨ad, rfl, hcx⟩ := Digs.at (HX.out.keep hdr.below) hj; obtain ⟨bd, rfl, hcy⟩ := Digs.at (HY.out.keep hdr.below) hj2; have HLT : Hid (xs[j] < ys[j] → val xs < val ys) := zh (fun h => val_less hj hj2 HD.out HDX.out h); have HGT : Hid (ys[j] < xs[j] → val ys < val xs) := zh (fun h => val_less hj2 hj HD.out.symm HDY.out h); have HEQ : Hid (xs[j] = ys[j] → xs.drop j = ys.drop j) := zh (fun h => by rw [List.drop_eq_getElem_cons hj, List.drop_eq_getElem_cons hj2, h, HD.out]); generalize xs[j] = x at *; generalize ys[j] = y at *
     have q0 : (0 : Int) ≤ (j : Int) := by omega
     have q1 : (j : Int) < (xs.length : Int) := by omega
     have q3 : ((j : Int)).toNat = j := by omega
     have d0 : decide ((0 : Int) ≤ (j : Int)) = true := dT q0
     by_cases hxy : x = y
     ·have HE2 := zh (HEQ.out hxy); clear HEQ HLT HGT; subst hxy
      have hne : ((x : Int) != (x : Int)) = false := by simp
      go_wp2
      go_quiet (fail)
      go_wp2; go_roundw
      case rel => exact ⟨j, by go_num, by omega, HE2, hdr.drewN _⟩
      case measure => simp [intOf]
     ·have hne : ((x : Int) != (y : Int)) = true := by simp; omega
      by_cases hlt : x < y
      ·obtain rfl : r = -1 := by rw [← HR.out, if_pos (HLT.out hlt)]
       have d1 : decide ((x : Int) < (y : Int)) = true := dT (by omega); have d1' : decide (x < y) = true := dT hlt; clear hxy hlt; go_wp2
       go_quiet (fail)
       generalize hW : wo.drewN _ = W
       have hdW : Dr w W := by rw [← hW]; exact hdr.drewN _
       have hcx' : W.cell? (ad.add j) = some (.int .u32 (x : Nat)) := by rw [← hW]; exact hcx
       have hcy' : W.cell? (bd.add j) = some (.int .u32 (y : Nat)) := by rw [← hW]; exact hcy
       clear hW hcx hcy; go_wp2
       go_quiet (fail)
       go_wp2; go_ret; exact ⟨rfl, hdW.drewN _⟩
      ·obtain rfl : r = 1 := by
        have := HGT.out (by omega); rw [← HR.out, if_neg (by omega), if_neg (by omega)]
       have d1 : decide ((x : Int) < (y : Int)) = false := dF (by omega); have d1' : decide (x < y) = false := dF hlt; clear hxy hlt; go_wp2
       go_quiet (fail)
       generalize hW : wo.drewN _ = W
       have hdW : Dr w W := by rw [← hW]; exact hdr.drewN _
       have hcx' : W.cell? (ad.add j) = some (.int .u32 (x : Nat)) := by rw [← hW]; exact hcx
       have hcy' : W.cell? (bd.add j) = some (.int .u32 (y : Nat)) := by rw [← hW]; exact hcy
       clear hW hcx hcy; go_wp2
       go_quiet (fail)
       go_wp2; go_ret; exact ⟨rfl, hdW.drewN _⟩
theorem ncmp_any (X Y : Option Addr) (cx cy a b : Nat) (w : World) (hX : Digs w X (dg a)) (hY : Digs w Y (dg b)) (ha : (dg a).length ≤ 1000000) :
    Calls Tryz.prog 105 #[.slice X (dg a).length cx, .slice Y (dg b).length cy] w fun e w' => e = .returned (.int .i64 (if a < b then -1 else if a = b then 0 else 1)) ∧ Dr w w' := by
  by_cases hl : (dg b).length = (dg a).length
  ·have := ncmp_same X Y cx cy (dg a) (dg b) w hX hY (dg_dig a) (dg_dig b) hl ha
   rwa [val_dg, val_dg] at this
  ·rcases Nat.lt_or_ge (dg a).length (dg b).length with h | h
   ·have hab := dg_lt_of_len h; refine (ncmp_len X Y cx cy _ _ w (-1) (.inl ⟨h, rfl⟩)).mono ?_; rintro e w' ⟨rfl, rfl⟩; exact ⟨by rw [if_pos hab], Dr.refl _⟩
   ·have hab := dg_lt_of_len (a := b) (b := a) (by omega); refine (ncmp_len X Y cx cy _ _ w 1 (.inr ⟨by omega, rfl⟩)).mono ?_; rintro e w' ⟨rfl, rfl⟩; exact ⟨by rw [if_neg (by omega), if_neg (by omega)], Dr.refl _⟩
end Go.Proofs.Tg
end
