/- Parts of the proof: JB0, IL1, IM6. -/
import Derived.Lib.ItoaLen
import Derived.Laws.CopyOwn
import Derived.Test.YtbgaiceakmmfdaaGreatDoorMMR0
import Derived.Test.YtbgaiceakmmfdaaGreatDoorMMR8
import Derived.Test.YtbgaiceakmmfdaaGreatDoorMMR11
set_option maxHeartbeats 64000000
set_option maxRecDepth 100000
namespace Go.Dt
section
open Go.Lib
def dig0 (n : Nat) : List UInt8 := if n = 0 then [] else decDigits n
def D (n W : Nat) : List UInt8 := List.replicate (W - (dig0 n).length) 48 ++ dig0 n
theorem dec_last (n : Nat) (h : 10 ≤ n) : decDigits n = decDigits (n / 10) ++ [UInt8.ofNat (48 + n % 10)] := by
 rw [decDigits, dif_neg (by omega)]
theorem dig0_last (y d : Nat) (hd : d < 10) (h : 10 * y + d ≠ 0) : dig0 (10 * y + d) = dig0 y ++ [UInt8.ofNat (48 + d)] := by
 unfold dig0
 rw [if_neg h]
 by_cases hy : y = 0
 ·subst hy
  rw [if_pos rfl, Nat.mul_zero, Nat.zero_add, decDigits_one hd]
  rfl
 ·rw [if_neg hy, dec_last _ (by omega)]
  have h1 : (10 * y + d) / 10 = y := by omega
  have h2 : (10 * y + d) % 10 = d := by omega
  rw [h1, h2]
theorem D_zero (W : Nat) : D 0 W = List.replicate W 48 := by simp [D, dig0]
theorem D_last (y d W : Nat) (hd : d < 10) (h : y ≠ 0 ∨ 1 ≤ W) : D (10 * y + d) W = D y (W - 1) ++ [UInt8.ofNat (48 + d)] := by
 by_cases h0 : 10 * y + d = 0
 ·have hy : y = 0 := by omega
  have hd0 : d = 0 := by omega
  subst hy hd0; rw [D_zero, D_zero]
  have hW : 1 ≤ W := by rcases h with h | h; exact absurd rfl h; exact h
  have e : W = (W - 1) + 1 := by omega
  rw [e, List.replicate_succ']
  rfl
 ·unfold D
  rw [dig0_last y d hd h0, List.length_append, List.length_singleton, ← List.append_assoc]
  congr 2
  congr 1
  omega
theorem D_split : ∀ (k a b W : Nat), b < 10 ^ k → (a ≠ 0 ∨ k ≤ W) → D (a * 10 ^ k + b) W = D a (W - k) ++ D b k
  | 0, a, b, W, hb, h => by
    have : b = 0 := by simp at hb; exact hb
    subst this; simp [D_zero]
  | k + 1, a, b, W, hb, h => by
    obtain ⟨y, d, hd, rfl⟩ : ∃ y d, d < 10 ∧ b = 10 * y + d := ⟨b / 10, b % 10, Nat.mod_lt _ (by omega), by omega⟩
    have hy : y < 10 ^ k := by rw [Nat.pow_succ] at hb; omega
    have e : a * 10 ^ (k + 1) + (10 * y + d) = 10 * (a * 10 ^ k + y) + d := by
     rw [Nat.pow_succ, ← Nat.mul_assoc, Nat.mul_comm (a * 10 ^ k) 10]; omega
    have hp : 0 < 10 ^ k := Nat.pow_pos (by decide)
    rw [e, D_last _ d W hd (by
     rcases h with h | h
     ·left
      have := Nat.mul_pos (Nat.pos_of_ne_zero h) hp; omega
     ·right; omega), D_split k a y (W - 1) hy (by omega), D_last y d (k + 1) hd (by omega), List.append_assoc, Nat.add_sub_cancel]
    rw [show W - 1 - k = W - (k + 1) by omega]
theorem dig0_len : ∀ {k n : Nat}, n < 10 ^ k → (dig0 n).length ≤ k
  | 0, n, h => by
    have : n = 0 := by simp at h; exact h
    subst this; simp [dig0]
  | k + 1, n, h => by
    by_cases hn : n = 0
    ·subst hn; simp [dig0]
    ·obtain ⟨y, d, hd, rfl⟩ : ∃ y d, d < 10 ∧ n = 10 * y + d := ⟨n / 10, n % 10, Nat.mod_lt _ (by omega), by omega⟩
     have hy : y < 10 ^ k := by rw [Nat.pow_succ] at h; omega
     have := dig0_len hy; rw [dig0_last y d hd hn, List.length_append]; simp; omega
theorem D_pos {n : Nat} (h : n ≠ 0) : D n 0 = decDigits n := by simp [D, dig0, h]
theorem D_chunk (n k : Nat) (hk : 1 ≤ k) : List.replicate (k - (decDigits n).length) 48 ++ decDigits n = D n k := by
 by_cases hn : n = 0
 ·subst hn
  rw [D_zero, Go.Qn.dec_zero]
  have e : k = (k - 1) + 1 := by omega
  rw [e, List.replicate_succ']; simp
 ·simp [D, dig0, hn]
end
end Go.Dt
namespace Go.Bw
section
structure LmRet (a b u0 u1 v0 v1 : Nat) (odd : Bool) (P R : Nat) : Prop where
  lt : R < P
  le : P ≤ b
  lin : (odd = true ∧ v0 * b + P = u0 * a ∧ u1 * a + R = v1 * b ∧ u0 * v1 = v0 * u1 + 1) ∨ (odd = false ∧ u0 * a + P = v0 * b ∧ v1 * b + R = u1 * a ∧ v0 * u1 = u0 * v1 + 1)
def LmVal (a b u v r : Nat) (odd : Bool) : Prop := (odd = true ∧ r + u * a = v * b) ∨ (odd = false ∧ r + v * b = u * a)
structure LmSt (a b A C f g u0 u1 u2 v0 v1 v2 : Nat) (odd : Bool) : Prop where
  ge : g ≤ f
  pos : 1 ≤ v2
  le2 : u2 ≤ v2
  sumA : v2 * f + v1 * g = A
  sumC : u2 * f + u1 * g = C
  lin : (odd = true ∧ f + u1 * A = v1 * C ∧ g + v2 * C = u2 * A ∧ u2 * v1 = u1 * v2 + 1) ∨ (odd = false ∧ f + v1 * C = u1 * A ∧ g + u2 * A = v2 * C ∧ u1 * v2 = u2 * v1 + 1)
  first : (v1 = 0 ∧ u1 = 1 ∧ u2 = 0 ∧ v2 = 1 ∧ odd = false) ∨ (u1 ≤ v1 ∧ 1 ≤ v1 ∧ ∃ r, r ≤ b ∧ LmVal a b u1 v1 r odd)
  ret : v0 ≠ 0 → ∃ P R, LmRet a b u0 u1 v0 v1 odd P R
theorem LmSt.start {a b A C : Nat} (h : C ≤ A) : LmSt a b A C A C 0 1 0 0 0 1 false :=
  ⟨h, Nat.le_refl _, by omega, by omega, by omega, .inr ⟨rfl, by omega, by omega, by omega⟩, .inl ⟨rfl, rfl, rfl, rfl, rfl⟩, fun h => absurd rfl h⟩
theorem LmSt.fit {a b A C f g u0 u1 u2 v0 v1 v2 : Nat} {odd : Bool} (s : LmSt a b A C f g u0 u1 u2 v0 v1 v2 odd) (hg : v2 ≤ g) : 0 < g ∧ v1 + v2 ≤ A ∧ v1 + f / g * v2 ≤ A ∧ u1 + f / g * u2 ≤ C ∧ f / g * v2 ≤ A ∧ f / g * u2 ≤ C := by
 have h0 : 0 < g := by have := s.pos; omega
 have hf : 0 < f := by have := s.ge; omega
 have h1 : v1 * 1 ≤ v1 * g := Nat.mul_le_mul_left _ h0
 have h2 : v2 * 1 ≤ v2 * f := Nat.mul_le_mul_left _ hf
 have h3 : u1 * 1 ≤ u1 * g := Nat.mul_le_mul_left _ h0
 have hq : f / g ≤ f := Nat.div_le_self _ _
 have h4 : f / g * v2 ≤ v2 * f := by rw [Nat.mul_comm]; exact Nat.mul_le_mul_left _ hq
 have h5 : f / g * u2 ≤ u2 * f := by rw [Nat.mul_comm]; exact Nat.mul_le_mul_left _ hq
 have a1 := s.sumA
 have a2 := s.sumC
 omega
theorem lm_even {a b D A C f g u1 u2 v1 v2 al bl : Nat} (ha : a = A * D + al) (hb : b = C * D + bl) (hal : al < D) (hbl : bl < D) (h1 : f + v1 * C = u1 * A) (h2 : g + u2 * A = v2 * C) (hu : u2 ≤ v2) (hg : v2 ≤ g) (hfg : v1 + v2 + g ≤ f) (hp : 1 ≤ v2) :
    ∃ P R, P + v1 * b = u1 * a ∧ R + u2 * a = v2 * b ∧ R < P := by
  subst ha hb
  have e1 : u1 * (A * D + al) = (f + v1 * C) * D + u1 * al := by rw [h1, Nat.mul_add, Nat.mul_assoc]
  have e2 : v2 * (C * D + bl) = (g + u2 * A) * D + v2 * bl := by rw [h2, Nat.mul_add, Nat.mul_assoc]
  have e3 : v1 * (C * D + bl) = v1 * C * D + v1 * bl := by rw [Nat.mul_add, Nat.mul_assoc]
  have e4 : u2 * (A * D + al) = u2 * A * D + u2 * al := by rw [Nat.mul_add, Nat.mul_assoc]
  rw [e1, e2, e3, e4, Nat.add_mul, Nat.add_mul]; have k1 : u2 * al ≤ v2 * D := Nat.mul_le_mul hu (Nat.le_of_lt hal); have k2 : v2 * D ≤ g * D := Nat.mul_le_mul_right _ hg; have k3 : v1 * bl ≤ v1 * D := Nat.mul_le_mul_left _ (Nat.le_of_lt hbl); have k4 : v2 * bl < v2 * D := Nat.mul_lt_mul_of_pos_left hbl hp; have k5 : (v1 + v2 + g) * D ≤ f * D := Nat.mul_le_mul_right _ hfg; rw [Nat.add_mul, Nat.add_mul] at k5; generalize v1 * C * D = x1 at *; generalize u2 * A * D = x2 at *; generalize f * D = x3 at *; generalize g * D = x4 at *; generalize v1 * D = x5 at *; generalize v2 * D = x6 at *; generalize u1 * al = x7 at *; generalize u2 * al = x8 at *; generalize v1 * bl = x9 at *; generalize v2 * bl = y1 at *; exact ⟨x3 + x7 - x9, x4 + y1 - x8, by omega, by omega, by omega⟩
theorem lm_odd {a b D A C f g u1 u2 v1 v2 al bl : Nat} (ha : a = A * D + al) (hb : b = C * D + bl) (hal : al < D) (hbl : bl < D) (h1 : f + u1 * A = v1 * C) (h2 : g + v2 * C = u2 * A) (hu : u1 ≤ v1) (hu2 : u2 ≤ v2) (hg : v2 ≤ g) (hfg : v1 + v2 + g ≤ f) (hp : 1 ≤ v2) :
    ∃ P R, P + u1 * a = v1 * b ∧ R + v2 * b = u2 * a ∧ R < P := by
  subst ha hb
  have e1 : v1 * (C * D + bl) = (f + u1 * A) * D + v1 * bl := by rw [h1, Nat.mul_add, Nat.mul_assoc]
  have e2 : u2 * (A * D + al) = (g + v2 * C) * D + u2 * al := by rw [h2, Nat.mul_add, Nat.mul_assoc]
  have e3 : u1 * (A * D + al) = u1 * A * D + u1 * al := by rw [Nat.mul_add, Nat.mul_assoc]
  have e4 : v2 * (C * D + bl) = v2 * C * D + v2 * bl := by rw [Nat.mul_add, Nat.mul_assoc]
  rw [e1, e2, e3, e4, Nat.add_mul, Nat.add_mul]; have k1 : v2 * bl ≤ v2 * D := Nat.mul_le_mul_left _ (Nat.le_of_lt hbl); have k2 : v2 * D ≤ g * D := Nat.mul_le_mul_right _ hg; have k3 : u1 * al ≤ v1 * D := Nat.mul_le_mul hu (Nat.le_of_lt hal); have k4 : u2 * al ≤ v2 * D := Nat.mul_le_mul hu2 (Nat.le_of_lt hal); have k5 : (v1 + v2 + g) * D ≤ f * D := Nat.mul_le_mul_right _ hfg; rw [Nat.add_mul, Nat.add_mul] at k5
  have k6 : u2 * al < v2 * D := by
   rcases Nat.eq_zero_or_pos u2 with h | h
   ·subst h; rw [Nat.zero_mul]; exact Nat.mul_pos hp (by omega)
   ·exact Nat.lt_of_lt_of_le (Nat.mul_lt_mul_of_pos_left hal h) (Nat.mul_le_mul_right _ hu2)
  generalize u1 * A * D = x1 at *; generalize v2 * C * D = x2 at *; generalize f * D = x3 at *; generalize g * D = x4 at *; generalize v1 * D = x5 at *; generalize v2 * D = x6 at *; generalize u1 * al = x7 at *; generalize u2 * al = x8 at *; generalize v1 * bl = x9 at *; generalize v2 * bl = y1 at *; exact ⟨x3 + x9 - x7, x4 + x8 - y1, by omega, by omega, by omega⟩
theorem lm_lin {A C f g u1 u2 v1 v2 q r : Nat} (hf : f = q * g + r) (h1 : f + v1 * C = u1 * A) (h2 : g + u2 * A = v2 * C) (hd : u1 * v2 = u2 * v1 + 1) :
    r + (v1 + q * v2) * C = (u1 + q * u2) * A ∧ (u1 + q * u2) * v2 = u2 * (v1 + q * v2) + 1 := by
  constructor
  ·have k := congrArg (q * ·) h2; simp only [Nat.mul_add] at k; rw [Nat.add_mul, Nat.add_mul, Nat.mul_assoc, Nat.mul_assoc]; generalize q * (v2 * C) = x1 at *; generalize q * (u2 * A) = x2 at *; generalize q * g = x3 at *; omega
  ·rw [Nat.add_mul, Nat.mul_add, hd, Nat.mul_assoc, Nat.mul_left_comm u2 q v2]; omega
theorem LmSt.next {a b D A C al bl f g u0 u1 u2 v0 v1 v2 : Nat} {odd : Bool} (s : LmSt a b A C f g u0 u1 u2 v0 v1 v2 odd) (ha : a = A * D + al) (hb : b = C * D + bl) (hal : al < D) (hbl : bl < D) (hab : b ≤ a) (hg : v2 ≤ g) (hfg : v1 + v2 ≤ f - g) :
    LmSt a b A C g (f % g) u1 u2 (u1 + f / g * u2) v1 v2 (v1 + f / g * v2) (!odd) := by
  have h0 : 0 < g := by have := s.pos; omega
  have hge := s.ge
  have hfg' : v1 + v2 + g ≤ f := by have := s.pos; omega
  have hr : f % g < g := Nat.mod_lt _ h0
  have hdm : f = f / g * g + f % g := by rw [Nat.mul_comm]; exact (Nat.div_add_mod _ _).symm
  have hq1 : 1 ≤ f / g := (Nat.le_div_iff_mul_le h0).2 (by omega); have hpos := s.pos; have hl2 := s.le2; have hA := s.sumA; have hC := s.sumC; have hlin := s.lin
  have hfi := s.first
  generalize f / g = q at *; generalize f % g = r at *
  have hqv : v2 ≤ q * v2 := by have := Nat.mul_le_mul_right v2 hq1; rwa [Nat.one_mul] at this
  have hqu : q * u2 ≤ q * v2 := Nat.mul_le_mul_left _ hl2; refine ⟨Nat.le_of_lt hr, by omega, ?_, ?_, ?_, ?_, ?_, ?_⟩
  ·rcases hfi with ⟨rfl, rfl, rfl, rfl, _⟩ | ⟨h1, _, _⟩
   ·omega
   ·omega
  ·have e1 : v2 * f = v2 * (q * g) + v2 * r := by rw [← Nat.mul_add, ← hdm]
   have e2 : v2 * (q * g) = q * v2 * g := by rw [← Nat.mul_assoc, Nat.mul_comm v2 q]
   rw [Nat.add_mul, ← e2]; omega
  ·have e1 : u2 * f = u2 * (q * g) + u2 * r := by rw [← Nat.mul_add, ← hdm]
   have e2 : u2 * (q * g) = q * u2 * g := by rw [← Nat.mul_assoc, Nat.mul_comm u2 q]
   rw [Nat.add_mul, ← e2]; omega
  ·rcases hlin with ⟨rfl, l1, l2, l3⟩ | ⟨rfl, l1, l2, l3⟩
   ·obtain ⟨m1, m2⟩ := lm_lin (A := C) (C := A) (u1 := v1) (u2 := v2) (v1 := u1) (v2 := u2) hdm l1 l2 (by rw [Nat.mul_comm v1, Nat.mul_comm v2]; exact l3); exact .inr ⟨rfl, l2, m1, by rw [Nat.mul_comm u2, Nat.mul_comm (u1 + q * u2)]; exact m2⟩
   ·obtain ⟨m1, m2⟩ := lm_lin hdm l1 l2 l3; exact .inl ⟨rfl, l2, m1, m2⟩
  ·right
   refine ⟨hl2, hpos, ?_⟩
   rcases hlin with ⟨rfl, l1, l2, l3⟩ | ⟨rfl, l1, l2, l3⟩
   ·rcases hfi with ⟨_, _, _, _, h⟩ | ⟨h1, _, r0, hr0, hv⟩
    ·cases h
    ·obtain ⟨P, R, p1, p2, p3⟩ := lm_odd ha hb hal hbl l1 l2 h1 hl2 hg hfg' hpos
     have hP : P = r0 := by
      rcases hv with ⟨_, hv⟩ | ⟨h, _⟩
      ·omega
      ·cases h
     exact ⟨R, by omega, .inr ⟨rfl, p2⟩⟩
   ·rcases hfi with ⟨rfl, rfl, rfl, rfl, _⟩ | ⟨h1, _, r0, hr0, hv⟩
    ·exact ⟨b, Nat.le_refl _, .inl ⟨rfl, by omega⟩⟩
    ·obtain ⟨P, R, p1, p2, p3⟩ := lm_even ha hb hal hbl l1 l2 hl2 hg hfg' hpos
     have hP : P = r0 := by
      rcases hv with ⟨h, _⟩ | ⟨_, hv⟩
      ·cases h
      ·omega
     exact ⟨R, by omega, .inl ⟨rfl, p2⟩⟩
  ·intro hv0
   rcases hlin with ⟨rfl, l1, l2, l3⟩ | ⟨rfl, l1, l2, l3⟩
   ·rcases hfi with ⟨_, _, _, _, h⟩ | ⟨h1, _, r0, hr0, hv⟩
    ·cases h
    ·obtain ⟨P, R, p1, p2, p3⟩ := lm_odd ha hb hal hbl l1 l2 h1 hl2 hg hfg' hpos
     have hP : P = r0 := by
      rcases hv with ⟨_, hv⟩ | ⟨h, _⟩
      ·omega
      ·cases h
     exact ⟨P, R, p3, by omega, .inr ⟨rfl, by omega, by omega, by rw [Nat.mul_comm v1]; exact l3⟩⟩
   ·rcases hfi with ⟨h, _⟩ | ⟨h1, _, r0, hr0, hv⟩
    ·exact absurd h hv0
    ·obtain ⟨P, R, p1, p2, p3⟩ := lm_even ha hb hal hbl l1 l2 hl2 hg hfg' hpos
     have hP : P = r0 := by
      rcases hv with ⟨h, _⟩ | ⟨_, hv⟩
      ·cases h
      ·omega
     exact ⟨P, R, p3, by omega, .inl ⟨rfl, by omega, by omega, by rw [Nat.mul_comm v1]; exact l3⟩⟩
theorem LmRet.gcd {a b u0 u1 v0 v1 P R : Nat} {odd : Bool} (h : LmRet a b u0 u1 v0 v1 odd P R) : Nat.gcd P R = Nat.gcd a b := by
 apply Nat.dvd_antisymm
 ·-- a common divisor of P and R divides a and b
  have hP := Nat.gcd_dvd_left P R; have hR := Nat.gcd_dvd_right P R; generalize Nat.gcd P R = d at *
  have key : ∀ {x y z : Nat}, x + y = z → d ∣ y → d ∣ z → d ∣ x := fun {x y z} e h1 h2 => by
   rw [← e] at h2; exact (Nat.dvd_add_left h1).1 h2
  rcases h.lin with ⟨_, l1, l2, l3⟩ | ⟨_, l1, l2, l3⟩
  ·-- a = v1 P + v0 R, b = u1 P + u0 R
   have ea : a + (v1 * (v0 * b) + v0 * (u1 * a)) = v1 * (u0 * a) + v0 * (v1 * b) - 0 := by
    have := congrArg (· * a) l3; simp only [Nat.add_mul] at this
    have e1 : v1 * (u0 * a) = u0 * v1 * a := by rw [Nat.mul_left_comm, Nat.mul_assoc]
    have e2 : v0 * (u1 * a) = v0 * u1 * a := (Nat.mul_assoc _ _ _).symm; have e3 : v1 * (v0 * b) = v0 * (v1 * b) := Nat.mul_left_comm _ _ _; omega
   have hA : a = v1 * P + v0 * R := by
    have k1 := congrArg (v1 * ·) l1; have k2 := congrArg (v0 * ·) l2; simp only [Nat.mul_add] at k1 k2; omega
   have hB : b = u1 * P + u0 * R := by
    have k1 := congrArg (u1 * ·) l1; have k2 := congrArg (u0 * ·) l2; simp only [Nat.mul_add] at k1 k2; have := congrArg (· * b) l3; simp only [Nat.add_mul] at this; have e1 : u0 * (v1 * b) = u0 * v1 * b := (Nat.mul_assoc _ _ _).symm
    have e2 : u1 * (v0 * b) = v0 * u1 * b := by rw [Nat.mul_left_comm, Nat.mul_assoc]
    have e3 : u1 * (u0 * a) = u0 * (u1 * a) := Nat.mul_left_comm _ _ _; omega
   refine Nat.dvd_gcd ?_ ?_
   ·rw [hA]; exact Nat.dvd_add (Nat.dvd_trans hP (Nat.dvd_mul_left _ _)) (Nat.dvd_trans hR (Nat.dvd_mul_left _ _))
   ·rw [hB]; exact Nat.dvd_add (Nat.dvd_trans hP (Nat.dvd_mul_left _ _)) (Nat.dvd_trans hR (Nat.dvd_mul_left _ _))
  ·have hA : a = v1 * P + v0 * R := by
    have k1 := congrArg (v1 * ·) l1; have k2 := congrArg (v0 * ·) l2; simp only [Nat.mul_add] at k1 k2; have := congrArg (· * a) l3; simp only [Nat.add_mul] at this; have e1 : v0 * (u1 * a) = v0 * u1 * a := (Nat.mul_assoc _ _ _).symm
    have e2 : v1 * (u0 * a) = u0 * v1 * a := by rw [Nat.mul_left_comm, Nat.mul_assoc]
    have e3 : v1 * (v0 * b) = v0 * (v1 * b) := Nat.mul_left_comm _ _ _; omega
   have hB : b = u1 * P + u0 * R := by
    have k1 := congrArg (u1 * ·) l1; have k2 := congrArg (u0 * ·) l2; simp only [Nat.mul_add] at k1 k2; have := congrArg (· * b) l3; simp only [Nat.add_mul] at this
    have e1 : u1 * (v0 * b) = v0 * u1 * b := by rw [Nat.mul_left_comm, Nat.mul_assoc]
    have e2 : u0 * (v1 * b) = u0 * v1 * b := (Nat.mul_assoc _ _ _).symm; have e3 : u1 * (u0 * a) = u0 * (u1 * a) := Nat.mul_left_comm _ _ _; omega
   refine Nat.dvd_gcd ?_ ?_
   ·rw [hA]; exact Nat.dvd_add (Nat.dvd_trans hP (Nat.dvd_mul_left _ _)) (Nat.dvd_trans hR (Nat.dvd_mul_left _ _))
   ·rw [hB]; exact Nat.dvd_add (Nat.dvd_trans hP (Nat.dvd_mul_left _ _)) (Nat.dvd_trans hR (Nat.dvd_mul_left _ _))
 ·have ha := Nat.gcd_dvd_left a b
  have hb := Nat.gcd_dvd_right a b; generalize Nat.gcd a b = d at *
  have key : ∀ {x y z : Nat}, y + x = z → d ∣ y → d ∣ z → d ∣ x := fun {x y z} e h1 h2 => by
   rw [← e] at h2; exact (Nat.dvd_add_right h1).1 h2
  rcases h.lin with ⟨_, l1, l2, _⟩ | ⟨_, l1, l2, _⟩
  ·exact Nat.dvd_gcd (key l1 (Nat.dvd_trans hb (Nat.dvd_mul_left _ _)) (Nat.dvd_trans ha (Nat.dvd_mul_left _ _))) (key l2 (Nat.dvd_trans ha (Nat.dvd_mul_left _ _)) (Nat.dvd_trans hb (Nat.dvd_mul_left _ _)))
  ·exact Nat.dvd_gcd (key l1 (Nat.dvd_trans ha (Nat.dvd_mul_left _ _)) (Nat.dvd_trans hb (Nat.dvd_mul_left _ _))) (key l2 (Nat.dvd_trans hb (Nat.dvd_mul_left _ _)) (Nat.dvd_trans ha (Nat.dvd_mul_left _ _)))
end
end Go.Bw
namespace Go.Proofs.Tg.Iw
section
open Go.RowKit Go.Bw Go.Gr Go.Proofs.Tg
theorem sets_blk {w : World} {g n : Nat} {xs : List Nat} (h : Blk w g 118 (warr xs)) (hl : xs.length = n) : Sl w (some ⟨g, 0, none⟩) n 1 (xs.map vs) :=
  ⟨by simp [hl], fun _ => ⟨_, rfl, h.lt, fun j u hu => by rw [add_lit, Nat.zero_add, h.cell j]; unfold warr; rw [List.getElem?_toArray]; exact hu⟩⟩
theorem sets_pre {w : World} {g n : Nat} {xs rs : List Nat} (h : Blk w g 118 (warr (xs ++ rs))) (hl : xs.length = n) : Sl w (some ⟨g, 0, none⟩) n 1 (xs.map vs) :=
  ⟨by simp [hl], fun _ => ⟨_, rfl, h.lt, fun j u hu => by
   rw [add_lit, Nat.zero_add, h.cell j]; unfold warr; rw [List.getElem?_toArray, List.map_append, List.getElem?_append_left (List.getElem?_eq_some_iff.1 hu).1]
   exact hu⟩⟩
theorem make_words (n : Nat) (hn : n ≤ 1000000) (w : World) : (Instr.makeSlice 66 (.int .i64 (n : Int)) (.int .i64 (n : Int))).run Tryz.prog w = .ok (.slice (some ⟨w.heap.size, 0, none⟩) n n) (w.alloc (.cells (madeCells #[.int .u64 0] n) 118)) := by
 obtain ⟨i0, hi, hz0, hz1, hz2⟩ := info_parts u64_info
 have hr := run_make (P := Tryz.prog) w 66 118 i0 (.int .u64 0) Tryz.underlying66 hi hz0 .i64 .i64 n n (by omega) (by omega) (by rw [hz2]; omega) (by omega)
 rw [hz1, Nat.mul_one, Int.toNat_natCast] at hr
 exact hr
def RetW (n : Nat) (w : World) (e : Ending) (w' : World) : Prop := ∃ R c, e = .returned (.slice R (dg n).length c) ∧ NW w' R c n ∧ Below w.heap.size w w'
theorem len_zero {n : Nat} (h : (dg n).length = 0) : n = 0 := by
 have := val_dg n
 rw [List.eq_nil_of_length_eq_zero h] at this
 exact this.symm
theorem val_lt_dg (n : Nat) : n < B ^ (dg n).length := by
 have := val_lt (dg_dig n)
 rwa [val_dg] at this
theorem val_zero_end (xs : List Nat) : val (xs ++ [0]) = val xs := by rw [val_app]; simp [val]
theorem copy_words {xs : List Nat} {n : Nat} (h : xs.length = n) (k : Nat) : ((warr (List.replicate (n + k) 0)).toList.take 0 ++ (xs.map vs ++ (warr (List.replicate (n + k) 0)).toList.drop (0 + (xs.map vs).length))).toArray = warr (xs ++ List.replicate k 0) := by
 simp [warr, h]
theorem addw_keep (X Y : Option Addr) (cx cy a b : Nat) (w : World) (hX : NW w X cx a) (hY : NW w Y cy b) (hn : (dg a).length ≤ 500000 ∧ (dg b).length ≤ 500000) (hl : (dg b).length ≤ (dg a).length) :
    Calls Tryz.prog 76 #[.slice X (dg a).length cx, .slice Y (dg b).length cy] w (RetW (a + b) w) := by
  have d1 : decide (((dg a).length : Int) < ((dg b).length : Int)) = false := dF (by omega); have d2 : decide ((dg a).length < (dg b).length) = false := dF (by omega); obtain ⟨hn1, hn2⟩ := hn; have HX := zh hX; have HY := zh hY; obtain ⟨Q, hQ⟩ := eqx (RetW (a + b) w)
  by_cases h0 : (dg b).length = 0
  ·have e0 := len_zero h0
   have HRET : Hid (Q (.returned (.slice X (dg a).length cx)) w) := zh (by
    rw [← hQ, e0, Nat.add_zero]
    exact ⟨X, _, rfl, HX.out, Below.refl _ _⟩)
   rw [hQ]; have z1 : (((dg b).length : Int) == 0) = true := beq_iff_eq.2 (by omega); have z2 : ((dg b).length == 0) = true := beq_iff_eq.2 h0; have HZ := zh h0; clear h0 e0 hQ hX hY hl; generalize (dg a).length = la at *; generalize (dg b).length = lb at *; go_enter Tryz.func76, Tryz.ntmps76; go_wp2; exact HRET.out
  ·have z1 : (((dg b).length : Int) == 0) = false := beq_eq_false_iff_ne.2 (by omega); have z2 : ((dg b).length == 0) = false := beq_eq_false_iff_ne.2 h0; have z3 : ((dg b).length = 0) = False := eq_false h0
   have HRET : Hid (∀ zs w', zs.length = (dg a).length + 1 → Dig zs → val zs = a + b → Sets w' (some ⟨w.heap.size, 0, none⟩) zs → Below w.heap.size w w' → Calls Tryz.prog 88 #[.slice (some ⟨w.heap.size, 0, none⟩) ((dg a).length + 1) ((dg a).length + 1)] w' fun e w'' => Q e w'' ∧ ∃ v, e = .returned v) := zh (fun zs w' h1 h2 h3 h4 h5 => by
    have := trim_n (some ⟨w.heap.size, 0, none⟩) ((dg a).length + 1) zs w' h4 h2 (by omega) (by omega); rw [h1, h3] at this; refine this.mono ?_; rintro e w'' ⟨rfl, rfl, hN⟩
    exact ⟨by rw [← hQ]; exact ⟨_, _, rfl, hN, h5⟩, _, rfl⟩)
   have hpl : 0 < (dg a).length := by omega
   obtain ⟨pd, hP, hP0⟩ := Sets.at' HX.out.wds hpl; subst hP
   have hblt : pd.block < w.heap.size := World.block_lt_of_cell? w (pd.add 0) hP0 |> fun h => by rwa [add_block] at h
   have HCE : Hid (∀ V, Below w.heap.size w V → ∀ j u, ((dg a).map vs)[j]? = some u → V.cell? (pd.add j) = some u) := zh (fun V h j u hu => by
    obtain ⟨pd', e, _, hc⟩ := Sl.lies (HX.out.wds.keep h) hpl
    injection e with e
    subst e
    exact hc j u hu)
   have HCW : Hid ((dg a).map vs = (dg a).map vs) := zh rfl; have HCP := zh (copy_words (xs := dg a) rfl 1)
   have HAI : Hid (∀ V, Below w.heap.size w V → Blk V w.heap.size 118 (warr (dg a ++ List.replicate 1 0)) → Calls Tryz.prog 99 #[.slice (some ⟨w.heap.size, 0, none⟩) ((dg a).length + 1) ((dg a).length + 1), .slice Y (dg b).length cy] V fun e w' => e = .returned (.tuple #[]) ∧ ∃ zs, zs.length = (dg a).length + 1 ∧ Dig zs ∧ val zs = a + b ∧ Sets w' (some ⟨w.heap.size, 0, none⟩) zs ∧ Below w.heap.size w w') := zh (fun V h hBk => by
    have hu : Dig (dg a ++ List.replicate 1 0) := dig_snoc (dg_dig a) (by decide)
    have hne : ∀ ad, Y = some ad → ad.block ≠ w.heap.size := fun ad e => by
     obtain ⟨ad', e', hlt, _⟩ := Sl.lies HY.out.wds (show 0 < (dg b).length by omega); rw [e] at e'
     injection e' with e'
     subst e'; omega
    have := addinto_any w.heap.size 0 ((dg a).length + 1) ((dg a).length + 1) cy (dg a ++ List.replicate 1 0) (dg b) Y V hBk (HY.out.wds.keep h) hne hu (dg_dig b) (by simp) (by omega) (by omega); refine this.mono ?_; rintro e w' ⟨rfl, k, zs, hzl, hzd, hk, he, hb, hO⟩
    have hfit : a + b < B ^ ((dg a).length + 1) := by
     have h1 := val_lt_dg a; have h2 := Nat.lt_of_lt_of_le (val_lt_dg b) (Nat.pow_le_pow_right (show 0 < B by decide) (show (dg b).length ≤ (dg a).length by omega)); rw [Nat.pow_succ]; have : B ^ (dg a).length * 2 ≤ B ^ (dg a).length * B := Nat.mul_le_mul_left _ (by decide); omega
    have hv : val ((List.drop 0 (dg a ++ List.replicate 1 0)).take ((dg a).length + 1)) = a := by
     rw [List.drop_zero, List.take_of_length_le (by simp), List.replicate_one, val_zero_end, val_dg]
    rw [hv, val_dg] at he
    have hk0 : k = 0 := by
     rcases Nat.eq_zero_or_pos k with h | h
     ·exact h
     ·have := Nat.mul_le_mul_left (B ^ ((dg a).length + 1)) h; omega
    rw [hk0, Nat.mul_zero] at he; refine ⟨rfl, zs, hzl, hzd, by omega, ?_, hO.below h (Nat.le_refl _)⟩; rw [List.take_zero, List.nil_append, List.drop_of_length_le (by simp), List.append_nil] at hb
    exact sets_blk hb rfl)
   have hmk := make_words ((dg a).length + 1) (by omega) w
   have hc1 : (((dg a).length + 1 : Nat) : Int) = ((dg a).length : Int) + 1 := by omega
   rw [hc1] at hmk; have hwr : IntKind.i64.wrap (((dg a).length : Int) + 1) = ((dg a).length : Int) + 1 := IntWalk.i64_in _ (by omega); obtain ⟨W, hW⟩ := eqx (w.alloc (.cells (madeCells #[.int .u64 0] ((dg a).length + 1)) 118))
   have hBW : Blk W w.heap.size 118 (warr (List.replicate ((dg a).length + 1) 0)) := by rw [← hW, ← warr_made]; exact Blk.new _ _ _
   have hbW : Below w.heap.size w W := by rw [← hW]; exact bal
   rw [hW] at hmk; rw [hQ]; have HLN : Hid ((((dg a).map vs)).length = Nat.min (dg a).length ((dg a).length + 1)) := zh (by rw [List.length_map]; exact (Nat.min_eq_left (by omega)).symm); have HFT : Hid (0 + ((dg a).map vs).length ≤ (warr (List.replicate ((dg a).length + 1) 0)).size) := zh (by rw [warr_size]; simp); have HON := zh (vs_one (dg a)); have HCL : Hid (goInt ((dg a).map vs).length = goInt (dg a).length) := zh (by rw [List.length_map]); have HBW := zh hBW; have HH0 := zh h0; clear hQ hX hY hl hc1 hW hP0 h0 hBW hpl; generalize dg a = ps at *; generalize dg b = rs at *; generalize ps.length = lp at *; generalize rs.length = lr at *; go_enter Tryz.func76, Tryz.ntmps76; go_upto_region 6 with (fail); clear hmk; refine wp_region_list ?_; refine wpList_plain rfl (fun K hK => ?_); go_simp; refine hK _ _ ?_; clear hK K; refine wpList_plain rfl (fun K hK => ?_); go_simp; refine hK _ _ ?_
   clear hK K; refine wpList_copy_own rfl (.tmp 21) (.tmp 22) 66 66 rfl 118 Tryz.underlying66 u64_size w.heap.size 0 (lp + 1) (lp + 1) pd lp cx rfl rfl (warr (List.replicate (lp + 1) 0)) 118 HBW.out (ps.map vs) HLN.out (HCE.out W hbW) HFT.out HON.out ?_; rw [HCP.out, HCL.out]; have hB2 : Blk (W.setRow w.heap.size (warr (ps ++ List.replicate 1 0))) w.heap.size 118 (warr (ps ++ List.replicate 1 0)) := setRow_heap W w.heap.size _ _ _ _ HBW.out; have hb2 : Below w.heap.size w (W.setRow w.heap.size (warr (ps ++ List.replicate 1 0))) := below_setRow hbW (Nat.le_refl _) _; generalize W.setRow w.heap.size (warr (ps ++ List.replicate 1 0)) = W2 at *; have HA2 := zh (HAI.out W2 hb2 hB2); clear HBW hB2 HCE HLN HFT HON HCL HCP HAI
   go_upto_region 8 with (go_at_call 99; refine HA2.out.mono ?_; rintro e w3 ⟨rfl, zs, g1, g2, g3, g4, hb3⟩)
   have HT := zh (HRET.out zs w3 g1 g2 g3 g4 hb3); clear g1 g2 g3 g4 HRET HA2
   go_wp2_with (go_at_call 88; refine HT.out.mono ?_; rintro e w4 ⟨hq4, v4, rfl⟩; have HQ4 := zh hq4; clear hq4)
   exact HQ4.out
theorem addw_swap (X Y : Option Addr) (cx cy a b : Nat) (w : World) (hX : NW w X cx a) (hY : NW w Y cy b) (hn : (dg a).length ≤ 500000 ∧ (dg b).length ≤ 500000) (hl : (dg a).length < (dg b).length) :
    Calls Tryz.prog 76 #[.slice X (dg a).length cx, .slice Y (dg b).length cy] w (RetW (a + b) w) := by
  have d1 : decide (((dg a).length : Int) < ((dg b).length : Int)) = true := dT (by omega); have d2 : decide ((dg a).length < (dg b).length) = true := dT (by omega); obtain ⟨hn1, hn2⟩ := hn; have HX := zh hX; have HY := zh hY; obtain ⟨Q, hQ⟩ := eqx (RetW (a + b) w)
  by_cases h0 : (dg a).length = 0
  ·have e0 := len_zero h0
   have HRET : Hid (Q (.returned (.slice Y (dg b).length cy)) w) := zh (by
    rw [← hQ, e0, Nat.zero_add]
    exact ⟨Y, _, rfl, HY.out, Below.refl _ _⟩)
   rw [hQ]; have z1 : (((dg a).length : Int) == 0) = true := beq_iff_eq.2 (by omega); have z2 : ((dg a).length == 0) = true := beq_iff_eq.2 h0; have HZ := zh h0; clear h0 e0 hQ hX hY hl; generalize (dg a).length = la at *; generalize (dg b).length = lb at *; go_enter Tryz.func76, Tryz.ntmps76; go_wp2; exact HRET.out
  ·have z1 : (((dg a).length : Int) == 0) = false := beq_eq_false_iff_ne.2 (by omega); have z2 : ((dg a).length == 0) = false := beq_eq_false_iff_ne.2 h0; have z3 : ((dg a).length = 0) = False := eq_false h0
   have HRET : Hid (∀ zs w', zs.length = (dg b).length + 1 → Dig zs → val zs = a + b → Sets w' (some ⟨w.heap.size, 0, none⟩) zs → Below w.heap.size w w' → Calls Tryz.prog 88 #[.slice (some ⟨w.heap.size, 0, none⟩) ((dg b).length + 1) ((dg b).length + 1)] w' fun e w'' => Q e w'' ∧ ∃ v, e = .returned v) := zh (fun zs w' h1 h2 h3 h4 h5 => by
    have := trim_n (some ⟨w.heap.size, 0, none⟩) ((dg b).length + 1) zs w' h4 h2 (by omega) (by omega); rw [h1, h3] at this; refine this.mono ?_; rintro e w'' ⟨rfl, rfl, hN⟩
    exact ⟨by rw [← hQ]; exact ⟨_, _, rfl, hN, h5⟩, _, rfl⟩)
   have hpl : 0 < (dg b).length := by omega
   obtain ⟨pd, hP, hP0⟩ := Sets.at' HY.out.wds hpl; subst hP
   have hblt : pd.block < w.heap.size := World.block_lt_of_cell? w (pd.add 0) hP0 |> fun h => by rwa [add_block] at h
   have HCE : Hid (∀ V, Below w.heap.size w V → ∀ j u, ((dg b).map vs)[j]? = some u → V.cell? (pd.add j) = some u) := zh (fun V h j u hu => by
    obtain ⟨pd', e, _, hc⟩ := Sl.lies (HY.out.wds.keep h) hpl
    injection e with e
    subst e
    exact hc j u hu)
   have HCW : Hid ((dg b).map vs = (dg b).map vs) := zh rfl; have HCP := zh (copy_words (xs := dg b) rfl 1)
   have HAI : Hid (∀ V, Below w.heap.size w V → Blk V w.heap.size 118 (warr (dg b ++ List.replicate 1 0)) → Calls Tryz.prog 99 #[.slice (some ⟨w.heap.size, 0, none⟩) ((dg b).length + 1) ((dg b).length + 1), .slice X (dg a).length cx] V fun e w' => e = .returned (.tuple #[]) ∧ ∃ zs, zs.length = (dg b).length + 1 ∧ Dig zs ∧ val zs = a + b ∧ Sets w' (some ⟨w.heap.size, 0, none⟩) zs ∧ Below w.heap.size w w') := zh (fun V h hBk => by
    have hu : Dig (dg b ++ List.replicate 1 0) := dig_snoc (dg_dig b) (by decide)
    have hne : ∀ ad, X = some ad → ad.block ≠ w.heap.size := fun ad e => by
     obtain ⟨ad', e', hlt, _⟩ := Sl.lies HX.out.wds (show 0 < (dg a).length by omega); rw [e] at e'
     injection e' with e'
     subst e'; omega
    have := addinto_any w.heap.size 0 ((dg b).length + 1) ((dg b).length + 1) cx (dg b ++ List.replicate 1 0) (dg a) X V hBk (HX.out.wds.keep h) hne hu (dg_dig a) (by simp) (by omega) (by omega); refine this.mono ?_; rintro e w' ⟨rfl, k, zs, hzl, hzd, hk, he, hb, hO⟩
    have hfit : a + b < B ^ ((dg b).length + 1) := by
     have h1 := val_lt_dg b; have h2 := Nat.lt_of_lt_of_le (val_lt_dg a) (Nat.pow_le_pow_right (show 0 < B by decide) (show (dg a).length ≤ (dg b).length by omega)); rw [Nat.pow_succ]; have : B ^ (dg b).length * 2 ≤ B ^ (dg b).length * B := Nat.mul_le_mul_left _ (by decide); omega
    have hv : val ((List.drop 0 (dg b ++ List.replicate 1 0)).take ((dg b).length + 1)) = b := by
     rw [List.drop_zero, List.take_of_length_le (by simp), List.replicate_one, val_zero_end, val_dg]
    rw [hv, val_dg] at he
    have hk0 : k = 0 := by
     rcases Nat.eq_zero_or_pos k with h | h
     ·exact h
     ·have := Nat.mul_le_mul_left (B ^ ((dg b).length + 1)) h; omega
    rw [hk0, Nat.mul_zero] at he; refine ⟨rfl, zs, hzl, hzd, by omega, ?_, hO.below h (Nat.le_refl _)⟩; rw [List.take_zero, List.nil_append, List.drop_of_length_le (by simp), List.append_nil] at hb
    exact sets_blk hb rfl)
   have hmk := make_words ((dg b).length + 1) (by omega) w
   have hc1 : (((dg b).length + 1 : Nat) : Int) = ((dg b).length : Int) + 1 := by omega
   rw [hc1] at hmk; have hwr : IntKind.i64.wrap (((dg b).length : Int) + 1) = ((dg b).length : Int) + 1 := IntWalk.i64_in _ (by omega); obtain ⟨W, hW⟩ := eqx (w.alloc (.cells (madeCells #[.int .u64 0] ((dg b).length + 1)) 118))
   have hBW : Blk W w.heap.size 118 (warr (List.replicate ((dg b).length + 1) 0)) := by rw [← hW, ← warr_made]; exact Blk.new _ _ _
   have hbW : Below w.heap.size w W := by rw [← hW]; exact bal
   rw [hW] at hmk; rw [hQ]; have HLN : Hid ((((dg b).map vs)).length = Nat.min (dg b).length ((dg b).length + 1)) := zh (by rw [List.length_map]; exact (Nat.min_eq_left (by omega)).symm); have HFT : Hid (0 + ((dg b).map vs).length ≤ (warr (List.replicate ((dg b).length + 1) 0)).size) := zh (by rw [warr_size]; simp); have HON := zh (vs_one (dg b)); have HCL : Hid (goInt ((dg b).map vs).length = goInt (dg b).length) := zh (by rw [List.length_map]); have HBW := zh hBW; have HH0 := zh h0; clear hQ hX hY hl hc1 hW hP0 h0 hBW hpl; generalize dg b = ps at *; generalize dg a = rs at *; generalize ps.length = lp at *; generalize rs.length = lr at *; go_enter Tryz.func76, Tryz.ntmps76; go_upto_region 6 with (fail); clear hmk; refine wp_region_list ?_; refine wpList_plain rfl (fun K hK => ?_); go_simp; refine hK _ _ ?_; clear hK K; refine wpList_plain rfl (fun K hK => ?_); go_simp; refine hK _ _ ?_
   clear hK K; refine wpList_copy_own rfl (.tmp 21) (.tmp 22) 66 66 rfl 118 Tryz.underlying66 u64_size w.heap.size 0 (lp + 1) (lp + 1) pd lp cy rfl rfl (warr (List.replicate (lp + 1) 0)) 118 HBW.out (ps.map vs) HLN.out (HCE.out W hbW) HFT.out HON.out ?_; rw [HCP.out, HCL.out]; have hB2 : Blk (W.setRow w.heap.size (warr (ps ++ List.replicate 1 0))) w.heap.size 118 (warr (ps ++ List.replicate 1 0)) := setRow_heap W w.heap.size _ _ _ _ HBW.out; have hb2 : Below w.heap.size w (W.setRow w.heap.size (warr (ps ++ List.replicate 1 0))) := below_setRow hbW (Nat.le_refl _) _; generalize W.setRow w.heap.size (warr (ps ++ List.replicate 1 0)) = W2 at *; have HA2 := zh (HAI.out W2 hb2 hB2); clear HBW hB2 HCE HLN HFT HON HCL HCP HAI
   go_upto_region 8 with (go_at_call 99; refine HA2.out.mono ?_; rintro e w3 ⟨rfl, zs, g1, g2, g3, g4, hb3⟩)
   have HT := zh (HRET.out zs w3 g1 g2 g3 g4 hb3); clear g1 g2 g3 g4 HRET HA2
   go_wp2_with (go_at_call 88; refine HT.out.mono ?_; rintro e w4 ⟨hq4, v4, rfl⟩; have HQ4 := zh hq4; clear hq4)
   exact HQ4.out
theorem addw_any (X Y : Option Addr) (cx cy a b : Nat) (w : World) (hX : NW w X cx a) (hY : NW w Y cy b) (hn : (dg a).length ≤ 500000 ∧ (dg b).length ≤ 500000) :
    Calls Tryz.prog 76 #[.slice X (dg a).length cx, .slice Y (dg b).length cy] w (RetW (a + b) w) := by
  by_cases h : (dg a).length < (dg b).length
  ·exact addw_swap X Y cx cy a b w hX hY hn h
  ·exact addw_keep X Y cx cy a b w hX hY hn (by omega)
theorem subw_any (X Y : Option Addr) (cx cy a b : Nat) (w : World) (hX : NW w X cx a) (hY : NW w Y cy b) (hab : b ≤ a) (hn : (dg a).length ≤ 500000) :
    Calls Tryz.prog 78 #[.slice X (dg a).length cx, .slice Y (dg b).length cy] w (RetW (a - b) w) := by
  have HX := zh hX; have HY := zh hY; have hlen := Go.Bw.dg_len_mono hab; obtain ⟨Q, hQ⟩ := eqx (RetW (a - b) w)
  by_cases h0 : (dg b).length = 0
  ·have e0 := len_zero h0
   have HRET : Hid (Q (.returned (.slice X (dg a).length cx)) w) := zh (by
    rw [← hQ, e0, Nat.sub_zero]
    exact ⟨X, _, rfl, HX.out, Below.refl _ _⟩)
   rw [hQ]; have z1 : (((dg b).length : Int) == 0) = true := beq_iff_eq.2 (by omega); have z2 : ((dg b).length == 0) = true := beq_iff_eq.2 h0; have HZ := zh h0; clear h0 e0 hQ hX hY hlen; generalize (dg a).length = la at *; generalize (dg b).length = lb at *; go_enter Tryz.func78, Tryz.ntmps78; go_wp2; exact HRET.out
  ·have z1 : (((dg b).length : Int) == 0) = false := beq_eq_false_iff_ne.2 (by omega); have z2 : ((dg b).length == 0) = false := beq_eq_false_iff_ne.2 h0; have z3 : ((dg b).length = 0) = False := eq_false h0; have HCN := zh (wclone_any X cx (dg a) w HX.out.wds (by omega) (by omega))
   have HSF : Hid (∀ V g ex, w.heap.size ≤ g → Below w.heap.size w V → (dg a).length + ex ≤ maxLen → Blk V g 118 (warr (dg a ++ List.replicate ex 0)) → Calls Tryz.prog 104 #[.slice (some ⟨g, 0, none⟩) (dg a).length ((dg a).length + ex), .slice Y (dg b).length cy] V fun e w' => e = .returned (.tuple #[]) ∧ Calls Tryz.prog 88 #[.slice (some ⟨g, 0, none⟩) (dg a).length ((dg a).length + ex)] w' fun e w'' => Q e w'' ∧ ∃ v, e = .returned v) := zh (fun V g ex hg h hex hBk => by
    have hu : Dig (dg a ++ List.replicate ex 0) := dig_app (dg_dig a) (fun x hx => by rw [List.eq_of_mem_replicate hx]; decide)
    have hne : ∀ ad, Y = some ad → ad.block ≠ g := fun ad e => by
     obtain ⟨ad', e', hlt, _⟩ := Sl.lies HY.out.wds (show 0 < (dg b).length by omega); rw [e] at e'
     injection e' with e'
     subst e'; omega
    have := subfrom_any g 0 (dg a).length ((dg a).length + ex) cy (dg a ++ List.replicate ex 0) (dg b) Y V hBk (HY.out.wds.keep h) hne hu (dg_dig b) (by simp) hlen (by omega); refine this.mono ?_; rintro e w' ⟨rfl, k, zs, hzl, hzd, hk, he, hb, hO⟩; refine ⟨rfl, ?_⟩
    have hv : val ((List.drop 0 (dg a ++ List.replicate ex 0)).take (dg a).length) = a := by
     rw [List.drop_zero, List.take_left, val_dg]
    rw [hv, val_dg] at he
    have hk0 : k = 0 := by
     rcases Nat.eq_zero_or_pos k with h | h
     ·exact h
     ·have h1 := Nat.mul_le_mul_left (B ^ (dg a).length) h; have h2 := val_lt hzd; rw [hzl] at h2; omega
    rw [hk0, Nat.mul_zero] at he; rw [List.take_zero, List.nil_append] at hb; have := trim_n (some ⟨g, 0, none⟩) ((dg a).length + ex) zs w' (sets_pre hb rfl) hzd (by omega) (by omega); rw [hzl] at this; refine this.mono ?_; rintro e w'' ⟨rfl, rfl, hN⟩; rw [show val zs = a - b by omega] at hN ⊢
    exact ⟨by rw [← hQ]; exact ⟨_, _, rfl, hN, hO.below h hg⟩, _, rfl⟩)
   have HLA := zh hlen; rw [hQ]; clear h0 hQ hX hY hlen HX; generalize dg a = xs at *; generalize (dg b).length = lb at *; unfold RetCl at HCN; generalize xs.length = la at *; go_enter Tryz.func78, Tryz.ntmps78
   go_upto_region 4 with (go_at_call 84; refine HCN.out.mono ?_; rintro e w1 ⟨g, ex, rfl, hB1, hg1, hex1, hb1⟩)
   have HS1 := zh (HSF.out w1 g ex hg1 hb1 hex1 hB1); clear hB1 HCN HSF
   go_upto_region 5 with (go_at_call 104; refine HS1.out.mono ?_; rintro e w2 ⟨rfl, hT⟩; have HT := zh hT; clear hT)
   go_wp2_with (go_at_call 88; refine HT.out.mono ?_; rintro e w4 ⟨hq4, v4, rfl⟩; have HQ4 := zh hq4; clear hq4)
   exact HQ4.out
end
end Go.Proofs.Tg.Iw
