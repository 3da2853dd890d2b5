/- Parts of the proof: CN4, IW1, IL1, IW9, IW10. -/
import Derived.Test.YtbgaiceakmmfdaaGreatDoorMMV9
import Derived.Test.YtbgaiceakmmfdaaGreatDoorMMV11
import Derived.Test.YtbgaiceakmmfdaaGreatDoorMMV13
section
/- Of MomentsValid: the reference reads a functional of any texts. -/
namespace Go.Proofs.Tg
open Go.RowKit Go.Mm Go Go.Qn
set_option maxHeartbeats 8000000
set_option maxRecDepth 100000
theorem cn_blk3 {V : World} {g : Nat} {a b c a' b' c' : Value} {t : TypeId} (h : Blk V g t #[a, b, c]) : Blk (((V.setCell ⟨g, 0, none⟩ a').setCell ⟨g, 1, none⟩ b').setCell ⟨g, 2, none⟩ c') g t #[a', b', c'] := by
 have := ((h.set 0 a').set 1 b').set 2 c'
 simpa using this
theorem lread_aux (n d : Int) (A : Option Addr) (N c z : Nat) (b1 b2 : Bool) (w : World) (hz : z ≤ 244140625) (hN : N ≤ 1000000)
    (HS : Hid (∀ V, Calls Tryz.prog 12 #[.int .i64 n, .int .i64 d] V fun e w' => e = .returned (.tuple #[.int .i64 (z : Nat), .bool b1]) ∧ Below V.heap.size V w'))
    (HN : Hid (∀ V, Below w.heap.size w V → Calls Tryz.prog 10 #[.slice A N c] V fun e w' => ∃ R m cm, e = .returned (.tuple #[.slice R m cm, .bool b2]) ∧ (b2 = true → m = N) ∧ Hid (Below V.heap.size V w'))) :
    Calls Tryz.prog 7 #[.agg #[.int .i64 n, .int .i64 d, .slice A N c]] w fun e w' => ∃ R m cm, e = .returned (.tuple #[.agg #[.int .i64 n, .int .i64 d, .slice R m cm], .bool (b1 && (b2 && decide (N = z)))]) ∧ Below w.heap.size w w' := by
  obtain ⟨W, hW⟩ : ∃ W, (w.alloc (.cells #[.int .i64 n, .int .i64 d, .slice A N c] 24)).alloc (.cells #[.int .i64 0, .int .i64 0, .slice none 0 0] 29) = W := ⟨_, rfl⟩
  have hbW : Below w.heap.size w W := by rw [← hW]; exact ((Below.refl _ _).alloc (Nat.le_refl _) _).alloc (by simp) _
  have HBW := Lib.hid hbW
  have B1 : Blk W w.heap.size 24 #[.int .i64 n, .int .i64 d, .slice A N c] := by rw [← hW]; exact (Blk.new _ _ _).alloc _
  have B2 : Blk W (w.heap.size + 1) 29 #[.int .i64 0, .int .i64 0, .slice none 0 0] := by
   rw [← hW]
   have := Blk.new (w.alloc (.cells #[.int .i64 n, .int .i64 d, .slice A N c] 24)) 29 #[.int .i64 0, .int .i64 0, .slice none 0 0]
   simpa using this
  have HB1 := Lib.hid B1
  have HB2 := Lib.hid B2
  have HWW := Lib.hid hW
  clear hW hbW
  have hb1 := HB1.out
  obtain ⟨x0, x1, x2, _, _, _⟩ := hb1.three
  clear hb1 B1 B2
  by_cases h1 : b1 = false
  ·subst h1
   show Calls Tryz.prog 7 #[.agg #[.int .i64 n, .int .i64 d, .slice A N c]] w fun e w' => ∃ R m cm, e = .returned (.tuple #[.agg #[.int .i64 n, .int .i64 d, .slice R m cm], .bool false]) ∧ Below w.heap.size w w'
   go_enter Tryz.func7, Tryz.ntmps7
   go_upto_region 1 with (fail)
   rw [HWW.out]
   go_wp2_with (first
     | (go_at_call 12; refine (HS.out _).mono ?_; rintro e w2 ⟨rfl, hb2⟩; have HB3 := Lib.hid hb2; have Y := HB1.out.keep hb2 HB1.out.lt; obtain ⟨x0, x1, x2, _, _, _⟩ := Y.three; clear hb2)
     | (go_at_call 10; refine (HN.out _ (below_all HBW.out HB3.out)).mono ?_; rintro e w3 ⟨R, m, cm, rfl, hm, hb3⟩; clear hm; have HB4 := Lib.hid (below_all HB3.out hb3.out); have Y := HB1.out.keep HB4.out HB1.out.lt; obtain ⟨x0, x1, x2, _, _, _⟩ := Y.three; have Y2 := HB2.out.keep HB4.out HB2.out.lt; obtain ⟨y0, y1, y2, f0, f1, f2⟩ := Y2.three))
   obtain ⟨p0, p1, p2, _⟩ := (cn_blk3 (a' := .int .i64 n) (b' := .int .i64 d) (c' := .slice R m cm) Y2).three
   refine bodyPost_ret (v := .tuple #[.agg #[.int .i64 n, .int .i64 d, .slice R m cm], .bool false]) (by simp [results, Tryz.results7, go_sem, p0, p1, p2]) rfl ⟨R, m, cm, rfl, ?_⟩
   exact below_far (below_far (below_far (below_all HBW.out HB4.out) (by omega) _ _) (by omega) _ _) (by omega) _ _
  obtain rfl : b1 = true := by simpa using h1
  clear h1
  by_cases h2 : b2 = false
  ·subst h2
   show Calls Tryz.prog 7 #[.agg #[.int .i64 n, .int .i64 d, .slice A N c]] w fun e w' => ∃ R m cm, e = .returned (.tuple #[.agg #[.int .i64 n, .int .i64 d, .slice R m cm], .bool false]) ∧ Below w.heap.size w w'
   go_enter Tryz.func7, Tryz.ntmps7
   go_upto_region 1 with (fail)
   rw [HWW.out]
   go_wp2_with (first
     | (go_at_call 12; refine (HS.out _).mono ?_; rintro e w2 ⟨rfl, hb2⟩; have HB3 := Lib.hid hb2; have Y := HB1.out.keep hb2 HB1.out.lt; obtain ⟨x0, x1, x2, _, _, _⟩ := Y.three; clear hb2)
     | (go_at_call 10; refine (HN.out _ (below_all HBW.out HB3.out)).mono ?_; rintro e w3 ⟨R, m, cm, rfl, hm, hb3⟩; clear hm; have HB4 := Lib.hid (below_all HB3.out hb3.out); have Y := HB1.out.keep HB4.out HB1.out.lt; obtain ⟨x0, x1, x2, _, _, _⟩ := Y.three; have Y2 := HB2.out.keep HB4.out HB2.out.lt; obtain ⟨y0, y1, y2, f0, f1, f2⟩ := Y2.three))
   obtain ⟨p0, p1, p2, _⟩ := (cn_blk3 (a' := .int .i64 n) (b' := .int .i64 d) (c' := .slice R m cm) Y2).three
   refine bodyPost_ret (v := .tuple #[.agg #[.int .i64 n, .int .i64 d, .slice R m cm], .bool false]) (by simp [results, Tryz.results7, go_sem, p0, p1, p2]) rfl ⟨R, m, cm, rfl, ?_⟩
   exact below_far (below_far (below_far (below_all HBW.out HB4.out) (by omega) _ _) (by omega) _ _) (by omega) _ _
  obtain rfl : b2 = true := by simpa using h2
  clear h2
  obtain ⟨q, hq⟩ : ∃ q, decide (N = z) = q := ⟨_, rfl⟩
  ·show Calls Tryz.prog 7 #[.agg #[.int .i64 n, .int .i64 d, .slice A N c]] w fun e w' => ∃ R m cm, e = .returned (.tuple #[.agg #[.int .i64 n, .int .i64 d, .slice R m cm], .bool (decide (N = z))]) ∧ Below w.heap.size w w'
   rw [hq]
   have hk' : (N == z) = q := by rw [← hq]; rfl
   have hk : ((N : Int) == (z : Int)) = q := by
    rw [← hk']
    by_cases h : N = z
    ·rw [h]; simp
    ·rw [beq_eq_false_iff_ne.2 h, beq_eq_false_iff_ne.2 (by omega)]
   go_enter Tryz.func7, Tryz.ntmps7
   go_upto_region 1 with (fail)
   rw [HWW.out]
   go_wp2_with (first
     | (go_at_call 12; refine (HS.out _).mono ?_; rintro e w2 ⟨rfl, hb2⟩; have HB3 := Lib.hid hb2; have Y := HB1.out.keep hb2 HB1.out.lt; obtain ⟨x0, x1, x2, _, _, _⟩ := Y.three; clear hb2)
     | (go_at_call 10; refine (HN.out _ (below_all HBW.out HB3.out)).mono ?_; rintro e w3 ⟨R, m, cm, rfl, hm, hb3⟩; obtain rfl := hm trivial; have HB4 := Lib.hid (below_all HB3.out hb3.out); have Y := HB1.out.keep HB4.out HB1.out.lt; obtain ⟨x0, x1, x2, _, _, _⟩ := Y.three; have Y2 := HB2.out.keep HB4.out HB2.out.lt; obtain ⟨y0, y1, y2, f0, f1, f2⟩ := Y2.three))
   obtain ⟨p0, p1, p2, _⟩ := (cn_blk3 (a' := .int .i64 n) (b' := .int .i64 d) (c' := .slice R m cm) Y2).three
   refine bodyPost_ret (v := .tuple #[.agg #[.int .i64 n, .int .i64 d, .slice R m cm], .bool q]) (by simp [results, Tryz.results7, go_sem, p0, p1, p2]) rfl ⟨R, m, cm, rfl, ?_⟩
   exact below_far (below_far (below_far (below_all HBW.out HB4.out) (by omega) _ _) (by omega) _ _) (by omega) _ _
/-- The verdict on a functional. -/
def fvB (n d : Int) (ss : List ByteArray) : Bool := szB n d && (ss.all (fun s => (rd s.data.toList).isSome) && decide (ss.length = szN n d))
theorem lread_any (n d : Int) (A : Option Addr) (c : Nat) (ss : List ByteArray) (w : World) (hA : Sl w A ss.length 1 (ss.map Value.string)) (hs : ∀ s ∈ ss, s.size ≤ 64) (hn : ss.length ≤ 1000000) :
    Calls Tryz.prog 7 #[.agg #[.int .i64 n, .int .i64 d, .slice A ss.length c]] w fun e w' => ∃ R m cm, e = .returned (.tuple #[.agg #[.int .i64 n, .int .i64 d, .slice R m cm], .bool (fvB n d ss)]) ∧ Below w.heap.size w w' :=
  lread_aux n d A ss.length c (szN n d) (szB n d) _ w (szN_le n d) hn (Lib.hid (fun V => rsize_any n d V)) (Lib.hid (fun V hb => by
   refine (nums_w A c ss V (hA.keep hb) hs hn).mono ?_
   rintro e w' ⟨R, m, cm, h1, h2, h3⟩
   exact ⟨R, m, cm, h1, h2, Lib.hid h3⟩))
end Go.Proofs.Tg
end
section
/- Numbers in base 2^64, the least digit first: plain. -/
namespace Go.Bw
abbrev B : Nat := 18446744073709551616
def val : List Nat → Nat
  | [] => 0
  | x :: xs => x + B * val xs
def Dig (xs : List Nat) : Prop := ∀ x ∈ xs, x < B
/-- No zeros at the end. -/
def Norm (xs : List Nat) : Prop := ∀ h : xs ≠ [], xs.getLast h ≠ 0
theorem val_app (xs ys : List Nat) : val (xs ++ ys) = val xs + B ^ xs.length * val ys := by
 induction xs with
 | nil => simp [val]
 | cons x xs ih =>
   simp only [List.cons_append, val, ih, List.length_cons, Nat.pow_succ]
   rw [Nat.mul_add, Nat.mul_comm (B ^ xs.length) B, Nat.mul_assoc]; omega
theorem val_lt {xs : List Nat} (h : Dig xs) : val xs < B ^ xs.length := by
 induction xs with
 | nil => simp [val]
 | cons x xs ih =>
   have h1 := h x (by simp)
   have h2 := ih (fun y hy => h y (by simp [hy]))
   simp only [val, List.length_cons, Nat.pow_succ]
   have : B * (val xs + 1) ≤ B * B ^ xs.length := Nat.mul_le_mul_left _ h2
   rw [Nat.mul_comm (B ^ xs.length) B]
   rw [Nat.mul_add] at this
   omega
theorem val_zeros (n : Nat) : val (List.replicate n 0) = 0 := by
 induction n with
 | zero => rfl
 | succ n ih => rw [List.replicate_succ]; simp [val, ih]
/-- The digits of a number. -/
def dg (n : Nat) : List Nat := if _h : n = 0 then [] else n % B :: dg (n / B)
termination_by n
decreasing_by exact Nat.div_lt_self (by omega) (by decide)
theorem dg_zero : dg 0 = [] := by unfold dg; rfl
theorem dg_pos {n : Nat} (h : n ≠ 0) : dg n = n % B :: dg (n / B) := by rw [dg]; simp [h]
theorem dg_small {n : Nat} (h : n ≠ 0) (hb : n < B) : dg n = [n] := by
 rw [dg_pos h, Nat.mod_eq_of_lt hb, Nat.div_eq_of_lt hb, dg_zero]
theorem val_dg (n : Nat) : val (dg n) = n := by
 induction n using Nat.strongRecOn with
 | _ n ih =>
   by_cases h : n = 0
   ·subst h; rw [dg_zero]; rfl
   ·rw [dg_pos h]
    simp only [val]
    rw [ih _ (Nat.div_lt_self (by omega) (by decide))]
    have := Nat.mod_add_div n B
    omega
theorem dg_dig (n : Nat) : Dig (dg n) := by
 induction n using Nat.strongRecOn with
 | _ n ih =>
   by_cases h : n = 0
   ·subst h; rw [dg_zero]; intro x hx; cases hx
   ·rw [dg_pos h]
    intro x hx
    rcases List.mem_cons.1 hx with rfl | hx
    ·exact Nat.mod_lt _ (by decide)
    ·exact ih _ (Nat.div_lt_self (by omega) (by decide)) x hx
theorem norm_cons {x : Nat} {xs : List Nat} (h : Norm (x :: xs)) : Norm xs := by
 intro hne
 have := h (by simp)
 rwa [List.getLast_cons hne] at this
theorem norm_pos {xs : List Nat} (h : Norm xs) (hv : val xs = 0) : xs = [] := by
 induction xs with
 | nil => rfl
 | cons x xs ih =>
   simp only [val] at hv
   have h1 : x = 0 := by omega
   have h2 : val xs = 0 := by
    have : B * val xs = 0 := by omega
    rcases Nat.mul_eq_zero.1 this with h | h
    ·exact absurd h (by decide)
    ·exact h
   have h3 := ih (norm_cons h) h2
   subst h3 h1
   exact absurd rfl (h (by simp))
/-- The digits are the only ones without zeros at the end. -/
theorem dg_val {xs : List Nat} (hd : Dig xs) (hn : Norm xs) : dg (val xs) = xs := by
 induction xs with
 | nil => exact dg_zero
 | cons x xs ih =>
   have hx := hd x (by simp)
   have ih := ih (fun y hy => hd y (by simp [hy])) (norm_cons hn)
   have hv : val (x :: xs) ≠ 0 := fun e => by have := norm_pos hn e; cases this
   rw [dg_pos hv]
   simp only [val] at hv ⊢
   rw [Nat.add_mul_mod_self_left, Nat.mod_eq_of_lt hx, Nat.add_mul_div_left _ _ (by decide), Nat.div_eq_of_lt hx, Nat.zero_add, ih]
theorem dg_norm (n : Nat) : Norm (dg n) := by
 induction n using Nat.strongRecOn with
 | _ n ih =>
   by_cases h : n = 0
   ·subst h; rw [dg_zero]; intro h; exact absurd rfl h
   ·intro hne
    have hlt : n / B < n := Nat.div_lt_self (by omega) (by decide)
    have ih := ih _ hlt
    have e := dg_pos h
    by_cases h2 : n / B = 0
    ·have hb : n < B := by
      rcases Nat.div_eq_zero_iff.1 h2 with h3 | h3
      ·exact absurd h3 (by decide)
      ·exact h3
     have : ∀ (l : List Nat) (hl : l ≠ []), l = [n] → l.getLast hl ≠ 0 := fun l hl el => by subst el; simpa using h
     exact this _ hne (dg_small h hb)
    ·have hd : dg (n / B) ≠ [] := fun e2 => h2 (by have := val_dg (n / B); rw [e2] at this; exact this.symm)
     have : ∀ (l : List Nat) (hl : l ≠ []), l = n % B :: dg (n / B) → l.getLast hl ≠ 0 := fun l hl el => by
      subst el
      rw [List.getLast_cons hd]
      exact ih hd
     exact this _ hne e
/-- Zeros struck from the end. -/
theorem dg_append_zero (xs : List Nat) : val (xs ++ [0]) = val xs := by rw [val_app]; simp [val]
theorem dg_len_lt {n k : Nat} (h : n < B ^ k) : (dg n).length ≤ k := by
 induction k generalizing n with
 | zero => have : n = 0 := by simpa using h
           subst this; rw [dg_zero]; simp
 | succ k ih =>
   by_cases h0 : n = 0
   ·subst h0; rw [dg_zero]; simp
   ·rw [dg_pos h0, List.length_cons]
    have : n / B < B ^ k := by
     rw [Nat.pow_succ] at h
     exact Nat.div_lt_of_lt_mul (by rw [Nat.mul_comm]; exact h)
    have := ih this
    omega
theorem dg_ge {n k : Nat} (h : B ^ k ≤ n) : k < (dg n).length := by
 have h1 := val_lt (dg_dig n)
 rw [val_dg] at h1
 rcases Nat.lt_or_ge k (dg n).length with h2 | h2
 ·exact h2
 ·have := Nat.pow_le_pow_right (show 0 < B by decide) h2
  omega
end Go.Bw
end
section
/- The method of Lehmer for the greatest common divisor: plain numbers. -/
namespace Go.Bw
/-- What the found steps make of the pair: the pair P, R. -/
structure LmRet (a b u0 u1 v0 v1 : Nat) (odd : Bool) (P R : Nat) : Prop where
  lt : R < P
  le : P ≤ b
  lin : (odd = true ∧ v0 * b + P = u0 * a ∧ u1 * a + R = v1 * b ∧ u0 * v1 = v0 * u1 + 1) ∨ (odd = false ∧ u0 * a + P = v0 * b ∧ v1 * b + R = u1 * a ∧ v0 * u1 = u0 * v1 + 1)
/-- The value of a line of the steps. -/
def LmVal (a b u v r : Nat) (odd : Bool) : Prop := (odd = true ∧ r + u * a = v * b) ∨ (odd = false ∧ r + v * b = u * a)
structure LmSt (a b A C f g u0 u1 u2 v0 v1 v2 : Nat) (odd : Bool) : Prop where
  ge : g ≤ f
  pos : 1 ≤ v2
  le2 : u2 ≤ v2
  sumA : v2 * f + v1 * g = A
  sumC : u2 * f + u1 * g = C
  lin : (odd = true ∧ f + u1 * A = v1 * C ∧ g + v2 * C = u2 * A ∧ u2 * v1 = u1 * v2 + 1) ∨ (odd = false ∧ f + v1 * C = u1 * A ∧ g + u2 * A = v2 * C ∧ u1 * v2 = u2 * v1 + 1)
  first : (v1 = 0 ∧ u1 = 1 ∧ u2 = 0 ∧ v2 = 1 ∧ odd = false) ∨ (u1 ≤ v1 ∧ 1 ≤ v1 ∧ ∃ r, r ≤ b ∧ LmVal a b u1 v1 r odd)
  ret : v0 ≠ 0 → ∃ P R, LmRet a b u0 u1 v0 v1 odd P R
theorem LmSt.start {a b A C : Nat} (h : C ≤ A) : LmSt a b A C A C 0 1 0 0 0 1 false :=
  ⟨h, Nat.le_refl _, by omega, by omega, by omega, .inr ⟨rfl, by omega, by omega, by omega⟩, .inl ⟨rfl, rfl, rfl, rfl, rfl⟩, fun h => absurd rfl h⟩
/-- The numbers stay in a word. -/
theorem LmSt.fit {a b A C f g u0 u1 u2 v0 v1 v2 : Nat} {odd : Bool} (s : LmSt a b A C f g u0 u1 u2 v0 v1 v2 odd) (hg : v2 ≤ g) : 0 < g ∧ v1 + v2 ≤ A ∧ v1 + f / g * v2 ≤ A ∧ u1 + f / g * u2 ≤ C ∧ f / g * v2 ≤ A ∧ f / g * u2 ≤ C := by
 have h0 : 0 < g := by have := s.pos; omega
 have hf : 0 < f := by have := s.ge; omega
 have h1 : v1 * 1 ≤ v1 * g := Nat.mul_le_mul_left _ h0
 have h2 : v2 * 1 ≤ v2 * f := Nat.mul_le_mul_left _ hf
 have h3 : u1 * 1 ≤ u1 * g := Nat.mul_le_mul_left _ h0
 have hq : f / g ≤ f := Nat.div_le_self _ _
 have h4 : f / g * v2 ≤ v2 * f := by rw [Nat.mul_comm]; exact Nat.mul_le_mul_left _ hq
 have h5 : f / g * u2 ≤ u2 * f := by rw [Nat.mul_comm]; exact Nat.mul_le_mul_left _ hq
 have a1 := s.sumA
 have a2 := s.sumC
 omega
/-- What the condition of the loop says of the numbers themselves. -/
theorem lm_even {a b D A C f g u1 u2 v1 v2 al bl : Nat} (ha : a = A * D + al) (hb : b = C * D + bl) (hal : al < D) (hbl : bl < D) (h1 : f + v1 * C = u1 * A) (h2 : g + u2 * A = v2 * C) (hu : u2 ≤ v2) (hg : v2 ≤ g) (hfg : v1 + v2 + g ≤ f) (hp : 1 ≤ v2) :
    ∃ P R, P + v1 * b = u1 * a ∧ R + u2 * a = v2 * b ∧ R < P := by
  subst ha hb
  have e1 : u1 * (A * D + al) = (f + v1 * C) * D + u1 * al := by rw [h1, Nat.mul_add, Nat.mul_assoc]
  have e2 : v2 * (C * D + bl) = (g + u2 * A) * D + v2 * bl := by rw [h2, Nat.mul_add, Nat.mul_assoc]
  have e3 : v1 * (C * D + bl) = v1 * C * D + v1 * bl := by rw [Nat.mul_add, Nat.mul_assoc]
  have e4 : u2 * (A * D + al) = u2 * A * D + u2 * al := by rw [Nat.mul_add, Nat.mul_assoc]
  rw [e1, e2, e3, e4, Nat.add_mul, Nat.add_mul]
  have k1 : u2 * al ≤ v2 * D := Nat.mul_le_mul hu (Nat.le_of_lt hal)
  have k2 : v2 * D ≤ g * D := Nat.mul_le_mul_right _ hg
  have k3 : v1 * bl ≤ v1 * D := Nat.mul_le_mul_left _ (Nat.le_of_lt hbl)
  have k4 : v2 * bl < v2 * D := Nat.mul_lt_mul_of_pos_left hbl hp
  have k5 : (v1 + v2 + g) * D ≤ f * D := Nat.mul_le_mul_right _ hfg
  rw [Nat.add_mul, Nat.add_mul] at k5
  generalize v1 * C * D = x1 at *
  generalize u2 * A * D = x2 at *
  generalize f * D = x3 at *
  generalize g * D = x4 at *
  generalize v1 * D = x5 at *
  generalize v2 * D = x6 at *
  generalize u1 * al = x7 at *
  generalize u2 * al = x8 at *
  generalize v1 * bl = x9 at *
  generalize v2 * bl = y1 at *
  exact ⟨x3 + x7 - x9, x4 + y1 - x8, by omega, by omega, by omega⟩
theorem lm_odd {a b D A C f g u1 u2 v1 v2 al bl : Nat} (ha : a = A * D + al) (hb : b = C * D + bl) (hal : al < D) (hbl : bl < D) (h1 : f + u1 * A = v1 * C) (h2 : g + v2 * C = u2 * A) (hu : u1 ≤ v1) (hu2 : u2 ≤ v2) (hg : v2 ≤ g) (hfg : v1 + v2 + g ≤ f) (hp : 1 ≤ v2) :
    ∃ P R, P + u1 * a = v1 * b ∧ R + v2 * b = u2 * a ∧ R < P := by
  subst ha hb
  have e1 : v1 * (C * D + bl) = (f + u1 * A) * D + v1 * bl := by rw [h1, Nat.mul_add, Nat.mul_assoc]
  have e2 : u2 * (A * D + al) = (g + v2 * C) * D + u2 * al := by rw [h2, Nat.mul_add, Nat.mul_assoc]
  have e3 : u1 * (A * D + al) = u1 * A * D + u1 * al := by rw [Nat.mul_add, Nat.mul_assoc]
  have e4 : v2 * (C * D + bl) = v2 * C * D + v2 * bl := by rw [Nat.mul_add, Nat.mul_assoc]
  rw [e1, e2, e3, e4, Nat.add_mul, Nat.add_mul]
  have k1 : v2 * bl ≤ v2 * D := Nat.mul_le_mul_left _ (Nat.le_of_lt hbl)
  have k2 : v2 * D ≤ g * D := Nat.mul_le_mul_right _ hg
  have k3 : u1 * al ≤ v1 * D := Nat.mul_le_mul hu (Nat.le_of_lt hal)
  have k4 : u2 * al ≤ v2 * D := Nat.mul_le_mul hu2 (Nat.le_of_lt hal)
  have k5 : (v1 + v2 + g) * D ≤ f * D := Nat.mul_le_mul_right _ hfg
  rw [Nat.add_mul, Nat.add_mul] at k5
  have k6 : u2 * al < v2 * D := by
   rcases Nat.eq_zero_or_pos u2 with h | h
   ·subst h
    rw [Nat.zero_mul]
    exact Nat.mul_pos hp (by omega)
   ·exact Nat.lt_of_lt_of_le (Nat.mul_lt_mul_of_pos_left hal h) (Nat.mul_le_mul_right _ hu2)
  generalize u1 * A * D = x1 at *
  generalize v2 * C * D = x2 at *
  generalize f * D = x3 at *
  generalize g * D = x4 at *
  generalize v1 * D = x5 at *
  generalize v2 * D = x6 at *
  generalize u1 * al = x7 at *
  generalize u2 * al = x8 at *
  generalize v1 * bl = x9 at *
  generalize v2 * bl = y1 at *
  exact ⟨x3 + x9 - x7, x4 + x8 - y1, by omega, by omega, by omega⟩
/-- The linear part of a step. -/
theorem lm_lin {A C f g u1 u2 v1 v2 q r : Nat} (hf : f = q * g + r) (h1 : f + v1 * C = u1 * A) (h2 : g + u2 * A = v2 * C) (hd : u1 * v2 = u2 * v1 + 1) :
    r + (v1 + q * v2) * C = (u1 + q * u2) * A ∧ (u1 + q * u2) * v2 = u2 * (v1 + q * v2) + 1 := by
  constructor
  ·have k := congrArg (q * ·) h2
   simp only [Nat.mul_add] at k
   rw [Nat.add_mul, Nat.add_mul, Nat.mul_assoc, Nat.mul_assoc]
   generalize q * (v2 * C) = x1 at *
   generalize q * (u2 * A) = x2 at *
   generalize q * g = x3 at *
   omega
  ·rw [Nat.add_mul, Nat.mul_add, hd, Nat.mul_assoc, Nat.mul_left_comm u2 q v2]
   omega
/-- One round of the loop. -/
theorem LmSt.next {a b D A C al bl f g u0 u1 u2 v0 v1 v2 : Nat} {odd : Bool} (s : LmSt a b A C f g u0 u1 u2 v0 v1 v2 odd) (ha : a = A * D + al) (hb : b = C * D + bl) (hal : al < D) (hbl : bl < D) (hab : b ≤ a) (hg : v2 ≤ g) (hfg : v1 + v2 ≤ f - g) :
    LmSt a b A C g (f % g) u1 u2 (u1 + f / g * u2) v1 v2 (v1 + f / g * v2) (!odd) := by
  have h0 : 0 < g := by have := s.pos; omega
  have hge := s.ge
  have hfg' : v1 + v2 + g ≤ f := by have := s.pos; omega
  have hr : f % g < g := Nat.mod_lt _ h0
  have hdm : f = f / g * g + f % g := by rw [Nat.mul_comm]; exact (Nat.div_add_mod _ _).symm
  have hq1 : 1 ≤ f / g := (Nat.le_div_iff_mul_le h0).2 (by omega)
  have hpos := s.pos
  have hl2 := s.le2
  have hA := s.sumA
  have hC := s.sumC
  have hlin := s.lin
  have hfi := s.first
  generalize f / g = q at *
  generalize f % g = r at *
  have hqv : v2 ≤ q * v2 := by have := Nat.mul_le_mul_right v2 hq1; rwa [Nat.one_mul] at this
  have hqu : q * u2 ≤ q * v2 := Nat.mul_le_mul_left _ hl2
  refine ⟨Nat.le_of_lt hr, by omega, ?_, ?_, ?_, ?_, ?_, ?_⟩
  ·rcases hfi with ⟨rfl, rfl, rfl, rfl, _⟩ | ⟨h1, _, _⟩
   ·omega
   ·omega
  ·have e1 : v2 * f = v2 * (q * g) + v2 * r := by rw [← Nat.mul_add, ← hdm]
   have e2 : v2 * (q * g) = q * v2 * g := by rw [← Nat.mul_assoc, Nat.mul_comm v2 q]
   rw [Nat.add_mul, ← e2]
   omega
  ·have e1 : u2 * f = u2 * (q * g) + u2 * r := by rw [← Nat.mul_add, ← hdm]
   have e2 : u2 * (q * g) = q * u2 * g := by rw [← Nat.mul_assoc, Nat.mul_comm u2 q]
   rw [Nat.add_mul, ← e2]
   omega
  ·rcases hlin with ⟨rfl, l1, l2, l3⟩ | ⟨rfl, l1, l2, l3⟩
   ·obtain ⟨m1, m2⟩ := lm_lin (A := C) (C := A) (u1 := v1) (u2 := v2) (v1 := u1) (v2 := u2) hdm l1 l2 (by rw [Nat.mul_comm v1, Nat.mul_comm v2]; exact l3)
    exact .inr ⟨rfl, l2, m1, by rw [Nat.mul_comm u2, Nat.mul_comm (u1 + q * u2)]; exact m2⟩
   ·obtain ⟨m1, m2⟩ := lm_lin hdm l1 l2 l3
    exact .inl ⟨rfl, l2, m1, m2⟩
  ·right
   refine ⟨hl2, hpos, ?_⟩
   rcases hlin with ⟨rfl, l1, l2, l3⟩ | ⟨rfl, l1, l2, l3⟩
   ·rcases hfi with ⟨_, _, _, _, h⟩ | ⟨h1, _, r0, hr0, hv⟩
    ·cases h
    ·obtain ⟨P, R, p1, p2, p3⟩ := lm_odd ha hb hal hbl l1 l2 h1 hl2 hg hfg' hpos
     have hP : P = r0 := by
      rcases hv with ⟨_, hv⟩ | ⟨h, _⟩
      ·omega
      ·cases h
     exact ⟨R, by omega, .inr ⟨rfl, p2⟩⟩
   ·rcases hfi with ⟨rfl, rfl, rfl, rfl, _⟩ | ⟨h1, _, r0, hr0, hv⟩
    ·exact ⟨b, Nat.le_refl _, .inl ⟨rfl, by omega⟩⟩
    ·obtain ⟨P, R, p1, p2, p3⟩ := lm_even ha hb hal hbl l1 l2 hl2 hg hfg' hpos
     have hP : P = r0 := by
      rcases hv with ⟨h, _⟩ | ⟨_, hv⟩
      ·cases h
      ·omega
     exact ⟨R, by omega, .inl ⟨rfl, p2⟩⟩
  ·intro hv0
   rcases hlin with ⟨rfl, l1, l2, l3⟩ | ⟨rfl, l1, l2, l3⟩
   ·rcases hfi with ⟨_, _, _, _, h⟩ | ⟨h1, _, r0, hr0, hv⟩
    ·cases h
    ·obtain ⟨P, R, p1, p2, p3⟩ := lm_odd ha hb hal hbl l1 l2 h1 hl2 hg hfg' hpos
     have hP : P = r0 := by
      rcases hv with ⟨_, hv⟩ | ⟨h, _⟩
      ·omega
      ·cases h
     exact ⟨P, R, p3, by omega, .inr ⟨rfl, by omega, by omega, by rw [Nat.mul_comm v1]; exact l3⟩⟩
   ·rcases hfi with ⟨h, _⟩ | ⟨h1, _, r0, hr0, hv⟩
    ·exact absurd h hv0
    ·obtain ⟨P, R, p1, p2, p3⟩ := lm_even ha hb hal hbl l1 l2 hl2 hg hfg' hpos
     have hP : P = r0 := by
      rcases hv with ⟨h, _⟩ | ⟨_, hv⟩
      ·cases h
      ·omega
     exact ⟨P, R, p3, by omega, .inl ⟨rfl, by omega, by omega, by rw [Nat.mul_comm v1]; exact l3⟩⟩
/-- The pair has the same greatest common divisor. -/
theorem LmRet.gcd {a b u0 u1 v0 v1 P R : Nat} {odd : Bool} (h : LmRet a b u0 u1 v0 v1 odd P R) : Nat.gcd P R = Nat.gcd a b := by
 apply Nat.dvd_antisymm
 ·-- a common divisor of P and R divides a and b
  have hP := Nat.gcd_dvd_left P R
  have hR := Nat.gcd_dvd_right P R
  generalize Nat.gcd P R = d at *
  have key : ∀ {x y z : Nat}, x + y = z → d ∣ y → d ∣ z → d ∣ x := fun {x y z} e h1 h2 => by
   rw [← e] at h2
   exact (Nat.dvd_add_left h1).1 h2
  rcases h.lin with ⟨_, l1, l2, l3⟩ | ⟨_, l1, l2, l3⟩
  ·-- a = v1 P + v0 R, b = u1 P + u0 R
   have ea : a + (v1 * (v0 * b) + v0 * (u1 * a)) = v1 * (u0 * a) + v0 * (v1 * b) - 0 := by
    have := congrArg (· * a) l3
    simp only [Nat.add_mul] at this
    have e1 : v1 * (u0 * a) = u0 * v1 * a := by rw [Nat.mul_left_comm, Nat.mul_assoc]
    have e2 : v0 * (u1 * a) = v0 * u1 * a := (Nat.mul_assoc _ _ _).symm
    have e3 : v1 * (v0 * b) = v0 * (v1 * b) := Nat.mul_left_comm _ _ _
    omega
   have hA : a = v1 * P + v0 * R := by
    have k1 := congrArg (v1 * ·) l1
    have k2 := congrArg (v0 * ·) l2
    simp only [Nat.mul_add] at k1 k2
    omega
   have hB : b = u1 * P + u0 * R := by
    have k1 := congrArg (u1 * ·) l1
    have k2 := congrArg (u0 * ·) l2
    simp only [Nat.mul_add] at k1 k2
    have := congrArg (· * b) l3
    simp only [Nat.add_mul] at this
    have e1 : u0 * (v1 * b) = u0 * v1 * b := (Nat.mul_assoc _ _ _).symm
    have e2 : u1 * (v0 * b) = v0 * u1 * b := by rw [Nat.mul_left_comm, Nat.mul_assoc]
    have e3 : u1 * (u0 * a) = u0 * (u1 * a) := Nat.mul_left_comm _ _ _
    omega
   refine Nat.dvd_gcd ?_ ?_
   ·rw [hA]; exact Nat.dvd_add (Nat.dvd_trans hP (Nat.dvd_mul_left _ _)) (Nat.dvd_trans hR (Nat.dvd_mul_left _ _))
   ·rw [hB]; exact Nat.dvd_add (Nat.dvd_trans hP (Nat.dvd_mul_left _ _)) (Nat.dvd_trans hR (Nat.dvd_mul_left _ _))
  ·have hA : a = v1 * P + v0 * R := by
    have k1 := congrArg (v1 * ·) l1
    have k2 := congrArg (v0 * ·) l2
    simp only [Nat.mul_add] at k1 k2
    have := congrArg (· * a) l3
    simp only [Nat.add_mul] at this
    have e1 : v0 * (u1 * a) = v0 * u1 * a := (Nat.mul_assoc _ _ _).symm
    have e2 : v1 * (u0 * a) = u0 * v1 * a := by rw [Nat.mul_left_comm, Nat.mul_assoc]
    have e3 : v1 * (v0 * b) = v0 * (v1 * b) := Nat.mul_left_comm _ _ _
    omega
   have hB : b = u1 * P + u0 * R := by
    have k1 := congrArg (u1 * ·) l1
    have k2 := congrArg (u0 * ·) l2
    simp only [Nat.mul_add] at k1 k2
    have := congrArg (· * b) l3
    simp only [Nat.add_mul] at this
    have e1 : u1 * (v0 * b) = v0 * u1 * b := by rw [Nat.mul_left_comm, Nat.mul_assoc]
    have e2 : u0 * (v1 * b) = u0 * v1 * b := (Nat.mul_assoc _ _ _).symm
    have e3 : u1 * (u0 * a) = u0 * (u1 * a) := Nat.mul_left_comm _ _ _
    omega
   refine Nat.dvd_gcd ?_ ?_
   ·rw [hA]; exact Nat.dvd_add (Nat.dvd_trans hP (Nat.dvd_mul_left _ _)) (Nat.dvd_trans hR (Nat.dvd_mul_left _ _))
   ·rw [hB]; exact Nat.dvd_add (Nat.dvd_trans hP (Nat.dvd_mul_left _ _)) (Nat.dvd_trans hR (Nat.dvd_mul_left _ _))
 ·have ha := Nat.gcd_dvd_left a b
  have hb := Nat.gcd_dvd_right a b
  generalize Nat.gcd a b = d at *
  have key : ∀ {x y z : Nat}, y + x = z → d ∣ y → d ∣ z → d ∣ x := fun {x y z} e h1 h2 => by
   rw [← e] at h2
   exact (Nat.dvd_add_right h1).1 h2
  rcases h.lin with ⟨_, l1, l2, _⟩ | ⟨_, l1, l2, _⟩
  ·exact Nat.dvd_gcd (key l1 (Nat.dvd_trans hb (Nat.dvd_mul_left _ _)) (Nat.dvd_trans ha (Nat.dvd_mul_left _ _))) (key l2 (Nat.dvd_trans ha (Nat.dvd_mul_left _ _)) (Nat.dvd_trans hb (Nat.dvd_mul_left _ _)))
  ·exact Nat.dvd_gcd (key l1 (Nat.dvd_trans ha (Nat.dvd_mul_left _ _)) (Nat.dvd_trans hb (Nat.dvd_mul_left _ _))) (key l2 (Nat.dvd_trans hb (Nat.dvd_mul_left _ _)) (Nat.dvd_trans ha (Nat.dvd_mul_left _ _)))
end Go.Bw
end
section
/- The estimate of a digit of a quotient by the top three digits and the top two of the divisor: plain numbers. -/
namespace Go.Bw
/-- The two numbers by their tops. -/
structure Tops (u v top u2 v1 v2 P : Nat) : Prop where
  u_hi : (top * B + u2) * P ≤ u
  u_lo : u < (top * B + u2 + 1) * P
  v_hi : (v1 * B + v2) * P ≤ v
  v_lo : v < (v1 * B + v2 + 1) * P
  u2lt : u2 < B
  v2lt : v2 < B
  big : B ≤ 2 * v1
  v1lt : v1 < B
theorem Tops.two {u v top u2 v1 v2 P q : Nat} (h : Tops u v top u2 v1 v2 P) (hq : q * v ≤ u) : q * (v1 * B + v2) ≤ top * B + u2 := by
 have h1 : q * ((v1 * B + v2) * P) ≤ q * v := Nat.mul_le_mul_left _ h.v_hi
 have h2 : q * (v1 * B + v2) * P < (top * B + u2 + 1) * P := by
  rw [Nat.mul_assoc]; exact Nat.lt_of_le_of_lt (Nat.le_trans h1 hq) h.u_lo
 have := Nat.lt_of_mul_lt_mul_right h2
 omega
/-- The first estimate is not too small. -/
theorem Tops.first {u v top u2 v1 v2 P q : Nat} (h : Tops u v top u2 v1 v2 P) (hq : q * v ≤ u) : q ≤ top / v1 := by
 have h1 := h.two hq
 have hu := h.u2lt
 have hb := h.big
 rw [Nat.mul_add, ← Nat.mul_assoc] at h1
 have h2 : q * v1 * B < (top + 1) * B := by rw [Nat.add_mul]; omega
 have h3 := Nat.lt_of_mul_lt_mul_right h2
 rw [Nat.le_div_iff_mul_le (by simp only [B] at hb; omega)]
 omega
/-- An estimate that fails the test is too great. -/
theorem Tops.down {u v top u2 v1 v2 P q e r : Nat} (h : Tops u v top u2 v1 v2 P) (hq : q * v ≤ u) (he : e * v1 + r = top) (ht : r * B + u2 < e * v2) (hqe : q ≤ e) : q ≤ e - 1 := by
 rcases Nat.lt_or_ge q e with h1 | h1
 ·omega
 ·have : q = e := by omega
  subst this
  have h2 := h.two hq
  rw [Nat.mul_add, ← Nat.mul_assoc, ← he, Nat.add_mul] at h2
  omega
/-- The first estimate is at most the base and one. -/
theorem Tops.small {u v top u2 v1 v2 P : Nat} (h : Tops u v top u2 v1 v2 P) (hlt : u < v * B) : top / v1 ≤ B + 1 := by
 have hb := h.big
 have hv2 := h.v2lt
 have h1 : (top * B + u2) * P < (v1 * B + v2 + 1) * P * B := Nat.lt_of_le_of_lt h.u_hi (Nat.lt_of_lt_of_le hlt (Nat.mul_le_mul_right _ (Nat.le_of_lt h.v_lo)))
 have h2 : (top * B + u2) * P < ((v1 * B + v2 + 1) * B) * P := by rw [Nat.mul_right_comm]; exact h1
 have h3 := Nat.lt_of_mul_lt_mul_right h2
 have h4 : (v1 * B + v2 + 1) * B ≤ (v1 * B + B) * B := Nat.mul_le_mul_right _ (by omega)
 have h5 : top * B < (v1 * B + B) * B := Nat.lt_of_le_of_lt (Nat.le_add_right _ u2) (Nat.lt_of_lt_of_le h3 h4)
 have h6 : top < v1 * B + B := Nat.lt_of_mul_lt_mul_right h5
 have h7 : top < (B + 2) * v1 := by
  simp only [B] at h6 hb ⊢; omega
 have := (Nat.div_lt_iff_lt_mul (by simp only [B] at hb; omega)).2 h7
 omega
/-- An estimate that passes the test, or whose rest is no digit any more, is at most one too great. -/
theorem Tops.near {u v top u2 v1 v2 P e r : Nat} (h : Tops u v top u2 v1 v2 P) (hP : 0 < P) (he : e * v1 + r = top) (heB : e ≤ B) (ht : e * v2 ≤ r * B + u2 ∨ B ≤ r) : e * v < u + v := by
 have hv2 := h.v2lt
 have hbg := h.big
 have h0 : e * v2 ≤ r * B + u2 := by
  rcases ht with ht | ht
  ·exact ht
  ·have h1 : e * v2 ≤ B * B := Nat.mul_le_mul heB (Nat.le_of_lt hv2)
   have h2 : B * B ≤ r * B := Nat.mul_le_mul_right _ ht
   omega
 have h1 : e * (v1 * B + v2) ≤ top * B + u2 := by
  rw [Nat.mul_add, ← Nat.mul_assoc, ← he, Nat.add_mul]; omega
 have h2 : e * (v1 * B + v2) * P ≤ u := Nat.le_trans (Nat.mul_le_mul_right _ h1) h.u_hi
 rcases Nat.eq_zero_or_pos e with rfl | hpos
 ·have h3 : 1 * P ≤ (v1 * B + v2) * P := Nat.mul_le_mul_right _ (by simp only [B] at hbg ⊢; omega)
  have := h.v_hi
  omega
 ·have h3 : e * v < e * ((v1 * B + v2 + 1) * P) := Nat.mul_lt_mul_of_pos_left h.v_lo hpos
  have h4 : e * ((v1 * B + v2 + 1) * P) = e * (v1 * B + v2) * P + e * P := by rw [← Nat.mul_assoc, Nat.mul_add, Nat.add_mul, Nat.mul_one]
  have h5 : e * P ≤ v := by
   refine Nat.le_trans (Nat.mul_le_mul_right P ?_) h.v_hi
   simp only [B] at hbg heB ⊢; omega
  omega
end Go.Bw
end
section
/- The loop that lowers the estimate of a digit, and what is left to subtract: plain numbers. -/
namespace Go.Bw
/-- The estimate in the loop; b: it has been lowered already. -/
structure Est (top v1 q e r : Nat) : Prop where
  eq : e * v1 + r = top
  ge : q ≤ e
  le : e ≤ B + 1
theorem Est.start {u v top u2 v1 v2 P q : Nat} (h : Tops u v top u2 v1 v2 P) (hq : q * v ≤ u) (hlt : u < v * B) : Est top v1 q (top / v1) (top % v1) :=
  ⟨by rw [Nat.mul_comm]; exact Nat.div_add_mod _ _, h.first hq, h.small hlt⟩
/-- One round: the estimate is lowered by one. -/
theorem Est.round {u v top u2 v1 v2 P q e r : Nat} (h : Tops u v top u2 v1 v2 P) (hq : q * v ≤ u) (hqB : q < B) (s : Est top v1 q e r) (ht : B ≤ e ∨ r * B + u2 < e * v2) : Est top v1 q (e - 1) (r + v1) ∧ e - 1 ≤ B ∧ 0 < e := by
 have hpos : 0 < e := by
  rcases ht with ht | ht
  ·exact Nat.lt_of_lt_of_le (by decide) ht
  ·rcases Nat.eq_zero_or_pos e with rfl | h0
   ·rw [Nat.zero_mul] at ht; exact absurd ht (Nat.not_lt_zero _)
   ·exact h0
 have hle := s.le
 refine ⟨⟨?_, ?_, by omega⟩, by omega, hpos⟩
 ·have he := s.eq
  obtain ⟨d, rfl⟩ : ∃ d, e = d + 1 := ⟨e - 1, by omega⟩
  rw [Nat.add_sub_cancel]
  rw [Nat.add_mul, Nat.one_mul] at he
  omega
 ·rcases ht with ht | ht
  ·omega
  ·exact h.down hq s.eq ht s.ge
/-- Behind the loop the estimate is the digit or one more. -/
theorem Est.stop {u v top u2 v1 v2 P q e r : Nat} (h : Tops u v top u2 v1 v2 P) (hP : 0 < P) (hq : q = u / v) (hv : 0 < v) (s : Est top v1 q e r) (heB : e ≤ B) (ht : e * v2 ≤ r * B + u2 ∨ B ≤ r) : e = q ∨ e = q + 1 := by
 have h1 := h.near hP s.eq heB ht
 have h2 := s.ge
 have h3 : e < q + 2 := by
  refine Nat.lt_of_mul_lt_mul_right (a := v) ?_
  have h4 := Nat.lt_div_mul_add (a := u) hv
  rw [← hq] at h4
  rw [Nat.add_mul]
  omega
 omega
end Go.Bw
end
