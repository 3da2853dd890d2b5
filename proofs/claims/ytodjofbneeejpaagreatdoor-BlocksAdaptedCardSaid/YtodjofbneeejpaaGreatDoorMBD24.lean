/- Parts of the proof: BN10, BN11, BN12, BN13, BN2, BN5, BN3. -/
import Derived.Deep.Cut
import Derived.Test.YtodjofbneeejpaaGreatDoorMBD0
import Derived.Test.YtodjofbneeejpaaGreatDoorMBD1
import Derived.Test.YtodjofbneeejpaaGreatDoorMBD2
import Derived.Test.YtodjofbneeejpaaGreatDoorMBD23
section
/- The loop that lowers the estimate of a digit, and what is left to subtract: plain numbers. -/
namespace Go.Bn
/-- The estimate in the loop; b: it has been lowered already. -/
structure Est (top v1 q e r : Nat) : Prop where
  eq : e * v1 + r = top
  ge : q ≤ e
  le : e ≤ B + 1
theorem Est.start {u v top u2 v1 v2 P q : Nat} (h : Tops u v top u2 v1 v2 P) (hq : q * v ≤ u) (hlt : u < v * B) : Est top v1 q (top / v1) (top % v1) :=
  ⟨by rw [Nat.mul_comm]; exact Nat.div_add_mod _ _, h.first hq, h.small hlt⟩
/-- One round: the estimate is lowered by one. -/
theorem Est.round {u v top u2 v1 v2 P q e r : Nat} (h : Tops u v top u2 v1 v2 P) (hq : q * v ≤ u) (hqB : q < B) (s : Est top v1 q e r) (ht : B ≤ e ∨ r * B + u2 < e * v2) : Est top v1 q (e - 1) (r + v1) ∧ e - 1 ≤ B ∧ 0 < e := by
 have hpos : 0 < e := by
  rcases ht with ht | ht
  ·exact Nat.lt_of_lt_of_le (by decide) ht
  ·rcases Nat.eq_zero_or_pos e with rfl | h0
   ·rw [Nat.zero_mul] at ht; exact absurd ht (Nat.not_lt_zero _)
   ·exact h0
 have hle := s.le
 refine ⟨⟨?_, ?_, by omega⟩, by omega, hpos⟩
 ·have he := s.eq
  obtain ⟨d, rfl⟩ : ∃ d, e = d + 1 := ⟨e - 1, by omega⟩
  rw [Nat.add_sub_cancel]
  rw [Nat.add_mul, Nat.one_mul] at he
  omega
 ·rcases ht with ht | ht
  ·omega
  ·exact h.down hq s.eq ht s.ge
/-- Behind the loop the estimate is the digit or one more. -/
theorem Est.stop {u v top u2 v1 v2 P q e r : Nat} (h : Tops u v top u2 v1 v2 P) (hP : 0 < P) (hq : q = u / v) (hv : 0 < v) (s : Est top v1 q e r) (heB : e ≤ B) (ht : e * v2 ≤ r * B + u2 ∨ B ≤ r) : e = q ∨ e = q + 1 := by
 have h1 := h.near hP s.eq heB ht
 have h2 := s.ge
 have h3 : e < q + 2 := by
  refine Nat.lt_of_mul_lt_mul_right (a := v) ?_
  have h4 := Nat.lt_div_mul_add (a := u) hv
  rw [← hq] at h4
  rw [Nat.add_mul]
  omega
 omega
/-- The numbers stay in 64 bits. -/
theorem est_fit {e v2 r u2 : Nat} (he : e ≤ B + 1) (hv : v2 < B) (hr : r < B) (hu : u2 < B) : e * v2 < B * B ∧ r * B + u2 < B * B := by
 have h1 : e * v2 ≤ (B + 1) * (B - 1) := Nat.mul_le_mul he (by omega)
 have h2 : (B + 1) * (B - 1) < B * B := by decide
 have h3 : (r + 1) * B ≤ B * B := Nat.mul_le_mul_right _ hr
 rw [Nat.add_mul, Nat.one_mul] at h3
 exact ⟨Nat.lt_of_le_of_lt h1 h2, by omega⟩
end Go.Bn
end
section
/- One digit of the product taken away with its borrow: plain numbers. -/
namespace Go.Bn
theorem msub_fit {h y c : Nat} (hh : h ≤ B) (hy : y < B) (hc : c < B) : h * y + c < B * B ∧ (h * y + c) / B < B := by
 have h1 : h * y ≤ B * (B - 1) := Nat.mul_le_mul hh (by omega)
 have h2 : B * (B - 1) + (B - 1) < B * B := by decide
 have h3 : h * y + c < B * B := by omega
 exact ⟨h3, by rw [Nat.div_lt_iff_lt_mul (by decide)]; exact h3⟩
/-- The digit that is left and the borrow, as the 64 bits give them. -/
theorem msub_digit {x a bo : Nat} (hx : x < B) (ha : a < B) (hb : bo ≤ 1) : (x + 18446744073709551616 - (a + bo)) % 18446744073709551616 % B + a + bo = x + B * ((x + 18446744073709551616 - (a + bo)) % 18446744073709551616 / B % 2) := by
 simp only [B] at *
 omega
theorem msub_step {x p bo x' bo' : Nat} (h : x' + p % B + bo = x + B * bo') : x' + p + bo = x + B * (p / B + bo') := by
 have hm := Nat.mod_add_div p B
 rw [Nat.mul_add]
 omega
/-- The invariant's step: k digits are done. -/
theorem msub_round {U U' V h c bo x x' y bo' K : Nat} (hs : U' + h * V = U + K * (c + bo)) (hd : x' + (h * y + c) + bo = x + B * ((h * y + c) / B + bo')) :
    U' + K * x' + h * (V + K * y) = U + K * x + K * B * ((h * y + c) / B + bo') := by
  have e1 : K * x' + K * (h * y + c) + K * bo = K * x + K * B * ((h * y + c) / B + bo') := by
   rw [← Nat.mul_add, ← Nat.mul_add, hd, Nat.mul_add, Nat.mul_assoc]
  have e2 : h * (V + K * y) = h * V + K * (h * y) := by rw [Nat.mul_add, Nat.mul_left_comm]
  rw [Nat.mul_add K (h * y)] at e1
  rw [Nat.mul_add] at hs
  rw [e2]
  omega
/-- The digit back again: what was taken too much is added. -/
theorem back_round {U U' V c x y K : Nat} (hs : U' + K * c = U + V) : U' + K * ((c + (x + y)) % B) + K * B * ((c + (x + y)) / B) = U + K * x + (V + K * y) := by
 have hm := Nat.mod_add_div (c + (x + y)) B
 have e : K * ((c + (x + y)) % B) + K * B * ((c + (x + y)) / B) = K * c + K * x + K * y := by
  rw [Nat.mul_assoc, ← Nat.mul_add, hm, Nat.mul_add, Nat.mul_add, Nat.add_assoc]
 omega
end Go.Bn
end
section
/- The tops of two numbers, from their digits: plain. -/
namespace Go.Bn
theorem val_two {l : List Nat} {m a b : Nat} (hl : l.length = m) : val (l ++ [a, b]) = val l + (b * B + a) * B ^ m := by
 rw [val_app, hl]
 simp only [val, Nat.mul_zero, Nat.add_zero]
 rw [Nat.mul_comm (B ^ m), Nat.mul_comm B b, Nat.add_comm a]
theorem val_three {l : List Nat} {m a b c : Nat} (hl : l.length = m) : val (l ++ [a, b, c]) = val l + ((c * B + b) * B + a) * B ^ m := by
 rw [val_app, hl]
 simp only [val, Nat.mul_zero, Nat.add_zero]
 rw [Nat.mul_comm (B ^ m), Nat.mul_comm B c, Nat.add_comm b, Nat.mul_comm B (c * B + b), Nat.add_comm a]
theorem tops_of {us vs : List Nat} {m a b c x y : Nat} (hu : us.length = m) (hv : vs.length = m) (du : Dig us) (dv : Dig vs) (ha : a < B) (hx : x < B) (hy : y < B) (hbig : B ≤ 2 * y) :
    Tops (val (us ++ [a, b, c])) (val (vs ++ [x, y])) (c * B + b) a y x (B ^ m) := by
  have h1 := val_lt du
  have h2 := val_lt dv
  rw [hu] at h1
  rw [hv] at h2
  rw [val_three hu, val_two hv]
  refine ⟨Nat.le_add_left _ _, ?_, Nat.le_add_left _ _, ?_, ha, hx, hbig, hy⟩
  ·rw [Nat.add_mul _ 1, Nat.one_mul]; omega
  ·rw [Nat.add_mul _ 1, Nat.one_mul]; omega
end Go.Bn
end
section
/- One digit of the long division, and what the whole division comes to: plain numbers. -/
namespace Go.Bn
/-- The estimate was right: the product fits. -/
theorem digit_right {W V q e low top c bo K z : Nat} (hq : q = W / V) (hV : 0 < V) (hVK : V ≤ K) (he : e = q ∨ e = q + 1) (hW : W = low + K * top) (hs : z + e * V = low + K * (c + bo)) (_ : z < K) (ht : c + bo ≤ top) :
    e = q ∧ z = W % V ∧ top = c + bo := by
  have hm := Nat.div_add_mod W V
  have hlt := Nat.mod_lt W hV
  rw [← hq, Nat.mul_comm] at hm
  obtain ⟨d, rfl⟩ : ∃ d, top = c + bo + d := ⟨top - (c + bo), by omega⟩
  rw [Nat.mul_add K (c + bo)] at hW
  have h1 : e = q := by
   rcases he with h | h
   ·exact h
   ·subst h
    rw [Nat.add_mul, Nat.one_mul] at hs
    omega
  subst h1
  have h2 : z + K * d = W % V := by omega
  have h3 : d = 0 := by
   rcases Nat.eq_zero_or_pos d with h | h
   ·exact h
   ·have : K * 1 ≤ K * d := Nat.mul_le_mul_left _ h
    omega
  subst h3
  exact ⟨rfl, by omega, by omega⟩
/-- The estimate was one too great: what is lacking is one unit of the top digit. -/
theorem digit_wrong {W V q e low top c bo K z : Nat} (hq : q = W / V) (hV : 0 < V) (hVK : V ≤ K) (he : e = q ∨ e = q + 1) (hW : W = low + K * top) (hs : z + e * V = low + K * (c + bo)) (hz : z < K) (ht : top < c + bo) :
    e = q + 1 ∧ c + bo = top + 1 ∧ z + V = W % V + K := by
  have hm := Nat.div_add_mod W V
  have hlt := Nat.mod_lt W hV
  rw [← hq, Nat.mul_comm] at hm
  obtain ⟨d, hd⟩ : ∃ d, c + bo = top + 1 + d := ⟨c + bo - top - 1, by omega⟩
  rw [hd, Nat.mul_add, Nat.mul_add, Nat.mul_one] at hs
  have h1 : e = q + 1 := by
   rcases he with h | h
   ·subst h; omega
   ·exact h
  subst h1
  rw [Nat.add_mul, Nat.one_mul] at hs
  have h3 : d = 0 := by
   rcases Nat.eq_zero_or_pos d with h | h
   ·exact h
   ·have : K * 1 ≤ K * d := Nat.mul_le_mul_left _ h
    omega
  subst h3
  rw [Nat.mul_zero] at hs
  exact ⟨rfl, by omega, by omega⟩
/-- The division so far: the digits of the quotient from place k on, and what is left. -/
structure DvSt (A V L M : Nat) (k : Nat) (us qs : List Nat) : Prop where
  len : us.length = L
  dig : Dig us
  rest : val (us.drop k) < V
  qlen : qs.length + k = M
  qdig : Dig qs
  sum : A = val us + B ^ k * V * val qs
theorem val_take_drop (us : List Nat) (k : Nat) (h : k ≤ us.length) : val us = val (us.take k) + B ^ k * val (us.drop k) := by
 conv => lhs; rw [← List.take_append_drop k us, val_app, List.length_take, Nat.min_eq_left h]
theorem dig_drop {xs : List Nat} (h : Dig xs) (k : Nat) : Dig (xs.drop k) := fun x hx => h x (List.mem_of_mem_drop hx)
theorem dig_tak {xs : List Nat} (h : Dig xs) (k : Nat) : Dig (xs.take k) := fun x hx => h x (List.mem_of_mem_take hx)
theorem dig_app {xs ys : List Nat} (h : Dig xs) (g : Dig ys) : Dig (xs ++ ys) := fun x hx => by
 rcases List.mem_append.1 hx with hx | hx
 ·exact h x hx
 ·exact g x hx
theorem dig_cons {x : Nat} {xs : List Nat} (h : x < B) (g : Dig xs) : Dig (x :: xs) := fun y hy => by
 rcases List.mem_cons.1 hy with rfl | hy
 ·exact h
 ·exact g y hy
theorem val_cons_drop {us : List Nat} {k : Nat} (h : k < us.length) : val (us.drop k) = us[k] + B * val (us.drop (k + 1)) := by
 rw [List.drop_eq_getElem_cons h]; rfl
/-- What a number that is less than the base's power has above. -/
theorem val_above {us : List Nat} {n : Nat} (h : val us < B ^ n) (hn : n ≤ us.length) : val (us.drop n) = 0 := by
 have h1 := val_take_drop us n hn
 rcases Nat.eq_zero_or_pos (val (us.drop n)) with h2 | h2
 ·exact h2
 ·have : B ^ n * 1 ≤ B ^ n * val (us.drop n) := Nat.mul_le_mul_left _ h2
  omega
/-- The window at place j: n digits, one more, and nothing above. -/
theorem DvSt.window {A V L M j n : Nat} {us qs : List Nat} (h : DvSt A V L M (j + 1) us qs) (hV : V ≤ B ^ n) (hj : j + n < L) (hn : 0 < n) :
    val (us.drop j) = val ((us.drop j).take n) + B ^ n * (us.drop j).getD n 0 ∧ val (us.drop j) < V * B ∧ val (us.drop (j + n + 1)) = 0 := by
  have hl := h.len
  have h0 : val (us.drop (j + 1)) < B ^ n := Nat.lt_of_lt_of_le h.rest hV
  have h1 : val (us.drop (j + n + 1)) = 0 := by
   have := val_above h0 (by rw [List.length_drop]; omega)
   rwa [List.drop_drop, show j + 1 + n = j + n + 1 by omega] at this
  have h2 := val_take_drop (us.drop j) n (by rw [List.length_drop]; omega)
  rw [List.drop_drop, val_cons_drop (show j + n < us.length by omega), h1, Nat.mul_zero, Nat.add_zero] at h2
  have h3 : (us.drop j).getD n 0 = us[j + n]'(by omega) := by simp [show j + n < us.length by omega]
  refine ⟨by rw [h3]; exact h2, ?_, h1⟩
  rw [val_cons_drop (show j < us.length by omega)]
  have h4 := h.dig us[j] (List.getElem_mem _)
  have h5 := h.rest
  have h6 : B * (val (us.drop (j + 1)) + 1) ≤ B * V := Nat.mul_le_mul_left _ h5
  rw [Nat.mul_add, Nat.mul_one] at h6
  rw [Nat.mul_comm V]
  omega
/-- A digit found: the window bears the rest of its division. -/
theorem DvSt.next {A V L M j n q : Nat} {us qs zs : List Nat} (h : DvSt A V L M (j + 1) us qs) (hV : V ≤ B ^ n) (hj : j + n < L) (hn : 0 < n) (hq : q = val (us.drop j) / V) (hV0 : 0 < V) (hz : val zs = val (us.drop j) % V) (hzl : zs.length = n) (hzd : Dig zs) :
    DvSt A V L M j (us.take j ++ (zs ++ 0 :: us.drop (j + n + 1))) (q :: qs) := by
  obtain ⟨_, hw, h1⟩ := h.window hV hj hn
  have hl := h.len
  have htl : (us.take j).length = j := by rw [List.length_take]; omega
  have hv : val (zs ++ 0 :: us.drop (j + n + 1)) = val (us.drop j) % V := by
   rw [val_app, hz]; simp [val, h1]
  refine ⟨?_, ?_, ?_, ?_, ?_, ?_⟩
  ·simp only [List.length_append, htl, List.length_cons, hzl, List.length_drop]; omega
  ·exact dig_app (dig_tak h.dig _) (dig_app hzd (dig_cons (by decide) (dig_drop h.dig _)))
  ·rw [List.drop_append_of_le_length (by omega), List.drop_of_length_le (by omega), List.nil_append, hv]
   exact Nat.mod_lt _ hV0
  ·rw [List.length_cons]; have := h.qlen; omega
  ·refine dig_cons ?_ h.qdig
   rw [hq, Nat.div_lt_iff_lt_mul hV0, Nat.mul_comm]; exact hw
  ·rw [val_app, htl, hv]
   have hs := h.sum
   rw [val_take_drop us j (by omega)] at hs
   have hm := Nat.div_add_mod (val (us.drop j)) V
   rw [← hq] at hm
   simp only [val]
   have e1 : B ^ j * val (us.drop j) = B ^ j * (V * q) + B ^ j * (val (us.drop j) % V) := by rw [← Nat.mul_add, hm]
   have e2 : B ^ j * V * (q + B * val qs) = B ^ j * (V * q) + B ^ (j + 1) * V * val qs := by
    rw [Nat.mul_add, Nat.mul_assoc (B ^ j) V q, Nat.pow_succ]
    congr 1
    rw [Nat.mul_assoc (B ^ j), Nat.mul_assoc (B ^ j), Nat.mul_assoc (B ^ j), Nat.mul_left_comm V, Nat.mul_assoc B]
   rw [e2]
   omega
/-- The division is done. -/
theorem DvSt.done {A V L M : Nat} {us qs : List Nat} (h : DvSt A V L M 0 us qs) : val qs = A / V ∧ val us = A % V := by
 have hs := h.sum
 have hr := h.rest
 rw [List.drop_zero] at hr
 rw [Nat.pow_zero, Nat.one_mul] at hs
 have hV : 0 < V := by omega
 constructor
 ·rw [hs, Nat.add_comm, Nat.mul_add_div hV, Nat.div_eq_of_lt hr, Nat.add_zero]
 ·rw [hs, Nat.add_comm, Nat.mul_add_mod, Nat.mod_eq_of_lt hr]
end Go.Bn
end
section
/- The harness's digits: trim strikes the zeros at the end, whatever the length. -/
namespace Go.Proofs.Tg
open Go.RowKit Go.Gr Go.Bn
set_option maxHeartbeats 4000000
set_option maxRecDepth 100000
theorem tzl_val (xs : List Nat) : ∀ k, k ≤ xs.length → val (xs.take (tzl xs k)) = val (xs.take k) ∧ Norm (xs.take (tzl xs k))
  | 0, _ => ⟨rfl, fun h => absurd rfl h⟩
  | k + 1, hk => by
    have hx : xs.getD k 0 = xs[k] := by simp [show k < xs.length by omega]
    have ht : xs.take (k + 1) = xs.take k ++ [xs[k]] := List.take_succ_eq_append_getElem hk
    unfold tzl
    by_cases h0 : xs.getD k 0 = 0
    ·rw [if_pos h0]
     obtain ⟨h1, h2⟩ := tzl_val xs k (by omega)
     refine ⟨?_, h2⟩
     rw [h1, ht, ← hx, h0, dg_append_zero]
    ·rw [if_neg h0]
     refine ⟨rfl, fun hne => ?_⟩
     have : ∀ (l : List Nat) (hl : l ≠ []), l = xs.take k ++ [xs[k]] → l.getLast hl ≠ 0 := fun l hl e => by
      subst e
      rw [List.getLast_append_of_ne_nil hl (by simp), List.getLast_singleton, ← hx]
      exact h0
     exact this _ hne ht
theorem dig_take {xs : List Nat} (h : Dig xs) (k : Nat) : Dig (xs.take k) := fun x hx => h x (List.mem_of_mem_take hx)
theorem tzl_dg {xs : List Nat} (h : Dig xs) : xs.take (tzl xs xs.length) = dg (val xs) ∧ tzl xs xs.length = (dg (val xs)).length := by
 obtain ⟨h1, h2⟩ := tzl_val xs xs.length (Nat.le_refl _)
 rw [List.take_length] at h1
 have e := dg_val (dig_take h (tzl xs xs.length)) h2
 rw [h1] at e
 refine ⟨e.symm, ?_⟩
 rw [e, List.length_take]
 have := tzl_le xs xs.length
 omega
theorem dg_val_len {xs : List Nat} (h : Dig xs) : (dg (val xs)).length ≤ xs.length := by
 rw [← (tzl_dg h).2]
 exact tzl_le _ _
theorem trim_dg (A : Option Addr) (c : Nat) (xs : List Nat) (w : World) (hA : Digs w A xs) (hd : Dig xs) (hn : xs.length ≤ 1000000) (hc : xs.length ≤ c) :
    Calls Tryz.prog 127 #[.slice A xs.length c] w fun e w' => e = .returned (.slice A (dg (val xs)).length c) ∧ w = w' ∧ Digs w' A (dg (val xs)) := by
  have h := trim_any A c xs w hA hn hc
  obtain ⟨h1, h2⟩ := tzl_dg hd
  refine h.mono ?_
  rintro e w' ⟨rfl, rfl⟩
  refine ⟨by rw [h2], rfl, ?_⟩
  rw [← h1]
  exact hA.take _ (tzl_le _ _)
/-- A number's digits in a slice. -/
structure ND (w : World) (R : Option Addr) (c n : Nat) : Prop where
  digs : Digs w R (dg n)
  cap : (dg n).length ≤ c
  nilc : R = none → c = 0
theorem ND.keep {w w' : World} {R : Option Addr} {c n : Nat} (h : ND w R c n) (hb : Below w.heap.size w w') : ND w' R c n := ⟨h.digs.keep hb, h.cap, h.nilc⟩
theorem ND.zero (w : World) : ND w none 0 0 := ⟨by rw [dg_zero]; exact Digs.nil _ _, by rw [dg_zero]; exact Nat.le_refl _, fun _ => rfl⟩
theorem ND.some {w : World} {a : Addr} {c n : Nat} (h : Digs w (some a) (dg n)) (hc : (dg n).length ≤ c) : ND w (some a) c n := ⟨h, hc, fun e => by cases e⟩
def RetDg (n : Nat) (w : World) (e : Ending) (w' : World) : Prop := ∃ R cr, e = .returned (.slice R (dg n).length cr) ∧ ND w' R cr n ∧ Below w.heap.size w w'
def darr (l : List Nat) : Array Value := (l.map vd).toArray
theorem darr_made (n : Nat) : madeCells #[.int .u32 0] n = darr (List.replicate n 0) := by
 apply Array.ext
 ·simp [darr, size_madeCells]
 ·intro i h1 h2
  simp [madeCells, darr, vd, Nat.mod_one]
theorem darr_set (l : List Nat) (k s : Nat) : (darr l).setIfInBounds k (.int .u32 (s : Nat)) = darr (l.set k s) := by
 unfold darr
 simp [List.map_set, vd]
theorem darr_at (l : List Nat) {k : Nat} (hk : k < l.length) : (darr l)[k]? = some (.int .u32 (l[k] : Nat)) := by simp [darr, hk, vd]
end Go.Proofs.Tg
end
section
/- The harness's comparison of absolute values, whatever their length. -/
namespace Go.Bn
theorem val_split (xs : List Nat) (i : Nat) (h : i ≤ xs.length) : val xs = val (xs.take i) + B ^ i * val (xs.drop i) := by
 have := val_app (xs.take i) (xs.drop i)
 rw [List.take_append_drop, List.length_take, Nat.min_eq_left h] at this
 exact this
theorem val_drop {xs : List Nat} {i : Nat} (h : i < xs.length) : val (xs.drop i) = xs[i] + B * val (xs.drop (i + 1)) := by
 rw [List.drop_eq_getElem_cons h]; rfl
/-- Equal above a digit, less there. -/
theorem val_less {xs ys : List Nat} {i : Nat} (hx : i < xs.length) (hy : i < ys.length) (hd : xs.drop (i + 1) = ys.drop (i + 1)) (hX : Dig xs) (hlt : xs[i] < ys[i]) : val xs < val ys := by
 rw [val_split xs i (by omega), val_split ys i (by omega), val_drop hx, val_drop hy, hd]
 have h1 : val (xs.take i) < B ^ i := by
  have := val_lt (xs := xs.take i) (fun x h => hX x (List.mem_of_mem_take h))
  rwa [List.length_take, Nat.min_eq_left (by omega)] at this
 have h2 : B ^ i * (xs[i] + B * val (ys.drop (i + 1))) + B ^ i ≤ B ^ i * (ys[i] + B * val (ys.drop (i + 1))) := by
  have : xs[i] + B * val (ys.drop (i + 1)) + 1 ≤ ys[i] + B * val (ys.drop (i + 1)) := by omega
  have := Nat.mul_le_mul_left (B ^ i) this
  rwa [Nat.mul_add, Nat.mul_one] at this
 omega
theorem dg_lt_of_len {a b : Nat} (h : (dg a).length < (dg b).length) : a < b := by
 rcases Nat.lt_or_ge a b with h1 | h1
 ·exact h1
 ·have h2 := val_lt (dg_dig b)
  rw [val_dg] at h2
  have h3 := val_lt (dg_dig a)
  rw [val_dg] at h3
  have h4 : B ^ (dg a).length ≤ b := by
   have hb : b ≠ 0 := fun e => by subst e; rw [dg_zero] at h; simp at h
   have h5 : (dg b).length - 1 < (dg b).length := by omega
   have h6 : B ^ ((dg b).length - 1) ≤ b := by
    rcases Nat.lt_or_ge b (B ^ ((dg b).length - 1)) with h7 | h7
    ·have := dg_len_lt h7; omega
    ·exact h7
   exact Nat.le_trans (Nat.pow_le_pow_right (by decide) (by omega)) h6
  omega
end Go.Bn
namespace Go.Proofs.Tg
open Go.RowKit Go.Gr Go.Bn
set_option maxHeartbeats 4000000
set_option maxRecDepth 100000
theorem ncmp_len (X Y : Option Addr) (cx cy m n : Nat) (w : World) (r : Int) (h : (m < n ∧ r = -1) ∨ (n < m ∧ r = 1)) :
    Calls Tryz.prog 120 #[.slice X m cx, .slice Y n cy] w fun e w' => e = .returned (.int .i64 r) ∧ w = w' := by
  rcases h with ⟨h, rfl⟩ | ⟨h, rfl⟩
  ·have h1 : ((m : Int) != (n : Int)) = true := by simp; omega
   have h2 : decide ((m : Int) < (n : Int)) = true := decide_eq_true (by omega)
   have h1' : (m != n) = true := by simp; omega
   have h2' : decide (m < n) = true := decide_eq_true h
   clear h
   go_enter Tryz.func120, Tryz.ntmps120
   go_wp2
   go_ret
   exact ⟨rfl, rfl⟩
  ·have h1 : ((m : Int) != (n : Int)) = true := by simp; omega
   have h2 : decide ((m : Int) < (n : Int)) = false := decide_eq_false (by omega)
   have h1' : (m != n) = true := by simp; omega
   have h2' : decide (m < n) = false := decide_eq_false (by omega)
   clear h
   go_enter Tryz.func120, Tryz.ntmps120
   go_wp2
   go_ret
   exact ⟨rfl, rfl⟩
theorem ncmp_same (X Y : Option Addr) (cx cy : Nat) (xs ys : List Nat) (w : World) (hX : Digs w X xs) (hY : Digs w Y ys) (hx : Dig xs) (hy : Dig ys) (hl : ys.length = xs.length) (hn : xs.length ≤ 1000000) :
    Calls Tryz.prog 120 #[.slice X xs.length cx, .slice Y ys.length cy] w fun e w' => e = .returned (.int .i64 (if val xs < val ys then -1 else if val xs = val ys then 0 else 1)) ∧ Dr w w' := by
  rw [hl]
  have HX := Lib.hid hX
  have HY := Lib.hid hY
  have HDX := Lib.hid hx
  have HDY := Lib.hid hy
  have HL := Lib.hid hl
  obtain ⟨r, hr⟩ : ∃ r : Int, (if val xs < val ys then -1 else if val xs = val ys then 0 else 1) = r := ⟨_, rfl⟩
  rw [hr]
  have HR := Lib.hid hr
  clear hX hY hx hy hl hr
  go_enter Tryz.func120, Tryz.ntmps120
  go_wp2
  go_loopw [5] (fun s5 wr => ∃ k : Nat, s5 = .int .i64 ((k : Int) - 1) ∧ k ≤ xs.length ∧ Hid (xs.drop k = ys.drop k) ∧ Dr w wr) (fun s5 _ => (intOf s5 + 1).toNat)
  case atStart => exact ⟨xs.length, rfl, Nat.le_refl _, Lib.hid (by rw [List.drop_length, ← HL.out, List.drop_length]), Dr.refl _⟩
  case round =>
   obtain ⟨wo, rfl⟩ : ∃ wo : World, wo = wr := ⟨_, rfl⟩
   obtain ⟨k, rfl, hk, HD, hdr⟩ := hrel
   cases k with
   | zero =>
     have hv : xs = ys := by simpa using HD.out
     obtain rfl : r = 0 := by rw [← HR.out, hv]; simp
     have dd : decide ((0 : Int) ≤ ((0 : Nat) : Int) - 1) = false := by decide
     clear hv
     go_wp2
     go_ret
     exact ⟨rfl, hdr⟩
   | succ j =>
     have hj : j < xs.length := by omega
     have hj2 : j < ys.length := by have := HL.out; omega
     have e : (((j + 1 : Nat) : Int) - 1) = (j : Int) := by omega
     rw [e]
     clear e
     obtain ⟨ad, rfl, hcx⟩ := Digs.at (HX.out.keep hdr.below) hj
     obtain ⟨bd, rfl, hcy⟩ := Digs.at (HY.out.keep hdr.below) hj2
     have HLT : Hid (xs[j] < ys[j] → val xs < val ys) := Lib.hid (fun h => val_less hj hj2 HD.out HDX.out h)
     have HGT : Hid (ys[j] < xs[j] → val ys < val xs) := Lib.hid (fun h => val_less hj2 hj HD.out.symm HDY.out h)
     have HEQ : Hid (xs[j] = ys[j] → xs.drop j = ys.drop j) := Lib.hid (fun h => by rw [List.drop_eq_getElem_cons hj, List.drop_eq_getElem_cons hj2, h, HD.out])
     generalize xs[j] = x at *
     generalize ys[j] = y at *
     have q0 : (0 : Int) ≤ (j : Int) := by omega
     have q1 : (j : Int) < (xs.length : Int) := by omega
     have q3 : ((j : Int)).toNat = j := by omega
     have d0 : decide ((0 : Int) ≤ (j : Int)) = true := decide_eq_true q0
     by_cases hxy : x = y
     ·have HE2 := Lib.hid (HEQ.out hxy)
      clear HEQ HLT HGT
      subst hxy
      have hne : ((x : Int) != (x : Int)) = false := by simp
      go_wp2
      go_quiet (fail)
      go_wp2
      go_roundw
      case rel => exact ⟨j, by go_num, by omega, HE2, hdr.drewN _⟩
      case measure => simp [intOf]
     ·have hne : ((x : Int) != (y : Int)) = true := by simp; omega
      by_cases hlt : x < y
      ·obtain rfl : r = -1 := by rw [← HR.out, if_pos (HLT.out hlt)]
       have d1 : decide ((x : Int) < (y : Int)) = true := decide_eq_true (by omega)
       have d1' : decide (x < y) = true := decide_eq_true hlt
       clear hxy hlt
       go_wp2
       go_quiet (fail)
       generalize hW : wo.drewN _ = W
       have hdW : Dr w W := by rw [← hW]; exact hdr.drewN _
       have hcx' : W.cell? (ad.add j) = some (.int .u32 (x : Nat)) := by rw [← hW]; exact hcx
       have hcy' : W.cell? (bd.add j) = some (.int .u32 (y : Nat)) := by rw [← hW]; exact hcy
       clear hW hcx hcy
       go_wp2
       go_quiet (fail)
       go_wp2
       go_ret
       exact ⟨rfl, hdW.drewN _⟩
      ·obtain rfl : r = 1 := by
        have := HGT.out (by omega)
        rw [← HR.out, if_neg (by omega), if_neg (by omega)]
       have d1 : decide ((x : Int) < (y : Int)) = false := decide_eq_false (by omega)
       have d1' : decide (x < y) = false := decide_eq_false hlt
       clear hxy hlt
       go_wp2
       go_quiet (fail)
       generalize hW : wo.drewN _ = W
       have hdW : Dr w W := by rw [← hW]; exact hdr.drewN _
       have hcx' : W.cell? (ad.add j) = some (.int .u32 (x : Nat)) := by rw [← hW]; exact hcx
       have hcy' : W.cell? (bd.add j) = some (.int .u32 (y : Nat)) := by rw [← hW]; exact hcy
       clear hW hcx hcy
       go_wp2
       go_quiet (fail)
       go_wp2
       go_ret
       exact ⟨rfl, hdW.drewN _⟩
/-- The comparison of two numbers. -/
theorem ncmp_any (X Y : Option Addr) (cx cy a b : Nat) (w : World) (hX : Digs w X (dg a)) (hY : Digs w Y (dg b)) (ha : (dg a).length ≤ 1000000) :
    Calls Tryz.prog 120 #[.slice X (dg a).length cx, .slice Y (dg b).length cy] w fun e w' => e = .returned (.int .i64 (if a < b then -1 else if a = b then 0 else 1)) ∧ Dr w w' := by
  by_cases hl : (dg b).length = (dg a).length
  ·have := ncmp_same X Y cx cy (dg a) (dg b) w hX hY (dg_dig a) (dg_dig b) hl ha
   rwa [val_dg, val_dg] at this
  ·rcases Nat.lt_or_ge (dg a).length (dg b).length with h | h
   ·have hab := dg_lt_of_len h
    refine (ncmp_len X Y cx cy _ _ w (-1) (.inl ⟨h, rfl⟩)).mono ?_
    rintro e w' ⟨rfl, rfl⟩
    exact ⟨by rw [if_pos hab], Dr.refl _⟩
   ·have hab := dg_lt_of_len (a := b) (b := a) (by omega)
    refine (ncmp_len X Y cx cy _ _ w 1 (.inr ⟨by omega, rfl⟩)).mono ?_
    rintro e w' ⟨rfl, rfl⟩
    exact ⟨by rw [if_neg (by omega), if_neg (by omega)], Dr.refl _⟩
end Go.Proofs.Tg
end
section
/- The harness's sum of absolute values, whatever their length. -/
namespace Go.Proofs.Tg
open Go.RowKit Go.Gr Go.Bn
set_option maxHeartbeats 4000000
set_option maxRecDepth 100000
/-- The digits made so far. -/
structure AddSt (us vs : List Nat) (g : Nat) (w0 wr : World) (k cr : Nat) (zs : List Nat) : Prop where
  len : zs.length = k
  dig : Dig zs
  le1 : cr ≤ 1
  sum : val zs + B ^ k * cr = val (us.take k) + val (vs.take k)
  blk : Blk wr g 123 (darr (zs ++ List.replicate (us.length + 1 - k) 0))
  below : Below w0.heap.size w0 wr
theorem val_take_succ {xs : List Nat} {k : Nat} (h : k < xs.length) : val (xs.take (k + 1)) = val (xs.take k) + B ^ k * xs[k] := by
 rw [List.take_succ_eq_append_getElem h, val_app, List.length_take, Nat.min_eq_left (by omega)]
 simp [val]
theorem val_take_all {xs : List Nat} {k : Nat} (h : xs.length ≤ k) : val (xs.take k) = val xs := by rw [List.take_of_length_le h]
theorem zs_set {zs : List Nat} {k n : Nat} (h : zs.length = k) (hk : k < n) (s : Nat) : (zs ++ List.replicate (n - k) 0).set k s = (zs ++ [s]) ++ List.replicate (n - (k + 1)) 0 := by
 rw [List.set_append_right _ _ (by omega), h, Nat.sub_self, show n - k = (n - (k + 1)) + 1 by omega, List.replicate_succ, List.set_cons_zero]; simp
/-- One digit more. -/
theorem add_step {zs : List Nat} {k s : Nat} (h : zs.length = k) : val (zs ++ [s % B]) + B ^ (k + 1) * (s / B) = val zs + B ^ k * s := by
 rw [val_app, h]
 simp only [val, Nat.mul_zero, Nat.add_zero]
 rw [Nat.pow_succ, Nat.mul_assoc, Nat.add_assoc, ← Nat.mul_add, Nat.mod_add_div]
theorem AddSt.step {us vs : List Nat} {g : Nat} {w0 wo : World} {k cr : Nat} {zs : List Nat} (h : AddSt us vs g w0 wo k cr zs) (hk : k < us.length) (hg : w0.heap.size ≤ g) {x y : Nat} (hx : x < B) (hy : y < B)
    (h1 : val (us.take (k + 1)) = val (us.take k) + B ^ k * x) (h2 : val (vs.take (k + 1)) = val (vs.take k) + B ^ k * y) :
    AddSt us vs g w0 (wo.setCell ⟨g, k, none⟩ (.int .u32 (((cr + x + y) % B : Nat) : Int))) (k + 1) ((cr + x + y) / B) (zs ++ [(cr + x + y) % B]) := by
  have hc := h.le1
  refine ⟨by rw [List.length_append, h.len]; rfl, fun z hz => ?_, ?_, ?_, ?_, below_far h.below hg _ _⟩
  ·rcases List.mem_append.1 hz with hz | hz
   ·exact h.dig z hz
   ·rw [List.mem_singleton.1 hz]; exact Nat.mod_lt _ (by decide)
  ·simp only [B] at *; omega
  ·rw [add_step h.len, h1, h2, Nat.add_assoc cr x y, Nat.mul_add, Nat.mul_add, ← Nat.add_assoc, h.sum]; omega
  ·have := h.blk.set k (.int .u32 (((cr + x + y) % B : Nat) : Int))
   rwa [darr_set, zs_set h.len (by omega)] at this
theorem addloop (X Y : Option Addr) (cx cy : Nat) (us vs : List Nat) (w : World) (hX : Digs w X us) (hY : Digs w Y vs) (hu : Dig us) (hv : Dig vs) (hl : vs.length ≤ us.length) (hn : us.length ≤ 400000) :
    Calls Tryz.prog 119 #[.slice X us.length cx, .slice Y vs.length cy] w (RetDg (val us + val vs) w) := by
  have hd : decide ((us.length : Int) < (vs.length : Int)) = false := decide_eq_false (by omega)
  have hd' : decide (us.length < vs.length) = false := decide_eq_false (by omega)
  have HU := Lib.hid hu
  have HV := Lib.hid hv
  have HX := Lib.hid hX
  have HY := Lib.hid hY
  have hmk := fun W => make_digs (us.length + 1) (by omega) W
  have hc1 : ((us.length + 1 : Nat) : Int) = (us.length : Int) + 1 := by omega
  rw [hc1] at hmk
  clear hc1
  clear hu hv hX hY
  go_enter Tryz.func119, Tryz.ntmps119
  go_upto_region 4 with (fail)
  obtain ⟨W, hW⟩ : ∃ W, w.alloc (.cells (madeCells #[.int .u32 0] (us.length + 1)) 123) = W := ⟨_, rfl⟩
  have G5 : Blk W w.heap.size 123 (darr ([] ++ List.replicate (us.length + 1 - 0) 0)) := by
   rw [← hW, List.nil_append, Nat.sub_zero, ← darr_made]
   exact Blk.new _ _ _
  have hbW : Below w.heap.size w W := by rw [← hW]; exact (Below.refl _ _).alloc (Nat.le_refl _) _
  rw [hW]
  clear hW hmk
  go_wp2
  go_loopw [6, 7] (fun s6 s7 wr => ∃ (k cr : Nat) (zs : List Nat), s6 = .int .u64 cr ∧ s7 = .int .i64 k ∧ k ≤ us.length ∧ Hid (AddSt us vs w.heap.size w wr k cr zs)) (fun _ s7 _ => us.length - (intOf s7).toNat)
  case atStart => exact ⟨0, 0, [], rfl, rfl, Nat.zero_le _, Lib.hid (AddSt.mk rfl (fun x hx => absurd hx (by simp)) (by omega) (by simp [val]) G5 hbW)⟩
  case round =>
   clear G5 hbW
   obtain ⟨wo, rfl⟩ : ∃ wo : World, wo = wr := ⟨_, rfl⟩
   obtain ⟨k, cr, zs, rfl, rfl, hk, HST⟩ := hrel
   have hcr := HST.out.le1
   by_cases hku : k < us.length
   ·obtain ⟨ad, rfl, hcx⟩ := Digs.at (HX.out.keep HST.out.below) hku
    have hxB : us[k] < 4294967296 := HU.out us[k] (List.getElem_mem _)
    have HTX := Lib.hid (val_take_succ hku)
    generalize us[k] = x at *
    have q0 : (0 : Int) ≤ (k : Int) := by omega
    have q1 : (k : Int) < (us.length : Int) := by omega
    have q1' : (k : Int) < (us.length : Int) + 1 := by omega
    have q3 : ((k : Int)).toNat = k := by omega
    have w1 : IntKind.u64.wrap ((cr : Int) + (x : Int)) = ((cr + x : Nat) : Int) := by have := wrap_nat (cr + x) (by omega); simpa using this
    have c0 := HST.out.blk.cell k
    have f0 := HST.out.blk.frozen k
    have hzl : (zs ++ List.replicate (us.length + 1 - k) 0).length = us.length + 1 := by rw [List.length_append, List.length_replicate, HST.out.len]; omega
    rw [darr_at _ (by rw [hzl]; omega)] at c0
    generalize (zs ++ List.replicate (us.length + 1 - k) 0)[k]'(by rw [hzl]; omega) = old at c0
    by_cases hkv : k < vs.length
    ·obtain ⟨bd, rfl, hcy⟩ := Digs.at (HY.out.keep HST.out.below) hkv
     have hyB : vs[k] < 4294967296 := HV.out vs[k] (List.getElem_mem _)
     have HTY := Lib.hid (val_take_succ hkv)
     generalize vs[k] = y at *
     have q2 : (k : Int) < (vs.length : Int) := by omega
     have d1 : decide ((k : Int) < (vs.length : Int)) = true := decide_eq_true q2
     have d1' : decide (k < vs.length) = true := decide_eq_true hkv
     have w2 : IntKind.u64.wrap (((cr + x : Nat) : Int) + (y : Int)) = ((cr + x + y : Nat) : Int) := by have := wrap_nat (cr + x + y) (by omega); simpa using this
     go_wp2
     go_roundw
     case rel =>
      have hs := HST.out.step hku (Nat.le_refl _) hxB hyB HTX.out HTY.out
      have e : (((cr + x + y) % B : Nat) : Int) = ((cr : Int) + (x : Int) + (y : Int)) % 4294967296 := by simp only [B]; omega
      rw [e] at hs
      exact ⟨k + 1, (cr + x + y) / B, _, by simp only [B]; congr 1, by go_num, by omega, Lib.hid hs⟩
     case measure => simp [intOf]; omega
    ·have d1 : decide ((k : Int) < (vs.length : Int)) = false := decide_eq_false (by omega)
     have d1' : decide (k < vs.length) = false := decide_eq_false hkv
     have HTY : Hid (val (vs.take (k + 1)) = val (vs.take k) + B ^ k * 0) := Lib.hid (by rw [val_take_all (by omega), val_take_all (by omega)]; omega)
     go_wp2
     go_roundw
     case rel =>
      have hs := HST.out.step hku (Nat.le_refl _) hxB (y := 0) (by decide) HTX.out HTY.out
      have e : (((cr + x + 0) % B : Nat) : Int) = ((cr : Int) + (x : Int)) % 4294967296 := by simp only [B]; omega
      rw [e] at hs
      exact ⟨k + 1, (cr + x + 0) / B, _, by simp only [B]; congr 1, by go_num, by omega, Lib.hid hs⟩
     case measure => simp [intOf]; omega
   ·obtain rfl : k = us.length := by omega
    have dd : decide (us.length < us.length) = false := by simp
    have hz1 : us.length + 1 - us.length = 1 := by omega
    have hb1 := HST.out.blk
    rw [hz1] at hb1
    have c0 := hb1.cell us.length
    have f0 := hb1.frozen us.length
    have hzl : (zs ++ List.replicate 1 0).length = us.length + 1 := by rw [List.length_append, List.length_replicate, HST.out.len]
    rw [darr_at _ (by rw [hzl]; omega)] at c0
    generalize (zs ++ List.replicate 1 0)[us.length]'(by rw [hzl]; omega) = old at c0
    have hsum := HST.out.sum
    rw [List.take_length, val_take_all hl] at hsum
    have q1' : (us.length : Int) < (us.length : Int) + 1 := by omega
    have hcm : (cr : Int) % 4294967296 = (cr : Int) := by omega
    have hB2 : Blk (wo.setCell ⟨w.heap.size, us.length, none⟩ (.int .u32 (cr : Nat))) w.heap.size 123 (darr (zs ++ [cr])) := by
     have := hb1.set us.length (.int .u32 (cr : Nat))
     rwa [darr_set, show zs ++ List.replicate 1 0 = zs ++ [0] from rfl, List.set_append_right _ _ (by rw [HST.out.len]; exact Nat.le_refl _), HST.out.len, Nat.sub_self, List.set_cons_zero] at this
    have hdig : Dig (zs ++ [cr]) := fun z hz => by
     rcases List.mem_append.1 hz with hz | hz
     ·exact HST.out.dig z hz
     ·rw [List.mem_singleton.1 hz]; simp only [B]; omega
    have hlen : (zs ++ [cr]).length = us.length + 1 := by rw [List.length_append, HST.out.len]; rfl
    have HT := Lib.hid (trim_dg (some ⟨w.heap.size, 0, none⟩) (us.length + 1) (zs ++ [cr]) _ (digs_of hB2) hdig (by omega) (by omega))
    have HVL : Hid (val (zs ++ [cr]) = val us + val vs) := Lib.hid (by rw [val_app, HST.out.len]; simp only [val, Nat.mul_zero, Nat.add_zero]; exact hsum)
    have hdl := dg_val_len hdig
    rw [hlen, HVL.out] at HT
    rw [hlen, HVL.out] at hdl
    clear hsum hzl hB2 hdig hlen hb1 hz1
    go_wp2_with (go_at_call 127; refine HT.out.mono ?_; rintro e w' ⟨rfl, rfl, hD⟩)
    go_ret
    exact ⟨_, _, rfl, ND.some hD hdl, below_far HST.out.below (Nat.le_refl _) _ _⟩
end Go.Proofs.Tg
end
