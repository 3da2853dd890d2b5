/- Parts of the proof: IW10, IW12, IW13, IW15, IWS, IW2, IW3, IW4. -/
import Derived.Test.YtbgaiceakmmfdaaGreatDoorMMR0
import Derived.Test.YtbgaiceakmmfdaaGreatDoorMMR7
import Derived.Test.YtbgaiceakmmfdaaGreatDoorMMR8
set_option maxHeartbeats 64000000
set_option maxRecDepth 100000
namespace Go.Bw
section
structure Est (top v1 q e r : Nat) : Prop where
  eq : e * v1 + r = top
  ge : q ≤ e
  le : e ≤ B + 1
theorem Est.start {u v top u2 v1 v2 P q : Nat} (h : Tops u v top u2 v1 v2 P) (hq : q * v ≤ u) (hlt : u < v * B) : Est top v1 q (top / v1) (top % v1) :=
  ⟨by rw [Nat.mul_comm]; exact Nat.div_add_mod _ _, h.first hq, h.small hlt⟩
theorem Est.round {u v top u2 v1 v2 P q e r : Nat} (h : Tops u v top u2 v1 v2 P) (hq : q * v ≤ u) (hqB : q < B) (s : Est top v1 q e r) (ht : B ≤ e ∨ r * B + u2 < e * v2) : Est top v1 q (e - 1) (r + v1) ∧ e - 1 ≤ B ∧ 0 < e := by
 have hpos : 0 < e := by
  rcases ht with ht | ht
  ·exact Nat.lt_of_lt_of_le (by decide) ht
  ·rcases Nat.eq_zero_or_pos e with rfl | h0
   ·rw [Nat.zero_mul] at ht; exact absurd ht (Nat.not_lt_zero _)
   ·exact h0
 have hle := s.le
 refine ⟨⟨?_, ?_, by omega⟩, by omega, hpos⟩
 ·have he := s.eq
  obtain ⟨d, rfl⟩ : ∃ d, e = d + 1 := ⟨e - 1, by omega⟩; rw [Nat.add_sub_cancel]; rw [Nat.add_mul, Nat.one_mul] at he; omega
 ·rcases ht with ht | ht
  ·omega
  ·exact h.down hq s.eq ht s.ge
theorem Est.stop {u v top u2 v1 v2 P q e r : Nat} (h : Tops u v top u2 v1 v2 P) (hP : 0 < P) (hq : q = u / v) (hv : 0 < v) (s : Est top v1 q e r) (heB : e ≤ B) (ht : e * v2 ≤ r * B + u2 ∨ B ≤ r) : e = q ∨ e = q + 1 := by
 have h1 := h.near hP s.eq heB ht
 have h2 := s.ge
 have h3 : e < q + 2 := by
  refine Nat.lt_of_mul_lt_mul_right (a := v) ?_; have h4 := Nat.lt_div_mul_add (a := u) hv; rw [← hq] at h4; rw [Nat.add_mul]; omega
 omega
theorem val_two {l : List Nat} {m a b : Nat} (hl : l.length = m) : val (l ++ [a, b]) = val l + (b * B + a) * B ^ m := by
 rw [val_app, hl]
 simp only [val, Nat.mul_zero, Nat.add_zero]
 rw [Nat.mul_comm (B ^ m), Nat.mul_comm B b, Nat.add_comm a]
theorem val_three {l : List Nat} {m a b c : Nat} (hl : l.length = m) : val (l ++ [a, b, c]) = val l + ((c * B + b) * B + a) * B ^ m := by
 rw [val_app, hl]
 simp only [val, Nat.mul_zero, Nat.add_zero]
 rw [Nat.mul_comm (B ^ m), Nat.mul_comm B c, Nat.add_comm b, Nat.mul_comm B (c * B + b), Nat.add_comm a]
theorem tops_of {us vs : List Nat} {m a b c x y : Nat} (hu : us.length = m) (hv : vs.length = m) (du : Dig us) (dv : Dig vs) (ha : a < B) (hx : x < B) (hy : y < B) (hbig : B ≤ 2 * y) :
    Tops (val (us ++ [a, b, c])) (val (vs ++ [x, y])) (c * B + b) a y x (B ^ m) := by
  have h1 := val_lt du; have h2 := val_lt dv; rw [hu] at h1; rw [hv] at h2; rw [val_three hu, val_two hv]; refine ⟨Nat.le_add_left _ _, ?_, Nat.le_add_left _ _, ?_, ha, hx, hbig, hy⟩
  ·rw [Nat.add_mul _ 1, Nat.one_mul]; omega
  ·rw [Nat.add_mul _ 1, Nat.one_mul]; omega
theorem digit_right {W V q e low top c bo K z : Nat} (hq : q = W / V) (hV : 0 < V) (hVK : V ≤ K) (he : e = q ∨ e = q + 1) (hW : W = low + K * top) (hs : z + e * V = low + K * (c + bo)) (_ : z < K) (ht : c + bo ≤ top) :
    e = q ∧ z = W % V ∧ top = c + bo := by
  have hm := Nat.div_add_mod W V; have hlt := Nat.mod_lt W hV; rw [← hq, Nat.mul_comm] at hm; obtain ⟨d, rfl⟩ : ∃ d, top = c + bo + d := ⟨top - (c + bo), by omega⟩; rw [Nat.mul_add K (c + bo)] at hW
  have h1 : e = q := by
   rcases he with h | h
   ·exact h
   ·subst h; rw [Nat.add_mul, Nat.one_mul] at hs; omega
  subst h1
  have h2 : z + K * d = W % V := by omega
  have h3 : d = 0 := by
   rcases Nat.eq_zero_or_pos d with h | h
   ·exact h
   ·have : K * 1 ≤ K * d := Nat.mul_le_mul_left _ h; omega
  subst h3; exact ⟨rfl, by omega, by omega⟩
theorem digit_wrong {W V q e low top c bo K z : Nat} (hq : q = W / V) (hV : 0 < V) (hVK : V ≤ K) (he : e = q ∨ e = q + 1) (hW : W = low + K * top) (hs : z + e * V = low + K * (c + bo)) (hz : z < K) (ht : top < c + bo) :
    e = q + 1 ∧ c + bo = top + 1 ∧ z + V = W % V + K := by
  have hm := Nat.div_add_mod W V; have hlt := Nat.mod_lt W hV; rw [← hq, Nat.mul_comm] at hm; obtain ⟨d, hd⟩ : ∃ d, c + bo = top + 1 + d := ⟨c + bo - top - 1, by omega⟩; rw [hd, Nat.mul_add, Nat.mul_add, Nat.mul_one] at hs
  have h1 : e = q + 1 := by
   rcases he with h | h
   ·subst h; omega
   ·exact h
  subst h1; rw [Nat.add_mul, Nat.one_mul] at hs
  have h3 : d = 0 := by
   rcases Nat.eq_zero_or_pos d with h | h
   ·exact h
   ·have : K * 1 ≤ K * d := Nat.mul_le_mul_left _ h; omega
  subst h3; rw [Nat.mul_zero] at hs; exact ⟨rfl, by omega, by omega⟩
theorem digit_back {R V K z z2 c : Nat} (hR : R < V) (hVK : V ≤ K) (hs : z2 + K * c = z + V) (hz : z + V = R + K) (hz2 : z2 < K) : c = 1 ∧ z2 = R := by
 have hc : c = 1 := by
  rcases Nat.lt_trichotomy c 1 with h | h | h
  ·have : c = 0 := by omega
   subst this; omega
  ·exact h
  ·have : K * 2 ≤ K * c := Nat.mul_le_mul_left _ h; omega
 subst hc
 exact ⟨rfl, by omega⟩
structure DvSt (A V L M : Nat) (k : Nat) (us qs : List Nat) : Prop where
  len : us.length = L
  dig : Dig us
  rest : val (us.drop k) < V
  qlen : qs.length + k = M
  qdig : Dig qs
  sum : A = val us + B ^ k * V * val qs
theorem val_take_drop (us : List Nat) (k : Nat) (h : k ≤ us.length) : val us = val (us.take k) + B ^ k * val (us.drop k) := by
 conv => lhs; rw [← List.take_append_drop k us, val_app, List.length_take, Nat.min_eq_left h]
theorem dig_drop {xs : List Nat} (h : Dig xs) (k : Nat) : Dig (xs.drop k) := fun x hx => h x (List.mem_of_mem_drop hx)
theorem dig_tak {xs : List Nat} (h : Dig xs) (k : Nat) : Dig (xs.take k) := fun x hx => h x (List.mem_of_mem_take hx)
theorem dig_app {xs ys : List Nat} (h : Dig xs) (g : Dig ys) : Dig (xs ++ ys) := fun x hx => by
 rcases List.mem_append.1 hx with hx | hx
 ·exact h x hx
 ·exact g x hx
theorem dig_cons {x : Nat} {xs : List Nat} (h : x < B) (g : Dig xs) : Dig (x :: xs) := fun y hy => by
 rcases List.mem_cons.1 hy with rfl | hy
 ·exact h
 ·exact g y hy
theorem val_cons_drop {us : List Nat} {k : Nat} (h : k < us.length) : val (us.drop k) = us[k] + B * val (us.drop (k + 1)) := by
 rw [List.drop_eq_getElem_cons h]; rfl
theorem val_above {us : List Nat} {n : Nat} (h : val us < B ^ n) (hn : n ≤ us.length) : val (us.drop n) = 0 := by
 have h1 := val_take_drop us n hn
 rcases Nat.eq_zero_or_pos (val (us.drop n)) with h2 | h2
 ·exact h2
 ·have : B ^ n * 1 ≤ B ^ n * val (us.drop n) := Nat.mul_le_mul_left _ h2
  omega
theorem DvSt.window {A V L M j n : Nat} {us qs : List Nat} (h : DvSt A V L M (j + 1) us qs) (hV : V ≤ B ^ n) (hj : j + n < L) (hn : 0 < n) :
    val (us.drop j) = val ((us.drop j).take n) + B ^ n * (us.drop j).getD n 0 ∧ val (us.drop j) < V * B ∧ val (us.drop (j + n + 1)) = 0 := by
  have hl := h.len; have h0 : val (us.drop (j + 1)) < B ^ n := Nat.lt_of_lt_of_le h.rest hV
  have h1 : val (us.drop (j + n + 1)) = 0 := by
   have := val_above h0 (by rw [List.length_drop]; omega)
   rwa [List.drop_drop, show j + 1 + n = j + n + 1 by omega] at this
  have h2 := val_take_drop (us.drop j) n (by rw [List.length_drop]; omega); rw [List.drop_drop, val_cons_drop (show j + n < us.length by omega), h1, Nat.mul_zero, Nat.add_zero] at h2
  have h3 : (us.drop j).getD n 0 = us[j + n]'(by omega) := by simp [show j + n < us.length by omega]
  refine ⟨by rw [h3]; exact h2, ?_, h1⟩; rw [val_cons_drop (show j < us.length by omega)]; have h4 := h.dig us[j] (List.getElem_mem _); have h5 := h.rest; have h6 : B * (val (us.drop (j + 1)) + 1) ≤ B * V := Nat.mul_le_mul_left _ h5; rw [Nat.mul_add, Nat.mul_one] at h6; rw [Nat.mul_comm V]; omega
theorem DvSt.next {A V L M j n q : Nat} {us qs zs : List Nat} (h : DvSt A V L M (j + 1) us qs) (hV : V ≤ B ^ n) (hj : j + n < L) (hn : 0 < n) (hq : q = val (us.drop j) / V) (hV0 : 0 < V) (hz : val zs = val (us.drop j) % V) (hzl : zs.length = n) (hzd : Dig zs) :
    DvSt A V L M j (us.take j ++ (zs ++ 0 :: us.drop (j + n + 1))) (q :: qs) := by
  obtain ⟨_, hw, h1⟩ := h.window hV hj hn; have hl := h.len
  have htl : (us.take j).length = j := by rw [List.length_take]; omega
  have hv : val (zs ++ 0 :: us.drop (j + n + 1)) = val (us.drop j) % V := by
   rw [val_app, hz]; simp [val, h1]
  refine ⟨?_, ?_, ?_, ?_, ?_, ?_⟩
  ·simp only [List.length_append, htl, List.length_cons, hzl, List.length_drop]; omega
  ·exact dig_app (dig_tak h.dig _) (dig_app hzd (dig_cons (by decide) (dig_drop h.dig _)))
  ·rw [List.drop_append_of_le_length (by omega), List.drop_of_length_le (by omega), List.nil_append, hv]; exact Nat.mod_lt _ hV0
  ·rw [List.length_cons]; have := h.qlen; omega
  ·refine dig_cons ?_ h.qdig; rw [hq, Nat.div_lt_iff_lt_mul hV0, Nat.mul_comm]; exact hw
  ·rw [val_app, htl, hv]; have hs := h.sum; rw [val_take_drop us j (by omega)] at hs; have hm := Nat.div_add_mod (val (us.drop j)) V; rw [← hq] at hm; simp only [val]
   have e1 : B ^ j * val (us.drop j) = B ^ j * (V * q) + B ^ j * (val (us.drop j) % V) := by rw [← Nat.mul_add, hm]
   have e2 : B ^ j * V * (q + B * val qs) = B ^ j * (V * q) + B ^ (j + 1) * V * val qs := by
    rw [Nat.mul_add, Nat.mul_assoc (B ^ j) V q, Nat.pow_succ]
    congr 1
    rw [Nat.mul_assoc (B ^ j), Nat.mul_assoc (B ^ j), Nat.mul_assoc (B ^ j), Nat.mul_left_comm V, Nat.mul_assoc B]
   rw [e2]; omega
theorem DvSt.done {A V L M : Nat} {us qs : List Nat} (h : DvSt A V L M 0 us qs) : val qs = A / V ∧ val us = A % V := by
 have hs := h.sum
 have hr := h.rest
 rw [List.drop_zero] at hr
 rw [Nat.pow_zero, Nat.one_mul] at hs
 have hV : 0 < V := by omega
 constructor
 ·rw [hs, Nat.add_comm, Nat.mul_add_div hV, Nat.div_eq_of_lt hr, Nat.add_zero]
 ·rw [hs, Nat.add_comm, Nat.mul_add_mod, Nat.mod_eq_of_lt hr]
theorem shift_div {a b s : Nat} : a * 2 ^ s / (b * 2 ^ s) = a / b ∧ a * 2 ^ s % (b * 2 ^ s) = a % b * 2 ^ s :=
  ⟨Nat.mul_div_mul_right _ _ (Nat.two_pow_pos s), Nat.mul_mod_mul_right _ _ _⟩
theorem top_digit {b : Nat} (h : b ≠ 0) : ∃ lo t, dg b = lo ++ [t] ∧ t ≠ 0 ∧ t < B := by
 have hne : dg b ≠ [] := fun e => h (by have := val_dg b; rw [e] at this; exact this.symm)
 refine ⟨(dg b).dropLast, (dg b).getLast hne, (List.dropLast_concat_getLast hne).symm, dg_norm b hne, dg_dig b _ (List.getLast_mem hne)⟩
theorem dg_len_eq {v n : Nat} (h1 : v < B ^ n) (h2 : 0 < n → B ^ (n - 1) ≤ v) : (dg v).length = n := by
 have h3 := dg_len_lt h1
 rcases Nat.eq_zero_or_pos n with h | h
 ·omega
 ·have h4 := dg_ge (h2 h)
  omega
theorem norm_top {b t k n : Nat} {lo : List Nat} (hb : dg b = lo ++ [t]) (hl : lo.length = n - 1) (hn : 2 ≤ n) (hk : k < 64) (hlt : t * 2 ^ k < B) (hge : 9223372036854775808 ≤ t * 2 ^ k) :
    ∃ vs x y, dg (b * 2 ^ k) = vs ++ [x, y] ∧ vs.length = n - 2 ∧ Dig vs ∧ x < B ∧ y < B ∧ B ≤ 2 * y := by
  have hbv : b = val lo + B ^ (n - 1) * t := by
   have := val_dg b; rw [hb, val_app, hl] at this; simpa [val] using this.symm
  have hdl : Dig lo := fun x hx => dg_dig b x (by rw [hb]; simp [hx])
  have hlo := val_lt hdl; rw [hl] at hlo
  have hB : B = 2 ^ k * 2 ^ (64 - k) := by rw [← Nat.pow_add, show k + (64 - k) = 64 by omega]
  have ht : t < 2 ^ (64 - k) := by
   rw [hB, Nat.mul_comm] at hlt; exact Nat.lt_of_mul_lt_mul_left hlt
  have h1 : (t + 1) * 2 ^ k ≤ B := by
   rw [hB, Nat.mul_comm]; exact Nat.mul_le_mul_left _ ht
  have hV1 : b * 2 ^ k < B ^ n := by
   have h2 : b < B ^ (n - 1) * (t + 1) := by rw [hbv, Nat.mul_add]; omega
   have h3 : b * 2 ^ k < B ^ (n - 1) * (t + 1) * 2 ^ k := Nat.mul_lt_mul_of_pos_right h2 (Nat.two_pow_pos k); have h4 : B ^ (n - 1) * ((t + 1) * 2 ^ k) ≤ B ^ (n - 1) * B := Nat.mul_le_mul_left _ h1; rw [← Nat.pow_succ, Nat.succ_eq_add_one, show n - 1 + 1 = n by omega, ← Nat.mul_assoc] at h4; exact Nat.lt_of_lt_of_le h3 h4
  have hV2 : B ^ (n - 1) * (t * 2 ^ k) ≤ b * 2 ^ k := by
   rw [← Nat.mul_assoc, hbv]; exact Nat.mul_le_mul_right _ (Nat.le_add_left _ _)
  have hlen : (dg (b * 2 ^ k)).length = n := dg_len_eq hV1 (fun _ => by
   refine Nat.le_trans ?_ hV2
   exact Nat.le_mul_of_pos_right _ (by omega))
  have hd := dg_dig (b * 2 ^ k); have hv := val_dg (b * 2 ^ k); generalize dg (b * 2 ^ k) = l at hlen hd hv
  have e1 : l = l.take (n - 2) ++ [l[n - 2], l[n - 1]] := by
   conv => lhs; rw [← List.take_append_drop (n - 2) l]
   congr 1
   rw [List.drop_eq_getElem_cons (by omega), List.drop_eq_getElem_cons (by omega), List.drop_of_length_le (by omega)]
   congr 2
   simp only [show n - 2 + 1 = n - 1 by omega]
  refine ⟨l.take (n - 2), l[n - 2], l[n - 1], e1, by rw [List.length_take]; omega, dig_tak hd _, hd _ (List.getElem_mem _), hd _ (List.getElem_mem _), ?_⟩; have h5 := val_take_drop l (n - 1) (by omega); rw [val_cons_drop (by omega), List.drop_of_length_le (by omega), hv] at h5; have h6 := val_lt (dig_tak hd (n - 1)); rw [List.length_take, Nat.min_eq_left (by omega)] at h6; simp only [val, Nat.mul_zero, Nat.add_zero] at h5
  have h7 : B ^ (n - 1) * (t * 2 ^ k) < B ^ (n - 1) * (l[n - 1] + 1) := by
   rw [Nat.mul_add, Nat.mul_one]; omega
  have h8 := Nat.lt_of_mul_lt_mul_left h7; simp only [B]; omega
theorem dv_start {a b k n la : Nat} {us : List Nat} (hb : B ^ (n - 1) ≤ b) (ha : a < B ^ la) (hn : 1 ≤ n) (hla : n ≤ la) (hl : us.length = la + 1) (hd : Dig us) (hv : val us = a * 2 ^ k) :
    DvSt (a * 2 ^ k) (b * 2 ^ k) (la + 1) (la - n + 1) (la - n + 1) us [] := by
  refine ⟨hl, hd, ?_, by simp, fun x hx => absurd hx (by simp), by simp [val, hv]⟩; have h1 := val_take_drop us (la - n + 1) (by omega)
  have h2 : B ^ (la - n + 1) * val (us.drop (la - n + 1)) < B ^ (la - n + 1) * (B ^ (n - 1) * 2 ^ k) := by
   have h3 : a * 2 ^ k < B ^ la * 2 ^ k := Nat.mul_lt_mul_of_pos_right ha (Nat.two_pow_pos k)
   have h5 : B ^ la = B ^ (la - n + 1) * B ^ (n - 1) := by rw [← Nat.pow_add]; congr 1; omega
   rw [h5, Nat.mul_assoc] at h3; omega
  have h4 := Nat.lt_of_mul_lt_mul_left h2; exact Nat.lt_of_lt_of_le h4 (Nat.mul_le_mul_right _ hb)
theorem drop_three {l : List Nat} {n : Nat} (hl : l.length = n + 1) (hn : 2 ≤ n) {a b c : Nat} (ha : l[n - 2]? = some a) (hb : l[n - 1]? = some b) (hc : l[n]? = some c) : l.drop (n - 2) = [a, b, c] := by
 obtain ⟨_, ea⟩ := List.getElem?_eq_some_iff.1 ha
 obtain ⟨_, eb⟩ := List.getElem?_eq_some_iff.1 hb
 obtain ⟨_, ec⟩ := List.getElem?_eq_some_iff.1 hc
 obtain ⟨m, rfl⟩ : ∃ m, n = m + 2 := ⟨n - 2, by omega⟩
 have h1 : m < l.length := by omega
 have h2 : m + 1 < l.length := by omega
 have h3 : m + 2 < l.length := by omega
 simp only [Nat.add_sub_cancel] at ea ⊢
 have eb' : l[m + 1] = b := eb
 rw [List.drop_eq_getElem_cons h1, List.drop_eq_getElem_cons h2, List.drop_eq_getElem_cons h3, List.drop_of_length_le (by omega), ea, eb', ec]
theorem DvSt.tops {A V L M j n : Nat} {us qs vs : List Nat} {x y a b c : Nat} (h : DvSt A V L M (j + 1) us qs) (hV : dg V = vs ++ [x, y]) (hvl : vs.length = n - 2) (hn : 2 ≤ n) (hj : j + n < L) (hx : x < B) (hy : y < B) (hbig : B ≤ 2 * y)
    (ha : us[j + n - 2]? = some a) (hb : us[j + n - 1]? = some b) (hc : us[j + n]? = some c) :
    Tops (val (us.drop j)) V (c * B + b) a y x (B ^ (n - 2)) := by
  have hl := h.len
  have hVn : V ≤ B ^ n := by
   have h1 := val_lt (dg_dig V); rw [val_dg, hV] at h1
   have : (vs ++ [x, y]).length = n := by simp [hvl]; omega
   rw [this] at h1; omega
  obtain ⟨_, _, h0⟩ := h.window hVn hj (by omega)
  have dv : Dig vs := fun z hz => dg_dig V z (by rw [hV]; simp [hz])
  have e : val (us.drop j) = val ((us.drop j).take (n - 2) ++ [a, b, c]) := by
   have h1 := val_take_drop (us.drop j) (n + 1) (by rw [List.length_drop]; omega); rw [List.drop_drop, show j + (n + 1) = j + n + 1 by omega, h0, Nat.mul_zero, Nat.add_zero] at h1; rw [h1]
   congr 1
   have h2 : (us.drop j).take (n + 1) = ((us.drop j).take (n + 1)).take (n - 2) ++ ((us.drop j).take (n + 1)).drop (n - 2) := (List.take_append_drop _ _).symm
   have hlen : ((us.drop j).take (n + 1)).length = n + 1 := by rw [List.length_take, List.length_drop]; omega
   have g : ∀ i, i < n + 1 → ((us.drop j).take (n + 1))[i]? = us[j + i]? := fun i hi => by rw [List.getElem?_take_of_lt hi, List.getElem?_drop]
   rw [h2, List.take_take, Nat.min_eq_left (by omega), drop_three hlen hn (a := a) (b := b) (c := c) (by rw [g _ (by omega), ← ha]; congr 1; omega) (by rw [g _ (by omega), ← hb]; congr 1; omega) (by rw [g _ (by omega), ← hc])]
  have hVv : V = val (vs ++ [x, y]) := by rw [← hV, val_dg]
  obtain ⟨hi, ea⟩ := List.getElem?_eq_some_iff.1 ha; rw [e, hVv]; exact tops_of (by rw [List.length_take, List.length_drop]; omega) hvl (dig_tak (dig_drop h.dig _) _) dv (by rw [← ea]; exact h.dig _ (List.getElem_mem _)) hx hy hbig
theorem val_snoc_take {xs : List Nat} {k : Nat} (h : k < xs.length) : val (xs.take (k + 1)) = val (xs.take k) + B ^ k * xs[k] := by
 rw [List.take_succ_eq_append_getElem h, val_app, List.length_take, Nat.min_eq_left (by omega)]; simp [val]
theorem mid_get {us zs : List Nat} {j i : Nat} (hj : j + i < us.length) (hz : zs.length = i) : (us.take j ++ (zs ++ us.drop (j + i)))[j + i]? = some us[j + i] := by
 rw [List.getElem?_append_right (by rw [List.length_take]; omega), List.length_take, Nat.min_eq_left (by omega), Nat.add_sub_cancel_left, List.getElem?_append_right (by omega), hz, Nat.sub_self, List.getElem?_drop]
 simp [hj]
theorem mid_set {us zs : List Nat} {j i d : Nat} (hj : j + i < us.length) (hz : zs.length = i) : (us.take j ++ (zs ++ us.drop (j + i))).set (j + i) d = us.take j ++ ((zs ++ [d]) ++ us.drop (j + (i + 1))) := by
 rw [List.set_append_right _ _ (by rw [List.length_take]; omega), List.length_take, Nat.min_eq_left (by omega), Nat.add_sub_cancel_left, List.set_append_right _ _ (by omega), hz, Nat.sub_self, List.drop_eq_getElem_cons hj, List.set_cons_zero]
 simp [Nat.add_assoc]
def shrD (k : Nat) : List Nat → List Nat
  | [] => []
  | [x] => [x / 2 ^ k]
  | x :: y :: l => (x / 2 ^ k + y * 2 ^ (64 - k) % B) :: shrD k (y :: l)
theorem shrD_len (k : Nat) : ∀ l : List Nat, (shrD k l).length = l.length
  | [] => rfl
  | [_] => rfl
  | x :: y :: l => by
    show (shrD k (y :: l)).length + 1 = _
    rw [shrD_len k (y :: l)]; rfl
theorem pow_split {k : Nat} (hk : k < 64) : B = 2 ^ k * 2 ^ (64 - k) := by
 rw [← Nat.pow_add, show k + (64 - k) = 64 by omega]
theorem shr_low {k y : Nat} (hk : k < 64) : y * 2 ^ (64 - k) % B = y % 2 ^ k * 2 ^ (64 - k) := by
 rw [pow_split hk, Nat.mul_mod_mul_right]
theorem shr_dgt {k x y : Nat} (hk : k < 64) (hx : x < B) : x / 2 ^ k + y * 2 ^ (64 - k) % B < B ∧ x / 2 ^ k < 2 ^ (64 - k) := by
 have h1 : x / 2 ^ k < 2 ^ (64 - k) := by
  rw [Nat.div_lt_iff_lt_mul (Nat.two_pow_pos k), Nat.mul_comm, ← pow_split hk]; exact hx
 refine ⟨?_, h1⟩
 rw [shr_low hk]
 have h2 : y % 2 ^ k + 1 ≤ 2 ^ k := Nat.mod_lt _ (Nat.two_pow_pos k)
 have h3 := Nat.mul_le_mul_right (2 ^ (64 - k)) h2
 rw [← pow_split hk, Nat.add_mul, Nat.one_mul] at h3
 omega
theorem shrD_dig {k : Nat} (hk : k < 64) : ∀ {l : List Nat}, Dig l → Dig (shrD k l)
  | [], _, x, hx => absurd hx (by simp [shrD])
  | [a], h, x, hx => by
    rw [List.mem_singleton.1 hx]; exact Nat.lt_of_le_of_lt (Nat.div_le_self _ _) (h a (by simp))
  | a :: b :: l, h, x, hx => by
    rcases List.mem_cons.1 hx with rfl | hx
    ·exact (shr_dgt hk (h a (by simp))).1
    ·exact shrD_dig hk (fun z hz => h z (by simp [List.mem_cons.1 hz])) x hx
theorem shr_div {k b V : Nat} (hk : k < 64) : (b + B * V) / 2 ^ k = b / 2 ^ k + 2 ^ (64 - k) * V := by
 rw [pow_split hk, Nat.mul_assoc, Nat.add_mul_div_left _ _ (Nat.two_pow_pos k)]
theorem shrD_val {k : Nat} (hk : k < 64) : ∀ l : List Nat, val (shrD k l) = val l / 2 ^ k
  | [] => by simp [shrD, val]
  | [x] => by simp [shrD, val]
  | x :: y :: l => by
    have ih := shrD_val hk (y :: l)
    show (x / 2 ^ k + y * 2 ^ (64 - k) % B) + B * val (shrD k (y :: l)) = (x + B * val (y :: l)) / 2 ^ k
    rw [ih, shr_div hk, shr_low hk]; have hv : val (y :: l) = y + B * val l := rfl; have h1 := Nat.div_add_mod (val (y :: l)) (2 ^ k)
    have h2 : val (y :: l) % 2 ^ k = y % 2 ^ k := by
     rw [hv, pow_split hk, Nat.mul_assoc, Nat.add_mul_mod_self_left]
    rw [h2] at h1; generalize val (y :: l) = V at *; generalize V / 2 ^ k = q at *; generalize y % 2 ^ k = r at *
    have h3 : 2 ^ (64 - k) * V = B * q + r * 2 ^ (64 - k) := by
     rw [← h1, Nat.mul_add, pow_split hk, ← Nat.mul_assoc, Nat.mul_comm (2 ^ (64 - k)) (2 ^ k), Nat.mul_comm r]
    omega
theorem shrD_at {k : Nat} : ∀ {l : List Nat} {i : Nat} {x : Nat}, l[i]? = some x → (shrD k l)[i]? = some (match l[i + 1]? with | some y => x / 2 ^ k + y * 2 ^ (64 - k) % B | none => x / 2 ^ k)
  | [], i, x, h => absurd h (by simp)
  | [a], 0, x, h => by
    have : a = x := by simpa using h
    subst this; rfl
  | [a], i + 1, x, h => absurd h (by simp)
  | a :: b :: l, 0, x, h => by
    have : a = x := by simpa using h
    subst this; rfl
  | a :: b :: l, i + 1, x, h => by
    have h2 : (b :: l)[i]? = some x := by simpa using h
    have := shrD_at (k := k) h2
    show (shrD k (b :: l))[i]? = _
    rw [this]; simp
theorem shr_or {k x y : Nat} (hk : k < 64) (hx : x < B) : (x / 2 ^ k) ||| (y * 2 ^ (64 - k) % B) = x / 2 ^ k + y * 2 ^ (64 - k) % B := by
 rw [shr_low hk]
 have h := (shr_dgt (y := y) hk hx).2
 rw [Nat.or_comm, Nat.add_comm, ← Nat.shiftLeft_eq, ← Nat.shiftLeft_add_eq_or_of_lt h]
def tzl (xs : List Nat) : Nat → Nat
  | 0 => 0
  | k + 1 => if xs.getD k 0 = 0 then tzl xs k else k + 1
theorem tzl_le (xs : List Nat) : ∀ k, tzl xs k ≤ k
  | 0 => Nat.le_refl _
  | k + 1 => by
    unfold tzl; have := tzl_le xs k
    split <;> omega
theorem tzl_val (xs : List Nat) : ∀ k, k ≤ xs.length → val (xs.take (tzl xs k)) = val (xs.take k) ∧ Norm (xs.take (tzl xs k))
  | 0, _ => ⟨rfl, fun h => absurd rfl h⟩
  | k + 1, hk => by
    have hx : xs.getD k 0 = xs[k] := by simp [show k < xs.length by omega]
    have ht : xs.take (k + 1) = xs.take k ++ [xs[k]] := List.take_succ_eq_append_getElem hk; unfold tzl
    by_cases h0 : xs.getD k 0 = 0
    ·rw [if_pos h0]; obtain ⟨h1, h2⟩ := tzl_val xs k (by omega); refine ⟨?_, h2⟩; rw [h1, ht, ← hx, h0, dg_append_zero]
    ·rw [if_neg h0]; refine ⟨rfl, fun hne => ?_⟩
     have : ∀ (l : List Nat) (hl : l ≠ []), l = xs.take k ++ [xs[k]] → l.getLast hl ≠ 0 := fun l hl e => by
      subst e; rw [List.getLast_append_of_ne_nil hl (by simp), List.getLast_singleton, ← hx]; exact h0
     exact this _ hne ht
theorem dig_take {xs : List Nat} (h : Dig xs) (k : Nat) : Dig (xs.take k) := fun x hx => h x (List.mem_of_mem_take hx)
theorem tzl_dg {xs : List Nat} (h : Dig xs) : xs.take (tzl xs xs.length) = dg (val xs) ∧ tzl xs xs.length = (dg (val xs)).length := by
 obtain ⟨h1, h2⟩ := tzl_val xs xs.length (Nat.le_refl _)
 rw [List.take_length] at h1
 have e := dg_val (dig_take h (tzl xs xs.length)) h2
 rw [h1] at e
 refine ⟨e.symm, ?_⟩
 rw [e, List.length_take]
 have := tzl_le xs xs.length
 omega
theorem val_split (xs : List Nat) (i : Nat) (h : i ≤ xs.length) : val xs = val (xs.take i) + B ^ i * val (xs.drop i) := by
 have := val_app (xs.take i) (xs.drop i)
 rw [List.take_append_drop, List.length_take, Nat.min_eq_left h] at this
 exact this
theorem val_drop {xs : List Nat} {i : Nat} (h : i < xs.length) : val (xs.drop i) = xs[i] + B * val (xs.drop (i + 1)) := by
 rw [List.drop_eq_getElem_cons h]; rfl
theorem val_less {xs ys : List Nat} {i : Nat} (hx : i < xs.length) (hy : i < ys.length) (hd : xs.drop (i + 1) = ys.drop (i + 1)) (hX : Dig xs) (hlt : xs[i] < ys[i]) : val xs < val ys := by
 rw [val_split xs i (by omega), val_split ys i (by omega), val_drop hx, val_drop hy, hd]
 have h1 : val (xs.take i) < B ^ i := by
  have := val_lt (xs := xs.take i) (fun x h => hX x (List.mem_of_mem_take h))
  rwa [List.length_take, Nat.min_eq_left (by omega)] at this
 have h2 : B ^ i * (xs[i] + B * val (ys.drop (i + 1))) + B ^ i ≤ B ^ i * (ys[i] + B * val (ys.drop (i + 1))) := by
  have : xs[i] + B * val (ys.drop (i + 1)) + 1 ≤ ys[i] + B * val (ys.drop (i + 1)) := by omega
  have := Nat.mul_le_mul_left (B ^ i) this
  rwa [Nat.mul_add, Nat.mul_one] at this
 omega
theorem dg_lt_of_len {a b : Nat} (h : (dg a).length < (dg b).length) : a < b := by
 rcases Nat.lt_or_ge a b with h1 | h1
 ·exact h1
 ·have h2 := val_lt (dg_dig b)
  rw [val_dg] at h2; have h3 := val_lt (dg_dig a); rw [val_dg] at h3
  have h4 : B ^ (dg a).length ≤ b := by
   have hb : b ≠ 0 := fun e => by subst e; rw [dg_zero] at h; simp at h
   have h5 : (dg b).length - 1 < (dg b).length := by omega
   have h6 : B ^ ((dg b).length - 1) ≤ b := by
    rcases Nat.lt_or_ge b (B ^ ((dg b).length - 1)) with h7 | h7
    ·have := dg_len_lt h7; omega
    ·exact h7
   exact Nat.le_trans (Nat.pow_le_pow_right (by decide) (by omega)) h6
  omega
theorem dg_len_mono {a b : Nat} (h : a ≤ b) : (dg a).length ≤ (dg b).length := by
 rcases Nat.lt_or_ge (dg b).length (dg a).length with h1 | h1
 ·exact absurd (dg_lt_of_len h1) (by omega)
 ·exact h1
end
end Go.Bw
namespace Go.Proofs.Tg.Iw
section
open Go.RowKit Go.Bw Go.Gr Go.Proofs.Tg
theorem Sets.at' {w : World} {A : Option Addr} {xs : List Nat} (h : Sets w A xs) {k : Nat} (hk : k < xs.length) : ∃ ad, A = some ad ∧ w.cell? (ad.add k) = some (.int .u64 (xs[k] : Nat)) := by
 obtain ⟨ad, e, hc⟩ := Sl.at1 h hk
 exact ⟨ad, e, by simpa [vs] using hc⟩
theorem trim_w (A : Option Addr) (c : Nat) (xs : List Nat) (w : World) (hA : Sets w A xs) (hn : xs.length ≤ 1000000) (hc : xs.length ≤ c) :
    Calls Tryz.prog 88 #[.slice A xs.length c] w fun e w' => e = .returned (.slice A (Go.Bw.tzl xs xs.length) c) ∧ w = w' := by
  obtain ⟨r, hr⟩ := eqx (Go.Bw.tzl xs xs.length); rw [hr]; have HR : Hid (Go.Bw.tzl xs xs.length = r) := zh hr; have HA := zh hA; have HN : Hid (xs.length = xs.length) := zh rfl; obtain ⟨n, hn'⟩ := eqx (xs.length); rw [hn'] at hn hc HR ⊢; have HL := zh hn'; clear hr hA HN hn'; go_enter Tryz.func88, Tryz.ntmps88; go_wp2
  go_loop [3] (fun s3 => ∃ k : Nat, s3 = .int .i64 (k : Nat) ∧ k ≤ n ∧ Hid (Go.Bw.tzl xs k = r)) (fun s3 => (intOf s3).toNat)
  case atStart => exact ⟨n, rfl, Nat.le_refl _, HR⟩
  case round =>
   obtain ⟨k, rfl, hk, HK⟩ := hrel
   by_cases hk0 : k = 0
   ·subst hk0; obtain rfl : r = 0 := HK.out.symm
    have e1 : decide ((0 : Int) < ((0 : Nat) : Int)) = false := by decide
    go_wp2; go_ret; exact ⟨rfl, rfl⟩
   ·obtain ⟨j, hj⟩ : ∃ j, k = j + 1 := ⟨k - 1, by omega⟩
    have hjl : j < xs.length := by rw [HL.out]; omega
    obtain ⟨ad, hAD, hck⟩ := Sets.at' HA.out hjl; subst hAD; have HX : Hid (xs.getD j 0 = xs[j]) := zh (by simp [hjl]); have HK' : Hid (Go.Bw.tzl xs (j + 1) = r) := zh (hj ▸ HK.out); have e1 : decide ((0 : Int) < (k : Int)) = true := dT (by omega); have e1' : decide (0 < k) = true := dT (by omega); have w1 : IntKind.i64.wrap ((k : Int) - 1) = (j : Int) := (IntWalk.i64_in _ (by omega)).trans (by omega)
    have w1' : (k : Int) - 1 = (j : Int) := by omega
    have q0 : (0 : Int) ≤ (j : Int) := by omega
    have q1 : (j : Int) < (n : Int) := by omega
    generalize xs[j] = x at hck HX
    by_cases hx : x = 0
    ·subst hx; have HK2 : Hid (Go.Bw.tzl xs j = r) := zh (by have := HK'.out; unfold Go.Bw.tzl at this; rwa [if_pos HX.out] at this); clear hj hk0 hjl; go_wp2; go_round
     case rel => exact ⟨j, by go_num, by omega, HK2⟩
     case measure => simp [intOf]; omega
    ·have hb : ((x : Int) == 0) = false := by simp [hx]
     have hb' : (x == 0) = false := by simp [hx]
     have hb'' : ((x : Int) = 0) = False := by simp [hx]
     have hxn : (x = 0) = False := eq_false hx
     obtain rfl : r = j + 1 := by have := HK'.out; unfold Go.Bw.tzl at this; rw [if_neg (by rw [HX.out]; exact hx)] at this; exact this.symm
     have HJ := zh hj; clear hj hk0 hjl hx; go_wp2; go_ret; exact ⟨by rw [← HJ.out]; rfl, rfl⟩
structure NW (w : World) (R : Option Addr) (c n : Nat) : Prop where
  wds : Sets w R (dg n)
  cap : (dg n).length ≤ c
theorem NW.keep {w w' : World} {R : Option Addr} {c n : Nat} (h : NW w R c n) (hb : Below w.heap.size w w') : NW w' R c n := ⟨h.wds.keep hb, h.cap⟩
theorem NW.zero (w : World) (R : Option Addr) (c : Nat) : NW w R c 0 := ⟨by rw [dg_zero]; exact Sl.nil _ _ _, by rw [dg_zero]; exact Nat.zero_le _⟩
theorem Sets.take' {w : World} {A : Option Addr} {xs : List Nat} (h : Sets w A xs) (k : Nat) (hk : k ≤ xs.length) : Sets w A (xs.take k) := by
 have hl : (xs.take k).length = k := by rw [List.length_take]; omega
 refine ⟨by simp, fun hp => ?_⟩
 rw [hl] at hp
 obtain ⟨ad, e, hlt, ha⟩ := Sl.lies h (by omega)
 refine ⟨ad, e, hlt, fun j u hu => ha j u ?_⟩
 rw [List.map_take, List.getElem?_take] at hu
 split at hu
 ·exact hu
 ·exact absurd hu (by simp)
theorem trim_n (A : Option Addr) (c : Nat) (xs : List Nat) (w : World) (hA : Sets w A xs) (hd : Dig xs) (hn : xs.length ≤ 1000000) (hc : xs.length ≤ c) :
    Calls Tryz.prog 88 #[.slice A xs.length c] w fun e w' => e = .returned (.slice A (dg (val xs)).length c) ∧ w = w' ∧ NW w' A c (val xs) := by
  have h := trim_w A c xs w hA hn hc; obtain ⟨h1, h2⟩ := Go.Bw.tzl_dg hd; refine h.mono ?_; rintro e w' ⟨rfl, rfl⟩; refine ⟨by rw [h2], rfl, ?_, ?_⟩
  ·rw [← h1]; exact Sets.take' hA _ (Go.Bw.tzl_le _ _)
  ·rw [← h2]; exact Nat.le_trans (Go.Bw.tzl_le _ _) hc
theorem cmp_len (X Y : Option Addr) (cx cy m n : Nat) (w : World) (h : m ≠ n) :
    Calls Tryz.prog 77 #[.slice X m cx, .slice Y n cy] w fun e w' => e = .returned (.int .i64 (if m < n then -1 else 1)) ∧ Dr w w' := by
  have HC := zh (fun V => Go.Proofs.Tg.cmp_any (m : Nat) (n : Nat) V); have e0 : ((m : Int) = (n : Int)) = False := eq_false (by omega); have e0' : (m = n) = False := eq_false h; have e1 : ((m : Int) == (n : Int)) = false := beq_eq_false_iff_ne.2 (by omega)
  have e2 : ((m : Int) != (n : Int)) = true := by simp; omega
  have e2' : (m != n) = true := by simp; omega
  obtain ⟨z, hz⟩ := eqx (cmpI (m : Int) (n : Int) : Int); obtain ⟨r, hr⟩ := eqx ((if m < n then (-1 : Int) else 1) : Int); rw [hz] at HC; rw [hr]
  have HZ : Hid (z = r) := zh (by
   rw [← hz, ← hr]; unfold cmpI
   by_cases h1 : m < n
   ·rw [if_pos (by omega), if_pos h1]
   ·rw [if_neg (by omega), if_pos (by omega), if_neg h1])
  clear h hz hr; go_enter Tryz.func77, Tryz.ntmps77
  go_wp2_with (go_at_call 102; refine (HC.out _).mono ?_; rintro e w' ⟨rfl, rfl⟩)
  go_ret; exact ⟨by rw [← HZ.out]; rfl, Dr.refl _⟩
theorem cmp_same (X Y : Option Addr) (cx cy : Nat) (xs ys : List Nat) (w : World) (hX : Sets w X xs) (hY : Sets w Y ys) (hx : Dig xs) (hy : Dig ys) (hl : ys.length = xs.length) (hn : xs.length ≤ 1000000) :
    Calls Tryz.prog 77 #[.slice X xs.length cx, .slice Y ys.length cy] w fun e w' => e = .returned (.int .i64 (if val xs < val ys then -1 else if val xs = val ys then 0 else 1)) ∧ Dr w w' := by
  rw [hl]; have HX := zh hX; have HY := zh hY; have HDX := zh hx; have HDY := zh hy; have HC := zh (fun x y V => cmp64 x y V); obtain ⟨n, hn'⟩ := eqx (xs.length); have HLX := zh hn'; have HL := zh (hl.trans hn'); obtain ⟨r, hr⟩ := eqx ((if val xs < val ys then -1 else if val xs = val ys then 0 else 1) : Int); rw [hr, hn']; rw [hn'] at hn; have HR := zh hr; clear hX hY hx hy hl hr hn'; go_enter Tryz.func77, Tryz.ntmps77; go_wp2
  go_loopw [5] (fun s5 wr => ∃ k : Nat, s5 = .int .i64 ((k : Int) - 1) ∧ k ≤ n ∧ Hid (xs.drop k = ys.drop k) ∧ Dr w wr) (fun s5 _ => (intOf s5 + 1).toNat)
  case atStart => exact ⟨n, rfl, Nat.le_refl _, zh (by rw [List.drop_of_length_le (by rw [HLX.out]; exact Nat.le_refl _), List.drop_of_length_le (by rw [HL.out]; exact Nat.le_refl _)]), Dr.refl _⟩
  case round =>
   obtain ⟨wo, rfl⟩ : ∃ wo : World, wo = wr := ⟨_, rfl⟩; obtain ⟨k, rfl, hk, HD, hdr⟩ := hrel
   cases k with
   | zero =>
     have hv : xs = ys := by simpa using HD.out
     obtain rfl : r = 0 := by rw [← HR.out, hv]; simp
     have dd : decide ((0 : Int) ≤ ((0 : Nat) : Int) - 1) = false := by decide
     clear hv; go_wp2; go_ret; exact ⟨rfl, hdr⟩
   | succ j =>
     have hj : j < xs.length := by rw [HLX.out]; omega
     have hj2 : j < ys.length := by rw [HL.out]; omega
     have e : (((j + 1 : Nat) : Int) - 1) = (j : Int) := by omega
     rw [e]; clear e; obtain ⟨ad, hAD, hcx⟩ := Sets.at (HX.out.keep hdr.below) hj; obtain ⟨bd, hBD, hcy⟩ := Sets.at (HY.out.keep hdr.below) hj2; subst hAD hBD; have HLT : Hid (xs[j] < ys[j] → val xs < val ys) := zh (fun h => val_less hj hj2 HD.out HDX.out h); have HGT : Hid (ys[j] < xs[j] → val ys < val xs) := zh (fun h => val_less hj2 hj HD.out.symm HDY.out h); have HEQ : Hid (xs[j] = ys[j] → xs.drop j = ys.drop j) := zh (fun h => by rw [List.drop_eq_getElem_cons hj, List.drop_eq_getElem_cons hj2, h, HD.out]); generalize xs[j] = x at *; generalize ys[j] = y at *
     have q0 : (0 : Int) ≤ (j : Int) := by omega
     have q1 : (j : Int) < (n : Int) := by omega
     have q3 : ((j : Int)).toNat = j := by omega
     have d0 : decide ((0 : Int) ≤ (j : Int)) = true := dT q0; clear hj hj2
     by_cases hxy : x = y
     ·have HE2 := zh (HEQ.out hxy); clear HEQ HLT HGT; subst hxy
      have hne : ((x : Int) != (x : Int)) = false := by simp
      go_wp2
      go_quiet (fail)
      go_wp2; go_roundw
      case rel => exact ⟨j, by go_num, by omega, HE2, hdr.drewN _⟩
      case measure => simp [intOf]
     ·have hne : ((x : Int) != (y : Int)) = true := by simp; omega
      have hne2 : ((x : Int) = (y : Int)) = False := eq_false (by omega); have hne3 : (x = y) = False := eq_false hxy; obtain ⟨z, hz⟩ := eqx (cmpN x y : Int); have HCXY := zh (HC.out x y); rw [hz] at HCXY
      have HZ : Hid (z = r) := zh (by
       rw [← hz, ← HR.out]; unfold cmpN
       rcases Nat.lt_or_ge x y with h1 | h1
       ·rw [if_pos h1, if_pos (HLT.out h1)]
       ·have h2 := HGT.out (by omega)
        rw [if_neg (by omega), if_pos (by omega), if_neg (by omega), if_neg (by omega)])
      clear hxy hz HLT HGT HEQ; go_wp2
      go_quiet (fail)
      generalize hW : wo.drewN _ = W
      have hdW : Dr w W := by rw [← hW]; exact hdr.drewN _
      have hcx' : W.cell? (ad.add j) = some (.int .u64 (x : Nat)) := by rw [← hW]; exact hcx
      have hcy' : W.cell? (bd.add j) = some (.int .u64 (y : Nat)) := by rw [← hW]; exact hcy
      clear hW hcx hcy; go_wp2
      go_quiet ((go_at_call 103; exact quiet_sm (HCXY.out _)))
      go_wp2; go_ret; exact ⟨by rw [← HZ.out]; rfl, hdW.drewN _⟩
theorem cmp_n (X Y : Option Addr) (cx cy a b : Nat) (w : World) (hX : Sets w X (dg a)) (hY : Sets w Y (dg b)) (hn : (dg a).length ≤ 1000000) :
    Calls Tryz.prog 77 #[.slice X (dg a).length cx, .slice Y (dg b).length cy] w fun e w' => e = .returned (.int .i64 (if a < b then -1 else if a = b then 0 else 1)) ∧ Dr w w' := by
  by_cases hl : (dg b).length = (dg a).length
  ·have h := cmp_same X Y cx cy (dg a) (dg b) w hX hY (dg_dig a) (dg_dig b) hl hn; rw [val_dg, val_dg] at h; exact h
  ·have h := cmp_len X Y cx cy (dg a).length (dg b).length w (fun e => hl e.symm); refine h.mono ?_; rintro e w' ⟨rfl, hd⟩; refine ⟨?_, hd⟩
   rcases Nat.lt_or_ge (dg a).length (dg b).length with h1 | h1
   ·have := dg_lt_of_len h1; rw [if_pos h1, if_pos this]
   ·have := dg_lt_of_len (show (dg b).length < (dg a).length by omega); rw [if_neg (by omega), if_neg (by omega), if_neg (by omega)]
end
end Go.Proofs.Tg.Iw
