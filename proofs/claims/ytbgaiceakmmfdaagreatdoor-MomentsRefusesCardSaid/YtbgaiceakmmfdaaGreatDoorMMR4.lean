/- Parts of the proof: BN15, BNS. -/
import Derived.Test.YtbgaiceakmmfdaaGreatDoorMMR3
set_option maxHeartbeats 64000000
set_option maxRecDepth 100000
namespace Go.Bn
section
theorem top_digit {b : Nat} (h : b ≠ 0) : ∃ lo t, dg b = lo ++ [t] ∧ t ≠ 0 ∧ t < B := by
 have hne : dg b ≠ [] := fun e => h (by have := val_dg b; rw [e] at this; exact this.symm)
 refine ⟨(dg b).dropLast, (dg b).getLast hne, (List.dropLast_concat_getLast hne).symm, dg_norm b hne, dg_dig b _ (List.getLast_mem hne)⟩
theorem dg_len_eq {v n : Nat} (h1 : v < B ^ n) (h2 : 0 < n → B ^ (n - 1) ≤ v) : (dg v).length = n := by
 have h3 := dg_len_lt h1
 rcases Nat.eq_zero_or_pos n with h | h
 ·omega
 ·have h4 := dg_ge (h2 h)
  omega
theorem norm_top {b t k n : Nat} {lo : List Nat} (hb : dg b = lo ++ [t]) (hl : lo.length = n - 1) (hn : 2 ≤ n) (hk : k < 32) (hlt : t * 2 ^ k < B) (hge : 2147483648 ≤ t * 2 ^ k) :
    ∃ vs x y, dg (b * 2 ^ k) = vs ++ [x, y] ∧ vs.length = n - 2 ∧ Dig vs ∧ x < B ∧ y < B ∧ B ≤ 2 * y := by
  have hbv : b = val lo + B ^ (n - 1) * t := by
   have := val_dg b; rw [hb, val_app, hl] at this; simpa [val] using this.symm
  have hdl : Dig lo := fun x hx => dg_dig b x (by rw [hb]; simp [hx])
  have hlo := val_lt hdl; rw [hl] at hlo
  have hB : B = 2 ^ k * 2 ^ (32 - k) := by rw [← Nat.pow_add, show k + (32 - k) = 32 by omega]
  have ht : t < 2 ^ (32 - k) := by
   rw [hB, Nat.mul_comm] at hlt; exact Nat.lt_of_mul_lt_mul_left hlt
  have h1 : (t + 1) * 2 ^ k ≤ B := by
   rw [hB, Nat.mul_comm]; exact Nat.mul_le_mul_left _ ht
  have hV1 : b * 2 ^ k < B ^ n := by
   have h2 : b < B ^ (n - 1) * (t + 1) := by rw [hbv, Nat.mul_add]; omega
   have h3 : b * 2 ^ k < B ^ (n - 1) * (t + 1) * 2 ^ k := Nat.mul_lt_mul_of_pos_right h2 (Nat.two_pow_pos k); have h4 : B ^ (n - 1) * ((t + 1) * 2 ^ k) ≤ B ^ (n - 1) * B := Nat.mul_le_mul_left _ h1; rw [← Nat.pow_succ, Nat.succ_eq_add_one, show n - 1 + 1 = n by omega, ← Nat.mul_assoc] at h4; exact Nat.lt_of_lt_of_le h3 h4
  have hV2 : B ^ (n - 1) * (t * 2 ^ k) ≤ b * 2 ^ k := by
   rw [← Nat.mul_assoc, hbv]; exact Nat.mul_le_mul_right _ (Nat.le_add_left _ _)
  have hlen : (dg (b * 2 ^ k)).length = n := dg_len_eq hV1 (fun _ => by
   refine Nat.le_trans ?_ hV2
   exact Nat.le_mul_of_pos_right _ (by omega))
  have hd := dg_dig (b * 2 ^ k); have hv := val_dg (b * 2 ^ k); generalize dg (b * 2 ^ k) = l at hlen hd hv
  have e1 : l = l.take (n - 2) ++ [l[n - 2], l[n - 1]] := by
   conv => lhs; rw [← List.take_append_drop (n - 2) l]
   congr 1
   rw [List.drop_eq_getElem_cons (by omega), List.drop_eq_getElem_cons (by omega), List.drop_of_length_le (by omega)]
   congr 2
   simp only [show n - 2 + 1 = n - 1 by omega]
  refine ⟨l.take (n - 2), l[n - 2], l[n - 1], e1, by rw [List.length_take]; omega, dig_tak hd _, hd _ (List.getElem_mem _), hd _ (List.getElem_mem _), ?_⟩; have h5 := val_take_drop l (n - 1) (by omega); rw [val_cons_drop (by omega), List.drop_of_length_le (by omega), hv] at h5; have h6 := val_lt (dig_tak hd (n - 1)); rw [List.length_take, Nat.min_eq_left (by omega)] at h6; simp only [val, Nat.mul_zero, Nat.add_zero] at h5
  have h7 : B ^ (n - 1) * (t * 2 ^ k) < B ^ (n - 1) * (l[n - 1] + 1) := by
   rw [Nat.mul_add, Nat.mul_one]; omega
  have h8 := Nat.lt_of_mul_lt_mul_left h7; simp only [B]; omega
theorem dv_start {a b k n la : Nat} {us : List Nat} (hb : B ^ (n - 1) ≤ b) (ha : a < B ^ la) (hn : 1 ≤ n) (hla : n ≤ la) (hl : us.length = la + 1) (hd : Dig us) (hv : val us = a * 2 ^ k) :
    DvSt (a * 2 ^ k) (b * 2 ^ k) (la + 1) (la - n + 1) (la - n + 1) us [] := by
  refine ⟨hl, hd, ?_, by simp, fun x hx => absurd hx (by simp), by simp [val, hv]⟩; have h1 := val_take_drop us (la - n + 1) (by omega)
  have h2 : B ^ (la - n + 1) * val (us.drop (la - n + 1)) < B ^ (la - n + 1) * (B ^ (n - 1) * 2 ^ k) := by
   have h3 : a * 2 ^ k < B ^ la * 2 ^ k := Nat.mul_lt_mul_of_pos_right ha (Nat.two_pow_pos k)
   have h5 : B ^ la = B ^ (la - n + 1) * B ^ (n - 1) := by rw [← Nat.pow_add]; congr 1; omega
   rw [h5, Nat.mul_assoc] at h3; omega
  have h4 := Nat.lt_of_mul_lt_mul_left h2; exact Nat.lt_of_lt_of_le h4 (Nat.mul_le_mul_right _ hb)
theorem drop_three {l : List Nat} {n : Nat} (hl : l.length = n + 1) (hn : 2 ≤ n) {a b c : Nat} (ha : l[n - 2]? = some a) (hb : l[n - 1]? = some b) (hc : l[n]? = some c) : l.drop (n - 2) = [a, b, c] := by
 obtain ⟨_, ea⟩ := List.getElem?_eq_some_iff.1 ha
 obtain ⟨_, eb⟩ := List.getElem?_eq_some_iff.1 hb
 obtain ⟨_, ec⟩ := List.getElem?_eq_some_iff.1 hc
 obtain ⟨m, rfl⟩ : ∃ m, n = m + 2 := ⟨n - 2, by omega⟩
 have h1 : m < l.length := by omega
 have h2 : m + 1 < l.length := by omega
 have h3 : m + 2 < l.length := by omega
 simp only [Nat.add_sub_cancel] at ea ⊢
 have eb' : l[m + 1] = b := eb
 rw [List.drop_eq_getElem_cons h1, List.drop_eq_getElem_cons h2, List.drop_eq_getElem_cons h3, List.drop_of_length_le (by omega), ea, eb', ec]
theorem DvSt.tops {A V L M j n : Nat} {us qs vs : List Nat} {x y a b c : Nat} (h : DvSt A V L M (j + 1) us qs) (hV : dg V = vs ++ [x, y]) (hvl : vs.length = n - 2) (hn : 2 ≤ n) (hj : j + n < L) (hx : x < B) (hy : y < B) (hbig : B ≤ 2 * y)
    (ha : us[j + n - 2]? = some a) (hb : us[j + n - 1]? = some b) (hc : us[j + n]? = some c) :
    Tops (val (us.drop j)) V (c * B + b) a y x (B ^ (n - 2)) := by
  have hl := h.len
  have hVn : V ≤ B ^ n := by
   have h1 := val_lt (dg_dig V); rw [val_dg, hV] at h1
   have : (vs ++ [x, y]).length = n := by simp [hvl]; omega
   rw [this] at h1; omega
  obtain ⟨_, _, h0⟩ := h.window hVn hj (by omega)
  have dv : Dig vs := fun z hz => dg_dig V z (by rw [hV]; simp [hz])
  have e : val (us.drop j) = val ((us.drop j).take (n - 2) ++ [a, b, c]) := by
   have h1 := val_take_drop (us.drop j) (n + 1) (by rw [List.length_drop]; omega); rw [List.drop_drop, show j + (n + 1) = j + n + 1 by omega, h0, Nat.mul_zero, Nat.add_zero] at h1; rw [h1]
   congr 1
   have h2 : (us.drop j).take (n + 1) = ((us.drop j).take (n + 1)).take (n - 2) ++ ((us.drop j).take (n + 1)).drop (n - 2) := (List.take_append_drop _ _).symm
   have hlen : ((us.drop j).take (n + 1)).length = n + 1 := by rw [List.length_take, List.length_drop]; omega
   have g : ∀ i, i < n + 1 → ((us.drop j).take (n + 1))[i]? = us[j + i]? := fun i hi => by rw [List.getElem?_take_of_lt hi, List.getElem?_drop]
   rw [h2, List.take_take, Nat.min_eq_left (by omega), drop_three hlen hn (a := a) (b := b) (c := c) (by rw [g _ (by omega), ← ha]; congr 1; omega) (by rw [g _ (by omega), ← hb]; congr 1; omega) (by rw [g _ (by omega), ← hc])]
  have hVv : V = val (vs ++ [x, y]) := by rw [← hV, val_dg]
  obtain ⟨hi, ea⟩ := List.getElem?_eq_some_iff.1 ha; rw [e, hVv]; exact tops_of (by rw [List.length_take, List.length_drop]; omega) hvl (dig_tak (dig_drop h.dig _) _) dv (by rw [← ea]; exact h.dig _ (List.getElem_mem _)) hx hy hbig
structure SubIn (us vs : List Nat) (h j i c bo : Nat) (zs : List Nat) : Prop where
  len : zs.length = i
  dig : Dig zs
  clt : c < B
  blt : bo ≤ 1
  sum : val zs + h * val (vs.take i) = val ((us.drop j).take i) + B ^ i * (c + bo)
theorem val_snoc_take {xs : List Nat} {k : Nat} (h : k < xs.length) : val (xs.take (k + 1)) = val (xs.take k) + B ^ k * xs[k] := by
 rw [List.take_succ_eq_append_getElem h, val_app, List.length_take, Nat.min_eq_left (by omega)]; simp [val]
theorem SubIn.start (us vs : List Nat) (h j : Nat) : SubIn us vs h j 0 0 0 [] := ⟨rfl, fun _ hx => absurd hx (by simp), by decide, by decide, by simp [val]⟩
theorem SubIn.next {us vs : List Nat} {h j i c bo x y d : Nat} {zs : List Nat} (s : SubIn us vs h j i c bo zs) (hh : h ≤ B) (hx : us[j + i]? = some x) (hy : vs[i]? = some y) (hyB : y < B)
    (hd : d % B + (h * y + c) % B + bo = x + B * (d / B % 2)) :
    SubIn us vs h j (i + 1) ((h * y + c) / B) (d / B % 2) (zs ++ [d % B]) := by
  have hd2 := msub_step hd; obtain ⟨hi, ei⟩ := List.getElem?_eq_some_iff.1 hx; obtain ⟨hk, ek⟩ := List.getElem?_eq_some_iff.1 hy; obtain ⟨_, hcB⟩ := msub_fit hh hyB s.clt; refine ⟨by rw [List.length_append, s.len]; rfl, ?_, hcB, by omega, ?_⟩
  ·exact dig_app s.dig (fun z hz => by rw [List.mem_singleton.1 hz]; exact Nat.mod_lt _ (by decide))
  ·rw [val_app, s.len, val_snoc_take hk, val_snoc_take (show i < (us.drop j).length by rw [List.length_drop]; omega), List.getElem_drop, ek, ei]; simp only [val, Nat.mul_zero, Nat.add_zero]; have := msub_round s.sum hd2; rw [Nat.pow_succ]; exact this
structure BackIn (zs vs : List Nat) (i c : Nat) (ys : List Nat) : Prop where
  len : ys.length = i
  dig : Dig ys
  clt : c ≤ 1
  sum : val ys + B ^ i * c = val (zs.take i) + val (vs.take i)
theorem BackIn.start (zs vs : List Nat) : BackIn zs vs 0 0 [] := ⟨rfl, fun _ hx => absurd hx (by simp), by decide, by simp [val]⟩
theorem BackIn.next {zs vs : List Nat} {i c x y : Nat} {ys : List Nat} (s : BackIn zs vs i c ys) (hx : zs[i]? = some x) (hy : vs[i]? = some y) (hxB : x < B) (hyB : y < B) :
    BackIn zs vs (i + 1) ((c + (x + y)) / B) (ys ++ [(c + (x + y)) % B]) := by
  obtain ⟨hi, ei⟩ := List.getElem?_eq_some_iff.1 hx; obtain ⟨hk, ek⟩ := List.getElem?_eq_some_iff.1 hy; have hc := s.clt; refine ⟨by rw [List.length_append, s.len]; rfl, ?_, ?_, ?_⟩
  ·exact dig_app s.dig (fun z hz => by rw [List.mem_singleton.1 hz]; exact Nat.mod_lt _ (by decide))
  ·have : c + (x + y) < 2 * B := by omega
   have := (Nat.div_lt_iff_lt_mul (show 0 < B by decide)).2 this; omega
  ·rw [val_app, s.len, val_snoc_take hi, val_snoc_take hk, ei, ek]; simp only [val, Nat.mul_zero, Nat.add_zero]; have := back_round (x := x) (y := y) s.sum; rw [Nat.pow_succ]; omega
theorem mid_get {us zs : List Nat} {j i : Nat} (hj : j + i < us.length) (hz : zs.length = i) : (us.take j ++ (zs ++ us.drop (j + i)))[j + i]? = some us[j + i] := by
 rw [List.getElem?_append_right (by rw [List.length_take]; omega), List.length_take, Nat.min_eq_left (by omega), Nat.add_sub_cancel_left, List.getElem?_append_right (by omega), hz, Nat.sub_self, List.getElem?_drop]
 simp [hj]
theorem mid_set {us zs : List Nat} {j i d : Nat} (hj : j + i < us.length) (hz : zs.length = i) : (us.take j ++ (zs ++ us.drop (j + i))).set (j + i) d = us.take j ++ ((zs ++ [d]) ++ us.drop (j + (i + 1))) := by
 rw [List.set_append_right _ _ (by rw [List.length_take]; omega), List.length_take, Nat.min_eq_left (by omega), Nat.add_sub_cancel_left, List.set_append_right _ _ (by omega), hz, Nat.sub_self, List.drop_eq_getElem_cons hj, List.set_cons_zero]
 simp [Nat.add_assoc]
def shrD (k : Nat) : List Nat → List Nat
  | [] => []
  | [x] => [x / 2 ^ k]
  | x :: y :: l => (x / 2 ^ k + y * 2 ^ (32 - k) % B) :: shrD k (y :: l)
theorem shrD_len (k : Nat) : ∀ l : List Nat, (shrD k l).length = l.length
  | [] => rfl
  | [_] => rfl
  | x :: y :: l => by
    show (shrD k (y :: l)).length + 1 = _
    rw [shrD_len k (y :: l)]; rfl
theorem pow_split {k : Nat} (hk : k < 32) : B = 2 ^ k * 2 ^ (32 - k) := by
 rw [← Nat.pow_add, show k + (32 - k) = 32 by omega]
theorem shr_low {k y : Nat} (hk : k < 32) : y * 2 ^ (32 - k) % B = y % 2 ^ k * 2 ^ (32 - k) := by
 rw [pow_split hk, Nat.mul_mod_mul_right]
theorem shr_dgt {k x y : Nat} (hk : k < 32) (hx : x < B) : x / 2 ^ k + y * 2 ^ (32 - k) % B < B ∧ x / 2 ^ k < 2 ^ (32 - k) := by
 have h1 : x / 2 ^ k < 2 ^ (32 - k) := by
  rw [Nat.div_lt_iff_lt_mul (Nat.two_pow_pos k), Nat.mul_comm, ← pow_split hk]; exact hx
 refine ⟨?_, h1⟩
 rw [shr_low hk]
 have h2 : y % 2 ^ k + 1 ≤ 2 ^ k := Nat.mod_lt _ (Nat.two_pow_pos k)
 have h3 := Nat.mul_le_mul_right (2 ^ (32 - k)) h2
 rw [← pow_split hk, Nat.add_mul, Nat.one_mul] at h3
 omega
theorem shrD_dig {k : Nat} (hk : k < 32) : ∀ {l : List Nat}, Dig l → Dig (shrD k l)
  | [], _, x, hx => absurd hx (by simp [shrD])
  | [a], h, x, hx => by
    rw [List.mem_singleton.1 hx]; exact Nat.lt_of_le_of_lt (Nat.div_le_self _ _) (h a (by simp))
  | a :: b :: l, h, x, hx => by
    rcases List.mem_cons.1 hx with rfl | hx
    ·exact (shr_dgt hk (h a (by simp))).1
    ·exact shrD_dig hk (fun z hz => h z (by simp [List.mem_cons.1 hz])) x hx
theorem shr_div {k b V : Nat} (hk : k < 32) : (b + B * V) / 2 ^ k = b / 2 ^ k + 2 ^ (32 - k) * V := by
 rw [pow_split hk, Nat.mul_assoc, Nat.add_mul_div_left _ _ (Nat.two_pow_pos k)]
theorem shrD_val {k : Nat} (hk : k < 32) : ∀ l : List Nat, val (shrD k l) = val l / 2 ^ k
  | [] => by simp [shrD, val]
  | [x] => by simp [shrD, val]
  | x :: y :: l => by
    have ih := shrD_val hk (y :: l)
    show (x / 2 ^ k + y * 2 ^ (32 - k) % B) + B * val (shrD k (y :: l)) = (x + B * val (y :: l)) / 2 ^ k
    rw [ih, shr_div hk, shr_low hk]; have hv : val (y :: l) = y + B * val l := rfl; have h1 := Nat.div_add_mod (val (y :: l)) (2 ^ k)
    have h2 : val (y :: l) % 2 ^ k = y % 2 ^ k := by
     rw [hv, pow_split hk, Nat.mul_assoc, Nat.add_mul_mod_self_left]
    rw [h2] at h1; generalize val (y :: l) = V at *; generalize V / 2 ^ k = q at *; generalize y % 2 ^ k = r at *
    have h3 : 2 ^ (32 - k) * V = B * q + r * 2 ^ (32 - k) := by
     rw [← h1, Nat.mul_add, pow_split hk, ← Nat.mul_assoc, Nat.mul_comm (2 ^ (32 - k)) (2 ^ k), Nat.mul_comm r]
    omega
theorem shrD_at {k : Nat} : ∀ {l : List Nat} {i : Nat} {x : Nat}, l[i]? = some x → (shrD k l)[i]? = some (match l[i + 1]? with | some y => x / 2 ^ k + y * 2 ^ (32 - k) % B | none => x / 2 ^ k)
  | [], i, x, h => absurd h (by simp)
  | [a], 0, x, h => by
    have : a = x := by simpa using h
    subst this; rfl
  | [a], i + 1, x, h => absurd h (by simp)
  | a :: b :: l, 0, x, h => by
    have : a = x := by simpa using h
    subst this; rfl
  | a :: b :: l, i + 1, x, h => by
    have h2 : (b :: l)[i]? = some x := by simpa using h
    have := shrD_at (k := k) h2
    show (shrD k (b :: l))[i]? = _
    rw [this]; simp
def shrT (k : Nat) (l : List Nat) (i : Nat) : List Nat := (shrD k l).take i ++ l.drop i
theorem shrT_zero (k : Nat) (l : List Nat) : shrT k l 0 = l := by simp [shrT]
theorem shrT_all (k : Nat) (l : List Nat) : shrT k l l.length = shrD k l := by
 unfold shrT
 rw [List.drop_length, List.append_nil, List.take_of_length_le (by rw [shrD_len]; exact Nat.le_refl _)]
theorem shrT_len {k i : Nat} {l : List Nat} (hi : i ≤ l.length) : (shrT k l i).length = l.length := by
 unfold shrT
 rw [List.length_append, List.length_take, List.length_drop, shrD_len]; omega
theorem shrT_get {k i j : Nat} {l : List Nat} (hi : i ≤ j) (hj : j < l.length) : (shrT k l i)[j]? = some l[j] := by
 unfold shrT
 rw [List.getElem?_append_right (by rw [List.length_take, shrD_len]; omega), List.length_take, shrD_len, Nat.min_eq_left (by omega), List.getElem?_drop, show i + (j - i) = j by omega, List.getElem?_eq_getElem hj]
theorem shrT_set {k i x : Nat} {l : List Nat} (hi : i < l.length) (hx : (shrD k l)[i]? = some x) : (shrT k l i).set i x = shrT k l (i + 1) := by
 unfold shrT
 obtain ⟨h1, h2⟩ := List.getElem?_eq_some_iff.1 hx
 rw [List.set_append_right _ _ (by rw [List.length_take]; omega), List.length_take, Nat.min_eq_left (by omega), Nat.sub_self, List.drop_eq_getElem_cons hi, List.set_cons_zero, List.take_succ_eq_append_getElem h1, h2, List.append_assoc]; rfl
theorem shr_or {k x y : Nat} (hk : k < 32) (hx : x < B) : (x / 2 ^ k) ||| (y * 2 ^ (32 - k) % B) = x / 2 ^ k + y * 2 ^ (32 - k) % B := by
 rw [shr_low hk]
 have h := (shr_dgt (y := y) hk hx).2
 rw [Nat.or_comm, Nat.add_comm, ← Nat.shiftLeft_eq, ← Nat.shiftLeft_add_eq_or_of_lt h]
end
end Go.Bn
