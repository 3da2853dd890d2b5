/- Parts of the proof: SM6, BG8, AC2, QU1, BG4. -/
import Derived.Maps.OwnSet
import Derived.Deep.AppendSrc
import Derived.Deep.AppendLies
import Derived.Test.YtodjofbneeejpaaGreatDoorMBD0
import Derived.Test.YtodjofbneeejpaaGreatDoorMBD3
import Derived.Test.YtodjofbneeejpaaGreatDoorMBD4
import Derived.Test.YtodjofbneeejpaaGreatDoorMBD6
section
/- A map from keys to numbers as a list of keys: at each key its place. -/
namespace Go.Proofs.Tg
open Go.RowKit Go.Maps Go.WideShapes
/-- The map holds at each element of the list its place, and has no other key. -/
structure IdxN {α : Type} [DecidableEq α] (kl : α → Lit) (dom : α → Prop) (S : List α) (D : DataW Unit) : Prop where
  tidy : Maps.Tidy D
  at' : ∀ i (h : i < S.length), dom S[i] → D.atKey (kl S[i]) (.lit (.int .i64 0)) = .lit (.int .i64 (i : Nat))
  has : ∀ v, dom v → Maps.has D (kl v) = decide (v ∈ S)
theorem IdxN.nil {α : Type} [DecidableEq α] (kl : α → Lit) (dom : α → Prop) : IdxN kl dom [] (.map []) := ⟨Maps.tidy_empty, fun i h => absurd h (by simp), fun v _ => by simp [Maps.has]⟩
theorem IdxN.put {α : Type} [DecidableEq α] {kl : α → Lit} {dom : α → Prop} {S : List α} {D : DataW Unit} (h : IdxN kl dom S D) (hk : ∀ v, dom v → WideAt.IsKeyLit (kl v)) (hi : ∀ u v, dom u → dom v → kl u = kl v → u = v) {x : α} (hx : dom x) (hn : x ∉ S) :
    IdxN kl dom (S ++ [x]) (D.put (kl x) (.lit (.int .i64 (S.length : Nat)))) := by
  refine ⟨h.tidy.put (hk x hx) _, fun i hl hv => ?_, fun v hv => ?_⟩
  ·by_cases hil : i < S.length
   ·have e : (S ++ [x])[i] = S[i] := List.getElem_append_left hil
    rw [e] at hv ⊢
    rw [Maps.atKey_put_other (fun e2 => hn (by rw [← hi _ x hv hx e2]; exact List.getElem_mem _)), h.at' i hil hv]
   ·have e0 : i = S.length := by simp at hl; omega
    subst e0
    have e : (S ++ [x])[S.length] = x := by simp
    rw [e] at hv ⊢
    rw [Maps.atKey_put_same h.tidy.isMap (hk x hv)]
  ·by_cases he : v = x
   ·subst he
    rw [Maps.has_put_same h.tidy.isMap (hk v hv)]
    simp
   ·rw [Maps.has_put_other (fun e => he (hi v x hv hx e)), h.has v hv]
    simp [he]
end Go.Proofs.Tg
end
section
/- How permutations move monomials, and what they do to the places of a basis. Plain. -/
namespace Go.Pm
open Go.Sp
/-- The first k entries put to their places. -/
def mvF (L : Nat) (a m : List Int) (k : Nat) : List Int := (List.range k).foldl (fun r v => r.set (a.getD v 0).toNat (m.getD v 0)) (List.replicate L 0)
theorem mvF_zero (L : Nat) (a m : List Int) : mvF L a m 0 = List.replicate L 0 := rfl
theorem mvF_succ (L : Nat) (a m : List Int) (k : Nat) : mvF L a m (k + 1) = (mvF L a m k).set (a.getD k 0).toNat (m.getD k 0) := by simp [mvF, List.range_succ]
theorem mvF_len (L : Nat) (a m : List Int) : ∀ k, (mvF L a m k).length = L
  | 0 => by simp [mvF]
  | k + 1 => by rw [mvF_succ, List.length_set, mvF_len L a m k]
theorem kv_getD (m : List Int) {i : Nat} (h : i < 6) : (kv m).getD i 0 = m.getD i 0 := by simp [kv, h]
theorem kv_set {l : List Int} {i : Nat} (hi : i < l.length) (hl : l.length ≤ 6) (x : Int) : kv (l.set i x) = (kv l).set i x := by
 refine ext_get (by rw [List.length_set, kv_len, kv_len]) fun j hj => ?_
 rw [kv_len] at hj
 rw [kv_getD _ hj]
 simp only [List.getD_eq_getElem?_getD, List.getElem?_set]
 by_cases h : i = j
 ·subst h
  rw [if_pos rfl, if_pos rfl, if_pos hi, if_pos (by rw [kv_len]; exact hj)]
 ·rw [if_neg h, if_neg h]
  have := kv_getD l hj
  simpa only [List.getD_eq_getElem?_getD] using this.symm
theorem kv_zero {n : Nat} (hn : n ≤ 6) : kv (List.replicate n 0) = List.replicate 6 0 := by
 refine ext_get (by rw [kv_len, List.length_replicate]) fun j hj => ?_
 rw [kv_len] at hj
 have e : ∀ m j : Nat, (List.replicate m (0 : Int)).getD j 0 = 0 := fun m j => by
  rw [List.getD_eq_getElem?_getD, List.getElem?_replicate]
  split <;> rfl
 rw [kv_getD _ hj, e, e]
/-- The key of a monomial that has been moved. -/
theorem kv_mvF {n : Nat} (hn : n ≤ 6) {a m : List Int} (ha : Perm n a) : ∀ k, k ≤ n → kv (mvF n a m k) = mvF 6 a m k
  | 0, _ => by rw [mvF_zero, mvF_zero, kv_zero hn]
  | k + 1, hk => by
    have h1 := perm_get ha (show k < n by omega)
    rw [mvF_succ, mvF_succ, kv_set (by rw [mvF_len]; omega) (by rw [mvF_len]; exact hn), kv_mvF hn ha k (by omega)]
def mv (n : Nat) (a m : List Int) : List Int := mvF n a m n
theorem mvF_dom {n : Nat} {c : Int} (hc : 0 ≤ c) {a m : List Int} (hm : domK n c m) : ∀ k, domK n c (mvF n a m k)
  | 0 => ⟨mvF_len _ _ _ _, fun x hx => by rw [mvF_zero] at hx; rw [List.eq_of_mem_replicate hx]; omega⟩
  | k + 1 => by
    have ih := mvF_dom (a := a) hc hm k
    refine ⟨mvF_len _ _ _ _, fun x hx => ?_⟩
    rw [mvF_succ] at hx
    rcases List.mem_or_eq_of_mem_set hx with h | h
    ·exact ih.2 x h
    ·rw [h]
     by_cases hk : k < m.length
     ·rw [show m.getD k 0 = m[k] by simp [hk]]
      exact hm.2 _ (List.getElem_mem _)
     ·rw [show m.getD k 0 = 0 by simp [hk]]; omega
/-- Where the basis' elements go. -/
def img (n : Nat) (a : List Int) (basis : List (List Int)) : List Int := basis.map fun m => ((basis.idxOf (mv n a m) : Nat) : Int)
def ActsOn (n : Nat) (a : List Int) (basis : List (List Int)) : Prop := ∀ m ∈ basis, mv n a m ∈ basis
instance (n : Nat) (a : List Int) (basis : List (List Int)) : Decidable (ActsOn n a basis) := inferInstanceAs (Decidable (∀ _ ∈ _, _))
end Go.Pm
end
section
/- The package blocks: the map from the monomials of a basis to their places. -/
namespace Go.Proofs.Tg.Bk
open Go.RowKit Go.Gr Go.Sp Go.Ev Go.Maps Go.WideShapes Go.Pm
set_option maxHeartbeats 4000000
set_option maxRecDepth 100000
/-- Block mb is a map that holds at each element of S its place, among lists of n small numbers. -/
def IdxM (w : World) (mb cnt n : Nat) (S : List (List Int)) : Prop :=
  ∃ D : DataW Unit, w.ownsMap Tryz.prog 97 (plainElem Tryz.prog 3) mb cnt D ∧ IdxN (fun v => kl6 (kv v)) (domK n 48) S D
theorem IdxM.mapB {w : World} {mb cnt n : Nat} {S : List (List Int)} (h : IdxM w mb cnt n S) : MapB w mb := by
 obtain ⟨D, h, _⟩ := h
 exact mapB_own h
theorem IdxM.made (w : World) (n : Nat) : IdxM (w.alloc (.map #[] 0)) w.heap.size 0 n [] := ⟨_, World.ownsMap_made _ _ _ _, IdxN.nil _ _⟩
theorem IdxM.below {w w' : World} {B mb cnt n : Nat} {S : List (List Int)} (h : IdxM w mb cnt n S) (hb : Below B w w') (hB : mb < B) : IdxM w' mb cnt n S := by
 obtain ⟨D, ⟨es, clock, hh, r⟩, h2⟩ := h
 exact ⟨D, ⟨es, clock, (hb.block mb hB).trans hh, r⟩, h2⟩
theorem IdxM.lt {w : World} {mb cnt n : Nat} {S : List (List Int)} (h : IdxM w mb cnt n S) : mb < w.heap.size := by
 obtain ⟨es, clock, hh⟩ := h.mapB
 exact (Array.getElem?_eq_some_iff.1 hh).1
theorem zeroI (w : World) : (zeroValue 3).run Tryz.prog w = .ok (.int .i64 0) w := by kernel_rfl
theorem idxL_at {l : List (List Int)} (hn : l.Nodup) {i : Nat} (h : i < l.length) : l.idxOf l[i] = i := by
 induction l generalizing i with
 | nil => simp at h
 | cons a l ih =>
   have hn' := List.nodup_cons.1 hn
   cases i with
   | zero => simp
   | succ i =>
     have hi : i < l.length := by simpa using h
     have hne : a ≠ l[i] := fun e => hn'.1 (by rw [e]; exact List.getElem_mem _)
     have hb : (a == l[i]) = false := beq_eq_false_iff_ne.2 hne
     rw [List.getElem_cons_succ, List.idxOf_cons, hb, ih hn'.2 hi]
     try rfl
theorem IdxM.look {w : World} {mb cnt n : Nat} {S : List (List Int)} (h : IdxM w mb cnt n S) {v : List Int} (hv : domK n 48 v) {c : Bool} (hc : decide (v ∈ S) = c) :
    ∃ z : Int, (Instr.lookup 59 (.map (some mb)) (keyV v) true).run Tryz.prog w = .ok (.tuple #[.int .i64 z, .bool c]) w ∧ (c = true → S.Nodup → z = (S.idxOf v : Nat)) := by
  obtain ⟨D, h1, h2⟩ := h
  obtain ⟨v', ps, hrun, hv2⟩ := h1.look_ok keyLaw Tryz.underlying59 (zeroI w) (plainElem_int Tryz.underlying3 (a := 0) (by decide)) (key_read hv)
  obtain ⟨z, rfl, e, _⟩ := plainElem_int_inv Tryz.underlying3 hv2
  have e2 := (h2.has v hv).trans ((decide_eq_decide.2 Iff.rfl).trans hc)
  rw [e2] at hrun
  refine ⟨z, hrun, fun ht hn => ?_⟩
  subst ht
  obtain ⟨i, hi, rfl⟩ := List.getElem_of_mem (of_decide_eq_true hc)
  have hz := h2.at' i hi hv
  rw [hz] at e
  injection e with e _
  injection e with e
  injection e with _ e
  rw [idxL_at hn hi]
  exact e.symm
theorem IdxM.put {w : World} {mb cnt n : Nat} {S : List (List Int)} (h : IdxM w mb cnt n S) (hn : n ≤ 6) (hcnt : cnt ≤ 1000000000) {v : List Int} (hv : domK n 48 v) (hnew : v ∉ S) (hS : S.length ≤ 1000000) :
    ∃ w', (Instr.mapUpdate 59 (.map (some mb)) (keyV v) (.int .i64 (S.length : Nat))).run Tryz.prog w = .ok () w' ∧ IdxM w' mb (cnt + 1) n (S ++ [v]) ∧ w.grownBy w' (some mb) := by
  obtain ⟨D, h1, h2⟩ := h
  obtain ⟨w', hrun, h3, h4⟩ := h1.update keyLaw Tryz.underlying59 (by simp only [maxLen]; omega) (key_read hv) (plainElem_int Tryz.underlying3 (a := (S.length : Nat)) (wf_small ⟨by omega, by omega⟩))
  exact ⟨w', hrun, ⟨_, h3, h2.put (fun _ _ => kl6_key _) (fun _ _ hu hv => klv_inj hn hu hv) hv hnew⟩, h4⟩
/-- What positions holds. -/
structure PoSt (w : World) (n : Nat) (l : List (List Int)) (wr : World) (mb k : Nat) : Prop where
  below : Below w.heap.size w wr
  map : IdxM wr mb k n (l.take k)
  nodup : (l.take k).Nodup
  low : w.heap.size ≤ mb
def RetPos (n : Nat) (l : List (List Int)) (q : Bool) (w : World) (e : Ending) (w' : World) : Prop := Below w.heap.size w w' ∧
  ((q = false ∧ e = .returned (.tuple #[.map none, .bool false])) ∨ (q = true ∧ ∃ mb, e = .returned (.tuple #[.map (some mb), .bool true]) ∧ IdxM w' mb l.length n l ∧ w.heap.size ≤ mb))
theorem positions_any (L : Option Addr) (cL n : Nat) (l : List (List Int)) (q : Bool) (w : World) (hL : Lists w L l) (hd : ∀ m ∈ l, domK n 48 m) (hn : n ≤ 6) (hl : l.length ≤ 1000) (hq : q = true ↔ l.Nodup) :
    Calls Tryz.prog 31 #[.slice L l.length cL] w (RetPos n l q w) := by
  have HL := Lib.hid hL
  have HD := Lib.hid hd
  have HQ := Lib.hid hq
  clear hL hd hq
  have hmm := @run_makeMap Tryz.prog
  go_enter Tryz.func31, Tryz.ntmps31
  go_wp2

  have M0 := IdxM.made w n
  have hb0 := (Below.refl w.heap.size w).alloc (Nat.le_refl _) (.map #[] 0)
  generalize w.alloc (.map #[] 0) = W at *
  clear hmm
  go_loopw [12] (fun s12 wr => ∃ k : Nat, s12 = .int .i64 k ∧ k ≤ l.length ∧ Hid (PoSt w n l wr w.heap.size k)) (fun s12 _ => l.length - (intOf s12).toNat)
  case atStart => exact ⟨0, rfl, Nat.zero_le _, Lib.hid ⟨hb0, by simpa using M0, by simp, Nat.le_refl _⟩⟩
  case round =>
   clear M0 hb0
   obtain ⟨wo, rfl⟩ : ∃ wo : World, wo = wr := ⟨_, rfl⟩
   obtain ⟨k, rfl, hk, HST⟩ := hrel
   have hbo := HST.out.below
   by_cases hkl : k < l.length
   ·obtain ⟨ad, E, ce, rfl, hc, hE⟩ := HL.out.at hkl
    have hc := keep_cell hbo hc
    have q0 : (0 : Int) ≤ (k : Int) := by omega
    have q1 : (k : Int) < (l.length : Int) := by omega
    have q3 : ((k : Int)).toNat = k := by omega
    have hdk := HD.out l[k] (List.getElem_mem _)
    have hlen := hdk.1
    have HKY : Hid (∀ V, Below wo.heap.size wo V → Calls Tryz.prog 60 #[.slice E n ce] V fun e w' => e = .returned (keyV l[k]) ∧ Below V.heap.size V w') := Lib.hid (fun V h => by
     have := keyOf_any E ce l[k] V (hE.keep (below_all hbo h)) (by omega)
     rwa [hlen] at this)
    rw [hlen] at hc
    have hmap := HST.out.map
    have hlt := hmap.lt
    have HKL : Hid ((l.take k).length = k) := Lib.hid (by rw [List.length_take]; omega)
    by_cases hin : l[k] ∈ l.take k
    ·obtain rfl : q = false := eq_false_of_ne_true (fun h => by
      have h1 := List.Nodup.sublist (List.take_sublist (k + 1) l) (HQ.out.1 h)
      rw [List.take_succ_eq_append_getElem hkl] at h1
      exact (List.nodup_append.1 h1).2.2 _ hin _ (by simp) rfl)
     have hdec : decide (l[k] ∈ l.take k) = true := decide_eq_true hin
     clear hin hE hlen
     generalize l[k] = x at *
     generalize l.take k = S at *
     go_wp2_with (go_at_call 60; refine (HKY.out _ (Below.refl _ _)).mono ?_; rintro e w4 ⟨rfl, hb4⟩
                  obtain ⟨z, hlook, _⟩ := (hmap.below hb4 hlt).look hdk hdec)
     go_ret2
     exact ⟨below_all hbo hb4, .inl ⟨rfl, rfl⟩⟩
    ·have hdec : decide (l[k] ∈ l.take k) = false := decide_eq_false hin
     have HIN := Lib.hid hin
     have HTS : Hid (l.take (k + 1) = l.take k ++ [l[k]]) := Lib.hid (List.take_succ_eq_append_getElem hkl)
     have HND : Hid ((l.take (k + 1)).Nodup) := Lib.hid (by
      rw [HTS.out]
      refine List.nodup_append.2 ⟨HST.out.nodup, by simp, fun a ha b hb => ?_⟩
      rw [List.mem_singleton.1 hb]
      rintro rfl
      exact hin ha)
     clear hin hE hlen
     generalize l[k] = x at *
     have hlow := HST.out.low
     go_upto_region 6 with (first
       | (go_at_call 60; refine (HKY.out _ (Below.refl _ _)).mono ?_; rintro e w4 ⟨rfl, hb4⟩
          obtain ⟨z, hlook, _⟩ := (hmap.below hb4 hlt).look hdk hdec))
     clear hlook
     have hmap4 := hmap.below hb4 hlt
     have hlt4 := hmap4.lt
     go_wp2_with (go_at_call 60; refine (HKY.out _ hb4).mono ?_; rintro e w5 ⟨rfl, hb5⟩
                  have hmap5 := hmap4.below hb5 hlt4
                  obtain ⟨w6, hrun, hM6, hg6⟩ := hmap5.put hn (by omega) hdk HIN.out (by rw [HKL.out]; omega)
                  rw [HKL.out] at hrun)
     go_roundw
     case rel =>
      refine ⟨k + 1, by go_num, by omega, Lib.hid ⟨?_, by rw [HTS.out]; exact hM6, HND.out, hlow⟩⟩
      exact bturn (below_all (below_all hbo hb4) hb5) hmap5.mapB hg6 hlow
     case measure => simp [intOf]; omega
   ·obtain rfl : k = l.length := by omega
    have hm := HST.out.map
    have hnd := HST.out.nodup
    rw [List.take_length] at hm hnd
    obtain rfl : q = true := HQ.out.2 hnd
    have HM := Lib.hid hm
    have hlow := HST.out.low
    have dk : decide ((l.length : Int) < (l.length : Int)) = false := by simp
    clear hm hnd
    go_wp2
    go_ret2
    exact ⟨hbo, .inr ⟨rfl, _, rfl, HM.out, hlow⟩⟩
end Go.Proofs.Tg.Bk
end
section
/- A queue: a slice that the call owns, whose head has been cut off; append. -/
namespace Go.Proofs.Tg
open Go.RowKit
set_option maxHeartbeats 1000000
/-- The elements (of one cell) lie in a block of the call's own, from some place on, and there is room behind them up to the slice's capacity. -/
def Que (w : World) (base : Nat) (e : TypeId) (v : Value) (xs : List Value) : Prop :=
  ∃ g o cap cur, v = .slice (some ⟨g, o, none⟩) xs.length cap ∧ base ≤ g ∧ w.heap[g]? = some (.cells cur e (0, 0)) ∧ xs.length ≤ cap ∧ cap ≤ maxLen ∧ o + cap ≤ cur.size ∧ ∀ j u, xs[j]? = some u → cur[o + j]? = some u
theorem Que.below {w w' : World} {base : Nat} {e : TypeId} {v : Value} {xs : List Value} (h : Que w base e v xs) (hb : Below w.heap.size w w') : Que w' base e v xs := by
 obtain ⟨g, o, cap, cur, h1, h2, h3, h4⟩ := h
 exact ⟨g, o, cap, cur, h1, h2, (hb.block g (Array.getElem?_eq_some_iff.1 h3).1).trans h3, h4⟩
theorem Que.of_blk {w : World} {base g : Nat} {e : TypeId} {xs : List Value} (h : Blk w g e xs.toArray) (hb : base ≤ g) (hm : xs.length ≤ maxLen) : Que w base e (.slice (some ⟨g, 0, none⟩) xs.length xs.length) xs :=
  ⟨g, 0, xs.length, xs.toArray, rfl, hb, h, Nat.le_refl _, hm, by simp, fun j u hu => by simpa using hu⟩
/-- The block in which a queue lies. -/
theorem Que.blk {w : World} {base : Nat} {e : TypeId} {v : Value} {xs : List Value} (h : Que w base e v xs) : ∃ g, v.ownBlock = some g ∧ base ≤ g ∧ g < w.heap.size := by
 obtain ⟨g, o, cap, cur, rfl, h2, h3, _⟩ := h
 exact ⟨g, rfl, h2, (Array.getElem?_eq_some_iff.1 h3).1⟩
theorem Que.ne {w : World} {base g : Nat} {e t : TypeId} {v : Value} {xs : List Value} {cs : Array Value} (h : Que w base e v xs) (hB : Blk w g t cs) (hne : e ≠ t) : some g ≠ v.ownBlock := by
 obtain ⟨q, o, cap, cur, rfl, h2, h3, _⟩ := h
 intro e1
 injection e1 with e1
 subst e1
 unfold Blk at hB
 rw [h3] at hB
 injection hB with hB
 injection hB with _ h4
 exact hne h4
theorem Que.tail {w : World} {base : Nat} {e : TypeId} {g o n cap : Nat} {x : Value} {xs : List Value} (h : Que w base e (.slice (some ⟨g, o, none⟩) n cap) (x :: xs)) : Que w base e (.slice (some ⟨g, o + 1, none⟩) xs.length (cap - 1)) xs := by
 obtain ⟨g', o', cap', cur, h1, h2, h3, h4, h5, h6, h7⟩ := h
 injection h1 with h1 _ hc
 injection h1 with h1
 injection h1 with hg ho
 subst hg ho hc
 rw [List.length_cons] at h4
 refine ⟨g, o + 1, cap - 1, cur, rfl, h2, h3, by omega, by omega, by omega, fun j u hu => ?_⟩
 have := h7 (j + 1) u (by simpa using hu)
 rw [show o + 1 + j = o + (j + 1) by omega]
 exact this
theorem Que.head {w : World} {base : Nat} {e : TypeId} {v x : Value} {xs : List Value} (h : Que w base e v (x :: xs)) : ∃ g o cap, v = .slice (some ⟨g, o, none⟩) (xs.length + 1) cap ∧ w.cell? ⟨g, o, none⟩ = some x ∧ 0 < cap := by
 obtain ⟨g, o, cap, cur, h1, h2, h3, h4, h5, h6, h7⟩ := h
 refine ⟨g, o, cap, h1, ?_, by rw [List.length_cons] at h4; omega⟩
 rw [cell_of_row w g o cur e _ h3]
 exact h7 0 x rfl
section
variable {P : Program}
theorem run_que_append (w : World) (base : Nat) (t ty e : TypeId) (i : TypeInfo) (z : Value) (bytes : Nat) (ht : P.underlying t = some (.slice e)) (hi : P.info? e = some i) (hz : i.zero = some z) (hsize : i.size = 1) (hby : i.bytes = bytes) (hzs : z.cells.size = 1)
    (v : Value) (xs : List Value) (hq : Que w base e v xs) (a : Addr) (c : Nat) (u : Value) (hu : w.cell? a = some u) (h1 : u.oneCell' = true) (h63 : xs.length + 1 ≤ maxLen) (hbytes : (xs.length + 1) * bytes ≤ 140737488355328) (hbase : base ≤ w.heap.size) :
    ∃ v' w', (Builtin.append_ #[t, t] ty #[v, .slice (some a) 1 c]).run P w = .ok v' w' ∧ Que w' base e v' (xs ++ [u]) ∧ w.grownBy w' v.ownBlock ∧ (v'.ownBlock = v.ownBlock ∨ v'.ownBlock = some w.heap.size) ∧ ∀ ad n c, v = .slice (some ad) n c → ((∃ n' c', v' = .slice (some ad) n' c') ∨ v'.ownBlock = some w.heap.size) ∧ ∀ q, q < ad.off + xs.length → w'.cell? ⟨ad.block, q, none⟩ = w.cell? ⟨ad.block, q, none⟩ := by
  obtain ⟨g, o, cap, cur, rfl, h2, h3, h4, h5, h6, h7⟩ := hq
  have hnews : ∀ j x, [u][j]? = some x → w.cell? (a.add j) = some x := fun j x hj => by
   match j, hj with
   | 0, hj =>
     simp at hj
     subst hj
     have e : a.add 0 = a := by unfold Addr.add; split <;> simp_all
     rw [e]; exact hu
  have hs : Src P i.size t (.slice (some a) 1 c) 1 [u] w := Src.ofSlice w ht a 1 c [u] (by rw [hsize]; rfl) hnews (fun x hx => by rw [List.mem_singleton.1 hx]; exact h1)
  by_cases hroom : xs.length + 1 ≤ cap
  ·have hlt : o + xs.length < cur.size := by omega
   have hr := run_append_room_src (P := P) w t t ty e i ht hi g o xs.length cap _ 1 [u] hs hroom (fun j hj => by
    have : j = 0 := by simpa using hj
    subst this
    rw [hsize, cell_of_row w g _ cur e _ h3]
    simp
    omega) (fun j hj => by
    have : j = 0 := by simpa using hj
    subst this
    rw [hsize]
    simp [World.frozen?, h3])
   rw [hsize, Nat.mul_one] at hr
   refine ⟨_, _, hr, ⟨g, o, cap, cur.setIfInBounds (o + xs.length) u, by simp, h2, ?_, by simpa using hroom, h5, by simpa using h6, fun j x hx => ?_⟩, ?_, .inl rfl, fun ad n c he => ⟨.inl (by
    injection he with he
    injection he with he
    subst he
    exact ⟨_, _, rfl⟩), fun q hq => ?_⟩⟩
   ·simp [World.setCells, World.setCell, Array.getElem?_modify, h3]
   ·rw [Array.getElem?_setIfInBounds]
    by_cases hj : j < xs.length
    ·rw [if_neg (by omega)]
     rw [List.getElem?_append_left hj] at hx
     exact h7 j x hx
    ·have hj2 : j = xs.length := by
      have := (List.getElem?_eq_some_iff.1 hx).1
      simp at this
      omega
     subst hj2
     rw [if_pos rfl, if_pos hlt]
     simpa using hx
   ·refine ⟨rfl, rfl, rfl, by simp [World.setCells, World.setCell], fun k hk hne => ?_⟩
    have : k ≠ g := fun e1 => hne (by simp [Value.ownBlock, e1])
    simp [World.setCells, World.setCell, Array.getElem?_modify, Ne.symm this]
   ·injection he with he
    injection he with he
    subst he
    have hq2 : q < o + xs.length := hq
    exact World.cell?_setCell_other _ _ _ _ (fun e1 => by
     injection e1 with _ e2 _
     omega)
  ·have holds : (Builtin.firstCells i.size xs.length (.slice (some ⟨g, o, none⟩) xs.length cap)).run P w.drew = .ok xs.toArray w.drew := by
    rw [hsize]
    refine run_firstCells_some w.drew 1 xs.length ⟨g, o, none⟩ xs.length cap xs (by simp) (fun j x hx => ?_)
    rw [add_lit, World.cell?_drew, cell_of_row w g _ cur e _ h3]
    exact h7 j x hx
   have hr := run_append_grow_src (P := P) w t t ty e i z ht hi hz (some ⟨g, o, none⟩) xs.length cap xs holds _ 1 [u] hs (by omega) (by simp only [maxLen] at h63; omega) (growslice_fits (by omega) (by rw [hby]; exact hbytes))
   have hge := grownCap_ge w (xs.length + 1) cap e
   have hcm : grownCap w (xs.length + 1) cap e ≤ maxLen := grownCap_le_maxLen w (xs.length + 1) cap e h63
   refine ⟨_, _, hr, ⟨w.heap.size, 0, grownCap w (xs.length + 1) cap e, _, by simp, hbase, heap_alloc_new w.drew _, by simpa using hge, hcm, ?_, fun j x hx => ?_⟩, ⟨rfl, rfl, rfl, by simp, fun k hk _ => heap_alloc_old w.drew _ hk⟩, .inr rfl, fun ad n c he => ⟨.inr rfl, fun q hq => ?_⟩⟩
   ·simp only [Array.size_append, List.size_toArray, size_zeroCells, hzs, List.length_append, List.length_singleton]
    omega
   ·rw [Nat.zero_add, Array.getElem?_append_left]
    ·simpa using hx
    ·have := (List.getElem?_eq_some_iff.1 hx).1
     simpa using this
   ·injection he with he
    injection he with he
    subst he
    exact World.cell?_of_block (heap_alloc_old w.drew _ (Array.getElem?_eq_some_iff.1 h3).1)
/-- At the operation, for the walk. -/
theorem wpList_que_append (w : World) {ops : Array Oper} {rest : List Oper} {o : Oper} {a : Act} {Q : Exit → Act → World → Prop} (hgd : o.guard = none) (s x : Operand) (t : TypeId)
    (ho : o.op = .call { callee := .builtin .append, args := #[s, x], argTypes := #[t, t] })
    (base : Nat) (e : TypeId) (i : TypeInfo) (z : Value) (bytes : Nat) (ht : P.underlying t = some (.slice e)) (hi : P.info? e = some i) (hz : i.zero = some z) (hsize : i.size = 1) (hby : i.bytes = bytes) (hzs : z.cells.size = 1)
    (v : Value) (xs : List Value) (hs : a.eval s = v) (hq : Que w base e v xs) (ad : Addr) (c : Nat) (u : Value) (hx : a.eval x = .slice (some ad) 1 c) (hu : w.cell? ad = some u) (h1 : u.oneCell' = true) (h63 : xs.length + 1 ≤ maxLen) (hbytes : (xs.length + 1) * bytes ≤ 140737488355328) (hbase : base ≤ w.heap.size)
    (h : ∀ v' w', Que w' base e v' (xs ++ [u]) → w.grownBy w' v.ownBlock → (v'.ownBlock = v.ownBlock ∨ v'.ownBlock = some w.heap.size) → (∀ ad n c, v = .slice (some ad) n c → ((∃ n' c', v' = .slice (some ad) n' c') ∨ v'.ownBlock = some w.heap.size) ∧ ∀ q, q < ad.off + xs.length → w'.cell? ⟨ad.block, q, none⟩ = w.cell? ⟨ad.block, q, none⟩) → wpList P ops Q rest (a.put o.dst v') w') :
    wpList P ops Q (o :: rest) a w := by
  refine wpList_plain hgd fun K hK => ?_
  obtain ⟨v', w', hr, h2, h3, h4, h5⟩ := run_que_append (P := P) w base t o.type e i z bytes ht hi hz hsize hby hzs v xs hq ad c u hu h1 h63 hbytes hbase
  unfold Oper.wp execOp
  simp only [ho, resolve, invoke, builtin, Sem.run_bind, Sem.run_pure, Result.andThen_ok, List.map_toArray, List.map_cons, List.map_nil, hs, hx, hr]
  exact hK _ _ (h v' w' h2 h3 h4 h5)
end
end Go.Proofs.Tg
end
section
/- The products of all subsets of commuting involutions. Plain. -/
namespace Go.Pm
theorem snoc_ind {α : Type} {P : List α → Prop} (h0 : P []) (h1 : ∀ l a, P l → P (l ++ [a])) (l : List α) : P l := by
 have : ∀ l : List α, P l.reverse := fun l => by
  induction l with
  | nil => exact h0
  | cons a l ih => rw [List.reverse_cons]; exact h1 _ _ ih
 have := this l.reverse
 rwa [List.reverse_reverse] at this
def prods (n : Nat) (l : List (List Int)) : List (List Int) := l.foldl (fun out a => out ++ out.map (cmp a)) [unit n]
theorem prods_nil (n : Nat) : prods n [] = [unit n] := rfl
theorem prods_snoc (n : Nat) (l : List (List Int)) (a : List Int) : prods n (l ++ [a]) = prods n l ++ (prods n l).map (cmp a) := by simp [prods]
theorem prods_len (n : Nat) (l : List (List Int)) : (prods n l).length = 2 ^ l.length := by
 induction l using snoc_ind with
 | h0 => rfl
 | h1 l a ih => rw [prods_snoc, List.length_append, List.length_map, ih, List.length_append, List.length_singleton, Nat.pow_succ]; omega
theorem prods_zero (n : Nat) (l : List (List Int)) : (prods n l)[0]? = some (unit n) := by
 induction l using snoc_ind with
 | h0 => rfl
 | h1 l a ih => rw [prods_snoc, List.getElem?_append_left (by rw [prods_len]; exact Nat.pow_pos (by omega)), ih]
theorem prods_at (n : Nat) (l : List (List Int)) (hl : ∀ a ∈ l, Perm n a) : ∀ t (h : t < l.length), (prods n l)[2 ^ t]? = some l[t] := by
 induction l using snoc_ind with
 | h0 => intro t h; simp at h
 | h1 l a ih =>
   intro t h
   rw [List.length_append, List.length_singleton] at h
   rw [prods_snoc]
   by_cases ht : t < l.length
   ·rw [List.getElem?_append_left (by rw [prods_len]; exact Nat.pow_lt_pow_right (by omega) ht), ih (fun a ha => hl a (List.mem_append_left _ ha)) t ht, List.getElem_append_left ht]
   ·obtain rfl : t = l.length := by omega
    rw [List.getElem?_append_right (by rw [prods_len]; omega), prods_len, Nat.sub_self, List.getElem?_map, prods_zero]
    simp only [Option.map_some, Option.some.injEq]
    rw [cmp_unit (hl a (by simp)).1]
    simp
/-- Involutions that commute. -/
structure Sub (n : Nat) (l : List (List Int)) : Prop where
  perm : ∀ a ∈ l, Perm n a
  inv : ∀ a ∈ l, cmp a a = unit n
  com : ∀ a ∈ l, ∀ b ∈ l, cmp a b = cmp b a
theorem Sub.nil (n : Nat) : Sub n [] := ⟨fun _ h => by simp at h, fun _ h => by simp at h, fun _ h => by simp at h⟩
theorem Sub.snoc {n : Nat} {l : List (List Int)} {a : List Int} (h : Sub n l) (ha : Perm n a) (hi : cmp a a = unit n) (hc : ∀ b ∈ l, cmp a b = cmp b a) : Sub n (l ++ [a]) := by
 refine ⟨fun x hx => ?_, fun x hx => ?_, fun x hx y hy => ?_⟩
 ·rcases List.mem_append.1 hx with hx | hx
  ·exact h.perm x hx
  ·rw [List.mem_singleton.1 hx]; exact ha
 ·rcases List.mem_append.1 hx with hx | hx
  ·exact h.inv x hx
  ·rw [List.mem_singleton.1 hx]; exact hi
 ·rcases List.mem_append.1 hx with hx | hx
  ·rcases List.mem_append.1 hy with hy | hy
   ·exact h.com x hx y hy
   ·rw [List.mem_singleton.1 hy]; exact (hc x hx).symm
  ·rw [List.mem_singleton.1 hx]
   rcases List.mem_append.1 hy with hy | hy
   ·exact hc y hy
   ·rw [List.mem_singleton.1 hy]
theorem Sub.init {n : Nat} {l : List (List Int)} {a : List Int} (h : Sub n (l ++ [a])) : Sub n l :=
  ⟨fun x hx => h.perm x (List.mem_append_left _ hx), fun x hx => h.inv x (List.mem_append_left _ hx), fun x hx y hy => h.com x (List.mem_append_left _ hx) y (List.mem_append_left _ hy)⟩
theorem prods_perm {n : Nat} {l : List (List Int)} (hl : ∀ a ∈ l, Perm n a) : ∀ p ∈ prods n l, Perm n p := by
 induction l using snoc_ind with
 | h0 => intro p hp; rw [prods_nil, List.mem_singleton] at hp; rw [hp]; exact unit_perm n
 | h1 l a ih =>
   intro p hp
   have ih := ih (fun a ha => hl a (List.mem_append_left _ ha))
   rw [prods_snoc] at hp
   rcases List.mem_append.1 hp with hp | hp
   ·exact ih p hp
   ·obtain ⟨q, hq, rfl⟩ := List.mem_map.1 hp
    exact cmp_perm (hl a (by simp)) (ih q hq)
theorem prods_com {n : Nat} {l : List (List Int)} (hl : ∀ a ∈ l, Perm n a) {x : List Int} (hx : Perm n x) (hc : ∀ a ∈ l, cmp x a = cmp a x) : ∀ p ∈ prods n l, cmp x p = cmp p x := by
 induction l using snoc_ind with
 | h0 => intro p hp; rw [prods_nil, List.mem_singleton] at hp; rw [hp, unit_cmp hx, cmp_unit hx.1]
 | h1 l a ih =>
   intro p hp
   have hl' : ∀ a ∈ l, Perm n a := fun a ha => hl a (List.mem_append_left _ ha)
   have ih := ih hl' (fun a ha => hc a (List.mem_append_left _ ha))
   have ha := hl a (by simp)
   rw [prods_snoc] at hp
   rcases List.mem_append.1 hp with hp | hp
   ·exact ih p hp
   ·obtain ⟨q, hq, rfl⟩ := List.mem_map.1 hp
    have hq' := prods_perm hl' q hq
    rw [← cmp_assoc ha.1 hq', hc a (by simp), cmp_assoc hx.1 hq', ih q hq, ← cmp_assoc hq'.1 hx]
theorem Sub.mul {n : Nat} {l : List (List Int)} (h : Sub n l) : ∀ p ∈ prods n l, ∀ q ∈ prods n l, cmp p q ∈ prods n l := by
 induction l using snoc_ind with
 | h0 =>
   intro p hp q hq
   rw [prods_nil, List.mem_singleton] at hp hq
   rw [hp, hq, unit_cmp (unit_perm n), prods_nil]; simp
 | h1 l a ih =>
   have ih := ih h.init
   have ha := h.perm a (by simp)
   have hi := h.inv a (by simp)
   have hP := prods_perm h.init.perm
   have hC := prods_com h.init.perm ha (fun b hb => h.com a (by simp) b (List.mem_append_left _ hb))
   intro p hp q hq
   rw [prods_snoc] at hp hq ⊢
   rcases List.mem_append.1 hp with hp | hp
   ·rcases List.mem_append.1 hq with hq | hq
    ·exact List.mem_append_left _ (ih p hp q hq)
    ·obtain ⟨r, hr, rfl⟩ := List.mem_map.1 hq
     refine List.mem_append_right _ (List.mem_map.2 ⟨cmp p r, ih p hp r hr, ?_⟩)
     rw [← cmp_assoc (hP p hp).1 (hP r hr), hC p hp, cmp_assoc ha.1 (hP r hr)]
   ·obtain ⟨s, hs, rfl⟩ := List.mem_map.1 hp
    rcases List.mem_append.1 hq with hq | hq
    ·refine List.mem_append_right _ (List.mem_map.2 ⟨cmp s q, ih s hs q hq, ?_⟩)
     rw [cmp_assoc (hP s hs).1 (hP q hq)]
    ·obtain ⟨r, hr, rfl⟩ := List.mem_map.1 hq
     refine List.mem_append_left _ ?_
     have e : cmp (cmp a s) (cmp a r) = cmp s r := by
      rw [hC s hs, cmp_assoc ha.1 (cmp_perm ha (hP r hr)), ← cmp_assoc (b := a) ha.1 (hP r hr), hi, unit_cmp (hP r hr)]
     rw [e]
     exact ih s hs r hr
theorem Sub.unit_mem (n : Nat) (l : List (List Int)) : unit n ∈ prods n l := List.mem_of_getElem? (prods_zero n l)
/-- One involution more: the products stay different just where it is none of them. -/
theorem Sub.nodup_snoc {n : Nat} {l : List (List Int)} {a : List Int} (h : Sub n l) (hn : (prods n l).Nodup) (ha : Perm n a) (hi : cmp a a = unit n) : (prods n (l ++ [a])).Nodup ↔ a ∉ prods n l := by
 have hP := prods_perm h.perm
 rw [prods_snoc]
 constructor
 ·intro hnd hm
  have := (List.nodup_append.1 hnd).2.2 a hm a (List.mem_map.2 ⟨unit n, Sub.unit_mem n l, cmp_unit ha.1⟩)
  exact this rfl
 ·intro hm
  refine List.nodup_append.2 ⟨hn, List.pairwise_map.2 (hn.imp_of_mem fun {x y} hx hy hne e => hne (cmp_inj ha (hP x hx) (hP y hy) e)), fun x hx y hy e => ?_⟩
  subst e
  obtain ⟨q, hq, he⟩ := List.mem_map.1 hy
  -- a q = x: a = x q
  apply hm
  have h1 : cmp (cmp a q) q = cmp x q := by rw [he]
  have hqq : cmp q q = unit n := by
   have hself : ∀ (l : List (List Int)), Sub n l → ∀ p ∈ prods n l, cmp p p = unit n := fun l => by
    induction l using snoc_ind with
    | h0 => intro _ p hp; rw [prods_nil, List.mem_singleton] at hp; rw [hp, unit_cmp (unit_perm n)]
    | h1 l b ih =>
      intro h p hp
      have hb := h.perm b (by simp)
      rw [prods_snoc] at hp
      rcases List.mem_append.1 hp with hp | hp
      ·exact ih h.init p hp
      ·obtain ⟨r, hr, rfl⟩ := List.mem_map.1 hp
       have hr' := prods_perm h.init.perm r hr
       have hC := prods_com h.init.perm hb (fun c hc => h.com b (by simp) c (List.mem_append_left _ hc)) r hr
       rw [cmp_assoc hr'.1 (cmp_perm hb hr'), hC, ← cmp_assoc (b := r) hr'.1 hb, ih h.init r hr, unit_cmp hb, h.inv b (by simp)]
   exact hself l h q hq
  rw [cmp_assoc (hP q hq).1 (hP q hq), hqq, cmp_unit ha.1] at h1
  rw [h1]
  exact h.mul x hx q hq
/-- What both sides ask of one involution more. -/
theorem Sub.step {n : Nat} {l : List (List Int)} {a : List Int} (h : Sub n l) (hn : (prods n l).Nodup) (ha : Perm n a) (hi : cmp a a = unit n) (hb : (prods n (l ++ [a])).Nodup → (∀ b ∈ l, cmp a b = cmp b a) → l.length + 1 ≤ n) :
    (a ∉ prods n l ∧ ∀ b ∈ l, cmp a b = cmp b a) ↔ ((∀ i k, ∀ (h1 : i < (l ++ [a]).length) (h2 : k < i), cmp (l ++ [a])[i] (l ++ [a])[k] = cmp (l ++ [a])[k] (l ++ [a])[i]) ∧ (l ++ [a]).length ≤ n ∧ (prods n (l ++ [a])).Nodup) := by
  have hND := h.nodup_snoc hn ha hi
  constructor
  ·rintro ⟨h1, h2⟩
   have h3 := hND.2 h1
   refine ⟨fun i k hi' hk => ?_, by rw [List.length_append, List.length_singleton]; exact hb h3 h2, h3⟩
   have hS := h.snoc ha hi h2
   exact hS.com _ (List.getElem_mem _) _ (List.getElem_mem _)
  ·rintro ⟨h1, _, h3⟩
   refine ⟨hND.1 h3, fun b hb' => ?_⟩
   obtain ⟨k, hk, rfl⟩ := List.getElem_of_mem hb'
   have := h1 l.length k (by simp) hk
   rw [List.getElem_append_left hk] at this
   simpa using this
end Go.Pm
end
