/- Parts of the proof: XD2, XD3, XD4, LC1, LC2. -/
import Derived.Test.YticpnfjdooileaaGreatDoorMCPA6
import Derived.Test.YticpnfjdooileaaGreatDoorMCPA7
import Derived.Test.YticpnfjdooileaaGreatDoorMCPA13
import Derived.Test.YticpnfjdooileaaGreatDoorMCPA19
section
/- Memory of the reference's classes: keys that stay and classes that grow, all apart. -/
namespace Go.Proofs.Tg
open Go.RowKit
structure KInv (base : Nat) (KA : Option Addr) (kc : Nat) (K : List (List Int)) (kval : Nat → Value) (C : Option Addr) (cc : Nat) (Cl : List (List Nat)) (val : Nat → Value) (w : World) : Prop where
  fam : Fam base C cc Cl val w
  krow : w.ownsRow base 33 1 (.slice KA K.length kc) K.length ((List.range K.length).map kval)
  kown : ∀ j, j < K.length → w.ownsRow base 3 1 (kval j) (K.getD j []).length ((K.getD j []).map vi)
  ksep : ∀ i j, i < K.length → j < Cl.length → (kval i).ownBlock = none ∨ (kval i).ownBlock ≠ (val j).ownBlock
  rsep : (Value.slice KA K.length kc).ownBlock = none ∨ (Value.slice KA K.length kc).ownBlock ≠ (Value.slice C Cl.length cc).ownBlock
theorem KInv.nil (base : Nat) (w : World) : KInv base none 0 [] (fun _ => .slice none 0 0) none 0 [] (fun _ => .slice none 0 0) w :=
  ⟨Fam.nil _ _, World.ownsRow_nil _ _ _ _, fun j h => absurd h (by simp), fun i j h => absurd h (by simp), .inl rfl⟩
theorem KInv.keep {base : Nat} {KA : Option Addr} {kc : Nat} {K : List (List Int)} {kval : Nat → Value} {C : Option Addr} {cc : Nat} {Cl : List (List Nat)} {val : Nat → Value} {w w' : World} (h : KInv base KA kc K kval C cc Cl val w) (hb : Below w.heap.size w w') : KInv base KA kc K kval C cc Cl val w' :=
  ⟨h.fam.keep hb, own_below h.krow hb (Nat.le_refl _), fun j hj => own_below (h.kown j hj) hb (Nat.le_refl _), h.ksep, h.rsep⟩
theorem KInv.alloc {base : Nat} {KA : Option Addr} {kc : Nat} {K : List (List Int)} {kval : Nat → Value} {C : Option Addr} {cc : Nat} {Cl : List (List Nat)} {val : Nat → Value} {w : World} (h : KInv base KA kc K kval C cc Cl val w) (o : Obj) : KInv base KA kc K kval C cc Cl val (w.alloc o) :=
  h.keep ((Below.refl _ _).alloc (Nat.le_refl _) o)
theorem ne_symm' {a b : Option Nat} (h : a = none ∨ a ≠ b) : b = none ∨ b ≠ a := by
  cases b with
  | none => exact .inl rfl
  | some x =>
    right
    rcases h with h | h
    · rw [h]; simp
    · exact fun e => h e.symm
theorem KInv.pushKey {base : Nat} {KA KA' : Option Addr} {kc kc' : Nat} {K : List (List Int)} {kval : Nat → Value} {C : Option Addr} {cc : Nat} {Cl : List (List Nat)} {val : Nat → Value} {w w' : World} {q : List Int} {kv : Value} (h : KInv base KA kc K kval C cc Cl val w)
    (hq : w.ownsRow base 3 1 kv q.length (q.map vi)) (hqs : ∀ j, j < Cl.length → kv.ownBlock = none ∨ kv.ownBlock ≠ (val j).ownBlock)
    (hr : w'.ownsRow base 33 1 (.slice KA' (K.length + 1) kc') (K.length + 1) ((List.range K.length).map kval ++ [kv])) (hg : w.grownBy w' (Value.slice KA K.length kc).ownBlock)
    (hat : (Value.slice KA' (K.length + 1) kc').ownBlock = (Value.slice KA K.length kc).ownBlock ∨ (Value.slice KA' (K.length + 1) kc').ownBlock = some w.heap.size) :
    KInv base KA' kc' (K ++ [q]) (fun j => if j = K.length then kv else kval j) C cc Cl val w' := by
  have hlen : (K ++ [q]).length = K.length + 1 := by simp
  have hgd : ∀ j, j < K.length + 1 → (K ++ [q]).getD j [] = if j = K.length then q else K.getD j [] := by
    intro j hj
    by_cases e : j = K.length
    · subst e; simp
    · rw [if_neg e]
      simp only [List.getD_eq_getElem?_getD, List.getElem?_append_left (show j < K.length by omega)]
  refine ⟨h.fam.other hg (ne_symm' h.rsep) (fun j hj => own_ne (h.fam.own j hj) h.krow (by decide)), ?_, fun j hj => ?_, fun i j hi hj => ?_, ?_⟩
  · rw [hlen]
    have e : (List.range (K.length + 1)).map (fun j => if j = K.length then kv else kval j) = (List.range K.length).map kval ++ [kv] := by
      rw [List.range_succ, List.map_append]
      congr 1
      · refine List.map_congr_left fun j hj => ?_
        have := List.mem_range.1 hj
        rw [if_neg (by omega)]
      · simp
    rw [e]; exact hr
  · rw [hlen] at hj
    rw [hgd j hj]
    by_cases e : j = K.length
    · rw [if_pos e, if_pos e]
      exact hq.kept hg (own_ne hq h.krow (by decide))
    · rw [if_neg e, if_neg e]
      exact (h.kown j (by omega)).kept hg (own_ne (h.kown j (by omega)) h.krow (by decide))
  · rw [hlen] at hi
    by_cases e : i = K.length
    · rw [if_pos e]; exact hqs j hj
    · rw [if_neg e]; exact h.ksep i j (by omega) hj
  · rw [hlen]
    rcases hat with hx | hx
    · rw [hx]; exact h.rsep
    · right
      rw [hx]
      intro e
      have := (h.fam.row.lt _ e.symm).2
      omega
theorem KInv.pushCls {base : Nat} {KA : Option Addr} {kc : Nat} {K : List (List Int)} {kval : Nat → Value} {C C' : Option Addr} {cc cc' : Nat} {Cl : List (List Nat)} {val : Nat → Value} {w w' : World} (h : KInv base KA kc K kval C cc Cl val w)
    (hr : w'.ownsRow base 33 1 (.slice C' (Cl.length + 1) cc') (Cl.length + 1) ((List.range Cl.length).map val ++ [.slice none 0 0])) (hg : w.grownBy w' (Value.slice C Cl.length cc).ownBlock)
    (hat : (Value.slice C' (Cl.length + 1) cc').ownBlock = (Value.slice C Cl.length cc).ownBlock ∨ (Value.slice C' (Cl.length + 1) cc').ownBlock = some w.heap.size) :
    KInv base KA kc K kval C' cc' (Cl ++ [[]]) (fun j => if j = Cl.length then .slice none 0 0 else val j) w' := by
  have hlen : (Cl ++ [([] : List Nat)]).length = Cl.length + 1 := by simp
  refine ⟨h.fam.push hr hg, h.krow.kept hg h.rsep, fun j hj => (h.kown j hj).kept hg (own_ne (h.kown j hj) h.fam.row (by decide)), fun i j hi hj => ?_, ?_⟩
  · rw [hlen] at hj
    by_cases e : j = Cl.length
    · rw [if_pos e]
      cases hb : (kval i).ownBlock with
      | none => exact .inl rfl
      | some g => exact .inr (by simp [Value.ownBlock])
    · rw [if_neg e]; exact h.ksep i j hi (by omega)
  · rw [hlen]
    rcases hat with hx | hx
    · rw [hx]; exact h.rsep
    · cases hb : (Value.slice KA K.length kc).ownBlock with
      | none => exact .inl rfl
      | some z =>
        right
        rw [hx]
        intro e
        injection e with e
        have := (h.krow.lt z hb).2
        omega
theorem KInv.add {base : Nat} {KA : Option Addr} {kc : Nat} {K : List (List Int)} {kval : Nat → Value} {g : Nat} {cc : Nat} {Cl : List (List Nat)} {val : Nat → Value} {w w' : World} {k i : Nat} {v' : Value} (h : KInv base KA kc K kval (some ⟨g, 0, none⟩) cc Cl val w) (hk : k < Cl.length)
    (hr : w'.ownsRow base 3 1 v' ((Cl.getD k []).length + 1) ((Cl.getD k []).map vn ++ [vn i])) (hg : w.grownBy w' (val k).ownBlock) (hat : v'.ownBlock = (val k).ownBlock ∨ v'.ownBlock = some w.heap.size) :
    KInv base KA kc K kval (some ⟨g, 0, none⟩) cc (Cl.set k (Cl.getD k [] ++ [i])) (fun j => if j = k then v' else val j) (w'.setCell ⟨g, k, none⟩ v') := by
  have hlen : (Cl.set k (Cl.getD k [] ++ [i])).length = Cl.length := by simp
  have hrow' := h.fam.row.kept hg (own_ne h.fam.row (h.fam.own k hk) (by decide))
  have hst := hrow'.stored k v'
  have hkr := h.krow.kept hg (own_ne h.krow (h.fam.own k hk) (by decide))
  refine ⟨h.fam.add hk hr hg hat, ?_, fun j hj => ?_, fun a b ha hb => ?_, ?_⟩
  · exact hkr.kept hst.2 (by
      rcases h.rsep with e | e
      · exact .inl e
      · exact .inr (by simpa [Value.ownBlock] using e))
  · have h1 := (h.kown j hj).kept hg (h.ksep j k hj hk)
    exact h1.kept hst.2 (own_ne h1 hrow' (by decide))
  · rw [hlen] at hb
    by_cases e : b = k
    · rw [if_pos e]
      rcases hat with hx | hx
      · rw [hx]; exact h.ksep a k ha hk
      · cases hbk : (kval a).ownBlock with
        | none => exact .inl rfl
        | some z =>
          right
          rw [hx]
          intro e2
          injection e2 with e2
          have := ((h.kown a ha).lt z hbk).2
          omega
    · rw [if_neg e]; exact h.ksep a b ha hb
  · rw [hlen]; exact h.rsep
end Go.Proofs.Tg
end
section
/- Walks of the reference: values, sets, classes. -/
namespace Go.Proofs.Tg
open Go.RowKit Go.Gr Go.Ev Go.Mo
set_option maxHeartbeats 4000000
set_option maxRecDepth 100000
def RetRow (l : List Int) (w : World) (e : Ending) (w' : World) : Prop :=
  ∃ A c, e = .returned (.slice A l.length c) ∧ w'.ownsRow w.heap.size 3 1 (.slice A l.length c) l.length (l.map vi) ∧ Below w.heap.size w w'
theorem seq_any (A B : Option Addr) (xs ys : List Int) (c d : Nat) (w : World) (hx : Ints w A xs) (hy : Ints w B ys) (hn : xs.length ≤ 1000000) (b : Bool) (hbb : decide (xs = ys) = b) :
    Calls Tryz.prog 38 #[.slice A xs.length c, .slice B ys.length d] w fun e w' => e = .returned (.bool b) ∧ Dr w w' := by
  rw [← hbb]
  clear hbb
  by_cases hl : xs.length = ys.length
  · have hb : ((xs.length : Int) != (ys.length : Int)) = false := by simp [hl]
    have HL := Lib.hid hl; clear hl
    go_enter Tryz.func38, Tryz.ntmps38
    go_wp2
    go_loopw [13] (fun i wr => ∃ k : Nat, k ≤ xs.length ∧ i = .int .i64 k ∧ Hid (xs.take k = ys.take k) ∧ Dr w wr) (fun i _ => xs.length - (intOf i).toNat)
    case atStart => exact ⟨0, Nat.zero_le _, rfl, Lib.hid (by simp), Dr.refl _⟩
    case round =>
      obtain ⟨k, hk, rfl, HT, hbw⟩ := hrel
      by_cases hlt : k < xs.length
      · have hky : k < ys.length := by have := HL.out; omega
        obtain ⟨ad, rfl, hc⟩ := Ints.at (hx.keep hbw.below) hlt
        obtain ⟨bd, rfl, hd⟩ := Ints.at (hy.keep hbw.below) hky
        have HX : Hid (xs.take (k + 1) = xs.take k ++ [xs[k]]) := Lib.hid (List.take_succ_eq_append_getElem hlt)
        have HY : Hid (ys.take (k + 1) = ys.take k ++ [ys[k]]) := Lib.hid (List.take_succ_eq_append_getElem hky)
        have HNE : Hid (xs = ys → xs[k] = ys[k]) := Lib.hid (fun e => by subst e; rfl)
        have i1 : (0 : Int) ≤ (k : Int) := by omega
        have i2 : (k : Int) < (xs.length : Int) := by omega
        have i3 : (k : Int) < (ys.length : Int) := by omega
        have i4 : ((k : Int)).toNat = k := by omega
        clear hx hy
        generalize xs[k] = x at hc HX HNE
        generalize ys[k] = y at hd HY HNE
        by_cases heq : x = y
        · have hbb : (x != y) = false := by simp [heq]
          have HE := Lib.hid heq; clear heq
          go_wp2
          go_quiet (fail)
          go_wp2
          go_roundw
          case rel => exact ⟨k + 1, by omega, by go_num, Lib.hid (by rw [HX.out, HY.out, HT.out, HE.out]), hbw.drewN _⟩
          case measure => simp [intOf]; omega
        · have hbb : (x != y) = true := by simp [heq]
          have HF : Hid (decide (xs = ys) = false) := Lib.hid (decide_eq_false (fun e => heq (HNE.out e)))
          clear heq
          go_wp2
          go_quiet (fail)
          go_wp2
          go_ret
          exact ⟨by rw [HF.out]; rfl, hbw.drewN _⟩
      · have HF : Hid (decide (xs = ys) = true) := Lib.hid (decide_eq_true (by
          have := HT.out
          rwa [List.take_of_length_le (by omega), List.take_of_length_le (by have := HL.out; omega)] at this))
        go_wp2
        go_ret
        exact ⟨by rw [HF.out]; rfl, hbw⟩
  · have hb : ((xs.length : Int) != (ys.length : Int)) = true := by simp; omega
    have HF : Hid (decide (xs = ys) = false) := Lib.hid (decide_eq_false (fun e => hl (by rw [e])))
    clear hl
    go_enter Tryz.func38, Tryz.ntmps38
    go_wp2
    go_ret
    exact ⟨by rw [HF.out]; rfl, Dr.refl _⟩
end Go.Proofs.Tg
end
section
/- Walks of the reference: sets of monomials with equal characters. -/
namespace Go.Proofs.Tg
open Go.RowKit Go.Gr Go.Ev Go.Mo
set_option maxHeartbeats 4000000
set_option maxRecDepth 100000
theorem idx_first : ∀ (K : List (List Int)) (q : List Int) (k : Nat) (hk : k < K.length), (∀ j, j < k → K.getD j [] ≠ q) → K[k] = q → K.idxOf q = k
  | x :: K, q, 0, _, _, h2 => by
    have : x = q := h2
    subst this
    exact List.idxOf_cons_self
  | x :: K, q, k + 1, hk, h1, h2 => by
    have hx : x ≠ q := h1 0 (by omega)
    rw [List.idxOf_cons]
    have hb : (x == q) = false := by simpa using hx
    rw [hb]
    simp only [cond_false]
    rw [idx_first K q k (by simpa using hk) (fun j hj => by simpa using h1 (j + 1) (by omega)) (by simpa using h2)]
theorem clsSt_all {P : List Int → Prop} {ks : List (List Int)} (h : ∀ k ∈ ks, P k) : ∀ i, i ≤ ks.length → ∀ k ∈ (clsSt ks i).1, P k
  | 0, _, k, hk => by simp [clsSt] at hk
  | i + 1, hi, k, hk => by
    have ih := clsSt_all h i (by omega)
    by_cases hc : (clsSt ks i).1.idxOf (ks.getD i []) < (clsSt ks i).1.length
    · rw [clsSt_old hc] at hk; exact ih k hk
    · rw [clsSt_new hc] at hk
      rcases List.mem_append.1 hk with h2 | h2
      · exact ih k h2
      · simp only [List.mem_cons, List.not_mem_nil, or_false] at h2
        subst h2
        have hi' : i < ks.length := by omega
        rw [List.getD_eq_getElem?_getD, List.getElem?_eq_getElem hi', Option.getD_some]
        exact h _ (List.getElem_mem _)
theorem not_mem_getD {K : List (List Int)} {q : List Int} (h : ∀ j, j < K.length → K.getD j [] ≠ q) : q ∉ K := by
  intro hm
  obtain ⟨j, hj, e⟩ := List.mem_iff_getElem.1 hm
  exact h j hj (by rw [List.getD_eq_getElem?_getD, List.getElem?_eq_getElem hj, Option.getD_some]; exact e)
end Go.Proofs.Tg
end
section
/- Walks: classes with their errors, of the program and of the reference. -/
namespace Go.Proofs.Tg
open Go.RowKit Go.Gr Go.Ev Go.Mo
set_option maxHeartbeats 4000000
set_option maxRecDepth 100000
def clsL (s b : List (List Int)) : List (List Int) := if chk s b = 0 ∧ b.length ≤ 64 then (clsSt (b.map (chr s)) b.length).2.map toI else []
def clsE (s b : List (List Int)) : Int := if chk s b = 0 then (if b.length ≤ 64 then 0 else 2) else chk s b
theorem classes_any (S B : Option Addr) (cs cb : Nat) (s b : List (List Int)) (w : World) (hS : Lists w S s) (hB : Lists w B b) (hs : s.length ≤ 1000) (hb : b.length ≤ 1000) (hs2 : ∀ v ∈ s, v.length ≤ 1000) (hb2 : ∀ v ∈ b, v.length ≤ 1000) :
    Calls Tryz.prog 15 #[.slice S s.length cs, .slice B b.length cb] w (RetCls (clsL s b) (clsE s b) w) := by
  by_cases hz : chk s b = 0
  · by_cases h64 : b.length ≤ 64
    · have e1 : clsL s b = (clsSt (b.map (chr s)) b.length).2.map toI := if_pos ⟨hz, h64⟩
      have e2 : clsE s b = 0 := by unfold clsE; rw [if_pos hz, if_pos h64]
      rw [e1, e2]
      exact cls_main S B cs cb s b w hS hB hs h64 hs2 hz
    · have e1 : clsL s b = [] := if_neg (fun h => h64 h.2)
      have e2 : clsE s b = 2 := by unfold clsE; rw [if_pos hz, if_neg h64]
      rw [e1, e2]
      have HC := Lib.hid (check_any S B cs cb s b w hS hB hs hb hs2 hb2)
      rw [hz] at HC
      have hd : decide ((64 : Int) < (b.length : Int)) = true := by simp; omega
      clear e1 e2 hz
      go_enter Tryz.func15, Tryz.ntmps15
      go_wp2_with (go_at_call 34; refine HC.out.mono ?_; rintro e w' ⟨rfl, rfl⟩)
      go_ret2
      exact ⟨none, 0, rfl, ⟨fun _ => (none, 0), Sl.nil _ _ _, fun i hi => by simp at hi⟩, Below.refl _ _⟩
  · have e1 : clsL s b = [] := if_neg (fun h => hz h.1)
    have e2 : clsE s b = chk s b := if_neg hz
    rw [e1, e2]
    have HC := Lib.hid (check_any S B cs cb s b w hS hB hs hb hs2 hb2)
    have hzb : (chk s b != 0) = true := by simp [hz]
    clear e1 e2 hz
    generalize chk s b = z at *
    go_enter Tryz.func15, Tryz.ntmps15
    go_wp2_with (go_at_call 34; refine HC.out.mono ?_; rintro e w' ⟨rfl, rfl⟩)
    go_ret2
    exact ⟨none, 0, rfl, ⟨fun _ => (none, 0), Sl.nil _ _ _, fun i hi => by simp at hi⟩, Below.refl _ _⟩
end Go.Proofs.Tg
end
section
/- The sanity check of the statements on parity. -/
namespace Go.Proofs.Tg
open Go.RowKit Go.Gr Go.Ev Go.Mo Go.Qn
set_option maxHeartbeats 4000000
set_option maxRecDepth 100000
theorem sl_blk {w : World} {g n sz : Nat} {t : TypeId} {xs : List Value} (h : Blk w g t xs.toArray) (hl : xs.length = n * sz) : Sl w (some ⟨g, 0, none⟩) n sz xs :=
  ⟨hl, fun _ => ⟨_, rfl, h.lt, fun j u hu => by rw [add_lit, Nat.zero_add, h.cell j, List.getElem?_toArray]; exact hu⟩⟩
def one49 : ByteArray := ⟨#[49]⟩
theorem rd_one : rd [49] = some (false, 1, 1) := by decide
theorem coef_one : coefOk one49 = true := by
  unfold coefOk
  have e : one49.data.toList = [49] := rfl
  rw [e, rd_one]; rfl
def aw0 (g0 g1 g2 : Nat) : PVal := ⟨2, some ⟨g2, 0, none⟩, 2, [⟨one49, some ⟨g0, 0, none⟩, 2, [2, 0]⟩, ⟨one49, some ⟨g1, 0, none⟩, 2, [1, 1]⟩]⟩
theorem aw_ok (g0 g1 g2 : Nat) : (aw0 g0 g1 g2).ok := by
  refine ⟨by simp [aw0], ⟨by simp [aw0], by simp [aw0], ?_⟩, fun _ => (show vldM [2, 0] = true by decide)⟩
  intro i hi hl
  have h2 : i < 2 := hi
  have t1 : termOk 2 (one49, [2, 0]) = true := by rw [termOk_iff]; exact ⟨coef_one, rfl, by decide⟩
  have t2 : termOk 2 (one49, [1, 1]) = true := by rw [termOk_iff]; exact ⟨coef_one, rfl, by decide⟩
  have : i = 0 ∨ i = 1 := by omega
  rcases this with rfl | rfl
  · exact ⟨t1, fun h => absurd h (by omega)⟩
  · exact ⟨t2, fun _ => (show 0 < ord [2, 0] [1, 1] by decide)⟩
theorem aw_kern : (kern (keepB [[2, 0], [1, 1]] 2) 2 (2 ^ 2 - 1)).map (unp · 2) = [[1, 1]] := by decide +kernel
theorem aw_signs (W : World) (g0 g1 g2 g3 : Nat) (b0 : Blk W g0 3 #[.int .i64 2, .int .i64 0]) (b1 : Blk W g1 3 #[.int .i64 1, .int .i64 1])
    (b2 : Blk W g2 54 #[.string ⟨#[49]⟩, .slice (some ⟨g0, 0, none⟩) 2 2, .string ⟨#[49]⟩, .slice (some ⟨g1, 0, none⟩) 2 2]) (b3 : Blk W g3 36 #[.int .i64 2, .slice (some ⟨g2, 0, none⟩) 2 2]) (hT : Tab W) :
    Calls Tryz.prog 10 #[.slice (some ⟨g3, 0, none⟩) 1 1] W fun e w' => ∃ A c, e = .returned (.tuple #[.slice A 1 c, .int .i64 0]) ∧ Lists w' A [[1, 1]] ∧ Below W.heap.size W w' := by
  have hP : PolysAt W (some ⟨g3, 0, none⟩) [aw0 g0 g1 g2] := by
    refine ⟨sl_blk b3 rfl, fun p hp => ?_⟩
    simp only [List.mem_cons, List.not_mem_nil, or_false] at hp
    subst hp
    refine ⟨sl_blk b2 rfl, fun t ht => ?_⟩
    simp only [aw0, List.mem_cons, List.not_mem_nil, or_false] at ht
    rcases ht with rfl | rfl
    · exact sl_blk b0 rfl
    · exact sl_blk b1 rfl
  refine (signs_any (some ⟨g3, 0, none⟩) 1 [aw0 g0 g1 g2] W hP (by simp) ?_ hT).mono ?_
  · intro p hp
    simp only [List.mem_cons, List.not_mem_nil, or_false] at hp
    subst hp
    refine ⟨by simp [aw0], fun t ht => ?_⟩
    simp only [aw0, List.mem_cons, List.not_mem_nil, or_false] at ht
    rcases ht with rfl | rfl <;> exact ⟨(show one49.size ≤ 19 by decide), (show 2 ≤ 64 by decide)⟩
  · rintro e w' ⟨hb, h | h | h⟩
    · exact absurd (fun p hp => by simp only [List.mem_cons, List.not_mem_nil, or_false] at hp; subst hp; exact aw_ok g0 g1 g2) h.1
    · exfalso
      rcases h.2.1 with h1 | ⟨p, hp, hne⟩
      · cases h1
      · simp only [List.mem_cons, List.not_mem_nil, or_false] at hp
        subst hp
        exact hne rfl
    · obtain ⟨_, n, hn, _, hvn, A, c, us, r, q, hE, _, he, hL⟩ := h
      have hn2 : n = 2 := by
        have := hvn (aw0 g0 g1 g2) (by simp)
        have e2 : (aw0 g0 g1 g2).vars = 2 := rfl
        omega
      subst hn2
      have hrow : rowsOf [aw0 g0 g1 g2] = [[2, 0], [1, 1]] := rfl
      rw [hrow] at hE
      rw [rows_keep hE, aw_kern] at he hL
      exact ⟨A, c, he, hL, hb⟩
theorem aw_cls : clsL [[1, 1]] [[0, 0], [0, 1], [1, 0]] = [[0], [1, 2]] ∧ clsE [[1, 1]] [[0, 0], [0, 1], [1, 0]] = 0 := by
  have h0 : chk [[1, 1]] [[0, 0], [0, 1], [1, 0]] = 0 := by decide
  refine ⟨?_, ?_⟩
  · unfold clsL
    rw [if_pos ⟨h0, by decide⟩]
    decide +kernel
  · unfold clsE
    rw [if_pos h0]; rfl
theorem lists1 {W : World} {g0 g : Nat} {x y : Int} (b0 : Blk W g0 3 #[.int .i64 x, .int .i64 y]) (b : Blk W g 33 #[.slice (some ⟨g0, 0, none⟩) 2 2]) : Lists W (some ⟨g, 0, none⟩) [[x, y]] :=
  ⟨fun _ => (some ⟨g0, 0, none⟩, 2), sl_blk b rfl, fun i hi => by
    have : i = 0 := by simpa using hi
    subst this
    exact sl_blk b0 rfl⟩
theorem aw_classes (W : World) (g0 g1 g2 g3 g4 g5 : Nat) (b0 : Blk W g0 3 #[.int .i64 1, .int .i64 1]) (b1 : Blk W g1 33 #[.slice (some ⟨g0, 0, none⟩) 2 2])
    (b2 : Blk W g2 3 #[.int .i64 0, .int .i64 0]) (b3 : Blk W g3 3 #[.int .i64 0, .int .i64 1]) (b4 : Blk W g4 3 #[.int .i64 1, .int .i64 0])
    (b5 : Blk W g5 33 #[.slice (some ⟨g2, 0, none⟩) 2 2, .slice (some ⟨g3, 0, none⟩) 2 2, .slice (some ⟨g4, 0, none⟩) 2 2]) :
    Calls Tryz.prog 15 #[.slice (some ⟨g1, 0, none⟩) 1 1, .slice (some ⟨g5, 0, none⟩) 3 3] W fun e w' => ∃ A c, e = .returned (.tuple #[.slice A 2 c, .int .i64 0]) ∧ Lists w' A [[0], [1, 2]] ∧ Below W.heap.size W w' := by
  have hL : Lists W (some ⟨g5, 0, none⟩) [[0, 0], [0, 1], [1, 0]] := by
    refine ⟨fun i => if i = 0 then (some ⟨g2, 0, none⟩, 2) else if i = 1 then (some ⟨g3, 0, none⟩, 2) else (some ⟨g4, 0, none⟩, 2), sl_blk b5 rfl, fun i hi => ?_⟩
    have : i = 0 ∨ i = 1 ∨ i = 2 := by simp at hi; omega
    rcases this with rfl | rfl | rfl
    · exact sl_blk b2 rfl
    · exact sl_blk b3 rfl
    · exact sl_blk b4 rfl
  have := classes_any (some ⟨g1, 0, none⟩) (some ⟨g5, 0, none⟩) 1 3 [[1, 1]] [[0, 0], [0, 1], [1, 0]] W (lists1 b0 b1) hL (by simp) (by simp) (by simp) (by simp)
  rw [aw_cls.1, aw_cls.2] at this
  exact this
theorem aw_l1 (W : World) (A : Option Addr) (c g0 g1 : Nat) (hA : Lists W A [[1, 1]]) (b0 : Blk W g0 3 #[.int .i64 1, .int .i64 1]) (b1 : Blk W g1 33 #[.slice (some ⟨g0, 0, none⟩) 2 2]) :
    Calls Tryz.prog 12 #[.slice A 1 c, .slice (some ⟨g1, 0, none⟩) 1 1] W fun e w' => e = .returned (.bool true) ∧ Below W.heap.size W w' :=
  (lists_any A _ [[1, 1]] [[1, 1]] c 1 W hA (lists1 b0 b1) (by decide) (by simp)).mono fun e w' h => ⟨by rw [h.1]; rfl, h.2.below⟩
theorem aw_l2 (W : World) (A : Option Addr) (c g0 g1 g2 : Nat) (hA : Lists W A [[0], [1, 2]]) (b0 : Blk W g0 3 #[.int .i64 0]) (b1 : Blk W g1 3 #[.int .i64 1, .int .i64 2]) (b2 : Blk W g2 33 #[.slice (some ⟨g0, 0, none⟩) 1 1, .slice (some ⟨g1, 0, none⟩) 2 2]) :
    Calls Tryz.prog 12 #[.slice A 2 c, .slice (some ⟨g2, 0, none⟩) 2 2] W fun e w' => e = .returned (.bool true) ∧ Below W.heap.size W w' := by
  have hL : Lists W (some ⟨g2, 0, none⟩) [[0], [1, 2]] := by
    refine ⟨fun i => if i = 0 then (some ⟨g0, 0, none⟩, 1) else (some ⟨g1, 0, none⟩, 2), sl_blk b2 rfl, fun i hi => ?_⟩
    have : i = 0 ∨ i = 1 := by simp at hi; omega
    rcases this with rfl | rfl
    · exact sl_blk b0 rfl
    · exact sl_blk b1 rfl
  exact (lists_any A _ [[0], [1, 2]] [[0], [1, 2]] c 2 W hA hL (by decide) (by simp)).mono fun e w' h => ⟨by rw [h.1]; rfl, h.2.below⟩
/-- Blocks set down one behind another. -/
def al (w : World) (os : List Obj) : World := os.foldl World.alloc w
theorem al_size (w : World) (os : List Obj) : (al w os).heap.size = w.heap.size + os.length := by
  induction os generalizing w with
  | nil => rfl
  | cons o os ih =>
    have : al w (o :: os) = al (w.alloc o) os := rfl
    rw [this, ih]
    simp; omega
theorem al_below (w : World) (os : List Obj) : Below w.heap.size w (al w os) := by
  induction os generalizing w with
  | nil => exact Below.refl _ _
  | cons o os ih =>
    have : al w (o :: os) = al (w.alloc o) os := rfl
    rw [this]
    exact below_all ((Below.refl _ _).alloc (Nat.le_refl _) _) (ih _)
theorem al_blk (w : World) (os : List Obj) (i : Nat) {t : TypeId} {cs : Array Value} (h : os[i]? = some (.cells cs t)) : Blk (al w os) (w.heap.size + i) t cs := by
  induction os generalizing w i with
  | nil => simp at h
  | cons o os ih =>
    have e : al w (o :: os) = al (w.alloc o) os := rfl
    rw [e]
    cases i with
    | zero =>
      have : o = .cells cs t := by simpa using h
      subst this
      exact (Blk.new w t cs).keep (al_below _ _) (by simp)
    | succ i =>
      have := ih (w.alloc o) i (by simpa using h)
      have e2 : (w.alloc o).heap.size + i = w.heap.size + (i + 1) := by simp; omega
      rwa [e2] at this
theorem aw_signs' (w : World) (hT : Tab w) : Calls Tryz.prog 10 #[.slice (some ⟨w.heap.size + 1 + 1 + 1, 0, none⟩) 1 1]
    ((((w.alloc (.cells #[.int .i64 2, .int .i64 0] 3)).alloc (.cells #[.int .i64 1, .int .i64 1] 3)).alloc (.cells #[.string ⟨#[49]⟩, .slice (some ⟨w.heap.size, 0, none⟩) 2 2, .string ⟨#[49]⟩, .slice (some ⟨w.heap.size + 1, 0, none⟩) 2 2] 54)).alloc (.cells #[.int .i64 2, .slice (some ⟨w.heap.size + 1 + 1, 0, none⟩) 2 2] 36))
    fun e w' => ∃ A c, e = .returned (.tuple #[.slice A 1 c, .int .i64 0]) ∧ Lists w' A [[1, 1]] ∧ Below w.heap.size w w' := by
  let os : List Obj := [.cells #[.int .i64 2, .int .i64 0] 3, .cells #[.int .i64 1, .int .i64 1] 3, .cells #[.string ⟨#[49]⟩, .slice (some ⟨w.heap.size, 0, none⟩) 2 2, .string ⟨#[49]⟩, .slice (some ⟨w.heap.size + 1, 0, none⟩) 2 2] 54, .cells #[.int .i64 2, .slice (some ⟨w.heap.size + 1 + 1, 0, none⟩) 2 2] 36]
  refine (aw_signs (al w os) w.heap.size (w.heap.size + 1) (w.heap.size + 1 + 1) (w.heap.size + 1 + 1 + 1) (al_blk w os 0 rfl) (al_blk w os 1 rfl) (al_blk w os 2 rfl) (al_blk w os 3 rfl) (hT.below (al_below w os) hT.1)).mono ?_
  rintro e w' ⟨A, c, h1, h2, h3⟩
  exact ⟨A, c, h1, h2, below_all (al_below w os) h3⟩
theorem aw_classes' (w : World) : Calls Tryz.prog 15 #[.slice (some ⟨w.heap.size + 1, 0, none⟩) 1 1, .slice (some ⟨w.heap.size + 1 + 1 + 1 + 1 + 1, 0, none⟩) 3 3]
    ((((((w.alloc (.cells #[.int .i64 1, .int .i64 1] 3)).alloc (.cells #[.slice (some ⟨w.heap.size, 0, none⟩) 2 2] 33)).alloc (.cells #[.int .i64 0, .int .i64 0] 3)).alloc (.cells #[.int .i64 0, .int .i64 1] 3)).alloc (.cells #[.int .i64 1, .int .i64 0] 3)).alloc (.cells #[.slice (some ⟨w.heap.size + 1 + 1, 0, none⟩) 2 2, .slice (some ⟨w.heap.size + 1 + 1 + 1, 0, none⟩) 2 2, .slice (some ⟨w.heap.size + 1 + 1 + 1 + 1, 0, none⟩) 2 2] 33))
    fun e w' => ∃ A c, e = .returned (.tuple #[.slice A 2 c, .int .i64 0]) ∧ Lists w' A [[0], [1, 2]] ∧ Below w.heap.size w w' := by
  let os : List Obj := [.cells #[.int .i64 1, .int .i64 1] 3, .cells #[.slice (some ⟨w.heap.size, 0, none⟩) 2 2] 33, .cells #[.int .i64 0, .int .i64 0] 3, .cells #[.int .i64 0, .int .i64 1] 3, .cells #[.int .i64 1, .int .i64 0] 3, .cells #[.slice (some ⟨w.heap.size + 1 + 1, 0, none⟩) 2 2, .slice (some ⟨w.heap.size + 1 + 1 + 1, 0, none⟩) 2 2, .slice (some ⟨w.heap.size + 1 + 1 + 1 + 1, 0, none⟩) 2 2] 33]
  refine (aw_classes (al w os) w.heap.size (w.heap.size + 1) (w.heap.size + 1 + 1) (w.heap.size + 1 + 1 + 1) (w.heap.size + 1 + 1 + 1 + 1) (w.heap.size + 1 + 1 + 1 + 1 + 1) (al_blk w os 0 rfl) (al_blk w os 1 rfl) (al_blk w os 2 rfl) (al_blk w os 3 rfl) (al_blk w os 4 rfl) (al_blk w os 5 rfl)).mono ?_
  rintro e w' ⟨A, c, h1, h2, h3⟩
  exact ⟨A, c, h1, h2, below_all (al_below w os) h3⟩
theorem aw_l1' (w : World) (A : Option Addr) (c : Nat) (hA : Lists w A [[1, 1]]) : Calls Tryz.prog 12 #[.slice A 1 c, .slice (some ⟨w.heap.size + 1, 0, none⟩) 1 1]
    ((w.alloc (.cells #[.int .i64 1, .int .i64 1] 3)).alloc (.cells #[.slice (some ⟨w.heap.size, 0, none⟩) 2 2] 33))
    fun e w' => e = .returned (.bool true) ∧ Below w.heap.size w w' := by
  let os : List Obj := [.cells #[.int .i64 1, .int .i64 1] 3, .cells #[.slice (some ⟨w.heap.size, 0, none⟩) 2 2] 33]
  exact (aw_l1 (al w os) A c w.heap.size (w.heap.size + 1) (hA.keep (al_below w os)) (al_blk w os 0 rfl) (al_blk w os 1 rfl)).mono fun e w' h => ⟨h.1, below_all (al_below w os) h.2⟩
theorem aw_l2' (w : World) (A : Option Addr) (c : Nat) (hA : Lists w A [[0], [1, 2]]) : Calls Tryz.prog 12 #[.slice A 2 c, .slice (some ⟨w.heap.size + 1 + 1, 0, none⟩) 2 2]
    (((w.alloc (.cells #[.int .i64 0] 3)).alloc (.cells #[.int .i64 1, .int .i64 2] 3)).alloc (.cells #[.slice (some ⟨w.heap.size, 0, none⟩) 1 1, .slice (some ⟨w.heap.size + 1, 0, none⟩) 2 2] 33))
    fun e w' => e = .returned (.bool true) ∧ Below w.heap.size w w' := by
  let os : List Obj := [.cells #[.int .i64 0] 3, .cells #[.int .i64 1, .int .i64 2] 3, .cells #[.slice (some ⟨w.heap.size, 0, none⟩) 1 1, .slice (some ⟨w.heap.size + 1, 0, none⟩) 2 2] 33]
  exact (aw_l2 (al w os) A c w.heap.size (w.heap.size + 1) (w.heap.size + 1 + 1) (hA.keep (al_below w os)) (al_blk w os 0 rfl) (al_blk w os 1 rfl) (al_blk w os 2 rfl)).mono fun e w' h => ⟨h.1, below_all (al_below w os) h.2⟩
theorem awake_any (w : World) (hT : Tab w) : Calls Tryz.prog 9 #[] w fun e w' => e = .returned (.bool true) ∧ Below w.heap.size w w' := by
  go_enter Tryz.func9, Tryz.ntmps9
  go_wp2_with (fail)
  refine (aw_signs' w hT).mono ?_
  rintro e w1 ⟨A, c, rfl, hA, hb1⟩
  go_wp2_with (fail)
  refine (aw_classes' w1).mono ?_
  rintro e w2 ⟨B, d, rfl, hB, hb2⟩
  have hA2 := hA.keep hb2
  have hbw2 := below_all hb1 hb2
  clear hA hb1 hb2
  go_wp2_with (fail)
  refine (aw_l1' w2 A c hA2).mono ?_
  rintro e w3 ⟨rfl, hb3⟩
  have hB3 := hB.keep hb3
  have hbw3 := below_all hbw2 hb3
  clear hA2 hB hb3 hbw2
  go_wp2_with (fail)
  refine (aw_l2' w3 B d hB3).mono ?_
  rintro e w4 ⟨rfl, hb4⟩
  go_wp2_with (fail)
  go_ret
  exact ⟨rfl, below_all hbw3 hb4⟩
end Go.Proofs.Tg
end
