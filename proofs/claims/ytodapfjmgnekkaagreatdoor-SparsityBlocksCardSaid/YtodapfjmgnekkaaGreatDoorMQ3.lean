/- Parts of the proof: WD4, WD5, XD1, XD2, XD3, WC1, SM1, SM2, E3, E4, N2, E6, E8. -/
import Derived.Maps.OwnOps
import Derived.Maps.OwnSet
import Derived.Maps.Views
import Derived.Laws.IdiomStrings
import Derived.Laws.BytesArg
import Derived.Carry
import Derived.Laws.CopyOwn
import Derived.Laws.IdiomCopy
import Derived.WalkKit
import Derived.DeepKeys5
import Derived.Test.YtodapfjmgnekkaaGreatDoorMQ0
import Derived.Test.YtodapfjmgnekkaaGreatDoorMQ1
import Derived.Test.YtodapfjmgnekkaaGreatDoorMQ2
section
/- Walks: classes of monomials. -/
namespace Go.Proofs.Tg
open Go.RowKit Go.Gr Go.Ev Go.Mo
open Go.ChangeShapes Go.WideShapes
set_option maxHeartbeats 4000000
set_option maxRecDepth 100000
/-- A character as a key. -/
def kb (q : List Int) : List UInt8 := q.map fun x => UInt8.ofNat x.toNat
theorem kb_inj : ∀ {p q : List Int}, Bit01 p → Bit01 q → kb p = kb q → p = q
  | [], [], _, _, _ => rfl
  | [], _ :: _, _, _, h => by simp [kb] at h
  | _ :: _, [], _, _, h => by simp [kb] at h
  | x :: p, y :: q, hp, hq, h => by
    simp only [kb, List.map_cons, List.cons.injEq] at h
    have h2 := kb_inj (p := p) (q := q) (fun z hz => hp z (by simp [hz])) (fun z hz => hq z (by simp [hz])) h.2
    have hx := hp x (by simp)
    have hy := hq y (by simp)
    have h1 := h.1
    rw [h2]
    congr 1
    rcases hx with rfl | rfl <;> rcases hy with rfl | rfl
    · rfl
    · exact absurd h1 (by decide)
    · exact absurd h1 (by decide)
    · rfl
def MapOK (K : List (List Int)) (D : DataW Unit) : Prop :=
  Maps.IsMap D ∧ ∀ q, Bit01 q → (Maps.has D (.string (kb q)) = decide (q ∈ K)) ∧ (q ∈ K → D.atKey (.string (kb q)) (.lit (.int .i64 0)) = .lit (.int .i64 (K.idxOf q : Nat)))
theorem MapOK.nil : MapOK [] (.map []) := ⟨Maps.isMap_empty, fun q _ => ⟨by simp [Maps.has_eq], fun h => by cases h⟩⟩
theorem MapOK.put {K : List (List Int)} {D : DataW Unit} (h : MapOK K D) (_hK : ∀ k ∈ K, Bit01 k) {q : List Int} (hq : Bit01 q) (hn : q ∉ K) : MapOK (K ++ [q]) (D.put (.string (kb q)) (.lit (.int .i64 (K.length : Nat)))) := by
  refine ⟨h.1.put _ _, fun p hp => ?_⟩
  by_cases e : p = q
  · subst e
    refine ⟨by rw [Maps.has_put_same h.1 (by simp [WideAt.IsKeyLit])]; simp, fun _ => ?_⟩
    rw [Maps.atKey_put_same h.1 (by simp [WideAt.IsKeyLit]), List.idxOf_append, if_neg hn]
    simp
  · have hne : (Lit.string (kb p)) ≠ .string (kb q) := fun e2 => by
      injection e2 with e2
      exact e (kb_inj hp hq e2)
    refine ⟨by rw [Maps.has_put_other hne, (h.2 p hp).1]; simp [e], fun hm => ?_⟩
    have hm' : p ∈ K := by simpa [e] using hm
    rw [Maps.atKey_put_other hne, (h.2 p hp).2 hm', List.idxOf_append, if_pos hm']
theorem own_map_ne {w : World} {base : Nat} {t : TypeId} {sz n : Nat} {v : Value} {xs : List Value} {P : Program} {k : TypeId} {R : Value → Option (DataW Unit × List MemPlace)} {b m : Nat} {D : DataW Unit} (h : w.ownsRow base t sz v n xs) (hm : w.ownsMap P k R b m D) : v.ownBlock = none ∨ v.ownBlock ≠ some b := by
  rcases h.2 with ⟨rfl, _⟩ | ⟨g, cap, cur, rfl, _, hg, _⟩
  · exact .inl rfl
  · right
    intro e
    have : g = b := by simpa [Value.ownBlock] using e
    subst this
    obtain ⟨es, cl, hb, _⟩ := hm
    rw [hg] at hb
    cases hb
theorem map_ne_own {w : World} {base : Nat} {t : TypeId} {sz n : Nat} {v : Value} {xs : List Value} {P : Program} {k : TypeId} {R : Value → Option (DataW Unit × List MemPlace)} {b m : Nat} {D : DataW Unit} (h : w.ownsRow base t sz v n xs) (hm : w.ownsMap P k R b m D) : some b ≠ v.ownBlock := by
  rcases own_map_ne h hm with e | e
  · rw [e]; simp
  · exact fun e2 => e e2.symm
theorem map_keep {w w' : World} {P : Program} {k : TypeId} {R : Value → Option (DataW Unit × List MemPlace)} {b m : Nat} {D : DataW Unit} (hm : w.ownsMap P k R b m D) (hb : Below w.heap.size w w') : w'.ownsMap P k R b m D :=
  hm.kept (row := none) ⟨hb.os, hb.tape, hb.output, hb.size, fun k hk _ => hb.block k hk⟩ (by simp)
def vb (c : UInt8) : Value := .int .u8 (c.toNat : Int)
theorem byte_info : (Tryz.prog.info? 5).map (fun i => (i.zero, i.size, i.bytes)) = some (some (.int .u8 0), 1, 1) := by kernel_rfl
/-- The bytes of a slice as a text. -/
theorem conv_name (w : World) (A : Option Addr) (c : Nat) (l : List UInt8) (h : Sl w A l.length 1 (l.map vb)) : (convert 193 9 (.slice A l.length c)).run Tryz.prog w = .ok (.string (bs l)) w := by
  by_cases h0 : l = []
  · subst h0
    cases A with
    | none => exact run_convert_bytes_nil w _ 5 Tryz.underlying193 Tryz.underlying5 0 c _ Tryz.underlying9
    | some ad => exact run_convert_bytes_back w _ _ 5 ad c [] Tryz.underlying193 Tryz.underlying5 Tryz.underlying9 (fun j hj => by simp at hj)
  · obtain ⟨ad, rfl, _, ha⟩ := h.lies (List.length_pos_iff.2 h0)
    exact run_convert_bytes_back w _ _ 5 ad c l Tryz.underlying193 Tryz.underlying5 Tryz.underlying9 (fun j hj => ha j _ (by simp [hj, vb]))
theorem zero_int (w : World) : (zeroValue 3).run Tryz.prog w = .ok (.int .i64 0) w := by kernel_rfl
end Go.Proofs.Tg
end
section
/- Walks: classes of monomials. -/
namespace Go.Proofs.Tg
open Go.RowKit Go.Gr Go.Ev Go.Mo
open Go.ChangeShapes Go.WideShapes
set_option maxHeartbeats 4000000
set_option maxRecDepth 100000
theorem clsSt_bits {ks : List (List Int)} (h : ∀ k ∈ ks, Bit01 k) : ∀ i, i ≤ ks.length → ∀ k ∈ (clsSt ks i).1, Bit01 k
  | 0, _, k, hk => by simp [clsSt] at hk
  | i + 1, hi, k, hk => by
    have ih := clsSt_bits h i (by omega)
    by_cases hc : (clsSt ks i).1.idxOf (ks.getD i []) < (clsSt ks i).1.length
    · rw [clsSt_old hc] at hk; exact ih k hk
    · rw [clsSt_new hc] at hk
      rcases List.mem_append.1 hk with h2 | h2
      · exact ih k h2
      · simp only [List.mem_cons, List.not_mem_nil, or_false] at h2
        subst h2
        have hi' : i < ks.length := by omega
        rw [List.getD_eq_getElem?_getD, List.getElem?_eq_getElem hi', Option.getD_some]
        exact h _ (List.getElem_mem _)
def RetCls (L : List (List Int)) (code : Int) (w : World) (e : Ending) (w' : World) : Prop :=
  ∃ A c, e = .returned (.tuple #[.slice A L.length c, .int .i64 code]) ∧ Lists w' A L ∧ Below w.heap.size w w'
end Go.Proofs.Tg
end
section
/- Walks of the reference: monomials, sign vectors, inner products, the check. -/
namespace Go.Proofs.Tg
open Go.RowKit Go.Gr Go.Ev Go.Mo
set_option maxHeartbeats 2000000
set_option maxRecDepth 100000
theorem rdeg_any (A : Option Addr) (c : Nat) (m : List Int) (w : World) (hA : Ints w A m) (hn : m.length ≤ 1000) :
    Calls Tryz.prog 79 #[.slice A m.length c] w fun e w' => e = .returned (.int .i64 (degM m)) ∧ w = w' := by
  by_cases hl : m.length ≤ 6
  · have hd : decide ((6 : Int) < (m.length : Int)) = false := by simp; omega
    go_enter Tryz.func79, Tryz.ntmps79
    go_wp2
    go_loop [3, 4] (fun s i => ∃ k : Nat, k ≤ m.length ∧ i = .int .i64 k ∧ ∃ z : Int, s = .int .i64 z ∧ 0 ≤ z ∧ z ≤ 24 ∧ Hid (z = (m.take k).sum ∧ ∀ e ∈ m.take k, 0 ≤ e)) (fun _ i => m.length - (intOf i).toNat)
    case atStart => exact ⟨0, Nat.zero_le _, rfl, 0, rfl, by omega, by omega, Lib.hid ⟨rfl, by simp⟩⟩
    case round =>
      obtain ⟨k, hk, rfl, z, rfl, hz0, hz1, HZ⟩ := hrel
      by_cases hlt : k < m.length
      · obtain ⟨ad, rfl, hc⟩ := Ints.at hA hlt
        have HS : Hid ((m.take (k + 1)).sum = z + m[k]) := Lib.hid (by rw [sum_take_succ m k hlt, ← HZ.out.1])
        have HB : Hid (m[k] < 0 ∨ 24 - z < m[k] → vldM m = false) := Lib.hid (fun h => vldM_bad hlt (by rw [← HZ.out.1]; exact h))
        have HT : Hid (m.take (k + 1) = m.take k ++ [m[k]]) := Lib.hid (List.take_succ_eq_append_getElem hlt)
        clear hA
        generalize m[k] = x at hc HS HB HT
        by_cases h1 : x < 0
        · have b1 : decide (x < 0) = true := by simpa using h1
          have HF : Hid (degM m = -1) := Lib.hid (by unfold degM; rw [HB.out (.inl h1)]; rfl)
          go_wp2
          go_ret
          exact ⟨by rw [HF.out]; rfl, rfl⟩
        · have b1 : decide (x < 0) = false := by simpa using h1
          by_cases h2 : 24 - z < x
          · have b2 : decide (24 - z < x) = true := by simpa using h2
            have HF : Hid (degM m = -1) := Lib.hid (by unfold degM; rw [HB.out (.inr h2)]; rfl)
            go_wp2
            go_ret
            exact ⟨by rw [HF.out]; rfl, rfl⟩
          · have b2 : decide (24 - z < x) = false := by simpa using h2
            go_wp2
            go_round
            case rel =>
              refine ⟨k + 1, by omega, by go_num, z + x, rfl, by omega, by omega, Lib.hid ⟨HS.out.symm, fun e he => ?_⟩⟩
              rw [HT.out] at he
              rcases List.mem_append.1 he with he | he
              · exact HZ.out.2 e he
              · simp at he; omega
            case measure => simp [intOf]; omega
      · obtain rfl : k = m.length := by omega
        have HF : Hid (degM m = z) := Lib.hid (by
          have h := HZ.out
          rw [List.take_length] at h
          unfold degM
          rw [if_pos (vldM_iff.2 ⟨hl, h.2, by omega⟩), h.1])
        go_wp2
        go_ret
        exact ⟨by rw [HF.out]; rfl, rfl⟩
  · have hd : decide ((6 : Int) < (m.length : Int)) = true := by simp; omega
    have HF : Hid (degM m = -1) := Lib.hid (by
      unfold degM
      rw [if_neg (by rw [vldM_iff]; exact fun h => hl h.1)])
    go_enter Tryz.func79, Tryz.ntmps79
    go_wp2
    go_ret
    exact ⟨by rw [HF.out]; rfl, rfl⟩
theorem rvalid_any (A : Option Addr) (c : Nat) (m : List Int) (w : World) (hA : Ints w A m) (hn : m.length ≤ 1000) :
    Calls Tryz.prog 50 #[.slice A m.length c] w fun e w' => e = .returned (.bool (vldM m)) ∧ w = w' := by
  have HD : Hid (decide (0 ≤ degM m) = vldM m) := Lib.hid degM_ge
  have HC := Lib.hid (rdeg_any A c m w hA hn)
  by_cases hl : m.length ≤ 6
  · have hd : decide ((m.length : Int) ≤ 6) = true := by simp; omega
    generalize degM m = z at *
    go_enter Tryz.func50, Tryz.ntmps50
    go_wp2_with (go_at_call 79; refine HC.out.mono ?_; rintro e w' ⟨rfl, rfl⟩)
    go_ret
    exact ⟨by rw [← HD.out]; rfl, rfl⟩
  · have hd : decide ((m.length : Int) ≤ 6) = false := by simp; omega
    have HF : Hid (vldM m = false) := Lib.hid (eq_false_of_ne_true (by rw [vldM_iff]; exact fun h => hl h.1))
    go_enter Tryz.func50, Tryz.ntmps50
    go_wp2
    go_ret
    exact ⟨by rw [HF.out]; rfl, rfl⟩
theorem rvld_lit (A : Option Addr) (c : Nat) (m : List Int) (w : World) (hA : Ints w A m) (hn : m.length ≤ 1000) (b : Bool) (hb : vldM m = b) :
    Calls Tryz.prog 50 #[.slice A m.length c] w fun e w' => e = .returned (.bool b) ∧ w = w' := by rw [← hb]; exact rvalid_any A c m w hA hn
end Go.Proofs.Tg
end
section
/- Memory of the reference's classes: keys that stay and classes that grow, all apart. -/
namespace Go.Proofs.Tg
open Go.RowKit
structure KInv (base : Nat) (KA : Option Addr) (kc : Nat) (K : List (List Int)) (kval : Nat → Value) (C : Option Addr) (cc : Nat) (Cl : List (List Nat)) (val : Nat → Value) (w : World) : Prop where
  fam : Fam base C cc Cl val w
  krow : w.ownsRow base 36 1 (.slice KA K.length kc) K.length ((List.range K.length).map kval)
  kown : ∀ j, j < K.length → w.ownsRow base 3 1 (kval j) (K.getD j []).length ((K.getD j []).map vi)
  ksep : ∀ i j, i < K.length → j < Cl.length → (kval i).ownBlock = none ∨ (kval i).ownBlock ≠ (val j).ownBlock
  rsep : (Value.slice KA K.length kc).ownBlock = none ∨ (Value.slice KA K.length kc).ownBlock ≠ (Value.slice C Cl.length cc).ownBlock
theorem KInv.nil (base : Nat) (w : World) : KInv base none 0 [] (fun _ => .slice none 0 0) none 0 [] (fun _ => .slice none 0 0) w :=
  ⟨Fam.nil _ _, World.ownsRow_nil _ _ _ _, fun j h => absurd h (by simp), fun i j h => absurd h (by simp), .inl rfl⟩
theorem KInv.keep {base : Nat} {KA : Option Addr} {kc : Nat} {K : List (List Int)} {kval : Nat → Value} {C : Option Addr} {cc : Nat} {Cl : List (List Nat)} {val : Nat → Value} {w w' : World} (h : KInv base KA kc K kval C cc Cl val w) (hb : Below w.heap.size w w') : KInv base KA kc K kval C cc Cl val w' :=
  ⟨h.fam.keep hb, own_below h.krow hb (Nat.le_refl _), fun j hj => own_below (h.kown j hj) hb (Nat.le_refl _), h.ksep, h.rsep⟩
theorem KInv.alloc {base : Nat} {KA : Option Addr} {kc : Nat} {K : List (List Int)} {kval : Nat → Value} {C : Option Addr} {cc : Nat} {Cl : List (List Nat)} {val : Nat → Value} {w : World} (h : KInv base KA kc K kval C cc Cl val w) (o : Obj) : KInv base KA kc K kval C cc Cl val (w.alloc o) :=
  h.keep ((Below.refl _ _).alloc (Nat.le_refl _) o)
theorem ne_symm' {a b : Option Nat} (h : a = none ∨ a ≠ b) : b = none ∨ b ≠ a := by
  cases b with
  | none => exact .inl rfl
  | some x =>
    right
    rcases h with h | h
    · rw [h]; simp
    · exact fun e => h e.symm
theorem KInv.pushKey {base : Nat} {KA KA' : Option Addr} {kc kc' : Nat} {K : List (List Int)} {kval : Nat → Value} {C : Option Addr} {cc : Nat} {Cl : List (List Nat)} {val : Nat → Value} {w w' : World} {q : List Int} {kv : Value} (h : KInv base KA kc K kval C cc Cl val w)
    (hq : w.ownsRow base 3 1 kv q.length (q.map vi)) (hqs : ∀ j, j < Cl.length → kv.ownBlock = none ∨ kv.ownBlock ≠ (val j).ownBlock)
    (hr : w'.ownsRow base 36 1 (.slice KA' (K.length + 1) kc') (K.length + 1) ((List.range K.length).map kval ++ [kv])) (hg : w.grownBy w' (Value.slice KA K.length kc).ownBlock)
    (hat : (Value.slice KA' (K.length + 1) kc').ownBlock = (Value.slice KA K.length kc).ownBlock ∨ (Value.slice KA' (K.length + 1) kc').ownBlock = some w.heap.size) :
    KInv base KA' kc' (K ++ [q]) (fun j => if j = K.length then kv else kval j) C cc Cl val w' := by
  have hlen : (K ++ [q]).length = K.length + 1 := by simp
  have hgd : ∀ j, j < K.length + 1 → (K ++ [q]).getD j [] = if j = K.length then q else K.getD j [] := by
    intro j hj
    by_cases e : j = K.length
    · subst e; simp
    · rw [if_neg e]
      simp only [List.getD_eq_getElem?_getD, List.getElem?_append_left (show j < K.length by omega)]
  refine ⟨h.fam.other hg (ne_symm' h.rsep) (fun j hj => own_ne (h.fam.own j hj) h.krow (by decide)), ?_, fun j hj => ?_, fun i j hi hj => ?_, ?_⟩
  · rw [hlen]
    have e : (List.range (K.length + 1)).map (fun j => if j = K.length then kv else kval j) = (List.range K.length).map kval ++ [kv] := by
      rw [List.range_succ, List.map_append]
      congr 1
      · refine List.map_congr_left fun j hj => ?_
        have := List.mem_range.1 hj
        rw [if_neg (by omega)]
      · simp
    rw [e]; exact hr
  · rw [hlen] at hj
    rw [hgd j hj]
    by_cases e : j = K.length
    · rw [if_pos e, if_pos e]
      exact hq.kept hg (own_ne hq h.krow (by decide))
    · rw [if_neg e, if_neg e]
      exact (h.kown j (by omega)).kept hg (own_ne (h.kown j (by omega)) h.krow (by decide))
  · rw [hlen] at hi
    by_cases e : i = K.length
    · rw [if_pos e]; exact hqs j hj
    · rw [if_neg e]; exact h.ksep i j (by omega) hj
  · rw [hlen]
    rcases hat with hx | hx
    · rw [hx]; exact h.rsep
    · right
      rw [hx]
      intro e
      have := (h.fam.row.lt _ e.symm).2
      omega
theorem KInv.pushCls {base : Nat} {KA : Option Addr} {kc : Nat} {K : List (List Int)} {kval : Nat → Value} {C C' : Option Addr} {cc cc' : Nat} {Cl : List (List Nat)} {val : Nat → Value} {w w' : World} (h : KInv base KA kc K kval C cc Cl val w)
    (hr : w'.ownsRow base 36 1 (.slice C' (Cl.length + 1) cc') (Cl.length + 1) ((List.range Cl.length).map val ++ [.slice none 0 0])) (hg : w.grownBy w' (Value.slice C Cl.length cc).ownBlock)
    (hat : (Value.slice C' (Cl.length + 1) cc').ownBlock = (Value.slice C Cl.length cc).ownBlock ∨ (Value.slice C' (Cl.length + 1) cc').ownBlock = some w.heap.size) :
    KInv base KA kc K kval C' cc' (Cl ++ [[]]) (fun j => if j = Cl.length then .slice none 0 0 else val j) w' := by
  have hlen : (Cl ++ [([] : List Nat)]).length = Cl.length + 1 := by simp
  refine ⟨h.fam.push hr hg, h.krow.kept hg h.rsep, fun j hj => (h.kown j hj).kept hg (own_ne (h.kown j hj) h.fam.row (by decide)), fun i j hi hj => ?_, ?_⟩
  · rw [hlen] at hj
    by_cases e : j = Cl.length
    · rw [if_pos e]
      cases hb : (kval i).ownBlock with
      | none => exact .inl rfl
      | some g => exact .inr (by simp [Value.ownBlock])
    · rw [if_neg e]; exact h.ksep i j hi (by omega)
  · rw [hlen]
    rcases hat with hx | hx
    · rw [hx]; exact h.rsep
    · cases hb : (Value.slice KA K.length kc).ownBlock with
      | none => exact .inl rfl
      | some z =>
        right
        rw [hx]
        intro e
        injection e with e
        have := (h.krow.lt z hb).2
        omega
theorem KInv.add {base : Nat} {KA : Option Addr} {kc : Nat} {K : List (List Int)} {kval : Nat → Value} {g : Nat} {cc : Nat} {Cl : List (List Nat)} {val : Nat → Value} {w w' : World} {k i : Nat} {v' : Value} (h : KInv base KA kc K kval (some ⟨g, 0, none⟩) cc Cl val w) (hk : k < Cl.length)
    (hr : w'.ownsRow base 3 1 v' ((Cl.getD k []).length + 1) ((Cl.getD k []).map vn ++ [vn i])) (hg : w.grownBy w' (val k).ownBlock) (hat : v'.ownBlock = (val k).ownBlock ∨ v'.ownBlock = some w.heap.size) :
    KInv base KA kc K kval (some ⟨g, 0, none⟩) cc (Cl.set k (Cl.getD k [] ++ [i])) (fun j => if j = k then v' else val j) (w'.setCell ⟨g, k, none⟩ v') := by
  have hlen : (Cl.set k (Cl.getD k [] ++ [i])).length = Cl.length := by simp
  have hrow' := h.fam.row.kept hg (own_ne h.fam.row (h.fam.own k hk) (by decide))
  have hst := hrow'.stored k v'
  have hkr := h.krow.kept hg (own_ne h.krow (h.fam.own k hk) (by decide))
  refine ⟨h.fam.add hk hr hg hat, ?_, fun j hj => ?_, fun a b ha hb => ?_, ?_⟩
  · exact hkr.kept hst.2 (by
      rcases h.rsep with e | e
      · exact .inl e
      · exact .inr (by simpa [Value.ownBlock] using e))
  · have h1 := (h.kown j hj).kept hg (h.ksep j k hj hk)
    exact h1.kept hst.2 (own_ne h1 hrow' (by decide))
  · rw [hlen] at hb
    by_cases e : b = k
    · rw [if_pos e]
      rcases hat with hx | hx
      · rw [hx]; exact h.ksep a k ha hk
      · cases hbk : (kval a).ownBlock with
        | none => exact .inl rfl
        | some z =>
          right
          rw [hx]
          intro e2
          injection e2 with e2
          have := ((h.kown a ha).lt z hbk).2
          omega
    · rw [if_neg e]; exact h.ksep a b ha hb
  · rw [hlen]; exact h.rsep
end Go.Proofs.Tg
end
section
/- Walks of the reference: values, sets, classes. -/
namespace Go.Proofs.Tg
open Go.RowKit Go.Gr Go.Ev Go.Mo
set_option maxHeartbeats 4000000
set_option maxRecDepth 100000
def RetRow (l : List Int) (w : World) (e : Ending) (w' : World) : Prop :=
  ∃ A c, e = .returned (.slice A l.length c) ∧ w'.ownsRow w.heap.size 3 1 (.slice A l.length c) l.length (l.map vi) ∧ Below w.heap.size w w'
theorem seq_any (A B : Option Addr) (xs ys : List Int) (c d : Nat) (w : World) (hx : Ints w A xs) (hy : Ints w B ys) (hn : xs.length ≤ 1000000) (b : Bool) (hbb : decide (xs = ys) = b) :
    Calls Tryz.prog 103 #[.slice A xs.length c, .slice B ys.length d] w fun e w' => e = .returned (.bool b) ∧ Dr w w' := by
  rw [← hbb]
  clear hbb
  by_cases hl : xs.length = ys.length
  · have hb : ((xs.length : Int) != (ys.length : Int)) = false := by simp [hl]
    have HL := Lib.hid hl; clear hl
    go_enter Tryz.func103, Tryz.ntmps103
    go_wp2
    go_loopw [13] (fun i wr => ∃ k : Nat, k ≤ xs.length ∧ i = .int .i64 k ∧ Hid (xs.take k = ys.take k) ∧ Dr w wr) (fun i _ => xs.length - (intOf i).toNat)
    case atStart => exact ⟨0, Nat.zero_le _, rfl, Lib.hid (by simp), Dr.refl _⟩
    case round =>
      obtain ⟨k, hk, rfl, HT, hbw⟩ := hrel
      by_cases hlt : k < xs.length
      · have hky : k < ys.length := by have := HL.out; omega
        obtain ⟨ad, rfl, hc⟩ := Ints.at (hx.keep hbw.below) hlt
        obtain ⟨bd, rfl, hd⟩ := Ints.at (hy.keep hbw.below) hky
        have HX : Hid (xs.take (k + 1) = xs.take k ++ [xs[k]]) := Lib.hid (List.take_succ_eq_append_getElem hlt)
        have HY : Hid (ys.take (k + 1) = ys.take k ++ [ys[k]]) := Lib.hid (List.take_succ_eq_append_getElem hky)
        have HNE : Hid (xs = ys → xs[k] = ys[k]) := Lib.hid (fun e => by subst e; rfl)
        have i1 : (0 : Int) ≤ (k : Int) := by omega
        have i2 : (k : Int) < (xs.length : Int) := by omega
        have i3 : (k : Int) < (ys.length : Int) := by omega
        have i4 : ((k : Int)).toNat = k := by omega
        clear hx hy
        generalize xs[k] = x at hc HX HNE
        generalize ys[k] = y at hd HY HNE
        by_cases heq : x = y
        · have hbb : (x != y) = false := by simp [heq]
          have HE := Lib.hid heq; clear heq
          go_wp2
          go_quiet (fail)
          go_wp2
          go_roundw
          case rel => exact ⟨k + 1, by omega, by go_num, Lib.hid (by rw [HX.out, HY.out, HT.out, HE.out]), hbw.drewN _⟩
          case measure => simp [intOf]; omega
        · have hbb : (x != y) = true := by simp [heq]
          have HF : Hid (decide (xs = ys) = false) := Lib.hid (decide_eq_false (fun e => heq (HNE.out e)))
          clear heq
          go_wp2
          go_quiet (fail)
          go_wp2
          go_ret
          exact ⟨by rw [HF.out]; rfl, hbw.drewN _⟩
      · have HF : Hid (decide (xs = ys) = true) := Lib.hid (decide_eq_true (by
          have := HT.out
          rwa [List.take_of_length_le (by omega), List.take_of_length_le (by have := HL.out; omega)] at this))
        go_wp2
        go_ret
        exact ⟨by rw [HF.out]; rfl, hbw⟩
  · have hb : ((xs.length : Int) != (ys.length : Int)) = true := by simp; omega
    have HF : Hid (decide (xs = ys) = false) := Lib.hid (decide_eq_false (fun e => hl (by rw [e])))
    clear hl
    go_enter Tryz.func103, Tryz.ntmps103
    go_wp2
    go_ret
    exact ⟨by rw [HF.out]; rfl, Dr.refl _⟩
end Go.Proofs.Tg
end
section
/- The built-in copy of at most six numbers into an array at a block's head. -/
namespace Go.Proofs.Tg
open Go.RowKit
theorem int_sz : (Tryz.prog.info? 3).map (·.size) = some 1 := by kernel_rfl
/-- Another world that differs in block g alone. -/
structure But (g : Nat) (W W' : World) : Prop where
  below : ∀ (B : Nat) (w0 : World), Below B w0 W → B ≤ g → Below B w0 W'
  blk : ∀ (g' : Nat) (t : TypeId) (cs : Array Value), g' ≠ g → Blk W g' t cs → Blk W' g' t cs
theorem wpList_copy6 {ops : Array Oper} {rest : List Oper} {o : Oper} {a : Act} {Q : Exit → Act → World → Prop} {W : World} (hgd : o.guard = none) (d s : Operand)
    (ho : o.op = .call { callee := .builtin .copy, args := #[d, s], argTypes := #[36, 36] }) (g : Nat) (t : TypeId) (A : Option Addr) (c : Nat) (el : List Int) (z : List Value)
    (hd : a.eval d = .slice (some ⟨g, 0, none⟩) 6 6) (hs : a.eval s = .slice A el.length c) (hA : Ints W A el) (hl : el.length ≤ 6)
    (hB : Blk W g t ([Value.int .i64 0, Value.int .i64 0, Value.int .i64 0, Value.int .i64 0, Value.int .i64 0, Value.int .i64 0] ++ z).toArray)
    (h : ∀ W', Blk W' g t ([Value.int .i64 (el.getD 0 0), Value.int .i64 (el.getD 1 0), Value.int .i64 (el.getD 2 0), Value.int .i64 (el.getD 3 0), Value.int .i64 (el.getD 4 0), Value.int .i64 (el.getD 5 0)] ++ z).toArray → But g W W' → wpList Tryz.prog ops Q rest (a.put o.dst (goInt el.length)) W') :
    wpList Tryz.prog ops Q (o :: rest) a W := by
  by_cases h0 : el = []
  · subst h0
    refine wpList_plain hgd fun K hK => ?_
    have hrun := run_copy_none (P := Tryz.prog) W 36 36 o.type 3 (some ⟨g, 0, none⟩) A 6 6 0 c Tryz.underlying36 int_sz rfl
    have hs' : a.eval s = .slice A 0 c := hs
    unfold Oper.wp
    simp [execOp, ho, resolve, invoke, builtin, hd, hs', hrun, Result.andThen]
    exact hK _ _ (h W hB ⟨fun _ _ h _ => h, fun _ _ _ _ h => h⟩)
  · have hp : 0 < el.length := List.length_pos_iff.2 h0
    obtain ⟨ad, rfl, _, hc⟩ := hA.lies hp
    refine wpList_copy_own hgd d s 36 36 ho 3 Tryz.underlying36 int_sz g 0 6 6 ad el.length c hd hs _ t hB (el.map vi) (by rw [List.length_map]; exact (Nat.min_eq_left hl).symm) hc (by simp; omega) (by simp [vi, Value.oneCell']) ?_
    have key : (([Value.int .i64 0, Value.int .i64 0, Value.int .i64 0, Value.int .i64 0, Value.int .i64 0, Value.int .i64 0] ++ z).toArray.toList.take 0 ++ (el.map vi ++ ([Value.int .i64 0, Value.int .i64 0, Value.int .i64 0, Value.int .i64 0, Value.int .i64 0, Value.int .i64 0] ++ z).toArray.toList.drop (0 + (el.map vi).length))).toArray
        = ([Value.int .i64 (el.getD 0 0), Value.int .i64 (el.getD 1 0), Value.int .i64 (el.getD 2 0), Value.int .i64 (el.getD 3 0), Value.int .i64 (el.getD 4 0), Value.int .i64 (el.getD 5 0)] ++ z).toArray := by
      match el, hl with
      | [], _ => exact absurd rfl h0
      | [_], _ => simp [vi]
      | [_, _], _ => simp [vi]
      | [_, _, _], _ => simp [vi]
      | [_, _, _, _], _ => simp [vi]
      | [_, _, _, _, _], _ => simp [vi]
      | [_, _, _, _, _, _], _ => simp [vi]
      | _ :: _ :: _ :: _ :: _ :: _ :: _ :: l, hl => simp at hl
    rw [key]
    have hlen : (goInt ((el.map vi).length)) = goInt el.length := by simp
    rw [hlen]
    refine h _ ?_ ⟨fun B w0 hb hg => below_setRow hb hg _, fun g' t' cs hne hb => ?_⟩
    · exact setRow_heap W g _ _ t _ hB
    · exact (setRow_other W g g' _ hne).trans hb
end Go.Proofs.Tg
end
section
/- A map to bools that the call itself has made, as a set of keys: the look-up, the store. -/
namespace Go.Proofs.Tg
open Go.RowKit Go.Maps Go.WideShapes
theorem plainElem_bool_inv {H : Type} {P : Program} {e : TypeId} (he : P.underlying e = some .bool) {v : Value} {z : DataW H × List MemPlace} (h : plainElem P e v = some z) : ∃ a, v = .bool a ∧ z = (.lit (.bool a), []) := by
  unfold plainElem at h
  rw [he] at h
  cases v <;> simp at h
  exact ⟨_, rfl, h.symm⟩
/-- The look-up in a map to bools, at the operation. -/
theorem wpList_look_bool {H : Type} {P : Program} (w : World) {ops : Array Oper} {rest : List Oper} {o : Oper} {a : Act} {Q : Exit → Act → World → Prop}
    (hg : o.guard = none) (m x : Operand) (t : TypeId) (hop : o.op = Op.lookup t m x false)
    (k e : TypeId) (K : Keyed P k) (ht : P.underlying t = some (.map k e)) (he : P.underlying e = some .bool) (hz : (zeroValue e).run P w = .ok (.bool false) w) (b n : Nat) (D : DataW H)
    (hm : a.eval m = .map (some b)) (hown : w.ownsMap P k (plainElem P e) b n D) (key : Value) (kl : Lit) (hx : a.eval x = key) (hkey : keyOf P k key = some kl) (c : Bool) (hc : D.atKey kl (.lit (.bool false)) = .lit (.bool c))
    (hK : wpList P ops Q rest (a.put o.dst (.bool c)) w) :
    wpList P ops Q (o :: rest) a w := by
  refine wpList_plain hg fun K' hK' => ?_
  obtain ⟨v, ps, hrun, hv⟩ := hown.lookup K ht hz (plainElem_bool he false) hkey
  obtain ⟨c', rfl, hv2⟩ := plainElem_bool_inv he hv
  rw [hc] at hv2
  injection hv2 with hv2 _
  injection hv2 with hv2
  injection hv2 with hv2
  subst hv2
  unfold Oper.wp
  simp [execOp, hop, hm, hx, hrun, Result.andThen]
  exact hK' _ _ hK
/-- The map holds true at just the keys of the list. -/
structure SetOK {α : Type} [DecidableEq α] (kl : α → Lit) (dom : α → Prop) (S : List α) (D : DataW Unit) : Prop where
  isMap : Maps.IsMap D
  at' : ∀ v, dom v → D.atKey (kl v) (.lit (.bool false)) = .lit (.bool (decide (v ∈ S)))
theorem SetOK.nil {α : Type} [DecidableEq α] (kl : α → Lit) (dom : α → Prop) : SetOK kl dom [] (.map []) := ⟨Maps.isMap_empty, fun v _ => by simp [DataW.atKey]⟩
theorem SetOK.put {α : Type} [DecidableEq α] {kl : α → Lit} {dom : α → Prop} {S : List α} {D : DataW Unit} (h : SetOK kl dom S D) (hk : ∀ v, dom v → WideAt.IsKeyLit (kl v)) (hi : ∀ u v, dom u → dom v → kl u = kl v → u = v) {x : α} (hx : dom x) :
    SetOK kl dom (x :: S) (D.put (kl x) (.lit (.bool true))) := by
  refine ⟨h.isMap.put _ _, fun v hv => ?_⟩
  by_cases he : v = x
  · subst he
    rw [Maps.atKey_put_same h.isMap (hk v hv)]
    simp
  · rw [Maps.atKey_put_other (fun e => he (hi v x hv hx e)), h.at' v hv]
    simp [he]
/-- The same set, told by another list. -/
theorem SetOK.congr {α : Type} [DecidableEq α] {kl : α → Lit} {dom : α → Prop} {S S' : List α} {D : DataW Unit} (h : SetOK kl dom S D) (hs : ∀ v, dom v → (v ∈ S ↔ v ∈ S')) : SetOK kl dom S' D :=
  ⟨h.isMap, fun v hv => by rw [h.at' v hv, decide_eq_decide.2 (hs v hv)]⟩
end Go.Proofs.Tg
end
section
/- What an array of six numbers reads as where it is the key of a map. -/
namespace Go.Proofs.Tg
open Go.RowKit Go.Maps Go.WideShapes
/-- The literal of a key. -/
def kl6 (l : List Int) : Lit := .string (keyBytes (l.map fun x => Lit.int .i64 x))
theorem wf_small {x : Int} (h : -1000000 ≤ x ∧ x ≤ 1000000) : (Lit.int .i64 x).wf = true := by
  have e1 : IntKind.i64.min = -9223372036854775808 := rfl
  have e2 : IntKind.i64.max = 9223372036854775807 := rfl
  simp only [Lit.wf, Bool.and_eq_true, decide_eq_true_eq]
  omega
theorem keyOf_six {P : Program} {T I : TypeId} (hT : P.underlying T = some (.array 6 I)) (hI : P.underlying I = some (.int .i64)) (hk : P.keyType T = true) (c1 : P.cellsOf I = 1) (c6 : P.cellsOf T = 6) {s : Nat} (hs : P.types.size = s + 1)
    (l : List Int) (hl : l.length = 6) (hw : ∀ x ∈ l, -1000000 ≤ x ∧ x ≤ 1000000) : keyOf P T (.agg (l.map fun x => Value.int .i64 x).toArray) = some (kl6 l) := by
  match l, hl with
  | [a, b, c, d, e, f], _ =>
    have ha := wf_small (hw a (by simp))
    have hb := wf_small (hw b (by simp))
    have hc := wf_small (hw c (by simp))
    have hd := wf_small (hw d (by simp))
    have he := wf_small (hw e (by simp))
    have hf := wf_small (hw f (by simp))
    have hr : List.range 6 = [0, 1, 2, 3, 4, 5] := rfl
    unfold keyOf
    simp [hT, hk, Value.formed, c6, Value.cells, hs, Program.keyLits, hI, c1, hr, ha, hb, hc, hd, he, hf, kl6]
end Go.Proofs.Tg
end
section
/- Sign symmetries: what the search over all sign vectors finds. Plain numbers. -/
namespace Go.Ev
open Go.Gr
/-- The parities of the rows, as marks. -/
def occF (rows : List (List Int)) (i : Nat) : Bool := rows.any fun r => pk r r.length == i
theorem occF_app (rows : List (List Int)) (r : List Int) (i : Nat) : occF (rows ++ [r]) i = (occF rows i || (pk r r.length == i)) := by
  unfold occF; rw [List.any_append]; simp
/-- A sign vector that has an even number of bits in common with each marked number. -/
def goodS (f : Nat → Bool) (x : Nat) : Bool := (List.range 64).all fun e => !(f e && decide (size (x &&& e) % 2 = 1))
theorem goodS_iff {f : Nat → Bool} {x : Nat} : goodS f x = true ↔ ∀ e, e < 64 → f e = true → size (x &&& e) % 2 ≠ 1 := by
  unfold goodS
  rw [List.all_eq_true]
  constructor
  · intro h e he hf
    have := h e (List.mem_range.2 he)
    simpa [hf] using this
  · intro h e he
    have := h e (List.mem_range.1 he)
    cases hf : f e with
    | false => rfl
    | true => simpa using this hf
theorem good_V {rows : List (List Int)} {n x : Nat} (hn : n ≤ 6) (hx : x < 2 ^ n) (hr : ∀ r ∈ rows, r.length = n) : goodS (occF rows) x = true ↔ V rows n x := by
  have h6 : 2 ^ n ≤ 2 ^ 6 := Nat.pow_le_pow_right (by omega) hn
  rw [goodS_iff]
  constructor
  · intro h
    refine ⟨hx, fun r hr' => ?_⟩
    have hl := hr r hr'
    have hp := pk_lt r r.length
    rw [hl] at hp
    have := h (pk r n) (by omega) (by unfold occF; exact List.any_eq_true.2 ⟨r, hr', by rw [hl]; simp⟩)
    rw [size_and r x n (by omega)] at this
    omega
  · intro h e he hf
    unfold occF at hf
    obtain ⟨r, hr', hre⟩ := List.any_eq_true.1 hf
    have hl := hr r hr'
    have e2 : pk r n = e := by rw [hl] at hre; simpa using hre
    rw [← e2, size_and r x n (by omega), h.2 r hr']
    decide
/-- The vectors that the search has found below s. -/
def fnd (f : Nat → Bool) (s : Nat) : List Nat := (List.range s).filter fun x => decide (0 < x) && goodS f x
theorem fnd_succ (f : Nat → Bool) (s : Nat) (hs : 0 < s) : fnd f (s + 1) = fnd f s ++ (if goodS f s = true then [s] else []) := by
  unfold fnd
  rw [List.range_succ, List.filter_append]
  congr 1
  simp [List.filter_cons, hs]
theorem fnd_one (f : Nat → Bool) : fnd f 1 = [] := rfl
theorem fnd_len (f : Nat → Bool) (s : Nat) : (fnd f s).length ≤ s := by
  unfold fnd
  exact Nat.le_trans (List.length_filter_le _ _) (by simp)
theorem fnd_space {rows : List (List Int)} {n : Nat} (hn : n ≤ 6) (hr : ∀ r ∈ rows, r.length = n) :
    (∀ v ∈ fnd (occF rows) (2 ^ n), V rows n v) ∧ ∀ x, V rows n x → Span (fnd (occF rows) (2 ^ n)) x := by
  constructor
  · intro v hv
    obtain ⟨h1, h2⟩ := List.mem_filter.1 hv
    have h1 := List.mem_range.1 h1
    rw [Bool.and_eq_true] at h2
    exact (good_V hn h1 hr).1 h2.2
  · intro x hx
    by_cases h0 : x = 0
    · subst h0; exact .zero
    · exact Span.mem (List.mem_filter.2 ⟨List.mem_range.2 hx.1, by rw [(good_V hn hx.1 hr).2 hx, decide_eq_true (Nat.pos_of_ne_zero h0)]; rfl⟩)
end Go.Ev
end
section
/- The reduced vectors, by search: a test that can be run. Plain numbers. -/
namespace Go.Ev
def Vb (rows : List (List Int)) (n x : Nat) : Bool := decide (x < 2 ^ n) && rows.all fun r => pr r x n % 2 == 0
theorem Vb_iff {rows : List (List Int)} {n x : Nat} : Vb rows n x = true ↔ V rows n x := by unfold Vb V; simp
def leadB (x k : Nat) : Bool := x.testBit k && (List.range k).all fun b => !x.testBit b
theorem leadB_iff {x k : Nat} : leadB x k = true ↔ Lead x k := by unfold leadB Lead; simp
def redB (rows : List (List Int)) (n x : Nat) : Bool := (List.range (2 ^ n)).all fun t => (List.range n).all fun k => (List.range n).all fun l => !(Vb rows n t && leadB t k && leadB x l && decide (l < k) && x.testBit k)
theorem redB_iff {rows : List (List Int)} {n x : Nat} (hx : x < 2 ^ n) : redB rows n x = true ↔ Red (V rows n) x := by
  unfold redB Red
  simp only [List.all_eq_true, List.mem_range]
  constructor
  · intro h t k l ht hk hl hlk
    have := h t ht.1 k (lead_lt ht.1 hk) l (lead_lt hx hl)
    cases hb : x.testBit k with
    | false => rfl
    | true => rw [Vb_iff.2 ht, leadB_iff.2 hk, leadB_iff.2 hl, decide_eq_true hlk, hb] at this; cases this
  · intro h t _ k _ l _
    by_cases hc : V rows n t ∧ Lead t k ∧ Lead x l ∧ l < k
    · rw [h t k l hc.1 hc.2.1 hc.2.2.1 hc.2.2.2]; simp
    · cases hv : Vb rows n t with
      | false => rfl
      | true =>
        cases h1 : leadB t k with
        | false => rfl
        | true =>
          cases h2 : leadB x l with
          | false => rfl
          | true =>
            have : ¬ l < k := fun h3 => hc ⟨Vb_iff.1 hv, leadB_iff.1 h1, leadB_iff.1 h2, h3⟩
            rw [decide_eq_false this]; rfl
def keepB (rows : List (List Int)) (n x : Nat) : Bool := Vb rows n x && redB rows n x
/-- The rows of the echelon form are those that the search keeps. -/
theorem rows_keep {rows : List (List Int)} {n r : Nat} {us : List Nat} {p : Nat → Nat} (h : EInv (V rows n) n us r p) : us.take r = kern (keepB rows n) n (2 ^ n - 1) :=
  rows_kern h (V_space rows n) (keepB rows n) (fun x _ hx => by unfold keepB; rw [Bool.and_eq_true, Vb_iff, redB_iff hx])
end Go.Ev
end
section
/- The text of a number's negative; a sign vector applied to a polynomial. -/
namespace Go.Mo
open Go.Qn Go.Lib
def negL (l : List UInt8) : List UInt8 := if l.head? = some 45 then l.tail else 45 :: l
theorem negL_text {b : Bool} {n d : Nat} : negL (text b n d) = text (!b) n d := by
  cases b with
  | true => simp [negL, text]
  | false =>
    have hne := dec_ne n
    have hh : (text false n d).head? ≠ some 45 := by
      unfold text
      simp only [Bool.false_eq_true, if_false, List.nil_append]
      rw [List.head?_append]
      cases hx : decDigits n with
      | nil => exact absurd hx hne
      | cons c t =>
        simp only [List.head?_cons, Option.some_or]
        intro e
        injection e with e
        have := dec_allD n c (by rw [hx]; simp)
        rw [e] at this
        exact absurd this (by decide)
    unfold negL
    rw [if_neg hh]
    simp [text]
theorem rd_neg {l : List UInt8} {b : Bool} {n d : Nat} (h : rd l = some (b, n, d)) (h0 : n ≠ 0) : rd (negL l) = some (!b, n, d) := by
  obtain ⟨hc, rfl⟩ := rd_some h
  rw [negL_text]
  exact rd_text ⟨hc.1, hc.2.1, fun e => absurd e h0⟩
theorem negL_negL {l : List UInt8} {b : Bool} {n d : Nat} (h : rd l = some (b, n, d)) : negL (negL l) = l := by
  obtain ⟨hc, rfl⟩ := rd_some h
  rw [negL_text, negL_text, Bool.not_not]
theorem negL_len (l : List UInt8) : (negL l).length ≤ l.length + 1 := by
  unfold negL; split
  · rw [List.length_tail]; omega
  · simp
theorem negL_ne (l : List UInt8) : negL l ≠ l := by
  intro h
  have := congrArg List.length h
  unfold negL at this
  split at this
  · rename_i h1
    cases l with
    | nil => simp at h1
    | cons c t => simp at this
  · simp at this
def negB (s : ByteArray) : ByteArray := ⟨(negL s.data.toList).toArray⟩
theorem negB_data (s : ByteArray) : (negB s).data.toList = negL s.data.toList := by simp [negB]
theorem coef_some {s : ByteArray} (h : coefOk s = true) : ∃ b n d, rd s.data.toList = some (b, n, d) ∧ n ≠ 0 := by
  unfold coefOk at h
  split at h
  · rename_i b n d hr
    exact ⟨b, n, d, hr, by simpa using h⟩
  · cases h
theorem coef_neg {s : ByteArray} (h : coefOk s = true) : coefOk (negB s) = true := by
  obtain ⟨b, n, d, hr, h0⟩ := coef_some h
  unfold coefOk
  rw [negB_data, rd_neg hr h0]
  simpa using h0
theorem negB_negB {s : ByteArray} (h : coefOk s = true) : negB (negB s) = s := by
  obtain ⟨b, n, d, hr, h0⟩ := coef_some h
  have : (negB (negB s)).data.toList = s.data.toList := by rw [negB_data, negB_data, negL_negL hr]
  cases s
  rename_i dt
  have e : (negB (negB ⟨dt⟩)).data = dt := Array.toList_inj.1 this
  exact congrArg ByteArray.mk e
theorem negB_ne (s : ByteArray) : negB s ≠ s := by
  intro h
  have : (negB s).data.toList = s.data.toList := by rw [h]
  rw [negB_data] at this
  exact negL_ne _ this
theorem negB_size (s : ByteArray) : (negB s).size ≤ s.size + 1 := by
  have h1 := negL_len s.data.toList
  have h2 : (negB s).size = (negL s.data.toList).length := rfl
  have h3 : s.data.toList.length = s.size := rfl
  omega
/-! A sign vector applied. -/
def oddT (s e : List Int) : Bool := decide (Gr.size (Ev.pk s s.length &&& Ev.pk e e.length) % 2 = 1)
def appT (s : List Int) (t : Term) : Term := if oddT s t.2 = true then (negB t.1, t.2) else t
theorem appT_exps (s : List Int) (t : Term) : (appT s t).2 = t.2 := by unfold appT; split <;> rfl
theorem appT_ok {s : List Int} {v : Int} {t : Term} (h : termOk v t = true) : termOk v (appT s t) = true := by
  rw [termOk_iff] at h ⊢
  rw [appT_exps]
  refine ⟨?_, h.2⟩
  unfold appT
  split
  · exact coef_neg h.1
  · exact h.1
theorem appT_appT {s : List Int} {v : Int} {t : Term} (h : termOk v t = true) : appT s (appT s t) = t := by
  rw [termOk_iff] at h
  by_cases ho : oddT s t.2 = true
  · have e1 : appT s t = (negB t.1, t.2) := if_pos ho
    rw [e1]
    unfold appT
    rw [if_pos ho, negB_negB h.1]
  · have e1 : appT s t = t := if_neg ho
    rw [e1, e1]
theorem appT_size (s : List Int) (t : Term) : (appT s t).1.size ≤ t.1.size + 1 := by
  unfold appT
  split
  · exact negB_size _
  · omega
theorem appT_same {s : List Int} {t : Term} : appT s t = t ↔ oddT s t.2 = false := by
  unfold appT
  constructor
  · intro h
    cases ho : oddT s t.2 with
    | false => rfl
    | true =>
      rw [if_pos ho] at h
      exact absurd (congrArg Prod.fst h) (negB_ne _)
  · intro h
    rw [if_neg (by rw [h]; decide)]
theorem app_valid {s : List Int} {v : Int} {ts : List Term} (h : VldP v ts) : VldP v (ts.map (appT s)) := by
  obtain ⟨h1, ⟨h2, h3, h4⟩, h5⟩ := h
  refine ⟨by simpa using h1, ⟨h2, h3, ?_⟩, ?_⟩
  · intro i hi hl
    have hl' : i < ts.length := by simpa using hl
    obtain ⟨a, b⟩ := h4 i hl' hl'
    rw [List.getElem_map]
    refine ⟨appT_ok a, fun hi0 => ?_⟩
    have := b hi0
    have hi1 : i - 1 < ts.length := by omega
    rw [appT_exps]
    simp only [List.getD_eq_getElem?_getD, List.getElem?_map, List.getElem?_eq_getElem hi1, Option.map_some, Option.getD_some, appT_exps]
    simpa [List.getD_eq_getElem?_getD, List.getElem?_eq_getElem hi1] using this
  · intro h
    have h' : 0 < ts.length := by simpa using h
    rw [List.getElem_map, appT_exps]
    exact h5 h'
theorem app_app {s : List Int} {v : Int} {ts : List Term} (h : VldP v ts) : (ts.map (appT s)).map (appT s) = ts := by
  rw [List.map_map]
  have : ∀ t ∈ ts, (appT s ∘ appT s) t = t := by
    intro t ht
    obtain ⟨i, hi, rfl⟩ := List.getElem_of_mem ht
    exact appT_appT (h.2.1.2.2 i hi hi).1
  exact (List.map_congr_left this).trans (List.map_id' _)
theorem app_same {s : List Int} {ts : List Term} : ts.map (appT s) = ts ↔ ∀ t ∈ ts, oddT s t.2 = false := by
  constructor
  · intro h t ht
    obtain ⟨i, hi, rfl⟩ := List.getElem_of_mem ht
    have : (ts.map (appT s))[i]? = ts[i]? := by rw [h]
    rw [List.getElem?_map, List.getElem?_eq_getElem hi, Option.map_some] at this
    injection this with this
    exact appT_same.1 this
  · intro h
    exact (List.map_congr_left (fun t ht => appT_same.2 (h t ht))).trans (List.map_id' _)
end Go.Mo
end
section
/- Sums of sign vectors: plain. -/
namespace Go.Ev
open Go.Gr Go.Mo
theorem V_zero (rows : List (List Int)) (n : Nat) : V rows n 0 :=
  ⟨Nat.two_pow_pos n, fun row _ => by have := pr_xor row 0 0 n; rw [Nat.xor_self] at this; omega⟩
/-- The sum of the vectors of a list that a number selects by its bits. -/
def selX (K : List Nat) (b : Nat) : Nat → Nat
  | 0 => 0
  | i + 1 => selX K b i ^^^ (if b.testBit i = true then K.getD i 0 else 0)
theorem selX_V {rows : List (List Int)} {n : Nat} {K : List Nat} (hK : ∀ x ∈ K, V rows n x) (b : Nat) : ∀ i, V rows n (selX K b i)
  | 0 => V_zero rows n
  | i + 1 => by
    unfold selX
    refine (V_space rows n).xor _ _ (selX_V hK b i) ?_
    split
    · by_cases h : i < K.length
      · have : K.getD i 0 = K[i] := by simp [h]
        rw [this]; exact hK _ (List.getElem_mem _)
      · have : K.getD i 0 = 0 := by simp [h]
        rw [this]; exact V_zero rows n
    · exact V_zero rows n
theorem selX_lt {n : Nat} {K : List Nat} (hK : ∀ x ∈ K, x < 2 ^ n) (b : Nat) : ∀ i, selX K b i < 2 ^ n
  | 0 => Nat.two_pow_pos n
  | i + 1 => by
    unfold selX
    refine Nat.xor_lt_two_pow (selX_lt hK b i) ?_
    split
    · by_cases h : i < K.length
      · have : K.getD i 0 = K[i] := by simp [h]
        rw [this]; exact hK _ (List.getElem_mem _)
      · have : K.getD i 0 = 0 := by simp [h]
        rw [this]; exact Nat.two_pow_pos n
    · exact Nat.two_pow_pos n
theorem unp_zero (n : Nat) : unp 0 n = List.replicate n 0 := by
  unfold unp
  simp [List.map_const']
/-- The sum of two vectors, made up to position k. -/
def mixL (x y n k : Nat) : List Int := unp (x ^^^ y) k ++ (unp x n).drop k
theorem mixL_len (x y : Nat) {n k : Nat} (h : k ≤ n) : (mixL x y n k).length = n := by
  unfold mixL
  rw [List.length_append, unp_len, List.length_drop, unp_len]; omega
theorem mixL_zero (x y n : Nat) : mixL x y n 0 = unp x n := by simp [mixL, unp]
theorem mixL_full (x y n : Nat) : mixL x y n n = unp (x ^^^ y) n := by
  unfold mixL
  rw [List.drop_of_length_le (by rw [unp_len]; exact Nat.le_refl _), List.append_nil]
theorem mixL_at (x y : Nat) {n k : Nat} (h : k < n) : (mixL x y n k)[k]'(by rw [mixL_len x y (by omega)]; exact h) = if x.testBit k = true then 1 else 0 := by
  unfold mixL
  rw [List.getElem_append_right (by rw [unp_len]; exact Nat.le_refl _)]
  simp [unp]
theorem mixL_set (x y : Nat) {n k : Nat} (h : k < n) : (mixL x y n k).set k (if (x ^^^ y).testBit k = true then 1 else 0) = mixL x y n (k + 1) := by
  have hd : (unp x n).drop k = (if x.testBit k = true then 1 else 0) :: (unp x n).drop (k + 1) := by
    rw [List.drop_eq_getElem_cons (by rw [unp_len]; exact h)]
    simp [unp]
  have hu : unp (x ^^^ y) (k + 1) = unp (x ^^^ y) k ++ [if (x ^^^ y).testBit k = true then 1 else 0] := by
    unfold unp; rw [List.range_succ, List.map_append]; rfl
  unfold mixL
  rw [hd, hu, List.set_append_right _ _ (by rw [unp_len]; exact Nat.le_refl _), unp_len, Nat.sub_self, List.set_cons_zero, List.append_assoc]
  rfl
theorem bit_step (p q b : Bool) : ((if p = true then (1 : Int) else 0) + (if q = true then 1 else 0) * (if b = true then 1 else 0)) % 2 = if (p ^^ (b && q)) = true then 1 else 0 := by
  cases p <;> cases q <;> cases b <;> rfl
theorem sel_bit (u : Nat) (b : Bool) (k : Nat) : (if b = true then u else 0).testBit k = (b && u.testBit k) := by
  cases b <;> simp
/-- A vector of the space changes no term. -/
theorem odd_V {rows : List (List Int)} {n x : Nat} (hn : n ≤ 64) (h : V rows n x) {e : List Int} (he : e ∈ rows) (hl : e.length = n) : oddT (unp x n) e = false := by
  unfold oddT
  rw [unp_len, pk_unp h.1, hl, size_and e x n hn]
  have := h.2 e he
  simp [this]
theorem V_odd {rows : List (List Int)} {n x : Nat} (hn : n ≤ 64) (hx : x < 2 ^ n) (hr : ∀ e ∈ rows, e.length = n) (h : ∀ e ∈ rows, oddT (unp x n) e = false) : V rows n x := by
  refine ⟨hx, fun e he => ?_⟩
  have := h e he
  unfold oddT at this
  rw [unp_len, pk_unp hx, hr e he, size_and e x n hn] at this
  have h2 : ¬ pr e x n % 2 = 1 := by simpa using this
  omega
end Go.Ev
end
section
/- Classes and products of monomials: plain. -/
namespace Go.Ev
open Go.Gr Go.Mo
/-- What the classes hold: the keys are different, each index is in the class of its key. -/
structure ClsInv (ks : List (List Int)) (i : Nat) : Prop where
  nodup : (clsSt ks i).1.Nodup
  mem : ∀ x, x < i → ks.getD x [] ∈ (clsSt ks i).1
  cls : ∀ j, j < (clsSt ks i).1.length → (clsSt ks i).2.getD j [] = (List.range i).filter (fun x => decide (ks.getD x [] = (clsSt ks i).1.getD j []))
theorem getD_idxOf {K : List (List Int)} {q : List Int} (h : K.idxOf q < K.length) : K.getD (K.idxOf q) [] = q := by
  simp [List.getD_eq_getElem?_getD, h]
theorem clsInv (ks : List (List Int)) : ∀ i, ClsInv ks i
  | 0 => ⟨by simp [clsSt], fun x h => by omega, fun j h => by simp [clsSt] at h⟩
  | i + 1 => by
    have ih := clsInv ks i
    have hl := (clsSt_len ks i).1
    obtain ⟨h1, h2, h3⟩ := ih
    by_cases hc : (clsSt ks i).1.idxOf (ks.getD i []) < (clsSt ks i).1.length
    · have e := clsSt_old hc
      have hq := getD_idxOf hc
      refine ⟨by rw [e]; exact h1, fun x hx => ?_, fun j hj => ?_⟩
      · rw [e]
        by_cases hxi : x < i
        · exact h2 x hxi
        · obtain rfl : x = i := by omega
          exact List.idxOf_lt_length_iff.1 hc
      · rw [e] at hj ⊢
        simp only at hj ⊢
        have h3j := h3 j hj
        rw [List.range_succ, List.filter_append]
        generalize (clsSt ks i).1.idxOf (ks.getD i []) = k at *
        by_cases hjk : j = k
        · subst hjk
          rw [List.getD_eq_getElem?_getD, List.getElem?_set_self (by omega), Option.getD_some, h3j]
          rw [hq]
          simp
        · have hne : ¬ ks.getD i [] = (clsSt ks i).1.getD j [] := by
            rw [← hq]
            intro he
            have a1 : (clsSt ks i).1.getD k [] = (clsSt ks i).1[k] := by simp [hc]
            have a2 : (clsSt ks i).1.getD j [] = (clsSt ks i).1[j] := by simp [hj]
            rw [a1, a2] at he
            exact hjk ((List.getElem_inj h1).1 he).symm
          rw [List.getD_eq_getElem?_getD, List.getElem?_set_ne (by omega), ← List.getD_eq_getElem?_getD, h3j]
          simpa [List.filter_cons] using hne
    · have e := clsSt_new hc
      have hq : ks.getD i [] ∉ (clsSt ks i).1 := fun h => hc (List.idxOf_lt_length_iff.2 h)
      refine ⟨?_, fun x hx => ?_, fun j hj => ?_⟩
      · rw [e]
        refine List.nodup_append.2 ⟨h1, by simp, fun a ha b hb => ?_⟩
        rw [List.mem_singleton.1 hb]
        rintro rfl
        exact hq ha
      · rw [e]
        by_cases hxi : x < i
        · exact List.mem_append_left _ (h2 x hxi)
        · obtain rfl : x = i := by omega
          exact List.mem_append_right _ (by simp)
      · rw [e] at hj ⊢
        simp only at hj ⊢
        rw [List.range_succ, List.filter_append]
        by_cases hji : j < (clsSt ks i).1.length
        · have h3j := h3 j hji
          have a1 : ((clsSt ks i).1 ++ [ks.getD i []]).getD j [] = (clsSt ks i).1.getD j [] := by
            simp only [List.getD_eq_getElem?_getD, List.getElem?_append_left hji]
          have a2 : ((clsSt ks i).2 ++ [[i]]).getD j [] = (clsSt ks i).2.getD j [] := by
            simp only [List.getD_eq_getElem?_getD, List.getElem?_append_left (show j < (clsSt ks i).2.length by omega)]
          have hne : ¬ ks.getD i [] = (clsSt ks i).1.getD j [] := by
            intro he
            have a1 : (clsSt ks i).1.getD j [] = (clsSt ks i).1[j] := by simp [hji]
            rw [a1] at he
            exact hq (by rw [he]; exact List.getElem_mem _)
          rw [a1, a2, h3j]
          simpa [List.filter_cons] using hne
        · have hj2 : j = (clsSt ks i).1.length := by
            rw [List.length_append, List.length_cons, List.length_nil] at hj; omega
          subst hj2
          have a1 : ((clsSt ks i).1 ++ [ks.getD i []]).getD (clsSt ks i).1.length [] = ks.getD i [] := by
            simp [List.getD_eq_getElem?_getD]
          have a2 : ((clsSt ks i).2 ++ [[i]]).getD (clsSt ks i).1.length [] = [i] := by
            rw [hl]; simp [List.getD_eq_getElem?_getD]
          rw [a1, a2]
          have hn : (List.range i).filter (fun x => decide (ks.getD x [] = ks.getD i [])) = [] := by
            rw [List.filter_eq_nil_iff]
            intro x hx
            have := h2 x (List.mem_range.1 hx)
            simp only [decide_eq_true_eq]
            intro he
            exact hq (he ▸ this)
          rw [hn]
          simp
/-- The number of the class of an index. -/
def cix (ks : List (List Int)) (x : Nat) : Nat := (clsSt ks ks.length).1.idxOf (ks.getD x [])
theorem cix_lt {ks : List (List Int)} {x : Nat} (h : x < ks.length) : cix ks x < (clsSt ks ks.length).2.length := by
  rw [← (clsSt_len ks ks.length).1]
  exact List.idxOf_lt_length_iff.2 ((clsInv ks ks.length).mem x h)
theorem cix_mem {ks : List (List Int)} {x j : Nat} (hj : j < (clsSt ks ks.length).2.length) : x ∈ (clsSt ks ks.length).2.getD j [] ↔ x < ks.length ∧ cix ks x = j := by
  have hI := clsInv ks ks.length
  rw [← (clsSt_len ks ks.length).1] at hj
  rw [hI.cls j hj, List.mem_filter, List.mem_range]
  refine ⟨fun ⟨h1, h2⟩ => ⟨h1, ?_⟩, fun ⟨h1, h2⟩ => ⟨h1, ?_⟩⟩
  · have h2 := of_decide_eq_true h2
    unfold cix
    have a1 : (clsSt ks ks.length).1.getD j [] = (clsSt ks ks.length).1[j] := by simp [hj]
    rw [h2, a1]
    exact hI.nodup.idxOf_getElem j hj
  · refine decide_eq_true ?_
    subst h2
    exact (getD_idxOf (List.idxOf_lt_length_iff.2 (hI.mem x h1))).symm
theorem cix_nodup (ks : List (List Int)) (j : Nat) : ((clsSt ks ks.length).2.getD j []).Nodup := by
  by_cases hj : j < (clsSt ks ks.length).1.length
  · rw [(clsInv ks ks.length).cls j hj]
    exact List.nodup_range.filter _
  · have : (clsSt ks ks.length).2.getD j [] = [] := by
      rw [(clsSt_len ks ks.length).1] at hj
      rw [List.getD_eq_getElem?_getD, List.getElem?_eq_none (by omega)]; rfl
    rw [this]; exact List.nodup_nil
theorem cix_eq {ks : List (List Int)} {x y : Nat} (hx : x < ks.length) (hy : y < ks.length) : cix ks x = cix ks y ↔ ks.getD x [] = ks.getD y [] := by
  have hI := clsInv ks ks.length
  refine ⟨fun h => ?_, fun h => by unfold cix; rw [h]⟩
  have h1 := getD_idxOf (List.idxOf_lt_length_iff.2 (hI.mem x hx))
  have h2 := getD_idxOf (List.idxOf_lt_length_iff.2 (hI.mem y hy))
  rw [← h1, ← h2]
  unfold cix at h
  rw [h]
/-- The numbers of the classes, made up to element k of class i. -/
def mkd (ix : Nat → Nat) (C : List Nat) (n i k : Nat) : List Int := (List.range n).map fun x => if ix x < i then (ix x : Int) + 1 else if ix x = i ∧ x ∈ C.take k then (i : Int) + 1 else 0
theorem mkd_len (ix : Nat → Nat) (C : List Nat) (n i k : Nat) : (mkd ix C n i k).length = n := by simp [mkd]
theorem mkd_zero (ix : Nat → Nat) (C : List Nat) (n : Nat) : mkd ix C n 0 0 = List.replicate n 0 := by
  unfold mkd
  rw [List.eq_replicate_iff]
  refine ⟨by simp, fun b hb => ?_⟩
  obtain ⟨x, _, rfl⟩ := List.mem_map.1 hb
  simp
theorem mkd_get (ix : Nat → Nat) (C : List Nat) {n i k x : Nat} (hx : x < n) : (mkd ix C n i k)[x]'(by rw [mkd_len]; exact hx) = if ix x < i then (ix x : Int) + 1 else if ix x = i ∧ x ∈ C.take k then (i : Int) + 1 else 0 := by simp [mkd]
theorem mkd_at (ix : Nat → Nat) (C : List Nat) {n i k x : Nat} (hx : x < n) (hi : ix x = i) (hC : C.Nodup) (hk : k < C.length) (he : C[k] = x) : (mkd ix C n i k)[x]'(by rw [mkd_len]; exact hx) = 0 := by
  rw [mkd_get ix C hx, if_neg (by omega), if_neg]
  rintro ⟨_, hm⟩
  rw [List.mem_take_iff_getElem] at hm
  obtain ⟨j, hj, hjx⟩ := hm
  have := (List.getElem_inj hC).1 (hjx.trans he.symm)
  omega
theorem mkd_set (ix : Nat → Nat) (C : List Nat) {n i k x : Nat} (_hx : x < n) (hi : ix x = i) (hk : k < C.length) (he : C[k] = x) : (mkd ix C n i k).set x ((i : Int) + 1) = mkd ix C n i (k + 1) := by
  refine List.ext_getElem (by simp [mkd]) fun j h1 h2 => ?_
  have hj : j < n := by rw [mkd_len] at h2; exact h2
  rw [mkd_get ix C hj, List.getElem_set]
  have ht : C.take (k + 1) = C.take k ++ [x] := by rw [List.take_succ_eq_append_getElem hk, he]
  by_cases hjx : x = j
  · subst hjx
    rw [if_pos rfl, if_neg (by omega), if_pos ⟨hi, by rw [ht]; simp⟩]
  · rw [if_neg hjx, mkd_get ix C hj]
    have e : (j ∈ C.take (k + 1)) ↔ j ∈ C.take k := by
      rw [ht]
      simp only [List.mem_append, List.mem_singleton]
      exact ⟨fun h => h.resolve_right (fun e => hjx e.symm), .inl⟩
    simp only [e]
theorem mkd_next (ix : Nat → Nat) (C C' : List Nat) {n i : Nat} (h : ∀ x, x < n → ix x = i → x ∈ C) : mkd ix C n i C.length = mkd ix C' n (i + 1) 0 := by
  unfold mkd
  refine List.map_congr_left fun x hx => ?_
  have hx := List.mem_range.1 hx
  rw [List.take_length, List.take_zero]
  by_cases h1 : ix x < i
  · rw [if_pos h1, if_pos (by omega)]
  · by_cases h2 : ix x = i
    · rw [if_neg h1, if_pos ⟨h2, h x hx h2⟩, if_pos (by omega), h2]
    · rw [if_neg h1, if_neg (fun e => h2 e.1), if_neg (by omega), if_neg (by simp)]
theorem mkd_full (ix : Nat → Nat) (C : List Nat) {n m x : Nat} (hx : x < n) (h : ix x < m) : (mkd ix C n m 0)[x]'(by rw [mkd_len]; exact hx) = (ix x : Int) + 1 := by
  rw [mkd_get ix C hx, if_pos h]
/-- The sum of two monomials. -/
def addL (a b : List Int) : List Int := List.zipWith (· + ·) a b
theorem addL_len {a b : List Int} (h : a.length = b.length) : (addL a b).length = a.length := by simp [addL, h]
theorem addL_getD {a b : List Int} (h : a.length = b.length) (i : Nat) : (addL a b).getD i 0 = a.getD i 0 + b.getD i 0 := by
  unfold addL
  simp only [List.getD_eq_getElem?_getD, List.getElem?_zipWith]
  rcases Nat.lt_or_ge i a.length with h1 | h1
  · rw [List.getElem?_eq_getElem h1, List.getElem?_eq_getElem (by omega)]; rfl
  · rw [List.getElem?_eq_none h1, List.getElem?_eq_none (by omega)]; rfl
theorem dotN_add {a b : List Int} (h : a.length = b.length) (v : List Int) : ∀ n, dotN (addL a b) v n = dotN a v n + dotN b v n
  | 0 => rfl
  | n + 1 => by
    simp only [dotN]
    rw [dotN_add h v n, addL_getD h, Int.add_mul]; omega
/-- The character of a product is 0 exactly if the characters are equal. -/
theorem chr_zero_iff {s : List (List Int)} {a b : List Int} (h : a.length = b.length) : chr s (addL a b) = List.replicate s.length 0 ↔ chr s a = chr s b := by
  unfold chr
  rw [List.eq_replicate_iff, List.map_inj_left]
  constructor
  · rintro ⟨_, h1⟩ v hv
    have := h1 _ (List.mem_map_of_mem hv)
    rw [dotN_add h] at this
    omega
  · intro h1
    refine ⟨by simp, fun x hx => ?_⟩
    obtain ⟨v, hv, rfl⟩ := List.mem_map.1 hx
    have := h1 v hv
    rw [dotN_add h]
    omega
/-- The exponents of a term have the character 0. -/
theorem chr_row {rows : List (List Int)} {n : Nat} {K : List Nat} (hn : n ≤ 64) (hK : ∀ x ∈ K, V rows n x) {e : List Int} (he : e ∈ rows) (hl : e.length = n) (h0 : ∀ x ∈ e, 0 ≤ x) : chr (K.map (unp · n)) e = List.replicate (K.map (unp · n)).length 0 := by
  unfold chr
  rw [List.eq_replicate_iff]
  refine ⟨by simp, fun x hx => ?_⟩
  obtain ⟨v, hv, rfl⟩ := List.mem_map.1 hx
  obtain ⟨y, hy, rfl⟩ := List.mem_map.1 hv
  have h1 := odd_V hn (hK y hy) he hl
  unfold oddT at h1
  rw [chr_odd (unp_bit y n) h0 (by rw [unp_len, hl]) (by omega)]
  have h2 := of_decide_eq_false h1
  rw [if_neg h2]
/-- The coefficient of a monomial among terms. -/
def cof (ts : List Term) (m : List Int) (z : ByteArray) : ByteArray := match ts.find? (fun t => decide (t.2 = m)) with
  | some t => t.1
  | none => z
theorem cof_none {ts : List Term} {m : List Int} {z : ByteArray} (h : ∀ t ∈ ts, t.2 ≠ m) : cof ts m z = z := by
  unfold cof
  rw [List.find?_eq_none.2 (fun t ht => by simp; exact h t ht)]
end Go.Ev
end
