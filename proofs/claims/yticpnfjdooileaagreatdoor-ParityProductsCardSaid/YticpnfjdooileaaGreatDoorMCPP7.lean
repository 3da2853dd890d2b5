/- Parts of the proof: XD1, XD2, XD3, XD4, LC1, WB2. -/
import Derived.Laws.OwnMore
import Derived.RegionTactic
import Derived.ChangeAlike
import Derived.Deep.DeepCutAuto
import Derived.Test.YticpnfjdooileaaGreatDoorMCPP4
import Derived.Test.YticpnfjdooileaaGreatDoorMCPP5
import Derived.Test.YticpnfjdooileaaGreatDoorMCPP6
section
/- Walks of the reference: monomials, sign vectors, inner products, the check. -/
namespace Go.Proofs.Tg
open Go.RowKit Go.Gr Go.Ev Go.Mo
set_option maxHeartbeats 2000000
set_option maxRecDepth 100000
theorem rdeg_any (A : Option Addr) (c : Nat) (m : List Int) (w : World) (hA : Ints w A m) (hn : m.length ≤ 1000) :
    Calls Tryz.prog 68 #[.slice A m.length c] w fun e w' => e = .returned (.int .i64 (degM m)) ∧ w = w' := by
  by_cases hl : m.length ≤ 6
  · have hd : decide ((6 : Int) < (m.length : Int)) = false := by simp; omega
    go_enter Tryz.func68, Tryz.ntmps68
    go_wp2
    go_loop [3, 4] (fun s i => ∃ k : Nat, k ≤ m.length ∧ i = .int .i64 k ∧ ∃ z : Int, s = .int .i64 z ∧ 0 ≤ z ∧ z ≤ 24 ∧ Hid (z = (m.take k).sum ∧ ∀ e ∈ m.take k, 0 ≤ e)) (fun _ i => m.length - (intOf i).toNat)
    case atStart => exact ⟨0, Nat.zero_le _, rfl, 0, rfl, by omega, by omega, Lib.hid ⟨rfl, by simp⟩⟩
    case round =>
      obtain ⟨k, hk, rfl, z, rfl, hz0, hz1, HZ⟩ := hrel
      by_cases hlt : k < m.length
      · obtain ⟨ad, rfl, hc⟩ := Ints.at hA hlt
        have HS : Hid ((m.take (k + 1)).sum = z + m[k]) := Lib.hid (by rw [sum_take_succ m k hlt, ← HZ.out.1])
        have HB : Hid (m[k] < 0 ∨ 24 - z < m[k] → vldM m = false) := Lib.hid (fun h => vldM_bad hlt (by rw [← HZ.out.1]; exact h))
        have HT : Hid (m.take (k + 1) = m.take k ++ [m[k]]) := Lib.hid (List.take_succ_eq_append_getElem hlt)
        clear hA
        generalize m[k] = x at hc HS HB HT
        by_cases h1 : x < 0
        · have b1 : decide (x < 0) = true := by simpa using h1
          have HF : Hid (degM m = -1) := Lib.hid (by unfold degM; rw [HB.out (.inl h1)]; rfl)
          go_wp2
          go_ret
          exact ⟨by rw [HF.out]; rfl, rfl⟩
        · have b1 : decide (x < 0) = false := by simpa using h1
          by_cases h2 : 24 - z < x
          · have b2 : decide (24 - z < x) = true := by simpa using h2
            have HF : Hid (degM m = -1) := Lib.hid (by unfold degM; rw [HB.out (.inr h2)]; rfl)
            go_wp2
            go_ret
            exact ⟨by rw [HF.out]; rfl, rfl⟩
          · have b2 : decide (24 - z < x) = false := by simpa using h2
            go_wp2
            go_round
            case rel =>
              refine ⟨k + 1, by omega, by go_num, z + x, rfl, by omega, by omega, Lib.hid ⟨HS.out.symm, fun e he => ?_⟩⟩
              rw [HT.out] at he
              rcases List.mem_append.1 he with he | he
              · exact HZ.out.2 e he
              · simp at he; omega
            case measure => simp [intOf]; omega
      · obtain rfl : k = m.length := by omega
        have HF : Hid (degM m = z) := Lib.hid (by
          have h := HZ.out
          rw [List.take_length] at h
          unfold degM
          rw [if_pos (vldM_iff.2 ⟨hl, h.2, by omega⟩), h.1])
        go_wp2
        go_ret
        exact ⟨by rw [HF.out]; rfl, rfl⟩
  · have hd : decide ((6 : Int) < (m.length : Int)) = true := by simp; omega
    have HF : Hid (degM m = -1) := Lib.hid (by
      unfold degM
      rw [if_neg (by rw [vldM_iff]; exact fun h => hl h.1)])
    go_enter Tryz.func68, Tryz.ntmps68
    go_wp2
    go_ret
    exact ⟨by rw [HF.out]; rfl, rfl⟩
theorem rvalid_any (A : Option Addr) (c : Nat) (m : List Int) (w : World) (hA : Ints w A m) (hn : m.length ≤ 1000) :
    Calls Tryz.prog 53 #[.slice A m.length c] w fun e w' => e = .returned (.bool (vldM m)) ∧ w = w' := by
  have HD : Hid (decide (0 ≤ degM m) = vldM m) := Lib.hid degM_ge
  have HC := Lib.hid (rdeg_any A c m w hA hn)
  by_cases hl : m.length ≤ 6
  · have hd : decide ((m.length : Int) ≤ 6) = true := by simp; omega
    generalize degM m = z at *
    go_enter Tryz.func53, Tryz.ntmps53
    go_wp2_with (go_at_call 68; refine HC.out.mono ?_; rintro e w' ⟨rfl, rfl⟩)
    go_ret
    exact ⟨by rw [← HD.out]; rfl, rfl⟩
  · have hd : decide ((m.length : Int) ≤ 6) = false := by simp; omega
    have HF : Hid (vldM m = false) := Lib.hid (eq_false_of_ne_true (by rw [vldM_iff]; exact fun h => hl h.1))
    go_enter Tryz.func53, Tryz.ntmps53
    go_wp2
    go_ret
    exact ⟨by rw [HF.out]; rfl, rfl⟩
theorem rvld_lit (A : Option Addr) (c : Nat) (m : List Int) (w : World) (hA : Ints w A m) (hn : m.length ≤ 1000) (b : Bool) (hb : vldM m = b) :
    Calls Tryz.prog 53 #[.slice A m.length c] w fun e w' => e = .returned (.bool b) ∧ w = w' := by rw [← hb]; exact rvalid_any A c m w hA hn
theorem rbits_lit (A : Option Addr) (c : Nat) (l : List Int) (w : World) (hA : Ints w A l) (hn : l.length ≤ 1000) (b : Bool) (hb : b01 l = b) :
    Calls Tryz.prog 42 #[.slice A l.length c] w fun e w' => e = .returned (.bool b) ∧ w = w' := by
  rw [← hb]
  clear hb
  go_enter Tryz.func42, Tryz.ntmps42
  go_wp2
  go_loop [3] (fun i => ∃ k : Nat, k ≤ l.length ∧ i = .int .i64 k ∧ Hid (Ev.Bit01 (l.take k))) (fun i => l.length - (intOf i).toNat)
  case atStart => exact ⟨0, Nat.zero_le _, rfl, Lib.hid (by intro x hx; cases hx)⟩
  case round =>
    obtain ⟨k, hk, rfl, HG⟩ := hrel
    by_cases hlt : k < l.length
    · obtain ⟨ad, rfl, hc⟩ := Ints.at hA hlt
      have HT0 : Hid (l.take (k + 1) = l.take k ++ [l[k]]) := Lib.hid (List.take_succ_eq_append_getElem hlt)
      have HM : Hid (l[k] ∈ l) := Lib.hid (List.getElem_mem _)
      clear hA
      generalize l[k] = x at *
      by_cases h0 : x = 0
      · have b0 : (x != 0) = false := by simp [h0]
        have HG2 : Hid (Ev.Bit01 (l.take (k + 1))) := Lib.hid (by
          rw [HT0.out]; intro y hy
          rcases List.mem_append.1 hy with h | h
          · exact HG.out y h
          · simp at h; subst h; exact .inl h0)
        clear h0
        go_wp2
        go_round
        case rel => exact ⟨k + 1, by omega, by go_num, HG2⟩
        case measure => simp [intOf]; omega
      · have b0 : (x != 0) = true := by simp [h0]
        by_cases h1 : x = 1
        · have b1 : (x != 1) = false := by simp [h1]
          have HG2 : Hid (Ev.Bit01 (l.take (k + 1))) := Lib.hid (by
            rw [HT0.out]; intro y hy
            rcases List.mem_append.1 hy with h | h
            · exact HG.out y h
            · simp at h; subst h; exact .inr h1)
          clear h0 h1
          go_wp2
          go_round
          case rel => exact ⟨k + 1, by omega, by go_num, HG2⟩
          case measure => simp [intOf]; omega
        · have b1 : (x != 1) = true := by simp [h1]
          have HF : Hid (b01 l = false) := Lib.hid (bit01_bad HM.out h0 h1)
          clear h0 h1
          go_wp2
          go_ret
          exact ⟨by rw [HF.out]; rfl, rfl⟩
    · have HF : Hid (b01 l = true) := Lib.hid (b01_iff.2 (by have := HG.out; rwa [List.take_of_length_le (by omega)] at this))
      go_wp2
      go_ret
      exact ⟨by rw [HF.out]; rfl, rfl⟩
theorem dot_any (A S : Option Addr) (c d : Nat) (a s : List Int) (w : World) (hA : Ints w A a) (hS : Ints w S s) (hl : s.length ≤ a.length) (hn : s.length ≤ 64) (ha : ∀ x ∈ a, 0 ≤ x ∧ x ≤ 1048576) (hs : Ev.Bit01 s) :
    Calls Tryz.prog 43 #[.slice A a.length c, .slice S s.length d] w fun e w' => e = .returned (.int .i64 (dotN a s s.length % 2)) ∧ Dr w w' := by
  have HA := Lib.hid ha
  have HS := Lib.hid hs
  clear ha hs
  go_enter Tryz.func43, Tryz.ntmps43
  go_wp2
  go_loopw [5, 6] (fun t i wr => ∃ k : Nat, k ≤ s.length ∧ i = .int .i64 k ∧ ∃ z : Int, t = .int .i64 z ∧ 0 ≤ z ∧ z ≤ 1048576 * k ∧ Hid (z = dotN a s k) ∧ Dr w wr) (fun _ i _ => s.length - (intOf i).toNat)
  case atStart => exact ⟨0, Nat.zero_le _, rfl, 0, rfl, by omega, by omega, Lib.hid rfl, Dr.refl _⟩
  case round =>
    obtain ⟨k, hk, rfl, z, rfl, hz0, hz1, HZ, hdr⟩ := hrel
    by_cases hlt : k < s.length
    · have hlt2 : k < a.length := by omega
      obtain ⟨ad, rfl, hc1⟩ := Ints.at (hA.keep hdr.below) hlt2
      obtain ⟨sd, rfl, hc2⟩ := Ints.at (hS.keep hdr.below) hlt
      have hb1 := HA.out a[k] (List.getElem_mem _)
      have hb2 := HS.out s[k] (List.getElem_mem _)
      have HD : Hid (dotN a s (k + 1) = z + a[k] * s[k]) := Lib.hid (by rw [dotN, ← HZ.out]; simp [hlt, hlt2])
      clear hA hS
      generalize a[k] = x at *
      generalize s[k] = y at *
      obtain ⟨x0, x1⟩ := hb1
      have p0 : 0 ≤ x * y := by rcases hb2 with rfl | rfl <;> simp <;> omega
      have p1 : x * y ≤ 1048576 := by rcases hb2 with rfl | rfl <;> simp <;> omega
      have i1 : (0 : Int) ≤ (k : Int) := by omega
      have i2 : (k : Int) < (a.length : Int) := by omega
      have i3 : (k : Int) < (s.length : Int) := by omega
      have i4 : ((k : Int)).toNat = k := by omega
      have w1 : IntKind.i64.wrap (x * y) = x * y := IntWalk.i64_in _ (by omega)
      have w2 : IntKind.i64.wrap (z + x * y) = z + x * y := IntWalk.i64_in _ (by omega)
      clear hb2
      go_wp2
      go_quiet (fail)
      clear w1 w2
      go_wp2
      go_roundw
      case rel => exact ⟨k + 1, by omega, by go_num, z + x * y, rfl, by omega, by omega, Lib.hid HD.out.symm, hdr.drewN _⟩
      case measure => simp [intOf]; omega
    · obtain rfl : k = s.length := by omega
      go_wp2
      go_ret
      exact ⟨by rw [← HZ.out]; rfl, hdr⟩
end Go.Proofs.Tg
end
section
/- Memory of the reference's classes: keys that stay and classes that grow, all apart. -/
namespace Go.Proofs.Tg
open Go.RowKit
structure KInv (base : Nat) (KA : Option Addr) (kc : Nat) (K : List (List Int)) (kval : Nat → Value) (C : Option Addr) (cc : Nat) (Cl : List (List Nat)) (val : Nat → Value) (w : World) : Prop where
  fam : Fam base C cc Cl val w
  krow : w.ownsRow base 33 1 (.slice KA K.length kc) K.length ((List.range K.length).map kval)
  kown : ∀ j, j < K.length → w.ownsRow base 3 1 (kval j) (K.getD j []).length ((K.getD j []).map vi)
  ksep : ∀ i j, i < K.length → j < Cl.length → (kval i).ownBlock = none ∨ (kval i).ownBlock ≠ (val j).ownBlock
  rsep : (Value.slice KA K.length kc).ownBlock = none ∨ (Value.slice KA K.length kc).ownBlock ≠ (Value.slice C Cl.length cc).ownBlock
theorem KInv.nil (base : Nat) (w : World) : KInv base none 0 [] (fun _ => .slice none 0 0) none 0 [] (fun _ => .slice none 0 0) w :=
  ⟨Fam.nil _ _, World.ownsRow_nil _ _ _ _, fun j h => absurd h (by simp), fun i j h => absurd h (by simp), .inl rfl⟩
theorem KInv.keep {base : Nat} {KA : Option Addr} {kc : Nat} {K : List (List Int)} {kval : Nat → Value} {C : Option Addr} {cc : Nat} {Cl : List (List Nat)} {val : Nat → Value} {w w' : World} (h : KInv base KA kc K kval C cc Cl val w) (hb : Below w.heap.size w w') : KInv base KA kc K kval C cc Cl val w' :=
  ⟨h.fam.keep hb, own_below h.krow hb (Nat.le_refl _), fun j hj => own_below (h.kown j hj) hb (Nat.le_refl _), h.ksep, h.rsep⟩
theorem KInv.alloc {base : Nat} {KA : Option Addr} {kc : Nat} {K : List (List Int)} {kval : Nat → Value} {C : Option Addr} {cc : Nat} {Cl : List (List Nat)} {val : Nat → Value} {w : World} (h : KInv base KA kc K kval C cc Cl val w) (o : Obj) : KInv base KA kc K kval C cc Cl val (w.alloc o) :=
  h.keep ((Below.refl _ _).alloc (Nat.le_refl _) o)
theorem ne_symm' {a b : Option Nat} (h : a = none ∨ a ≠ b) : b = none ∨ b ≠ a := by
  cases b with
  | none => exact .inl rfl
  | some x =>
    right
    rcases h with h | h
    · rw [h]; simp
    · exact fun e => h e.symm
theorem KInv.pushKey {base : Nat} {KA KA' : Option Addr} {kc kc' : Nat} {K : List (List Int)} {kval : Nat → Value} {C : Option Addr} {cc : Nat} {Cl : List (List Nat)} {val : Nat → Value} {w w' : World} {q : List Int} {kv : Value} (h : KInv base KA kc K kval C cc Cl val w)
    (hq : w.ownsRow base 3 1 kv q.length (q.map vi)) (hqs : ∀ j, j < Cl.length → kv.ownBlock = none ∨ kv.ownBlock ≠ (val j).ownBlock)
    (hr : w'.ownsRow base 33 1 (.slice KA' (K.length + 1) kc') (K.length + 1) ((List.range K.length).map kval ++ [kv])) (hg : w.grownBy w' (Value.slice KA K.length kc).ownBlock)
    (hat : (Value.slice KA' (K.length + 1) kc').ownBlock = (Value.slice KA K.length kc).ownBlock ∨ (Value.slice KA' (K.length + 1) kc').ownBlock = some w.heap.size) :
    KInv base KA' kc' (K ++ [q]) (fun j => if j = K.length then kv else kval j) C cc Cl val w' := by
  have hlen : (K ++ [q]).length = K.length + 1 := by simp
  have hgd : ∀ j, j < K.length + 1 → (K ++ [q]).getD j [] = if j = K.length then q else K.getD j [] := by
    intro j hj
    by_cases e : j = K.length
    · subst e; simp
    · rw [if_neg e]
      simp only [List.getD_eq_getElem?_getD, List.getElem?_append_left (show j < K.length by omega)]
  refine ⟨h.fam.other hg (ne_symm' h.rsep) (fun j hj => own_ne (h.fam.own j hj) h.krow (by decide)), ?_, fun j hj => ?_, fun i j hi hj => ?_, ?_⟩
  · rw [hlen]
    have e : (List.range (K.length + 1)).map (fun j => if j = K.length then kv else kval j) = (List.range K.length).map kval ++ [kv] := by
      rw [List.range_succ, List.map_append]
      congr 1
      · refine List.map_congr_left fun j hj => ?_
        have := List.mem_range.1 hj
        rw [if_neg (by omega)]
      · simp
    rw [e]; exact hr
  · rw [hlen] at hj
    rw [hgd j hj]
    by_cases e : j = K.length
    · rw [if_pos e, if_pos e]
      exact hq.kept hg (own_ne hq h.krow (by decide))
    · rw [if_neg e, if_neg e]
      exact (h.kown j (by omega)).kept hg (own_ne (h.kown j (by omega)) h.krow (by decide))
  · rw [hlen] at hi
    by_cases e : i = K.length
    · rw [if_pos e]; exact hqs j hj
    · rw [if_neg e]; exact h.ksep i j (by omega) hj
  · rw [hlen]
    rcases hat with hx | hx
    · rw [hx]; exact h.rsep
    · right
      rw [hx]
      intro e
      have := (h.fam.row.lt _ e.symm).2
      omega
theorem KInv.pushCls {base : Nat} {KA : Option Addr} {kc : Nat} {K : List (List Int)} {kval : Nat → Value} {C C' : Option Addr} {cc cc' : Nat} {Cl : List (List Nat)} {val : Nat → Value} {w w' : World} (h : KInv base KA kc K kval C cc Cl val w)
    (hr : w'.ownsRow base 33 1 (.slice C' (Cl.length + 1) cc') (Cl.length + 1) ((List.range Cl.length).map val ++ [.slice none 0 0])) (hg : w.grownBy w' (Value.slice C Cl.length cc).ownBlock)
    (hat : (Value.slice C' (Cl.length + 1) cc').ownBlock = (Value.slice C Cl.length cc).ownBlock ∨ (Value.slice C' (Cl.length + 1) cc').ownBlock = some w.heap.size) :
    KInv base KA kc K kval C' cc' (Cl ++ [[]]) (fun j => if j = Cl.length then .slice none 0 0 else val j) w' := by
  have hlen : (Cl ++ [([] : List Nat)]).length = Cl.length + 1 := by simp
  refine ⟨h.fam.push hr hg, h.krow.kept hg h.rsep, fun j hj => (h.kown j hj).kept hg (own_ne (h.kown j hj) h.fam.row (by decide)), fun i j hi hj => ?_, ?_⟩
  · rw [hlen] at hj
    by_cases e : j = Cl.length
    · rw [if_pos e]
      cases hb : (kval i).ownBlock with
      | none => exact .inl rfl
      | some g => exact .inr (by simp [Value.ownBlock])
    · rw [if_neg e]; exact h.ksep i j hi (by omega)
  · rw [hlen]
    rcases hat with hx | hx
    · rw [hx]; exact h.rsep
    · cases hb : (Value.slice KA K.length kc).ownBlock with
      | none => exact .inl rfl
      | some z =>
        right
        rw [hx]
        intro e
        injection e with e
        have := (h.krow.lt z hb).2
        omega
theorem KInv.add {base : Nat} {KA : Option Addr} {kc : Nat} {K : List (List Int)} {kval : Nat → Value} {g : Nat} {cc : Nat} {Cl : List (List Nat)} {val : Nat → Value} {w w' : World} {k i : Nat} {v' : Value} (h : KInv base KA kc K kval (some ⟨g, 0, none⟩) cc Cl val w) (hk : k < Cl.length)
    (hr : w'.ownsRow base 3 1 v' ((Cl.getD k []).length + 1) ((Cl.getD k []).map vn ++ [vn i])) (hg : w.grownBy w' (val k).ownBlock) (hat : v'.ownBlock = (val k).ownBlock ∨ v'.ownBlock = some w.heap.size) :
    KInv base KA kc K kval (some ⟨g, 0, none⟩) cc (Cl.set k (Cl.getD k [] ++ [i])) (fun j => if j = k then v' else val j) (w'.setCell ⟨g, k, none⟩ v') := by
  have hlen : (Cl.set k (Cl.getD k [] ++ [i])).length = Cl.length := by simp
  have hrow' := h.fam.row.kept hg (own_ne h.fam.row (h.fam.own k hk) (by decide))
  have hst := hrow'.stored k v'
  have hkr := h.krow.kept hg (own_ne h.krow (h.fam.own k hk) (by decide))
  refine ⟨h.fam.add hk hr hg hat, ?_, fun j hj => ?_, fun a b ha hb => ?_, ?_⟩
  · exact hkr.kept hst.2 (by
      rcases h.rsep with e | e
      · exact .inl e
      · exact .inr (by simpa [Value.ownBlock] using e))
  · have h1 := (h.kown j hj).kept hg (h.ksep j k hj hk)
    exact h1.kept hst.2 (own_ne h1 hrow' (by decide))
  · rw [hlen] at hb
    by_cases e : b = k
    · rw [if_pos e]
      rcases hat with hx | hx
      · rw [hx]; exact h.ksep a k ha hk
      · cases hbk : (kval a).ownBlock with
        | none => exact .inl rfl
        | some z =>
          right
          rw [hx]
          intro e2
          injection e2 with e2
          have := ((h.kown a ha).lt z hbk).2
          omega
    · rw [if_neg e]; exact h.ksep a b ha hb
  · rw [hlen]; exact h.rsep
end Go.Proofs.Tg
end
section
/- Walks of the reference: values, sets, classes. -/
namespace Go.Proofs.Tg
open Go.RowKit Go.Gr Go.Ev Go.Mo
set_option maxHeartbeats 4000000
set_option maxRecDepth 100000
def RetRow (l : List Int) (w : World) (e : Ending) (w' : World) : Prop :=
  ∃ A c, e = .returned (.slice A l.length c) ∧ w'.ownsRow w.heap.size 3 1 (.slice A l.length c) l.length (l.map vi) ∧ Below w.heap.size w w'
theorem seq_any (A B : Option Addr) (xs ys : List Int) (c d : Nat) (w : World) (hx : Ints w A xs) (hy : Ints w B ys) (hn : xs.length ≤ 1000000) (b : Bool) (hbb : decide (xs = ys) = b) :
    Calls Tryz.prog 38 #[.slice A xs.length c, .slice B ys.length d] w fun e w' => e = .returned (.bool b) ∧ Dr w w' := by
  rw [← hbb]
  clear hbb
  by_cases hl : xs.length = ys.length
  · have hb : ((xs.length : Int) != (ys.length : Int)) = false := by simp [hl]
    have HL := Lib.hid hl; clear hl
    go_enter Tryz.func38, Tryz.ntmps38
    go_wp2
    go_loopw [13] (fun i wr => ∃ k : Nat, k ≤ xs.length ∧ i = .int .i64 k ∧ Hid (xs.take k = ys.take k) ∧ Dr w wr) (fun i _ => xs.length - (intOf i).toNat)
    case atStart => exact ⟨0, Nat.zero_le _, rfl, Lib.hid (by simp), Dr.refl _⟩
    case round =>
      obtain ⟨k, hk, rfl, HT, hbw⟩ := hrel
      by_cases hlt : k < xs.length
      · have hky : k < ys.length := by have := HL.out; omega
        obtain ⟨ad, rfl, hc⟩ := Ints.at (hx.keep hbw.below) hlt
        obtain ⟨bd, rfl, hd⟩ := Ints.at (hy.keep hbw.below) hky
        have HX : Hid (xs.take (k + 1) = xs.take k ++ [xs[k]]) := Lib.hid (List.take_succ_eq_append_getElem hlt)
        have HY : Hid (ys.take (k + 1) = ys.take k ++ [ys[k]]) := Lib.hid (List.take_succ_eq_append_getElem hky)
        have HNE : Hid (xs = ys → xs[k] = ys[k]) := Lib.hid (fun e => by subst e; rfl)
        have i1 : (0 : Int) ≤ (k : Int) := by omega
        have i2 : (k : Int) < (xs.length : Int) := by omega
        have i3 : (k : Int) < (ys.length : Int) := by omega
        have i4 : ((k : Int)).toNat = k := by omega
        clear hx hy
        generalize xs[k] = x at hc HX HNE
        generalize ys[k] = y at hd HY HNE
        by_cases heq : x = y
        · have hbb : (x != y) = false := by simp [heq]
          have HE := Lib.hid heq; clear heq
          go_wp2
          go_quiet (fail)
          go_wp2
          go_roundw
          case rel => exact ⟨k + 1, by omega, by go_num, Lib.hid (by rw [HX.out, HY.out, HT.out, HE.out]), hbw.drewN _⟩
          case measure => simp [intOf]; omega
        · have hbb : (x != y) = true := by simp [heq]
          have HF : Hid (decide (xs = ys) = false) := Lib.hid (decide_eq_false (fun e => heq (HNE.out e)))
          clear heq
          go_wp2
          go_quiet (fail)
          go_wp2
          go_ret
          exact ⟨by rw [HF.out]; rfl, hbw.drewN _⟩
      · have HF : Hid (decide (xs = ys) = true) := Lib.hid (decide_eq_true (by
          have := HT.out
          rwa [List.take_of_length_le (by omega), List.take_of_length_le (by have := HL.out; omega)] at this))
        go_wp2
        go_ret
        exact ⟨by rw [HF.out]; rfl, hbw⟩
  · have hb : ((xs.length : Int) != (ys.length : Int)) = true := by simp; omega
    have HF : Hid (decide (xs = ys) = false) := Lib.hid (decide_eq_false (fun e => hl (by rw [e])))
    clear hl
    go_enter Tryz.func38, Tryz.ntmps38
    go_wp2
    go_ret
    exact ⟨by rw [HF.out]; rfl, Dr.refl _⟩
end Go.Proofs.Tg
end
section
/- Walks of the reference: sets of monomials with equal characters. -/
namespace Go.Proofs.Tg
open Go.RowKit Go.Gr Go.Ev Go.Mo
set_option maxHeartbeats 4000000
set_option maxRecDepth 100000
theorem idx_first : ∀ (K : List (List Int)) (q : List Int) (k : Nat) (hk : k < K.length), (∀ j, j < k → K.getD j [] ≠ q) → K[k] = q → K.idxOf q = k
  | x :: K, q, 0, _, _, h2 => by
    have : x = q := h2
    subst this
    exact List.idxOf_cons_self
  | x :: K, q, k + 1, hk, h1, h2 => by
    have hx : x ≠ q := h1 0 (by omega)
    rw [List.idxOf_cons]
    have hb : (x == q) = false := by simpa using hx
    rw [hb]
    simp only [cond_false]
    rw [idx_first K q k (by simpa using hk) (fun j hj => by simpa using h1 (j + 1) (by omega)) (by simpa using h2)]
theorem clsSt_all {P : List Int → Prop} {ks : List (List Int)} (h : ∀ k ∈ ks, P k) : ∀ i, i ≤ ks.length → ∀ k ∈ (clsSt ks i).1, P k
  | 0, _, k, hk => by simp [clsSt] at hk
  | i + 1, hi, k, hk => by
    have ih := clsSt_all h i (by omega)
    by_cases hc : (clsSt ks i).1.idxOf (ks.getD i []) < (clsSt ks i).1.length
    · rw [clsSt_old hc] at hk; exact ih k hk
    · rw [clsSt_new hc] at hk
      rcases List.mem_append.1 hk with h2 | h2
      · exact ih k h2
      · simp only [List.mem_cons, List.not_mem_nil, or_false] at h2
        subst h2
        have hi' : i < ks.length := by omega
        rw [List.getD_eq_getElem?_getD, List.getElem?_eq_getElem hi', Option.getD_some]
        exact h _ (List.getElem_mem _)
theorem not_mem_getD {K : List (List Int)} {q : List Int} (h : ∀ j, j < K.length → K.getD j [] ≠ q) : q ∉ K := by
  intro hm
  obtain ⟨j, hj, e⟩ := List.mem_iff_getElem.1 hm
  exact h j hj (by rw [List.getD_eq_getElem?_getD, List.getElem?_eq_getElem hj, Option.getD_some]; exact e)
end Go.Proofs.Tg
end
section
/- Walks: classes with their errors, of the program and of the reference. -/
namespace Go.Proofs.Tg
open Go.RowKit Go.Gr Go.Ev Go.Mo
set_option maxHeartbeats 4000000
set_option maxRecDepth 100000
def clsL (s b : List (List Int)) : List (List Int) := if chk s b = 0 ∧ b.length ≤ 64 then (clsSt (b.map (chr s)) b.length).2.map toI else []
def clsE (s b : List (List Int)) : Int := if chk s b = 0 then (if b.length ≤ 64 then 0 else 2) else chk s b
theorem classes_any (S B : Option Addr) (cs cb : Nat) (s b : List (List Int)) (w : World) (hS : Lists w S s) (hB : Lists w B b) (hs : s.length ≤ 1000) (hb : b.length ≤ 1000) (hs2 : ∀ v ∈ s, v.length ≤ 1000) (hb2 : ∀ v ∈ b, v.length ≤ 1000) :
    Calls Tryz.prog 15 #[.slice S s.length cs, .slice B b.length cb] w (RetCls (clsL s b) (clsE s b) w) := by
  by_cases hz : chk s b = 0
  · by_cases h64 : b.length ≤ 64
    · have e1 : clsL s b = (clsSt (b.map (chr s)) b.length).2.map toI := if_pos ⟨hz, h64⟩
      have e2 : clsE s b = 0 := by unfold clsE; rw [if_pos hz, if_pos h64]
      rw [e1, e2]
      exact cls_main S B cs cb s b w hS hB hs h64 hs2 hz
    · have e1 : clsL s b = [] := if_neg (fun h => h64 h.2)
      have e2 : clsE s b = 2 := by unfold clsE; rw [if_pos hz, if_neg h64]
      rw [e1, e2]
      have HC := Lib.hid (check_any S B cs cb s b w hS hB hs hb hs2 hb2)
      rw [hz] at HC
      have hd : decide ((64 : Int) < (b.length : Int)) = true := by simp; omega
      clear e1 e2 hz
      go_enter Tryz.func15, Tryz.ntmps15
      go_wp2_with (go_at_call 34; refine HC.out.mono ?_; rintro e w' ⟨rfl, rfl⟩)
      go_ret2
      exact ⟨none, 0, rfl, ⟨fun _ => (none, 0), Sl.nil _ _ _, fun i hi => by simp at hi⟩, Below.refl _ _⟩
  · have e1 : clsL s b = [] := if_neg (fun h => hz h.1)
    have e2 : clsE s b = chk s b := if_neg hz
    rw [e1, e2]
    have HC := Lib.hid (check_any S B cs cb s b w hS hB hs hb hs2 hb2)
    have hzb : (chk s b != 0) = true := by simp [hz]
    clear e1 e2 hz
    generalize chk s b = z at *
    go_enter Tryz.func15, Tryz.ntmps15
    go_wp2_with (go_at_call 34; refine HC.out.mono ?_; rintro e w' ⟨rfl, rfl⟩)
    go_ret2
    exact ⟨none, 0, rfl, ⟨fun _ => (none, 0), Sl.nil _ _ _, fun i hi => by simp at hi⟩, Below.refl _ _⟩
end Go.Proofs.Tg
end
section
/- Walks: the echelon form. -/
namespace Go.Proofs.Tg
open Go.RowKit Go.Gr Go.Ev
set_option maxHeartbeats 2000000
set_option maxRecDepth 100000
/-- The vectors lie in block g; nothing below B has turned. -/
structure VecAt (W0 : World) (base g cap : Nat) (us : List Nat) (w : World) : Prop where
  own : w.ownsRow base 3 1 (.slice (some ⟨g, 0, none⟩) us.length cap) us.length (us.map vn)
  below : Below W0.heap.size W0 w
theorem VecAt.base_le {W0 w : World} {base g cap : Nat} {us : List Nat} (h : VecAt W0 base g cap us w) : base ≤ g := (h.own.lt g rfl).1
theorem VecAt.cell {W0 w : World} {base g cap : Nat} {us : List Nat} (h : VecAt W0 base g cap us w) {j : Nat} (hj : j < us.length) : w.cell? ⟨g, j, none⟩ = some (.int .i64 (us.getD j 0 : Nat)) := by
  rw [h.own.cellAt j (by omega)]
  simp [hj, vn]
theorem VecAt.drewN {W0 w : World} {base g cap : Nat} {us : List Nat} (h : VecAt W0 base g cap us w) (n : Nat) : VecAt W0 base g cap us (w.drewN n) := ⟨h.own, below_drewN h.below n⟩
theorem VecAt.drew {W0 w : World} {base g cap : Nat} {us : List Nat} (h : VecAt W0 base g cap us w) : VecAt W0 base g cap us w.drew := ⟨h.own, h.below.drew⟩
theorem VecAt.put {W0 w : World} {base g cap : Nat} {us : List Nat} (h : VecAt W0 base g cap us w) (hB : W0.heap.size ≤ base) (j x : Nat) : VecAt W0 base g cap (us.set j x) (w.setCell ⟨g, j, none⟩ (.int .i64 (x : Nat))) := by
  have h1 := (h.own.stored j (.int .i64 (x : Nat))).1
  have e : (us.map vn).set j (.int .i64 (x : Nat)) = (us.set j x).map vn := by rw [List.map_set]; rfl
  rw [e] at h1
  refine ⟨by rw [List.length_set]; exact h1, h.below.setCell (Nat.le_trans hB h.base_le) _⟩
theorem pow_small {i : Nat} (hi : i < 6) : 2 ^ i ≤ 32 := by
  have : 2 ^ i ≤ 2 ^ 5 := Nat.pow_le_pow_right (by omega) (by omega)
  omega
theorem and_pow_zero (x i : Nat) : (x &&& 2 ^ i = 0) ↔ x.testBit i = false := by
  constructor
  · intro h
    have := congrArg (fun z => Nat.testBit z i) h
    simp only [Nat.testBit_and, Nat.testBit_two_pow_self, Bool.and_true, Nat.zero_testBit] at this
    exact this
  · intro h
    refine Nat.eq_of_testBit_eq fun b => ?_
    rw [Nat.testBit_and, Nat.testBit_two_pow, Nat.zero_testBit]
    by_cases e : i = b
    · subst e; rw [h]; rfl
    · simp [e]
theorem wrap_two (i : Nat) (hi : i < 6) : wrap64 ((2 : Int) ^ i) = ((2 ^ i : Nat) : Int) := by
  have e : (2 : Int) ^ i = ((2 ^ i : Nat) : Int) := by simp
  rw [e, wrap64_nat _ (by have := pow_small hi; omega)]
theorem bit_eq (x i : Nat) (hx : x < 64) (hi : i < 6) : (bits BinOp.and IntKind.i64 (x : Int) (wrap64 (2 ^ i)) == 0) = !x.testBit i := by
  rw [wrap_two i hi, i64_and_n _ _ (by omega) (by have := pow_small hi; omega)]
  have := and_pow_zero x i
  cases h : x.testBit i with
  | true =>
    have : x &&& 2 ^ i ≠ 0 := fun e => by rw [this.1 e] at h; cases h
    simp; omega
  | false => rw [this.2 h]; rfl
theorem bit_ne (x i : Nat) (hx : x < 64) (hi : i < 6) : (bits BinOp.and IntKind.i64 (x : Int) (wrap64 (2 ^ i)) != 0) = x.testBit i := by
  rw [bne, bit_eq x i hx hi, Bool.not_not]
theorem ech_pos (V : Nat → Prop) (nv : Nat) (hS : Space V nv) (hnv : nv ≤ 6) (vs : List Nat) (hV : ∀ v ∈ vs, V v) (hsp : ∀ x, V x → Span vs x) (hl : vs.length ≤ 64) (W0 : World) (base g cap : Nat) (w : World) (hB : W0.heap.size ≤ base) (hA : VecAt W0 base g cap vs w) :
    Calls Tryz.prog 28 #[.slice (some ⟨g, 0, none⟩) vs.length cap, .int .i64 nv] w fun e w' => ∃ us r p, e = .returned (.slice (some ⟨g, 0, none⟩) r cap) ∧ EInv V nv us r p ∧ us.length = vs.length ∧ VecAt W0 base g cap us w' := by
  have hcap : vs.length ≤ cap := by
    rcases hA.own.2 with ⟨h, _⟩ | ⟨g', c', cur, h, _, _, hc, _⟩
    · cases h
    · injection h with h1 h2 h3; omega
  go_enter Tryz.func28, Tryz.ntmps28
  go_wp2
  go_loopw [5, 10] (fun s5 s10 wr => ∃ (i r : Nat) (us : List Nat) (p : Nat → Nat), s5 = .int .i64 r ∧ s10 = .int .i64 i ∧ i ≤ nv ∧ Hid (EInv V i us r p) ∧ us.length = vs.length ∧ r ≤ vs.length ∧ VecAt W0 base g cap us wr) (fun _ s10 _ => nv - (intOf s10).toNat)
  case atStart => exact ⟨0, 0, vs, fun _ => 0, rfl, rfl, Nat.zero_le _, Lib.hid (EInv.start hV hsp), rfl, Nat.zero_le _, hA⟩
  case round =>
    obtain ⟨wo, rfl⟩ : ∃ wo : World, wo = wr := ⟨_, rfl⟩
    obtain ⟨i, r, us, p, rfl, rfl, hi, HE, hul, hr, hv⟩ := hrel
    have hb64 : ∀ j, us.getD j 0 < 64 := by
      intro j
      rcases Nat.lt_or_ge j us.length with h | h
      · have := hS.lt _ (HE.out.hV _ (mem_getD.2 ⟨j, h, rfl⟩))
        have h6 : 2 ^ nv ≤ 2 ^ 6 := Nat.pow_le_pow_right (by omega) hnv
        omega
      · rw [List.getD_eq_getElem?_getD, List.getElem?_eq_none h]; decide
    have HB := Lib.hid hb64
    clear hb64 hA
    by_cases hlt : i < nv
    · go_wp2
      go_loopw [7] (fun s7 wr => ∃ q : Nat, s7 = .int .i64 q ∧ r ≤ q ∧ q ≤ vs.length ∧ Hid (∀ k, r ≤ k → k < q → (us.getD k 0).testBit i = false) ∧ VecAt W0 base g cap us wr) (fun s7 _ => vs.length - (intOf s7).toNat)
      case atStart => exact ⟨r, rfl, Nat.le_refl _, hr, Lib.hid (fun k h1 h2 => absurd h1 (by omega)), hv⟩
      case round =>
        clear hv
        obtain ⟨q, rfl, hq1, hq2, HQ, hv⟩ := hrel
        have p1 : 2 ^ i ≤ 32 := pow_small (by omega)
        by_cases hqn : q < vs.length
        · have c0 := hv.cell (j := q) (by omega)
          have hx := HB.out q
          have d1 : decide (q < vs.length) = true := by simp; omega
          have d2 : (q : Int) < (vs.length : Int) := by omega
          have d3 : (0 : Int) ≤ (q : Int) := by omega
          have d4 : ((q : Int)).toNat = q := by omega
          have hbt := bit_eq (us.getD q 0) i hx (by omega)
          by_cases hbit : (us.getD q 0).testBit i = true
          · rw [hbit] at hbt
            have HBIT := Lib.hid hbit
            have e5 : ((q : Int) == (vs.length : Int)) = false := by simp; omega
            have HXX : Hid (us.getD q 0 = us.getD q 0) := Lib.hid rfl
            clear hbit
            generalize hxx : us.getD q 0 = x at c0 hx hbt
            have HXQ := Lib.hid hxx
            clear hxx HXX
            go_wp2
            go_quiet (fail)
            go_wp2
            have hv2 := hv.drewN nq
            clear hv c0
            generalize wr.drewN nq = W at *
            have HE2 := Lib.hid (HE.out.swap hq1 (by omega))
            have hrn : r < vs.length := by omega
            go_cut [5] (fun s5 wx => s5 = .int .i64 r ∧ VecAt W0 base g cap (swp us r q) wx)
            case first =>
              have c1 := hv2.cell (j := r) (by omega)
              have c2 := hv2.cell (j := q) (by omega)
              have f1 := hv2.own.frozenAt r
              have f2 := hv2.own.frozenAt q
              have r2 : (r : Int) < (vs.length : Int) := by omega
              have r3 : (0 : Int) ≤ (r : Int) := by omega
              have r4 : ((r : Int)).toNat = r := by omega
              have hxr := HB.out r
              have HSW : Hid (swp us r q = (us.set r (us.getD q 0)).set q (us.getD r 0)) := Lib.hid rfl
              have hv3 := ((hv2.put hB r (us.getD q 0)).put hB q (us.getD r 0)).drew
              have HV3 := Lib.hid hv3
              clear hv3 hv2
              generalize us.getD r 0 = y at *
              rw [HXQ.out] at c2 HSW HV3
              by_cases hne : r = q
              · subst hne
                obtain rfl : x = y := by
                  rw [c1] at c2
                  have : (x : Int) = (y : Int) := by simpa using c2.symm
                  omega
                go_region
                all_goals
                  go_wp2_with fail
                  go_meet
                  exact ⟨rfl, by rw [HSW.out]; exact HV3.out⟩
              · have hne' : ¬ q = r := fun e => hne e.symm
                go_region
                all_goals
                  go_wp2_with fail
                  go_meet
                  exact ⟨rfl, by rw [HSW.out]; exact HV3.out⟩
            case rest =>
              obtain ⟨rfl, hv3⟩ := hcut
              have hzl : (swp us r q).length = vs.length := by rw [swp_len]; exact hul
              have hzb : ((swp us r q).getD r 0).testBit i = true := by
                have := swp_get us (r := r) (q := q) (by omega) (by omega) r
                rw [this]
                by_cases e : r = q
                · rw [if_pos e, e]; exact HBIT.out
                · rw [if_neg e, if_pos rfl]; exact HBIT.out
              have hz64 : ∀ j, (swp us r q).getD j 0 < 64 := by
                intro j
                rw [swp_get us (by omega) (by omega)]
                exact HB.out _
              have HZB := Lib.hid hzb
              have HZ64 := Lib.hid hz64
              clear hv2 hzb hz64 HBIT HXQ hbt e5 hx d1 d2 d3 d4 HQ HB HE
              generalize swp us r q = zs at *
              go_wp2
              go_loopw [50] (fun s50 wr => ∃ k : Nat, s50 = .int .i64 k ∧ k ≤ vs.length ∧ VecAt W0 base g cap (elim zs i r k) wr) (fun s50 _ => vs.length - (intOf s50).toNat)
              case atStart => exact ⟨0, rfl, Nat.zero_le _, by rw [elim_zero]; exact hv3⟩
              case round =>
                clear hv3
                obtain ⟨k, rfl, hk, hv4⟩ := hrel
                by_cases hkn : k < vs.length
                · have ck := hv4.cell (j := k) (by rw [elim_len]; omega)
                  have cr := hv4.cell (j := r) (by rw [elim_len]; omega)
                  rw [elim_get _ _ _ _ _ (by omega), if_neg (by omega)] at ck
                  rw [elim_self _ _ _ _ (by omega)] at cr
                  have k2 : (k : Int) < (vs.length : Int) := by omega
                  have k3 : (0 : Int) ≤ (k : Int) := by omega
                  have k4 : ((k : Int)).toNat = k := by omega
                  by_cases hkr : k = r
                  · have b1 : ((k : Int) != (r : Int)) = false := by simp [hkr]
                    have HV5 : Hid (elim zs i r (k + 1) = elim zs i r k) := Lib.hid (elim_skip zs i r k (fun h => h.1 hkr))
                    clear ck cr hkr
                    go_wp2
                    go_quiet (fail)
                    go_wp2
                    go_roundw
                    case rel => exact ⟨k + 1, by go_num, by omega, by rw [HV5.out]; exact hv4.drewN _⟩
                    case measure => simp [intOf]; omega
                  · have b1 : ((k : Int) != (r : Int)) = true := by simp; omega
                    have hx1 := HZ64.out k
                    have hx2 := HZ64.out r
                    have hbn := bit_ne (zs.getD k 0) i hx1 (by omega)
                    by_cases hbit : (zs.getD k 0).testBit i = true
                    · rw [hbit] at hbn
                      have hxo := i64_xor_n (zs.getD k 0) (zs.getD r 0) (by omega) (by omega)
                      have HV5 : Hid (elim zs i r (k + 1) = (elim zs i r k).set k (zs.getD k 0 ^^^ zs.getD r 0)) := Lib.hid (elim_put zs i r k (by omega) ⟨hkr, hbit⟩)
                      have HP := Lib.hid (fun W (h : VecAt W0 base g cap (elim zs i r k) W) => h.put hB k (zs.getD k 0 ^^^ zs.getD r 0))
                      have HXO := Lib.hid hxo
                      clear hbit hxo
                      generalize zs.getD k 0 = x at *
                      generalize zs.getD r 0 = y at *
                      go_wp2
                      go_quiet (fail)
                      go_wp2
                      have hv5 := hv4.drewN nq
                      have ck5 : (wr.drewN nq).cell? ⟨g, k, none⟩ = some (.int .i64 (x : Nat)) := ck
                      have cr5 : (wr.drewN nq).cell? ⟨g, r, none⟩ = some (.int .i64 (y : Nat)) := cr
                      clear hv4 ck cr
                      generalize wr.drewN nq = W5 at *
                      have fk := hv5.own.frozenAt k
                      have r2 : (r : Int) < (vs.length : Int) := by omega
                      have r3 : (0 : Int) ≤ (r : Int) := by omega
                      have r4 : ((r : Int)).toNat = r := by omega
                      go_region
                      all_goals
                        go_wp2
                        go_roundw
                        case rel => exact ⟨k + 1, by go_num, by omega, by rw [HV5.out, HXO.out]; exact (HP.out _ hv5).drew⟩
                        case measure => simp [intOf]; omega
                    · have hbit : (zs.getD k 0).testBit i = false := eq_false_of_ne_true hbit
                      rw [hbit] at hbn
                      have HV5 : Hid (elim zs i r (k + 1) = elim zs i r k) := Lib.hid (elim_skip zs i r k (fun h => by rw [hbit] at h; cases h.2))
                      clear hbit cr
                      generalize zs.getD k 0 = x at *
                      go_wp2
                      go_quiet (fail)
                      go_wp2
                      go_roundw
                      case rel => exact ⟨k + 1, by go_num, by omega, by rw [HV5.out]; exact hv4.drewN _⟩
                      case measure => simp [intOf]; omega
                · obtain rfl : k = vs.length := by omega
                  have HE3 := Lib.hid (EInv.elim hS HE2.out (by omega) HZB.out)
                  rw [hzl] at HE3
                  go_wp2
                  go_roundw
                  case rel => exact ⟨i + 1, r + 1, _, _, by go_num, by go_num, by omega, HE3, by rw [elim_len]; exact hzl, by omega, hv4⟩
                  case measure => simp [intOf]; omega
          · have hbit : (us.getD q 0).testBit i = false := eq_false_of_ne_true hbit
            rw [hbit] at hbt
            have HQ2 : Hid (∀ k, r ≤ k → k < q + 1 → (us.getD k 0).testBit i = false) := Lib.hid (fun k h1 h2 => by
              by_cases e : k = q
              · subst e; exact hbit
              · exact HQ.out k h1 (by omega))
            clear hbit
            generalize us.getD q 0 = x at c0 hx hbt
            go_wp2
            go_quiet (fail)
            go_wp2
            go_roundw
            case rel => exact ⟨q + 1, by go_num, by omega, by omega, HQ2, hv.drewN _⟩
            case measure => simp [intOf]; omega
        · obtain rfl : q = vs.length := by omega
          have d1 : decide (vs.length < vs.length) = false := by simp
          have HE2 : Hid (EInv V (i + 1) us r p) := Lib.hid (HE.out.skip (fun k h1 h2 => HQ.out k h1 (by omega)))
          have e5 : ((vs.length : Int) == (vs.length : Int)) = true := by simp
          go_wp2
          go_quiet (fail)
          go_wp2
          go_roundw
          case rel => exact ⟨i + 1, r, us, p, rfl, by go_num, by omega, HE2, hul, hr, hv.drewN _⟩
          case measure => simp [intOf]; omega
    · obtain rfl : i = nv := by omega
      have d4 : (r : Int) ≤ (cap : Int) := by omega
      go_wp2
      go_ret
      exact ⟨us, r, p, rfl, HE.out, hul, hv⟩
theorem ech_nil (V : Nat → Prop) (nv : Nat) (hnv : nv ≤ 6) (w : World) (hV : ∀ x, V x → Span [] x) :
    Calls Tryz.prog 28 #[.slice none 0 0, .int .i64 nv] w fun e w' => e = .returned (.slice none 0 0) ∧ (∃ p, EInv V nv [] 0 p) ∧ Below w.heap.size w w' := by
  go_enter Tryz.func28, Tryz.ntmps28
  go_wp2
  go_loopw [5, 10] (fun s5 s10 wr => ∃ i : Nat, s5 = .int .i64 0 ∧ s10 = .int .i64 i ∧ i ≤ nv ∧ Below w.heap.size w wr) (fun _ s10 _ => nv - (intOf s10).toNat)
  case atStart => exact ⟨0, rfl, rfl, Nat.zero_le _, Below.refl _ _⟩
  case round =>
    obtain ⟨wo, rfl⟩ : ∃ wo : World, wo = wr := ⟨_, rfl⟩
    obtain ⟨i, rfl, rfl, hi, hb⟩ := hrel
    by_cases hlt : i < nv
    · go_wp2
      refine wp_loop_rounds 1 ?_
      rw [rounds_succ]
      go_wp2
      go_quiet (fail)
      go_wp2
      go_roundw
      case rel => exact ⟨i + 1, rfl, by go_num, by omega, below_drewN hb _⟩
      case measure => simp [intOf]; omega
    · go_wp2
      go_ret
      have hinv : ∀ i, EInv V i [] 0 (fun _ => 0) := by
        intro i
        induction i with
        | zero => exact EInv.start (fun v h => by cases h) hV
        | succ i ih => exact ih.skip (fun k h1 h2 => by simp at h2)
      exact ⟨rfl, ⟨_, hinv nv⟩, hb⟩
end Go.Proofs.Tg
end
