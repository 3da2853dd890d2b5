/- Parts of the proof: XD1, WC1, SM1, SM2, SP0, SP1, SP2, GWB, GWC, GWD, GWE, GWF, GSpec, GWG, GSpecE. -/
import Derived.Carry
import Derived.Laws.CopyOwn
import Derived.Laws.IdiomCopy
import Derived.Maps.OwnSet
import Derived.WalkKit
import Derived.DeepKeys5
import Derived.Deep.RegionWith
import Derived.Deep.RegionHeld3
import Derived.Deep.DeepCutAuto
import Derived.Maps.AppendAt
import Derived.Laws.Tables
import Derived.IntWalk
import Derived.Laws.MakeOwn
import Derived.Test.YtodjofbneeejpaaGreatDoorMBA0
import Derived.Test.YtodjofbneeejpaaGreatDoorMBA1
import Derived.Test.YtodjofbneeejpaaGreatDoorMBA2
section
/- Walks of the reference: monomials, sign vectors, inner products, the check. -/
namespace Go.Proofs.Tg
open Go.RowKit Go.Gr Go.Ev Go.Mo
set_option maxHeartbeats 2000000
set_option maxRecDepth 100000
theorem rdeg_any (A : Option Addr) (c : Nat) (m : List Int) (w : World) (hA : Ints w A m) (hn : m.length ≤ 1000) :
    Calls Tryz.prog 89 #[.slice A m.length c] w fun e w' => e = .returned (.int .i64 (degM m)) ∧ w = w' := by
  by_cases hl : m.length ≤ 6
  · have hd : decide ((6 : Int) < (m.length : Int)) = false := by simp; omega
    go_enter Tryz.func89, Tryz.ntmps89
    go_wp2
    go_loop [3, 4] (fun s i => ∃ k : Nat, k ≤ m.length ∧ i = .int .i64 k ∧ ∃ z : Int, s = .int .i64 z ∧ 0 ≤ z ∧ z ≤ 24 ∧ Hid (z = (m.take k).sum ∧ ∀ e ∈ m.take k, 0 ≤ e)) (fun _ i => m.length - (intOf i).toNat)
    case atStart => exact ⟨0, Nat.zero_le _, rfl, 0, rfl, by omega, by omega, Lib.hid ⟨rfl, by simp⟩⟩
    case round =>
      obtain ⟨k, hk, rfl, z, rfl, hz0, hz1, HZ⟩ := hrel
      by_cases hlt : k < m.length
      · obtain ⟨ad, rfl, hc⟩ := Ints.at hA hlt
        have HS : Hid ((m.take (k + 1)).sum = z + m[k]) := Lib.hid (by rw [sum_take_succ m k hlt, ← HZ.out.1])
        have HB : Hid (m[k] < 0 ∨ 24 - z < m[k] → vldM m = false) := Lib.hid (fun h => vldM_bad hlt (by rw [← HZ.out.1]; exact h))
        have HT : Hid (m.take (k + 1) = m.take k ++ [m[k]]) := Lib.hid (List.take_succ_eq_append_getElem hlt)
        clear hA
        generalize m[k] = x at hc HS HB HT
        by_cases h1 : x < 0
        · have b1 : decide (x < 0) = true := by simpa using h1
          have HF : Hid (degM m = -1) := Lib.hid (by unfold degM; rw [HB.out (.inl h1)]; rfl)
          go_wp2
          go_ret
          exact ⟨by rw [HF.out]; rfl, rfl⟩
        · have b1 : decide (x < 0) = false := by simpa using h1
          by_cases h2 : 24 - z < x
          · have b2 : decide (24 - z < x) = true := by simpa using h2
            have HF : Hid (degM m = -1) := Lib.hid (by unfold degM; rw [HB.out (.inr h2)]; rfl)
            go_wp2
            go_ret
            exact ⟨by rw [HF.out]; rfl, rfl⟩
          · have b2 : decide (24 - z < x) = false := by simpa using h2
            go_wp2
            go_round
            case rel =>
              refine ⟨k + 1, by omega, by go_num, z + x, rfl, by omega, by omega, Lib.hid ⟨HS.out.symm, fun e he => ?_⟩⟩
              rw [HT.out] at he
              rcases List.mem_append.1 he with he | he
              · exact HZ.out.2 e he
              · simp at he; omega
            case measure => simp [intOf]; omega
      · obtain rfl : k = m.length := by omega
        have HF : Hid (degM m = z) := Lib.hid (by
          have h := HZ.out
          rw [List.take_length] at h
          unfold degM
          rw [if_pos (vldM_iff.2 ⟨hl, h.2, by omega⟩), h.1])
        go_wp2
        go_ret
        exact ⟨by rw [HF.out]; rfl, rfl⟩
  · have hd : decide ((6 : Int) < (m.length : Int)) = true := by simp; omega
    have HF : Hid (degM m = -1) := Lib.hid (by
      unfold degM
      rw [if_neg (by rw [vldM_iff]; exact fun h => hl h.1)])
    go_enter Tryz.func89, Tryz.ntmps89
    go_wp2
    go_ret
    exact ⟨by rw [HF.out]; rfl, rfl⟩
theorem rvalid_any (A : Option Addr) (c : Nat) (m : List Int) (w : World) (hA : Ints w A m) (hn : m.length ≤ 1000) :
    Calls Tryz.prog 67 #[.slice A m.length c] w fun e w' => e = .returned (.bool (vldM m)) ∧ w = w' := by
  have HD : Hid (decide (0 ≤ degM m) = vldM m) := Lib.hid degM_ge
  have HC := Lib.hid (rdeg_any A c m w hA hn)
  by_cases hl : m.length ≤ 6
  · have hd : decide ((m.length : Int) ≤ 6) = true := by simp; omega
    generalize degM m = z at *
    go_enter Tryz.func67, Tryz.ntmps67
    go_wp2_with (go_at_call 89; refine HC.out.mono ?_; rintro e w' ⟨rfl, rfl⟩)
    go_ret
    exact ⟨by rw [← HD.out]; rfl, rfl⟩
  · have hd : decide ((m.length : Int) ≤ 6) = false := by simp; omega
    have HF : Hid (vldM m = false) := Lib.hid (eq_false_of_ne_true (by rw [vldM_iff]; exact fun h => hl h.1))
    go_enter Tryz.func67, Tryz.ntmps67
    go_wp2
    go_ret
    exact ⟨by rw [HF.out]; rfl, rfl⟩
end Go.Proofs.Tg
end
section
/- The built-in copy of at most six numbers into an array at a block's head. -/
namespace Go.Proofs.Tg
open Go.RowKit
theorem int_sz : (Tryz.prog.info? 3).map (·.size) = some 1 := by kernel_rfl
/-- Another world that differs in block g alone. -/
structure But (g : Nat) (W W' : World) : Prop where
  below : ∀ (B : Nat) (w0 : World), Below B w0 W → B ≤ g → Below B w0 W'
  blk : ∀ (g' : Nat) (t : TypeId) (cs : Array Value), g' ≠ g → Blk W g' t cs → Blk W' g' t cs
theorem wpList_copy6 {ops : Array Oper} {rest : List Oper} {o : Oper} {a : Act} {Q : Exit → Act → World → Prop} {W : World} (hgd : o.guard = none) (d s : Operand)
    (ho : o.op = .call { callee := .builtin .copy, args := #[d, s], argTypes := #[22, 22] }) (g : Nat) (t : TypeId) (A : Option Addr) (c : Nat) (el : List Int) (z : List Value)
    (hd : a.eval d = .slice (some ⟨g, 0, none⟩) 6 6) (hs : a.eval s = .slice A el.length c) (hA : Ints W A el) (hl : el.length ≤ 6)
    (hB : Blk W g t ([Value.int .i64 0, Value.int .i64 0, Value.int .i64 0, Value.int .i64 0, Value.int .i64 0, Value.int .i64 0] ++ z).toArray)
    (h : ∀ W', Blk W' g t ([Value.int .i64 (el.getD 0 0), Value.int .i64 (el.getD 1 0), Value.int .i64 (el.getD 2 0), Value.int .i64 (el.getD 3 0), Value.int .i64 (el.getD 4 0), Value.int .i64 (el.getD 5 0)] ++ z).toArray → But g W W' → wpList Tryz.prog ops Q rest (a.put o.dst (goInt el.length)) W') :
    wpList Tryz.prog ops Q (o :: rest) a W := by
  by_cases h0 : el = []
  · subst h0
    refine wpList_plain hgd fun K hK => ?_
    have hrun := run_copy_none (P := Tryz.prog) W 22 22 o.type 3 (some ⟨g, 0, none⟩) A 6 6 0 c Tryz.underlying22 int_sz rfl
    have hs' : a.eval s = .slice A 0 c := hs
    unfold Oper.wp
    simp [execOp, ho, resolve, invoke, builtin, hd, hs', hrun, Result.andThen]
    exact hK _ _ (h W hB ⟨fun _ _ h _ => h, fun _ _ _ _ h => h⟩)
  · have hp : 0 < el.length := List.length_pos_iff.2 h0
    obtain ⟨ad, rfl, _, hc⟩ := hA.lies hp
    refine wpList_copy_own hgd d s 22 22 ho 3 Tryz.underlying22 int_sz g 0 6 6 ad el.length c hd hs _ t hB (el.map vi) (by rw [List.length_map]; exact (Nat.min_eq_left hl).symm) hc (by simp; omega) (by simp [vi, Value.oneCell']) ?_
    have key : (([Value.int .i64 0, Value.int .i64 0, Value.int .i64 0, Value.int .i64 0, Value.int .i64 0, Value.int .i64 0] ++ z).toArray.toList.take 0 ++ (el.map vi ++ ([Value.int .i64 0, Value.int .i64 0, Value.int .i64 0, Value.int .i64 0, Value.int .i64 0, Value.int .i64 0] ++ z).toArray.toList.drop (0 + (el.map vi).length))).toArray
        = ([Value.int .i64 (el.getD 0 0), Value.int .i64 (el.getD 1 0), Value.int .i64 (el.getD 2 0), Value.int .i64 (el.getD 3 0), Value.int .i64 (el.getD 4 0), Value.int .i64 (el.getD 5 0)] ++ z).toArray := by
      match el, hl with
      | [], _ => exact absurd rfl h0
      | [_], _ => simp [vi]
      | [_, _], _ => simp [vi]
      | [_, _, _], _ => simp [vi]
      | [_, _, _, _], _ => simp [vi]
      | [_, _, _, _, _], _ => simp [vi]
      | [_, _, _, _, _, _], _ => simp [vi]
      | _ :: _ :: _ :: _ :: _ :: _ :: _ :: l, hl => simp at hl
    rw [key]
    have hlen : (goInt ((el.map vi).length)) = goInt el.length := by simp
    rw [hlen]
    refine h _ ?_ ⟨fun B w0 hb hg => below_setRow hb hg _, fun g' t' cs hne hb => ?_⟩
    · exact setRow_heap W g _ _ t _ hB
    · exact (setRow_other W g g' _ hne).trans hb
end Go.Proofs.Tg
end
section
/- A map to bools that the call itself has made, as a set of keys: the look-up, the store. -/
namespace Go.Proofs.Tg
open Go.RowKit Go.Maps Go.WideShapes
theorem plainElem_bool_inv {H : Type} {P : Program} {e : TypeId} (he : P.underlying e = some .bool) {v : Value} {z : DataW H × List MemPlace} (h : plainElem P e v = some z) : ∃ a, v = .bool a ∧ z = (.lit (.bool a), []) := by
  unfold plainElem at h
  rw [he] at h
  cases v <;> simp at h
  exact ⟨_, rfl, h.symm⟩
/-- The map holds true at just the keys of the list. -/
structure SetOK {α : Type} [DecidableEq α] (kl : α → Lit) (dom : α → Prop) (S : List α) (D : DataW Unit) : Prop where
  isMap : Maps.IsMap D
  at' : ∀ v, dom v → D.atKey (kl v) (.lit (.bool false)) = .lit (.bool (decide (v ∈ S)))
theorem SetOK.nil {α : Type} [DecidableEq α] (kl : α → Lit) (dom : α → Prop) : SetOK kl dom [] (.map []) := ⟨Maps.isMap_empty, fun v _ => by simp [DataW.atKey]⟩
theorem SetOK.put {α : Type} [DecidableEq α] {kl : α → Lit} {dom : α → Prop} {S : List α} {D : DataW Unit} (h : SetOK kl dom S D) (hk : ∀ v, dom v → WideAt.IsKeyLit (kl v)) (hi : ∀ u v, dom u → dom v → kl u = kl v → u = v) {x : α} (hx : dom x) :
    SetOK kl dom (x :: S) (D.put (kl x) (.lit (.bool true))) := by
  refine ⟨h.isMap.put _ _, fun v hv => ?_⟩
  by_cases he : v = x
  · subst he
    rw [Maps.atKey_put_same h.isMap (hk v hv)]
    simp
  · rw [Maps.atKey_put_other (fun e => he (hi v x hv hx e)), h.at' v hv]
    simp [he]
/-- The same set, told by another list. -/
theorem SetOK.congr {α : Type} [DecidableEq α] {kl : α → Lit} {dom : α → Prop} {S S' : List α} {D : DataW Unit} (h : SetOK kl dom S D) (hs : ∀ v, dom v → (v ∈ S ↔ v ∈ S')) : SetOK kl dom S' D :=
  ⟨h.isMap, fun v hv => by rw [h.at' v hv, decide_eq_decide.2 (hs v hv)]⟩
end Go.Proofs.Tg
end
section
/- What an array of six numbers reads as where it is the key of a map. -/
namespace Go.Proofs.Tg
open Go.RowKit Go.Maps Go.WideShapes
/-- The literal of a key. -/
def kl6 (l : List Int) : Lit := .string (keyBytes (l.map fun x => Lit.int .i64 x))
theorem wf_small {x : Int} (h : -1000000 ≤ x ∧ x ≤ 1000000) : (Lit.int .i64 x).wf = true := by
  have e1 : IntKind.i64.min = -9223372036854775808 := rfl
  have e2 : IntKind.i64.max = 9223372036854775807 := rfl
  simp only [Lit.wf, Bool.and_eq_true, decide_eq_true_eq]
  omega
theorem keyOf_six {P : Program} {T I : TypeId} (hT : P.underlying T = some (.array 6 I)) (hI : P.underlying I = some (.int .i64)) (hk : P.keyType T = true) (c1 : P.cellsOf I = 1) (c6 : P.cellsOf T = 6) {s : Nat} (hs : P.types.size = s + 1)
    (l : List Int) (hl : l.length = 6) (hw : ∀ x ∈ l, -1000000 ≤ x ∧ x ≤ 1000000) : keyOf P T (.agg (l.map fun x => Value.int .i64 x).toArray) = some (kl6 l) := by
  match l, hl with
  | [a, b, c, d, e, f], _ =>
    have ha := wf_small (hw a (by simp))
    have hb := wf_small (hw b (by simp))
    have hc := wf_small (hw c (by simp))
    have hd := wf_small (hw d (by simp))
    have he := wf_small (hw e (by simp))
    have hf := wf_small (hw f (by simp))
    have hr : List.range 6 = [0, 1, 2, 3, 4, 5] := rfl
    unfold keyOf
    simp [hT, hk, Value.formed, c6, Value.cells, hs, Program.keyLits, hI, c1, hr, ha, hb, hc, hd, he, hf, kl6]
end Go.Proofs.Tg
end
section
/- Partitions made vertex by vertex from an equivalence, and a coarser one: plain. -/
namespace Go.Sp
open Classical
structure Eqv (C : Nat → Nat → Prop) : Prop where
  refl : ∀ a, C a a
  symm : ∀ a b, C a b → C b a
  trans : ∀ a b c, C a b → C b c → C a c
inductive MadeR (C : Nat → Nat → Prop) : Nat → List (List Int) → Prop
  | zero : MadeR C 0 []
  | skip {k : Nat} {ls : List (List Int)} : MadeR C k ls → (∃ l ∈ ls, (k : Int) ∈ l) → MadeR C (k + 1) ls
  | add {k : Nat} {ls : List (List Int)} {l : List Int} : MadeR C k ls → (∀ m ∈ ls, (k : Int) ∉ m) → l.Pairwise (· < ·) → (∀ x : Int, x ∈ l ↔ ∃ v : Nat, x = v ∧ C k v) → MadeR C (k + 1) (ls ++ [l])
theorem asc_same {l m : List Int} (hl : l.Pairwise (· < ·)) (hm : m.Pairwise (· < ·)) (h : ∀ x, x ∈ l ↔ x ∈ m) : l = m := by
  have nd : ∀ {l : List Int}, l.Pairwise (· < ·) → l.Nodup := fun h => h.imp (fun hab e => by omega)
  have hp : l.Perm m := (List.perm_ext_iff_of_nodup (nd hl) (nd hm)).2 h
  exact List.Perm.eq_of_pairwise (le := (· < ·)) (fun a b _ _ h1 h2 => by omega) hl hm hp
theorem MadeR.same {C C' : Nat → Nat → Prop} : ∀ {k : Nat} {ls ms : List (List Int)}, (∀ a b, a < k → (C a b ↔ C' a b)) → MadeR C k ls → MadeR C' k ms → ls = ms := by
  intro k
  induction k with
  | zero => intro ls ms _ h1 h2; cases h1; cases h2; rfl
  | succ k ih =>
    intro ls ms hc h1 h2
    have hc' : ∀ a b, a < k → (C a b ↔ C' a b) := fun a b h => hc a b (by omega)
    cases h1 with
    | skip h1 e1 =>
      cases h2 with
      | skip h2 e2 => exact ih hc' h1 h2
      | add h2 e2 _ _ =>
        obtain ⟨l, hl, hk⟩ := e1
        rw [ih hc' h1 h2] at hl
        exact absurd hk (e2 l hl)
    | add h1 e1 p1 q1 =>
      cases h2 with
      | skip h2 e2 =>
        obtain ⟨l, hl, hk⟩ := e2
        rw [← ih hc' h1 h2] at hl
        exact absurd hk (e1 l hl)
      | add h2 e2 p2 q2 =>
        rw [ih hc' h1 h2, asc_same p1 p2 (fun x => (q1 x).trans (Iff.trans ⟨fun ⟨v, e, h⟩ => ⟨v, e, (hc k v (by omega)).1 h⟩, fun ⟨v, e, h⟩ => ⟨v, e, (hc k v (by omega)).2 h⟩⟩ (q2 x).symm))]
/-- Each block is the class of a number. -/
theorem MadeR.each {C : Nat → Nat → Prop} {k : Nat} {ls : List (List Int)} (h : MadeR C k ls) : ∀ l ∈ ls, ∃ r, r < k ∧ ∀ x : Int, x ∈ l ↔ ∃ v : Nat, x = v ∧ C r v := by
  induction h with
  | zero => intro l hl; cases hl
  | skip _ _ ih => intro l hl; obtain ⟨r, h1, h2⟩ := ih l hl; exact ⟨r, by omega, h2⟩
  | @add k ls l _ _ _ q ih =>
    intro m hm
    rcases List.mem_append.1 hm with h | h
    · obtain ⟨r, h1, h2⟩ := ih m h; exact ⟨r, by omega, h2⟩
    · rw [List.mem_singleton.1 h]; exact ⟨k, by omega, q⟩
/-- Which numbers are in a block. -/
theorem MadeR.mem {C : Nat → Nat → Prop} (hE : Eqv C) {k : Nat} {ls : List (List Int)} (h : MadeR C k ls) (v : Nat) : (∃ l ∈ ls, (v : Int) ∈ l) ↔ ∃ j, j < k ∧ C j v := by
  induction h with
  | zero => simp
  | @skip k ls _ e ih =>
    rw [ih]
    constructor
    · rintro ⟨j, h1, h2⟩; exact ⟨j, by omega, h2⟩
    · rintro ⟨j, h1, h2⟩
      by_cases hj : j < k
      · exact ⟨j, hj, h2⟩
      · obtain rfl : j = k := by omega
        rw [← ih]
        obtain ⟨l, hl, hk⟩ := e
        refine ⟨l, hl, ?_⟩
        rename_i hM
        obtain ⟨r, _, hr⟩ := hM.each l hl
        obtain ⟨v', e1, e2⟩ := (hr j).1 hk
        obtain rfl : j = v' := by omega
        exact (hr v).2 ⟨v, rfl, hE.trans _ _ _ e2 h2⟩
  | @add k ls l _ e p q ih =>
    constructor
    · rintro ⟨m, hm, hv⟩
      rcases List.mem_append.1 hm with h | h
      · obtain ⟨j, h1, h2⟩ := ih.1 ⟨m, h, hv⟩; exact ⟨j, by omega, h2⟩
      · rw [List.mem_singleton.1 h] at hv
        obtain ⟨v', e1, e2⟩ := (q v).1 hv
        obtain rfl : v = v' := by omega
        exact ⟨k, by omega, e2⟩
    · rintro ⟨j, h1, h2⟩
      by_cases hj : j < k
      · obtain ⟨m, hm, hv⟩ := ih.2 ⟨j, hj, h2⟩
        exact ⟨m, List.mem_append_left _ hm, hv⟩
      · obtain rfl : j = k := by omega
        exact ⟨l, List.mem_append_right _ (by simp), (q v).2 ⟨v, rfl, h2⟩⟩
/-- The least numbers of the classes. -/
noncomputable def isRep (C : Nat → Nat → Prop) (j : Nat) : Bool := @decide (∀ i, i < j → ¬ C i j) (Classical.propDecidable _)
theorem isRep_iff {C : Nat → Nat → Prop} {j : Nat} : isRep C j = true ↔ ∀ i, i < j → ¬ C i j := by unfold isRep; exact @decide_eq_true_iff _ (Classical.propDecidable _)
noncomputable def reps (C : Nat → Nat → Prop) (k : Nat) : List Nat := (List.range k).filter (isRep C)
theorem MadeR.length {C : Nat → Nat → Prop} (hE : Eqv C) {k : Nat} {ls : List (List Int)} (h : MadeR C k ls) : ls.length = (reps C k).length := by
  induction h with
  | zero => rfl
  | @skip k ls hM e ih =>
    rw [ih]
    unfold reps
    rw [List.range_succ, List.filter_append]
    have : ¬ ∀ i, i < k → ¬ C i k := by
      obtain ⟨j, h1, h2⟩ := (hM.mem hE k).1 e
      exact fun h => h j h1 h2
    have hf : [k].filter (isRep C) = [] := by
      rw [List.filter_cons_of_neg (fun h => this (isRep_iff.1 h))]; rfl
    rw [List.length_append, hf]; rfl
  | @add k ls l hM e p q ih =>
    rw [List.length_append, ih]
    unfold reps
    rw [List.range_succ, List.filter_append]
    have : ∀ i, i < k → ¬ C i k := fun i hi hc => by
      obtain ⟨m, hm, hv⟩ := (hM.mem hE k).2 ⟨i, hi, hc⟩
      exact e m hm hv
    have hf : [k].filter (isRep C) = [k] := by
      rw [List.filter_cons_of_pos (isRep_iff.2 this)]; rfl
    rw [List.length_append, hf]; rfl
section
variable {C C' : Nat → Nat → Prop} {n : Nat} {ls ms : List (List Int)}
/-- Each block lies in one of the coarser ones. -/
theorem coarse_sub (hE' : Eqv C') (hs : ∀ a b, C a b → C' a b) (h : MadeR C n ls) (h' : MadeR C' n ms) : ∀ l ∈ ls, ∃ m ∈ ms, ∀ x ∈ l, x ∈ m := by
  intro l hl
  obtain ⟨r, hr, hx⟩ := h.each l hl
  obtain ⟨m, hm, hv⟩ := (h'.mem hE' r).2 ⟨r, hr, hE'.refl r⟩
  obtain ⟨q, _, hy⟩ := h'.each m hm
  obtain ⟨r', e1, e2⟩ := (hy r).1 hv
  obtain rfl : r = r' := by omega
  refine ⟨m, hm, fun x hxl => ?_⟩
  obtain ⟨v, e3, e4⟩ := (hx x).1 hxl
  exact (hy x).2 ⟨v, e3, hE'.trans _ _ _ e2 (hs _ _ e4)⟩
end
end Go.Sp
end
section
/- Rounds of coarser and coarser partitions; the first round behind which nothing changes: plain. -/
namespace Go.Sp
structure Rounds (N : Nat) where
  C : Nat → Nat → Nat → Prop
  B : Nat → List (List Int)
  eqv : ∀ t, Eqv (C t)
  mono : ∀ t a b, C t a b → C (t + 1) a b
  lt : ∀ t a b, a < N → C t a b → b < N
  made : ∀ t, MadeR (C t) N (B t)
section
variable {N : Nat} (R : Rounds N)
theorem Rounds.sub (t : Nat) : ∀ l ∈ R.B t, ∃ m ∈ R.B (t + 1), ∀ x ∈ l, x ∈ m := coarse_sub (R.eqv (t + 1)) (R.mono t) (R.made t) (R.made (t + 1))
end
end Go.Sp
end
section
/- Keys of monomials, edges that a set of monomials makes: plain. -/
namespace Go.Sp
open Go.Ev
/-- A monomial as a key: six numbers. -/
def kv (m : List Int) : List Int := (List.range 6).map fun i => m.getD i 0
theorem kv_len (m : List Int) : (kv m).length = 6 := by simp [kv]
theorem kv_at (m : List Int) {i : Nat} (h : i < 6) : (kv m)[i]? = some (m.getD i 0) := by simp [kv, h]
theorem kv_inj {a b : List Int} (hl : a.length = b.length) (h6 : a.length ≤ 6) (h : kv a = kv b) : a = b := by
  refine List.ext_getElem hl fun i h1 h2 => ?_
  have e : (kv a)[i]? = (kv b)[i]? := by rw [h]
  rw [kv_at a (by omega), kv_at b (by omega)] at e
  simpa [h1, h2] using e
theorem kv_bound {m : List Int} {c : Int} (hc : 0 ≤ c) (h : ∀ x ∈ m, 0 ≤ x ∧ x ≤ c) : ∀ x ∈ kv m, 0 ≤ x ∧ x ≤ c := by
  intro x hx
  obtain ⟨i, _, rfl⟩ := List.mem_map.1 hx
  by_cases hi : i < m.length
  · rw [List.getD_eq_getElem?_getD, List.getElem?_eq_getElem hi, Option.getD_some]; exact h _ (List.getElem_mem _)
  · rw [List.getD_eq_getElem?_getD, List.getElem?_eq_none (by omega)]; exact ⟨Int.le_refl _, hc⟩
end Go.Sp
end
section
/- The elements of a set, in a slice. -/
namespace Go.Proofs.Tg.Gx
open Go.RowKit Go.Gr
theorem int_info : (Tryz.prog.info? 3).map (fun i => (i.zero, i.size, i.bytes)) = some (some (.int .i64 0), 1, 8) := by kernel_rfl
set_option maxHeartbeats 1000000
end Go.Proofs.Tg.Gx
end
section
/- The adjacency: 64 sets in a block; connect. -/
namespace Go.Gr
def upd (A : Nat → Nat) (i s : Nat) : Nat → Nat := fun k => if k = i then s else A k
def connect (A : Nat → Nat) (i j : Nat) : Nat → Nat := upd (upd A i (bset (A i) j)) j (bset (upd A i (bset (A i) j) j) i)
def Small (A : Nat → Nat) : Prop := ∀ i, A i < 18446744073709551616
theorem Small.upd {A : Nat → Nat} (h : Small A) {i s : Nat} (hs : s < 18446744073709551616) : Small (upd A i s) := fun k => by
  unfold Gr.upd; split
  · exact hs
  · exact h k
theorem Small.connect {A : Nat → Nat} (h : Small A) {i j : Nat} (hi : i < 64) (hj : j < 64) : Small (connect A i j) :=
  (h.upd (bset_lt (h i) hj)).upd (bset_lt ((h.upd (bset_lt (h i) hj)) j) hi)
theorem Small.zero : Small (fun _ => 0) := fun _ => by simp
end Go.Gr
namespace Go.Proofs.Tg.Gx
open Go.RowKit Go.Gr
set_option maxHeartbeats 1000000
end Go.Proofs.Tg.Gx
end
section
/- The edges of an adjacency, written out. -/
namespace Go.Gr
/-- The edges that go from i to greater vertices. -/
def rowEdges (A : Nat → Nat) (i : Nat) : List (Int × Int) := (verts (andn (A i) (firstN i))).map fun j : Nat => ((i : Int), (j : Int))
def writeEdges (A : Nat → Nat) (n : Nat) : List (Int × Int) := (List.range n).flatMap (rowEdges A)
end Go.Gr
namespace Go.Proofs.Tg.Gx
open Go.RowKit Go.Gr
def ecells (es : List (Int × Int)) : List Value := es.flatMap fun e => [vi e.1, vi e.2]
theorem pair_info : (Tryz.prog.info? 84).map (fun i => (i.zero, i.size, i.bytes)) = some (some (.agg #[.int .i64 0, .int .i64 0]), 2, 16) := by kernel_rfl
set_option maxHeartbeats 1000000
set_option maxRecDepth 100000
end Go.Proofs.Tg.Gx
end
section
/- Comparisons: cmp.Compare at int, cmp.Or of two numbers, edges. -/
namespace Go.Gr
def orI (a b : Int) : Int := if a = 0 then b else a
def cmpE (e f : Int × Int) : Int := orI (cmpI e.1 f.1) (cmpI e.2 f.2)
end Go.Gr
namespace Go.Proofs.Tg.Gx
open Go.RowKit Go.Gr
set_option maxHeartbeats 1000000
set_option maxRecDepth 100000
theorem nan_any (a : Int) (w : World) : Calls Tryz.prog 111 #[.int .i64 a] w fun e w' => e = .returned (.bool false) ∧ w = w' := by
  go_enter Tryz.func111, Tryz.ntmps111
  go_wp2
  go_ret
  exact ⟨by simp, rfl⟩
theorem cmp_any (a b : Int) (w : World) : Calls Tryz.prog 82 #[.int .i64 a, .int .i64 b] w fun e w' => e = .returned (.int .i64 (cmpI a b)) ∧ w = w' := by
  by_cases h1 : a < b
  · have e : cmpI a b = -1 := by unfold cmpI; rw [if_pos h1]
    rw [e]; clear e
    go_enter Tryz.func82, Tryz.ntmps82
    go_wp2_with (go_at_call 111; refine (nan_any _ _).mono ?_; rintro e w' ⟨rfl, rfl⟩)
    go_ret
    exact ⟨rfl, rfl⟩
  · by_cases h2 : b < a
    · have e : cmpI a b = 1 := by unfold cmpI; rw [if_neg h1, if_pos h2]
      rw [e]; clear e
      go_enter Tryz.func82, Tryz.ntmps82
      go_wp2_with (go_at_call 111; refine (nan_any _ _).mono ?_; rintro e w' ⟨rfl, rfl⟩)
      go_ret
      exact ⟨rfl, rfl⟩
    · have e : cmpI a b = 0 := by unfold cmpI; rw [if_neg h1, if_neg h2]
      rw [e]; clear e
      go_enter Tryz.func82, Tryz.ntmps82
      go_wp2_with (go_at_call 111; refine (nan_any _ _).mono ?_; rintro e w' ⟨rfl, rfl⟩)
      go_ret
      exact ⟨rfl, rfl⟩
end Go.Proofs.Tg.Gx
end
section
/- Reading a graph into an adjacency. -/
namespace Go.Gr
def goodEdge (n : Int) (e : Int × Int) : Prop := 0 ≤ e.1 ∧ e.1 < e.2 ∧ e.2 < n
def readAll (es : List (Int × Int)) : Nat → Nat := es.foldl (fun A e => connect A e.1.toNat e.2.toNat) (fun _ => 0)
/-- The first k edges are valid: each good by itself, and each behind the one before. -/
def validTo (n : Int) (es : List (Int × Int)) (k : Nat) : Prop := ∀ i (h : i < es.length), i < k → goodEdge n es[i] ∧ (0 < i → cmpE (es[i - 1]'(by omega)) es[i] < 0)
def valid (n : Int) (es : List (Int × Int)) : Prop := 0 ≤ n ∧ n ≤ 64 ∧ validTo n es es.length
end Go.Gr
namespace Go.Proofs.Tg.Gx
open Go.RowKit Go.Gr
abbrev EdgesAt (w : World) (E : Option Addr) (es : List (Int × Int)) : Prop := Sl w E es.length 2 (ecells es)
theorem ecells_at : ∀ (es : List (Int × Int)) (k : Nat) (hk : k < es.length), (ecells es)[k * 2]? = some (vi es[k].1) ∧ (ecells es)[k * 2 + 1]? = some (vi es[k].2)
  | e :: es, 0, _ => by simp [ecells]
  | e :: es, k + 1, hk => by
    have := ecells_at es k (by simpa using hk)
    simp only [ecells, List.flatMap_cons, show (k + 1) * 2 = k * 2 + 1 + 1 from by omega, List.cons_append, List.nil_append, List.getElem?_cons_succ, List.getElem_cons_succ] at this ⊢
    exact this
theorem EdgesAt.at {w : World} {E : Option Addr} {es : List (Int × Int)} (h : EdgesAt w E es) {k : Nat} (hk : k < es.length) :
    ∃ ad, E = some ad ∧ w.cell? (ad.add (k * 2)) = some (.int .i64 es[k].1) ∧ w.cell? ⟨(ad.add (k * 2)).block, (ad.add (k * 2)).off + 1, none⟩ = some (.int .i64 es[k].2) := by
  obtain ⟨ad, rfl, _, hc⟩ := h.lies (by omega)
  obtain ⟨h1, h2⟩ := ecells_at es k hk
  have h2' := hc _ _ h2
  exact ⟨ad, rfl, hc _ _ h1, by rw [← add_add] at h2'; exact h2'⟩
theorem below_setRow {B : Nat} {a w : World} (h : Below B a w) {g : Nat} (hg : B ≤ g) (cs : Array Value) : Below B a (w.setRow g cs) :=
  h.trans ⟨rfl, rfl, rfl, by simp, fun k hk => setRow_other w g k _ (by omega)⟩
set_option maxHeartbeats 1000000
set_option maxRecDepth 100000
end Go.Proofs.Tg.Gx
end
section
/- Plain functions that say what package graph computes, and their first properties. -/
namespace Go.Gr

theorem mem_verts {s i : Nat} : i ∈ verts s ↔ i < 64 ∧ s.testBit i = true := by simp [verts]
theorem bset_bit (s i j : Nat) : (bset s i).testBit j = (s.testBit j || decide (i = j)) := by
  unfold bset
  rw [Nat.testBit_or, Nat.one_shiftLeft, Nat.testBit_two_pow]
theorem andn_bit (a b j : Nat) (hb : b < 18446744073709551616) (hj : j < 64) : (andn a b).testBit j = (a.testBit j && !b.testBit j) := by
  unfold andn
  rw [Nat.testBit_and]
  have : (18446744073709551615 - b).testBit j = !b.testBit j := by
    have h := Nat.testBit_two_pow_sub_succ (n := 64) (x := b) (by omega) j
    rw [show 2 ^ 64 - (b + 1) = 18446744073709551615 - b from by omega] at h
    rw [h]; simp [hj]
  rw [this]
theorem bclr_bit (s i j : Nat) (hi : i < 64) (hj : j < 64) : (bclr s i).testBit j = (s.testBit j && !decide (i = j)) := by
  unfold bclr
  rw [andn_bit _ _ _ (shl_lt i hi) hj, Nat.one_shiftLeft, Nat.testBit_two_pow]
theorem high_bit {s j : Nat} (hs : s < 18446744073709551616) (hj : 64 ≤ j) : s.testBit j = false :=
  Nat.testBit_lt_two_pow (Nat.lt_of_lt_of_le hs (Nat.pow_le_pow_right (n := 2) (by omega) hj))

/-- One step of the choice of the next vertex of a maximum cardinality search. -/
def bestStep (A : Nat → Nat) (vis : Nat) (bm : Int × Int) (v : Nat) : Int × Int :=
  if vis.testBit v = false ∧ bm.2 < (size (A v &&& vis) : Nat) then ((v : Int), ((size (A v &&& vis) : Nat) : Int)) else bm
def best (A : Nat → Nat) (vis n : Nat) : Int × Int := (List.range n).foldl (bestStep A vis) (-1, -1)
/-- The visited set and the order after r rounds. -/
def searchTo (A : Nat → Nat) (n : Nat) : Nat → Nat × List Nat
  | 0 => (0, [])
  | r + 1 => (bset (searchTo A n r).1 (best A (searchTo A n r).1 n).1.toNat, (searchTo A n r).2 ++ [(best A (searchTo A n r).1 n).1.toNat])
def search (A : Nat → Nat) (n : Nat) : List Nat := (searchTo A n n).2

end Go.Gr
end
section
/- Maximum cardinality search. -/
namespace Go.Proofs.Tg.Gx
open Go.RowKit Go.Gr
theorem make_ints (l n : Nat) (hl : l ≤ n) (hn : n ≤ 1000000) (w : World) : (Instr.makeSlice 22 (.int .i64 (l : Int)) (.int .i64 (n : Int))).run Tryz.prog w = .ok (.slice (some ⟨w.heap.size, 0, none⟩) l n) (w.alloc (.cells (madeCells #[.int .i64 0] n) 3)) := by
  obtain ⟨i0, hi, hz0, hz1, hz2⟩ := info_parts int_info
  have hr := run_make (P := Tryz.prog) w 22 3 i0 (.int .i64 0) Tryz.underlying22 hi hz0 .i64 .i64 l n (by omega) (by omega) (by rw [hz2]; omega) (by omega)
  rw [hz1, Nat.mul_one, Int.toNat_natCast, Int.toNat_natCast] at hr
  exact hr
set_option maxHeartbeats 1000000
set_option maxRecDepth 100000
end Go.Proofs.Tg.Gx
end
section
/- Plain functions for the chordal extension. -/
namespace Go.Gr
/-- No vertex is its own neighbour. -/
def Irr (A : Nat → Nat) : Prop := ∀ v, v < 64 → (A v).testBit v = false
theorem upd_same (A : Nat → Nat) (i s : Nat) : upd A i s i = s := by simp [upd]
theorem upd_other (A : Nat → Nat) {i k : Nat} (s : Nat) (h : k ≠ i) : upd A i s k = A k := by simp [upd, h]
theorem Irr.zero : Irr (fun _ => 0) := fun _ _ => by simp
theorem Irr.connect {A : Nat → Nat} (h : Irr A) {i j : Nat} (hij : i ≠ j) : Irr (connect A i j) := by
  intro v hv
  unfold Gr.connect
  by_cases h1 : v = j
  · subst h1
    rw [upd_same, bset_bit, upd_other _ _ (fun e => hij e.symm), h v hv]
    simpa using hij
  · rw [upd_other _ _ h1]
    by_cases h2 : v = i
    · subst h2
      rw [upd_same, bset_bit, h v hv]
      simpa using fun e => hij e.symm
    · rw [upd_other _ _ h2]; exact h v hv
theorem size_lt {s i : Nat} (hi : i < 64) (h : s.testBit i = false) : size s < 64 := by
  have h1 : size s ≤ 64 := size_le s
  by_cases e : size s = 64
  · exfalso
    have h2 : verts s = List.range 64 := List.filter_eq_self.2 (by
      have := List.length_filter_eq_length_iff.1 (show ((List.range 64).filter s.testBit).length = (List.range 64).length by rw [List.length_range]; exact e)
      exact this)
    have : i ∈ verts s := by rw [h2]; simpa using hi
    rw [mem_verts] at this
    rw [h] at this
    cases this.2
  · omega
def minStep (A : Nat → Nat) (rest : Nat) (bm : Int × Int) (v : Nat) : Int × Int :=
  if ((size (A v &&& rest) : Nat) : Int) < bm.2 then ((v : Int), ((size (A v &&& rest) : Nat) : Int)) else bm
def minOf (A : Nat → Nat) (rest : Nat) (l : List Nat) : Int × Int := l.foldl (minStep A rest) (-1, 64)
theorem minOf_snoc (A : Nat → Nat) (rest : Nat) (l : List Nat) (v : Nat) : minOf A rest (l ++ [v]) = minStep A rest (minOf A rest l) v := by simp [minOf]
/-- What the choice comes to: the first of those with the fewest. -/
theorem minOf_spec (A : Nat → Nat) (rest : Nat) (hA : Irr A) : ∀ (r l : List Nat), (∀ v ∈ l, v < 64) → l.reverse = r → l = [] ∨ ∃ (v : Nat) (a b : List Nat), l = a ++ v :: b ∧ minOf A rest l = ((v : Int), ((size (A v &&& rest) : Nat) : Int)) ∧
      (∀ u ∈ a, size (A v &&& rest) < size (A u &&& rest)) ∧ (∀ u ∈ b, size (A v &&& rest) ≤ size (A u &&& rest))
  | [], l, _, hr => .inl (by simpa using hr)
  | x :: r, l, hl, hr => by
    right
    have hl2 : l = r.reverse ++ [x] := by
      have := congrArg List.reverse hr
      simpa using this
    subst hl2
    have hx : x < 64 := hl x (by simp)
    have h63 : size (A x &&& rest) < 64 := size_lt hx (by rw [Nat.testBit_and, hA x hx]; rfl)
    rw [minOf_snoc]
    rcases minOf_spec A rest hA r r.reverse (fun v hv => hl v (by simp [hv])) (by simp) with h | ⟨v, a, b, hab, hm, h1, h2⟩
    · refine ⟨x, [], [], by rw [h], ?_, by simp, by simp⟩
      rw [h]
      unfold minStep minOf
      rw [if_pos (by simp; omega)]
    · rw [hm]
      by_cases hc : size (A x &&& rest) < size (A v &&& rest)
      · refine ⟨x, a ++ v :: b, [], by rw [hab], ?_, ?_, by simp⟩
        · unfold minStep; rw [if_pos (by simp; omega)]
        · intro u hu
          simp only [List.mem_append, List.mem_cons] at hu
          rcases hu with hu | rfl | hu
          · have := h1 u hu; omega
          · exact hc
          · have := h2 u hu; omega
      · refine ⟨v, a, b ++ [x], by rw [hab]; simp, ?_, h1, ?_⟩
        · unfold minStep; rw [if_neg (by simp; omega)]
        · intro u hu
          simp only [List.mem_append, List.mem_singleton] at hu
          rcases hu with hu | rfl
          · exact h2 u hu
          · omega
def fillStep (ar : Nat) (A : Nat → Nat) (v : Nat) : Nat → Nat := upd A v (A v ||| bclr ar v)
def fill (ar : Nat) (l : List Nat) (A : Nat → Nat) : Nat → Nat := l.foldl (fillStep ar) A
theorem fillStep_small {ar v : Nat} {A : Nat → Nat} (h : Small A) (ha : ar < 18446744073709551616) : Small (fillStep ar A v) := h.upd (or_lt (h v) (bclr_lt v ha))
theorem fillStep_irr {ar v : Nat} {A : Nat → Nat} (h : Irr A) (hv : v < 64) : Irr (fillStep ar A v) := by
  intro u hu
  unfold fillStep
  by_cases e : u = v
  · subst e
    rw [upd_same, Nat.testBit_or, h u hu, bclr_bit _ _ _ hu hu]
    simp
  · rw [upd_other _ _ e]; exact h u hu
theorem fill_small {ar : Nat} (ha : ar < 18446744073709551616) : ∀ (l : List Nat) {A : Nat → Nat}, Small A → Small (fill ar l A)
  | [], _, h => h
  | v :: l, A, h => by
    simp only [fill, List.foldl_cons]
    exact fill_small ha l (fillStep_small h ha)
theorem fill_irr {ar : Nat} : ∀ (l : List Nat) {A : Nat → Nat}, (∀ v ∈ l, v < 64) → Irr A → Irr (fill ar l A)
  | [], _, _, h => h
  | v :: l, A, hl, h => by
    simp only [fill, List.foldl_cons]
    exact fill_irr l (fun u hu => hl u (by simp [hu])) (fillStep_irr h (hl v (by simp)))
/-- One elimination: the adjacency and what is left. -/
def elim (A : Nat → Nat) (rest : Nat) : (Nat → Nat) × Nat :=
  let b := (minOf A rest (verts rest)).1.toNat
  (fill (A b &&& rest) (verts (A b &&& rest)) A, bclr rest b)
def extFrom : Nat → (Nat → Nat) → Nat → (Nat → Nat)
  | 0, A, _ => A
  | f + 1, A, rest => if rest = 0 then A else extFrom f (elim A rest).1 (elim A rest).2
def extend (A : Nat → Nat) (n : Nat) : Nat → Nat := extFrom 65 A (firstN n)
end Go.Gr
end
