/- Parts of the proof: MO4, MO5, MO8, SM1, SP0, SP1, GWC, GWD, GWE, GWF, GSpec, GSpecE, GWP, GXC. -/
import Derived.Maps.OwnSet
import Derived.WalkKit
import Derived.Deep.RegionWith
import Derived.Deep.RegionHeld3
import Derived.Deep.DeepCutAuto
import Derived.Maps.AppendAt
import Derived.Laws.Tables
import Derived.IntWalk
import Derived.Laws.MakeOwn
import Derived.Test.YtpkompfkhoceoaaGreatDoorMMO0
import Derived.Test.YtpkompfkhoceoaaGreatDoorMMO15
section
/- Plain: how many monomials there are. -/
namespace Go.Mm
def cnt (n d : Nat) : Nat := (mons n d).length
theorem monTo_all (n d : Nat) : monTo n (d + 1) = mons n d := rfl
theorem exTo_cnt (n d : Nat) : ∀ k, (exTo n d k).length = (monTo n k).length
  | 0 => rfl
  | k + 1 => by rw [exTo_len, monTo_len, exTo_cnt n d k]
theorem exact_cnt (n d : Nat) : (exactL (n + 1) d).length = cnt n d := by rw [← exTo_all, exTo_cnt, monTo_all]; rfl
theorem cnt_zero (d : Nat) : cnt 0 d = 1 := by
  have h : ∀ k, (monTo 0 (k + 1)).length = 1 := by
    intro k
    induction k with
    | zero => rfl
    | succ k ih => rw [monTo_len, ih]; simp [exactL]
  exact h d
theorem cnt_d0 : ∀ n, cnt n 0 = 1
  | 0 => cnt_zero 0
  | n + 1 => by
    have : cnt (n + 1) 0 = (exactL (n + 1) 0).length := by
      unfold cnt mons
      simp [List.range_succ]
    rw [this, exact_cnt, cnt_d0 n]
theorem cnt_succ (n d : Nat) : cnt (n + 1) (d + 1) = cnt (n + 1) d + cnt n (d + 1) := by
  have : cnt (n + 1) (d + 1) = cnt (n + 1) d + (exactL (n + 1) (d + 1)).length := by
    unfold cnt
    rw [← monTo_all, monTo_len, monTo_all]
  rw [this, exact_cnt]
/-- Both rules for the binomials. -/
theorem cnt_rules : ∀ n, (∀ d, (d + 1) * cnt n (d + 1) = (d + 1 + n) * cnt n d) ∧ (∀ d, 0 < n → n * cnt n d = (d + n) * cnt (n - 1) d)
  | 0 => ⟨fun d => by rw [cnt_zero, cnt_zero], fun d h => absurd h (by omega)⟩
  | n + 1 => by
    obtain ⟨hQ, _⟩ := cnt_rules n
    have hP : ∀ d, (n + 1) * cnt (n + 1) d = (d + (n + 1)) * cnt n d := by
      intro d
      induction d with
      | zero => rw [cnt_d0, cnt_d0]; omega
      | succ d ih =>
        have h1 := hQ d
        rw [cnt_succ, Nat.mul_add, ih, show d + (n + 1) = d + 1 + n by omega, ← h1, ← Nat.add_mul]
    refine ⟨fun d => ?_, fun d _ => hP d⟩
    have h1 := hP (d + 1)
    have h2 := cnt_succ n d
    have h3 : (d + 1 + (n + 1)) * cnt (n + 1) (d + 1) = (d + 1 + (n + 1)) * cnt (n + 1) d + (d + 1 + (n + 1)) * cnt n (d + 1) := by rw [h2, Nat.mul_add]
    rw [← h1, Nat.add_mul] at h3
    omega
theorem cnt_step (n d : Nat) : cnt n d * (d + (n + 1)) / (n + 1) = cnt (n + 1) d := by
  have h := (cnt_rules (n + 1)).2 d (by omega)
  rw [Nat.add_sub_cancel] at h
  rw [Nat.mul_comm, ← h, Nat.mul_div_cancel_left _ (by omega)]
theorem cnt_mono_d (n d : Nat) : cnt n d ≤ cnt n (d + 1) := by
  unfold cnt
  rw [← monTo_all n (d + 1), monTo_len, monTo_all]
  omega
theorem cnt_le_d (n d e : Nat) (h : d ≤ e) : cnt n d ≤ cnt n e := by
  obtain ⟨k, rfl⟩ : ∃ k, e = d + k := ⟨e - d, by omega⟩
  clear h
  induction k with
  | zero => exact Nat.le_refl _
  | succ k ih => exact Nat.le_trans ih (cnt_mono_d n (d + k))
theorem cnt_up (n d : Nat) : cnt (n + 1) d ≤ (d + 1) * cnt n d := by
  induction d with
  | zero => rw [cnt_d0, cnt_d0]; omega
  | succ d ih =>
    rw [cnt_succ]
    have h := cnt_mono_d n d
    have h2 : (d + 1) * cnt n d ≤ (d + 1) * cnt n (d + 1) := Nat.mul_le_mul_left _ h
    rw [show d + 1 + 1 = (d + 1) + 1 from rfl, Nat.add_mul (d + 1) 1]
    omega
theorem cnt_bound : ∀ (n d : Nat), cnt n d ≤ (d + 1) ^ n
  | 0, d => by rw [cnt_zero]; simp
  | n + 1, d => by
    rw [Nat.pow_succ, Nat.mul_comm]
    exact Nat.le_trans (cnt_up n d) (Nat.mul_le_mul_left _ (cnt_bound n d))
theorem monTo_le (n d k : Nat) (h : k ≤ d + 1) : (monTo n k).length ≤ cnt n d := by
  cases k with
  | zero => simp [monTo_zero]
  | succ k => rw [monTo_all]; exact cnt_le_d n k d (by omega)
end Go.Mm
end
section
/- The program's number of monomials, and their list. -/
namespace Go.Proofs.Tg
open Go.RowKit Go.Mm
set_option maxHeartbeats 8000000
set_option maxRecDepth 100000
theorem cnt_fit {n d : Nat} (hn : n ≤ 6) (hd : d ≤ 24) : cnt n d ≤ 244140625 := by
  refine Nat.le_trans (cnt_bound n d) ?_
  refine Nat.le_trans (Nat.pow_le_pow_left (show d + 1 ≤ 25 by omega) n) ?_
  exact Nat.le_trans (Nat.pow_le_pow_right (by omega) hn) (by decide)
theorem choose_any (n d : Nat) (hn : n ≤ 6) (hd : d ≤ 24) (w : World) :
    Calls Tryz.prog 64 #[.int .i64 ((n + d : Nat) : Int), .int .i64 (n : Nat)] w fun e w' => e = .returned (.int .i64 (cnt n d : Nat)) ∧ Below w.heap.size w w' := by
  have hlt : decide (((n + d : Nat) : Int) < (n : Int)) = false := decide_eq_false (by omega)
  obtain ⟨s, hs⟩ : ∃ s, n + d = s := ⟨_, rfl⟩
  rw [hs] at hlt ⊢
  have hsI : (s : Int) - (n : Int) = (d : Int) := by omega
  have hs30 : s ≤ 30 := by omega
  have w1 : IntKind.i64.wrap ((s : Int) - (n : Int)) = (d : Int) := by rw [hsI]; exact IntWalk.i64_in _ (by omega)
  have HC := Lib.hid (fun k (h : k ≤ 6) => cnt_fit (n := k) h hd)
  have H0 : Hid ((1 : Nat) = cnt 0 d) := Lib.hid (cnt_zero d).symm
  clear hs
  go_enter Tryz.func64, Tryz.ntmps64
  go_wp2
  go_loopw [5, 6] (fun s5 s6 wr => ∃ (k r : Nat), s6 = .int .i64 ((k : Int) + 1) ∧ s5 = .int .i64 (r : Nat) ∧ k ≤ n ∧ r ≤ 244140625 ∧ Hid (r = cnt k d) ∧ Below w.heap.size w wr) (fun _ s6 _ => n + 1 - (intOf s6).toNat)
  case atStart => exact ⟨0, 1, by go_num, rfl, Nat.zero_le _, by omega, H0, Below.refl _ _⟩
  case round =>
    obtain ⟨wo, rfl⟩ : ∃ wo : World, wo = wr := ⟨_, rfl⟩
    obtain ⟨k, r, rfl, rfl, hk, hr, HR, hbw⟩ := hrel
    by_cases hkn : k = n
    · have hd1 : decide ((k : Int) + 1 ≤ (n : Int)) = false := decide_eq_false (by omega)
      have HK := Lib.hid hkn
      clear hkn
      go_wp2
      go_ret
      exact ⟨by rw [← HK.out, ← HR.out]; rfl, hbw⟩
    · have hkn2 : k < n := by omega
      have hd1 : decide ((k : Int) + 1 ≤ (n : Int)) = true := decide_eq_true (by omega)
      obtain ⟨q, hq⟩ : ∃ q, r * (d + (k + 1)) / (k + 1) = q := ⟨_, rfl⟩
      have HQ : Hid (q = cnt (k + 1) d) := Lib.hid (by rw [← hq, HR.out, cnt_step])
      have hql : q ≤ 244140625 := by rw [HQ.out]; exact HC.out _ (by omega)
      have hpr : r * (d + (k + 1)) ≤ 244140625 * 30 := Nat.mul_le_mul hr (by omega)
      obtain ⟨pr, hpe⟩ : ∃ pr, r * (d + (k + 1)) = pr := ⟨_, rfl⟩
      rw [hpe] at hq hpr
      have e1 : (r : Int) * ((d : Int) + ((k : Int) + 1)) = (pr : Int) := by
        rw [← hpe]; simp
      have w2 : IntKind.i64.wrap (pr : Int) = (pr : Int) := IntWalk.i64_in _ (by omega)
      have w4 : IntKind.i64.wrap ((d : Int) + ((k : Int) + 1)) = (d : Int) + ((k : Int) + 1) := IntWalk.i64_in _ (by omega)
      have e2 : Int.tdiv (pr : Int) ((k : Int) + 1) = (q : Int) := by
        rw [show (k : Int) + 1 = ((k + 1 : Nat) : Int) by omega, ← Int.ofNat_tdiv, hq]
      have w3 : IntKind.i64.wrap (q : Int) = (q : Int) := IntWalk.i64_in _ (by omega)
      have nz : (((k : Int) + 1) == 0) = false := beq_eq_false_iff_ne.2 (by omega)
      clear hpe hq hkn
      go_wp2
      go_roundw
      case rel => exact ⟨k + 1, q, by go_num, rfl, by omega, hql, HQ, hbw⟩
      case measure => simp [intOf]; omega
theorem count_any (n d : Nat) (hn : n ≤ 6) (hd : d ≤ 24) (w : World) :
    Calls Tryz.prog 36 #[.int .i64 (n : Nat), .int .i64 (d : Nat)] w fun e w' => e = .returned (.tuple #[.int .i64 (cnt n d : Nat), .bool true]) ∧ Below w.heap.size w w' := by
  have H := Lib.hid (choose_any n d hn hd w)
  have d1 : decide ((n : Int) < 0) = false := decide_eq_false (by omega)
  have d2 : decide ((6 : Int) < (n : Int)) = false := decide_eq_false (by omega)
  have d3 : decide ((d : Int) < 0) = false := decide_eq_false (by omega)
  have d4 : decide ((24 : Int) < (d : Int)) = false := decide_eq_false (by omega)
  obtain ⟨s, hs⟩ : ∃ s, n + d = s := ⟨_, rfl⟩
  rw [hs] at H
  have hsI : (n : Int) + (d : Int) = (s : Int) := by omega
  clear hs
  go_enter Tryz.func36, Tryz.ntmps36
  go_wp2_with (fail)
  refine H.out.mono ?_
  rintro e w2 ⟨rfl, hb⟩
  go_wp2
  go_ret2
  exact ⟨rfl, hb⟩
/-- A list of monomials of the call's own. -/
def RetMons (n d : Nat) (w : World) (e : Ending) (w' : World) : Prop :=
  ∃ A c rs, e = .returned (.tuple #[.slice A (List.length rs) c, .int .i64 0]) ∧ OwnI w.heap.size w' A c rs ∧ rs.map IRow.l = mons n d ∧ Below w.heap.size w w'
end Go.Proofs.Tg
end
section
/- The reference's list of all monomials. -/
namespace Go.Proofs.Tg
open Go.RowKit Go.Mm
set_option maxHeartbeats 8000000
set_option maxRecDepth 100000
def RetList (n d : Nat) (w : World) (e : Ending) (w' : World) : Prop :=
  ∃ A c rs, e = .returned (.slice A (List.length rs) c) ∧ OwnI w.heap.size w' A c rs ∧ rs.map IRow.l = mons n d ∧ Below w.heap.size w w'
theorem list_ref (n d : Nat) (hn : n ≤ 5) (hd : d ≤ 24) (hc : cnt (n + 1) d ≤ 4096) (w : World) :
    Calls Tryz.prog 50 #[.int .i64 ((n + 1 : Nat) : Int), .int .i64 (d : Nat)] w (RetList (n + 1) d w) := by
  have HML := Lib.hid (fun k (h : k ≤ d + 1) => monTo_le (n + 1) d k h)
  have HEX := Lib.hid (exact_ref n)
  obtain ⟨N, hN⟩ : ∃ N, n + 1 = N := ⟨_, rfl⟩
  rw [hN] at HML HEX hc
  rw [hN]
  have HST : Hid (OwnI w.heap.size w none 0 [] ∧ Below w.heap.size w w) := Lib.hid ⟨OwnI.nil _ _, Below.refl _ _⟩
  clear hN
  go_enter Tryz.func50, Tryz.ntmps50
  go_wp2
  go_loopw [5, 6] (fun s5 s6 wr => ∃ (k : Nat) (A : Option Addr) (c : Nat) (rs : List IRow), s5 = .slice A rs.length c ∧ s6 = .int .i64 (k : Nat) ∧ k ≤ d + 1 ∧ Hid (rs.map IRow.l = monTo N k) ∧ Hid (OwnI w.heap.size wr A c rs ∧ Below w.heap.size w wr)) (fun _ s6 _ => d + 1 - (intOf s6).toNat)
  case atStart => exact ⟨0, none, 0, [], rfl, rfl, Nat.zero_le _, Lib.hid rfl, HST⟩
  case round =>
    clear HST
    obtain ⟨wo, rfl⟩ : ∃ wo : World, wo = wr := ⟨_, rfl⟩
    obtain ⟨k, A, c, rs, rfl, rfl, hk, HEQ, HST⟩ := hrel
    by_cases hkd : k = d + 1
    · have e1 : decide ((k : Int) ≤ (d : Int)) = false := decide_eq_false (by omega)
      have e1' : decide (k ≤ d) = false := decide_eq_false (by omega)
      have HK := Lib.hid hkd
      clear hkd
      go_wp2
      go_ret
      exact ⟨A, c, rs, rfl, HST.out.1, by rw [HEQ.out, HK.out, monTo_all], HST.out.2⟩
    · have hk2 : k ≤ d := by omega
      have e1 : decide ((k : Int) ≤ (d : Int)) = true := decide_eq_true (by omega)
      have e1' : decide (k ≤ d) = true := decide_eq_true hk2
      have hrl : rs.length + (exactL N k).length ≤ 4096 := by
        have h1 := congrArg List.length HEQ.out
        rw [List.length_map] at h1
        have h2 := HML.out (k + 1) (by omega)
        rw [monTo_len] at h2
        omega
      have HC := HEX.out k w.heap.size wo A c rs HST.out.1 HST.out.2.size (by omega) (by omega) (by omega)
      unfold RetApp at HC
      obtain ⟨nr, hnr⟩ : ∃ x, rs.length = x := ⟨_, rfl⟩
      rw [hnr] at HC ⊢
      have HNR := Lib.hid hnr
      have HC := Lib.hid HC
      clear hnr hrl hkd
      go_wp2_with (fail)
      refine HC.out.mono ?_
      rintro e w5 ⟨A5, c5, rs5, rfl, hO5, he5, hg5, hat5⟩
      go_wp2
      go_roundw
      case rel =>
        refine ⟨k + 1, A5, c5, rs5, rfl, by go_num, by omega, Lib.hid (by rw [he5, HEQ.out, monTo_succ]), Lib.hid ⟨hO5, ?_⟩⟩
        refine HST.out.2.grown hg5 HST.out.2.size (fun j hj => ?_)
        have := HST.out.1.own
        rw [HNR.out] at this
        exact (this.lt j hj).1
      case measure => simp [intOf]; omega
end Go.Proofs.Tg
end
section
/- A map to bools that the call itself has made, as a set of keys: the look-up, the store. -/
namespace Go.Proofs.Tg
open Go.RowKit Go.Maps Go.WideShapes
/-- The map holds true at just the keys of the list. -/
structure SetOK {α : Type} [DecidableEq α] (kl : α → Lit) (dom : α → Prop) (S : List α) (D : DataW Unit) : Prop where
  isMap : Maps.IsMap D
  at' : ∀ v, dom v → D.atKey (kl v) (.lit (.bool false)) = .lit (.bool (decide (v ∈ S)))
theorem SetOK.nil {α : Type} [DecidableEq α] (kl : α → Lit) (dom : α → Prop) : SetOK kl dom [] (.map []) := ⟨Maps.isMap_empty, fun v _ => by simp [DataW.atKey]⟩
theorem SetOK.put {α : Type} [DecidableEq α] {kl : α → Lit} {dom : α → Prop} {S : List α} {D : DataW Unit} (h : SetOK kl dom S D) (hk : ∀ v, dom v → WideAt.IsKeyLit (kl v)) (hi : ∀ u v, dom u → dom v → kl u = kl v → u = v) {x : α} (hx : dom x) :
    SetOK kl dom (x :: S) (D.put (kl x) (.lit (.bool true))) := by
  refine ⟨h.isMap.put _ _, fun v hv => ?_⟩
  by_cases he : v = x
  · subst he
    rw [Maps.atKey_put_same h.isMap (hk v hv)]
    simp
  · rw [Maps.atKey_put_other (fun e => he (hi v x hv hx e)), h.at' v hv]
    simp [he]
/-- The same set, told by another list. -/
theorem SetOK.congr {α : Type} [DecidableEq α] {kl : α → Lit} {dom : α → Prop} {S S' : List α} {D : DataW Unit} (h : SetOK kl dom S D) (hs : ∀ v, dom v → (v ∈ S ↔ v ∈ S')) : SetOK kl dom S' D :=
  ⟨h.isMap, fun v hv => by rw [h.at' v hv, decide_eq_decide.2 (hs v hv)]⟩
end Go.Proofs.Tg
end
section
/- Partitions made vertex by vertex from an equivalence, and a coarser one: plain. -/
namespace Go.Sp
open Classical
structure Eqv (C : Nat → Nat → Prop) : Prop where
  refl : ∀ a, C a a
  symm : ∀ a b, C a b → C b a
  trans : ∀ a b c, C a b → C b c → C a c
inductive MadeR (C : Nat → Nat → Prop) : Nat → List (List Int) → Prop
  | zero : MadeR C 0 []
  | skip {k : Nat} {ls : List (List Int)} : MadeR C k ls → (∃ l ∈ ls, (k : Int) ∈ l) → MadeR C (k + 1) ls
  | add {k : Nat} {ls : List (List Int)} {l : List Int} : MadeR C k ls → (∀ m ∈ ls, (k : Int) ∉ m) → l.Pairwise (· < ·) → (∀ x : Int, x ∈ l ↔ ∃ v : Nat, x = v ∧ C k v) → MadeR C (k + 1) (ls ++ [l])
/-- Each block is the class of a number. -/
theorem MadeR.each {C : Nat → Nat → Prop} {k : Nat} {ls : List (List Int)} (h : MadeR C k ls) : ∀ l ∈ ls, ∃ r, r < k ∧ ∀ x : Int, x ∈ l ↔ ∃ v : Nat, x = v ∧ C r v := by
  induction h with
  | zero => intro l hl; cases hl
  | skip _ _ ih => intro l hl; obtain ⟨r, h1, h2⟩ := ih l hl; exact ⟨r, by omega, h2⟩
  | @add k ls l _ _ _ q ih =>
    intro m hm
    rcases List.mem_append.1 hm with h | h
    · obtain ⟨r, h1, h2⟩ := ih m h; exact ⟨r, by omega, h2⟩
    · rw [List.mem_singleton.1 h]; exact ⟨k, by omega, q⟩
/-- Which numbers are in a block. -/
theorem MadeR.mem {C : Nat → Nat → Prop} (hE : Eqv C) {k : Nat} {ls : List (List Int)} (h : MadeR C k ls) (v : Nat) : (∃ l ∈ ls, (v : Int) ∈ l) ↔ ∃ j, j < k ∧ C j v := by
  induction h with
  | zero => simp
  | @skip k ls _ e ih =>
    rw [ih]
    constructor
    · rintro ⟨j, h1, h2⟩; exact ⟨j, by omega, h2⟩
    · rintro ⟨j, h1, h2⟩
      by_cases hj : j < k
      · exact ⟨j, hj, h2⟩
      · obtain rfl : j = k := by omega
        rw [← ih]
        obtain ⟨l, hl, hk⟩ := e
        refine ⟨l, hl, ?_⟩
        rename_i hM
        obtain ⟨r, _, hr⟩ := hM.each l hl
        obtain ⟨v', e1, e2⟩ := (hr j).1 hk
        obtain rfl : j = v' := by omega
        exact (hr v).2 ⟨v, rfl, hE.trans _ _ _ e2 h2⟩
  | @add k ls l _ e p q ih =>
    constructor
    · rintro ⟨m, hm, hv⟩
      rcases List.mem_append.1 hm with h | h
      · obtain ⟨j, h1, h2⟩ := ih.1 ⟨m, h, hv⟩; exact ⟨j, by omega, h2⟩
      · rw [List.mem_singleton.1 h] at hv
        obtain ⟨v', e1, e2⟩ := (q v).1 hv
        obtain rfl : v = v' := by omega
        exact ⟨k, by omega, e2⟩
    · rintro ⟨j, h1, h2⟩
      by_cases hj : j < k
      · obtain ⟨m, hm, hv⟩ := ih.2 ⟨j, hj, h2⟩
        exact ⟨m, List.mem_append_left _ hm, hv⟩
      · obtain rfl : j = k := by omega
        exact ⟨l, List.mem_append_right _ (by simp), (q v).2 ⟨v, rfl, h2⟩⟩
/-- The least numbers of the classes. -/
noncomputable def isRep (C : Nat → Nat → Prop) (j : Nat) : Bool := @decide (∀ i, i < j → ¬ C i j) (Classical.propDecidable _)
theorem isRep_iff {C : Nat → Nat → Prop} {j : Nat} : isRep C j = true ↔ ∀ i, i < j → ¬ C i j := by unfold isRep; exact @decide_eq_true_iff _ (Classical.propDecidable _)
noncomputable def reps (C : Nat → Nat → Prop) (k : Nat) : List Nat := (List.range k).filter (isRep C)
theorem MadeR.length {C : Nat → Nat → Prop} (hE : Eqv C) {k : Nat} {ls : List (List Int)} (h : MadeR C k ls) : ls.length = (reps C k).length := by
  induction h with
  | zero => rfl
  | @skip k ls hM e ih =>
    rw [ih]
    unfold reps
    rw [List.range_succ, List.filter_append]
    have : ¬ ∀ i, i < k → ¬ C i k := by
      obtain ⟨j, h1, h2⟩ := (hM.mem hE k).1 e
      exact fun h => h j h1 h2
    have hf : [k].filter (isRep C) = [] := by
      rw [List.filter_cons_of_neg (fun h => this (isRep_iff.1 h))]; rfl
    rw [List.length_append, hf]; rfl
  | @add k ls l hM e p q ih =>
    rw [List.length_append, ih]
    unfold reps
    rw [List.range_succ, List.filter_append]
    have : ∀ i, i < k → ¬ C i k := fun i hi hc => by
      obtain ⟨m, hm, hv⟩ := (hM.mem hE k).2 ⟨i, hi, hc⟩
      exact e m hm hv
    have hf : [k].filter (isRep C) = [k] := by
      rw [List.filter_cons_of_pos (isRep_iff.2 this)]; rfl
    rw [List.length_append, hf]; rfl
section
variable {C C' : Nat → Nat → Prop} {n : Nat} {ls ms : List (List Int)}
/-- Each block lies in one of the coarser ones. -/
theorem coarse_sub (hE' : Eqv C') (hs : ∀ a b, C a b → C' a b) (h : MadeR C n ls) (h' : MadeR C' n ms) : ∀ l ∈ ls, ∃ m ∈ ms, ∀ x ∈ l, x ∈ m := by
  intro l hl
  obtain ⟨r, hr, hx⟩ := h.each l hl
  obtain ⟨m, hm, hv⟩ := (h'.mem hE' r).2 ⟨r, hr, hE'.refl r⟩
  obtain ⟨q, _, hy⟩ := h'.each m hm
  obtain ⟨r', e1, e2⟩ := (hy r).1 hv
  obtain rfl : r = r' := by omega
  refine ⟨m, hm, fun x hxl => ?_⟩
  obtain ⟨v, e3, e4⟩ := (hx x).1 hxl
  exact (hy x).2 ⟨v, e3, hE'.trans _ _ _ e2 (hs _ _ e4)⟩
end
end Go.Sp
end
section
/- Rounds of coarser and coarser partitions; the first round behind which nothing changes: plain. -/
namespace Go.Sp
structure Rounds (N : Nat) where
  C : Nat → Nat → Nat → Prop
  B : Nat → List (List Int)
  eqv : ∀ t, Eqv (C t)
  mono : ∀ t a b, C t a b → C (t + 1) a b
  lt : ∀ t a b, a < N → C t a b → b < N
  made : ∀ t, MadeR (C t) N (B t)
section
variable {N : Nat} (R : Rounds N)
theorem Rounds.sub (t : Nat) : ∀ l ∈ R.B t, ∃ m ∈ R.B (t + 1), ∀ x ∈ l, x ∈ m := coarse_sub (R.eqv (t + 1)) (R.mono t) (R.made t) (R.made (t + 1))
end
end Go.Sp
end
section
/- The adjacency: 64 sets in a block; connect. -/
namespace Go.Gr
def upd (A : Nat → Nat) (i s : Nat) : Nat → Nat := fun k => if k = i then s else A k
def connect (A : Nat → Nat) (i j : Nat) : Nat → Nat := upd (upd A i (bset (A i) j)) j (bset (upd A i (bset (A i) j) j) i)
def Small (A : Nat → Nat) : Prop := ∀ i, A i < 18446744073709551616
theorem Small.upd {A : Nat → Nat} (h : Small A) {i s : Nat} (hs : s < 18446744073709551616) : Small (upd A i s) := fun k => by
  unfold Gr.upd; split
  · exact hs
  · exact h k
theorem Small.connect {A : Nat → Nat} (h : Small A) {i j : Nat} (hi : i < 64) (hj : j < 64) : Small (connect A i j) :=
  (h.upd (bset_lt (h i) hj)).upd (bset_lt ((h.upd (bset_lt (h i) hj)) j) hi)
theorem Small.zero : Small (fun _ => 0) := fun _ => by simp
end Go.Gr
namespace Go.Proofs.Tg.Gx
open Go.RowKit Go.Gr
set_option maxHeartbeats 1000000
end Go.Proofs.Tg.Gx
end
section
/- The edges of an adjacency, written out. -/
namespace Go.Gr
/-- The edges that go from i to greater vertices. -/
def rowEdges (A : Nat → Nat) (i : Nat) : List (Int × Int) := (verts (andn (A i) (firstN i))).map fun j : Nat => ((i : Int), (j : Int))
def writeEdges (A : Nat → Nat) (n : Nat) : List (Int × Int) := (List.range n).flatMap (rowEdges A)
end Go.Gr
namespace Go.Proofs.Tg.Gx
open Go.RowKit Go.Gr
def ecells (es : List (Int × Int)) : List Value := es.flatMap fun e => [vi e.1, vi e.2]
set_option maxHeartbeats 1000000
set_option maxRecDepth 100000
end Go.Proofs.Tg.Gx
end
section
/- Comparisons: cmp.Compare at int, cmp.Or of two numbers, edges. -/
namespace Go.Gr
def orI (a b : Int) : Int := if a = 0 then b else a
def cmpE (e f : Int × Int) : Int := orI (cmpI e.1 f.1) (cmpI e.2 f.2)
end Go.Gr
namespace Go.Proofs.Tg.Gx
open Go.RowKit Go.Gr
set_option maxHeartbeats 1000000
set_option maxRecDepth 100000
end Go.Proofs.Tg.Gx
end
section
/- Reading a graph into an adjacency. -/
namespace Go.Gr
def goodEdge (n : Int) (e : Int × Int) : Prop := 0 ≤ e.1 ∧ e.1 < e.2 ∧ e.2 < n
def readAll (es : List (Int × Int)) : Nat → Nat := es.foldl (fun A e => connect A e.1.toNat e.2.toNat) (fun _ => 0)
/-- The first k edges are valid: each good by itself, and each behind the one before. -/
def validTo (n : Int) (es : List (Int × Int)) (k : Nat) : Prop := ∀ i (h : i < es.length), i < k → goodEdge n es[i] ∧ (0 < i → cmpE (es[i - 1]'(by omega)) es[i] < 0)
def valid (n : Int) (es : List (Int × Int)) : Prop := 0 ≤ n ∧ n ≤ 64 ∧ validTo n es es.length
end Go.Gr
namespace Go.Proofs.Tg.Gx
open Go.RowKit Go.Gr
abbrev EdgesAt (w : World) (E : Option Addr) (es : List (Int × Int)) : Prop := Sl w E es.length 2 (ecells es)
theorem ecells_at : ∀ (es : List (Int × Int)) (k : Nat) (hk : k < es.length), (ecells es)[k * 2]? = some (vi es[k].1) ∧ (ecells es)[k * 2 + 1]? = some (vi es[k].2)
  | e :: es, 0, _ => by simp [ecells]
  | e :: es, k + 1, hk => by
    have := ecells_at es k (by simpa using hk)
    simp only [ecells, List.flatMap_cons, show (k + 1) * 2 = k * 2 + 1 + 1 from by omega, List.cons_append, List.nil_append, List.getElem?_cons_succ, List.getElem_cons_succ] at this ⊢
    exact this
theorem EdgesAt.at {w : World} {E : Option Addr} {es : List (Int × Int)} (h : EdgesAt w E es) {k : Nat} (hk : k < es.length) :
    ∃ ad, E = some ad ∧ w.cell? (ad.add (k * 2)) = some (.int .i64 es[k].1) ∧ w.cell? ⟨(ad.add (k * 2)).block, (ad.add (k * 2)).off + 1, none⟩ = some (.int .i64 es[k].2) := by
  obtain ⟨ad, rfl, _, hc⟩ := h.lies (by omega)
  obtain ⟨h1, h2⟩ := ecells_at es k hk
  have h2' := hc _ _ h2
  exact ⟨ad, rfl, hc _ _ h1, by rw [← add_add] at h2'; exact h2'⟩
set_option maxHeartbeats 1000000
set_option maxRecDepth 100000
end Go.Proofs.Tg.Gx
end
section
/- Plain functions that say what package graph computes, and their first properties. -/
namespace Go.Gr

theorem mem_verts {s i : Nat} : i ∈ verts s ↔ i < 64 ∧ s.testBit i = true := by simp [verts]
theorem bset_bit (s i j : Nat) : (bset s i).testBit j = (s.testBit j || decide (i = j)) := by
  unfold bset
  rw [Nat.testBit_or, Nat.one_shiftLeft, Nat.testBit_two_pow]
theorem andn_bit (a b j : Nat) (hb : b < 18446744073709551616) (hj : j < 64) : (andn a b).testBit j = (a.testBit j && !b.testBit j) := by
  unfold andn
  rw [Nat.testBit_and]
  have : (18446744073709551615 - b).testBit j = !b.testBit j := by
    have h := Nat.testBit_two_pow_sub_succ (n := 64) (x := b) (by omega) j
    rw [show 2 ^ 64 - (b + 1) = 18446744073709551615 - b from by omega] at h
    rw [h]; simp [hj]
  rw [this]
theorem bclr_bit (s i j : Nat) (hi : i < 64) (hj : j < 64) : (bclr s i).testBit j = (s.testBit j && !decide (i = j)) := by
  unfold bclr
  rw [andn_bit _ _ _ (shl_lt i hi) hj, Nat.one_shiftLeft, Nat.testBit_two_pow]
theorem high_bit {s j : Nat} (hs : s < 18446744073709551616) (hj : 64 ≤ j) : s.testBit j = false :=
  Nat.testBit_lt_two_pow (Nat.lt_of_lt_of_le hs (Nat.pow_le_pow_right (n := 2) (by omega) hj))

/-- One step of the choice of the next vertex of a maximum cardinality search. -/
def bestStep (A : Nat → Nat) (vis : Nat) (bm : Int × Int) (v : Nat) : Int × Int :=
  if vis.testBit v = false ∧ bm.2 < (size (A v &&& vis) : Nat) then ((v : Int), ((size (A v &&& vis) : Nat) : Int)) else bm
def best (A : Nat → Nat) (vis n : Nat) : Int × Int := (List.range n).foldl (bestStep A vis) (-1, -1)
/-- The visited set and the order after r rounds. -/
def searchTo (A : Nat → Nat) (n : Nat) : Nat → Nat × List Nat
  | 0 => (0, [])
  | r + 1 => (bset (searchTo A n r).1 (best A (searchTo A n r).1 n).1.toNat, (searchTo A n r).2 ++ [(best A (searchTo A n r).1 n).1.toNat])
def search (A : Nat → Nat) (n : Nat) : List Nat := (searchTo A n n).2

/-- For each vertex of an order, the neighbours that come ahead of it. -/
def earlierFrom (A : Nat → Nat) : Nat → List Nat → List Nat
  | _, [] => []
  | vis, v :: l => (A v &&& vis) :: earlierFrom A (bset vis v) l
def earlier (A : Nat → Nat) (l : List Nat) : List Nat := earlierFrom A 0 l
end Go.Gr
end
section
/- Plain functions for the chordal extension. -/
namespace Go.Gr
/-- No vertex is its own neighbour. -/
def Irr (A : Nat → Nat) : Prop := ∀ v, v < 64 → (A v).testBit v = false
theorem upd_same (A : Nat → Nat) (i s : Nat) : upd A i s i = s := by simp [upd]
theorem upd_other (A : Nat → Nat) {i k : Nat} (s : Nat) (h : k ≠ i) : upd A i s k = A k := by simp [upd, h]
theorem Irr.zero : Irr (fun _ => 0) := fun _ _ => by simp
theorem Irr.connect {A : Nat → Nat} (h : Irr A) {i j : Nat} (hij : i ≠ j) : Irr (connect A i j) := by
  intro v hv
  unfold Gr.connect
  by_cases h1 : v = j
  · subst h1
    rw [upd_same, bset_bit, upd_other _ _ (fun e => hij e.symm), h v hv]
    simpa using hij
  · rw [upd_other _ _ h1]
    by_cases h2 : v = i
    · subst h2
      rw [upd_same, bset_bit, h v hv]
      simpa using fun e => hij e.symm
    · rw [upd_other _ _ h2]; exact h v hv
theorem size_lt {s i : Nat} (hi : i < 64) (h : s.testBit i = false) : size s < 64 := by
  have h1 : size s ≤ 64 := size_le s
  by_cases e : size s = 64
  · exfalso
    have h2 : verts s = List.range 64 := List.filter_eq_self.2 (by
      have := List.length_filter_eq_length_iff.1 (show ((List.range 64).filter s.testBit).length = (List.range 64).length by rw [List.length_range]; exact e)
      exact this)
    have : i ∈ verts s := by rw [h2]; simpa using hi
    rw [mem_verts] at this
    rw [h] at this
    cases this.2
  · omega
def minStep (A : Nat → Nat) (rest : Nat) (bm : Int × Int) (v : Nat) : Int × Int :=
  if ((size (A v &&& rest) : Nat) : Int) < bm.2 then ((v : Int), ((size (A v &&& rest) : Nat) : Int)) else bm
def minOf (A : Nat → Nat) (rest : Nat) (l : List Nat) : Int × Int := l.foldl (minStep A rest) (-1, 64)
theorem minOf_snoc (A : Nat → Nat) (rest : Nat) (l : List Nat) (v : Nat) : minOf A rest (l ++ [v]) = minStep A rest (minOf A rest l) v := by simp [minOf]
/-- What the choice comes to: the first of those with the fewest. -/
theorem minOf_spec (A : Nat → Nat) (rest : Nat) (hA : Irr A) : ∀ (r l : List Nat), (∀ v ∈ l, v < 64) → l.reverse = r → l = [] ∨ ∃ (v : Nat) (a b : List Nat), l = a ++ v :: b ∧ minOf A rest l = ((v : Int), ((size (A v &&& rest) : Nat) : Int)) ∧
      (∀ u ∈ a, size (A v &&& rest) < size (A u &&& rest)) ∧ (∀ u ∈ b, size (A v &&& rest) ≤ size (A u &&& rest))
  | [], l, _, hr => .inl (by simpa using hr)
  | x :: r, l, hl, hr => by
    right
    have hl2 : l = r.reverse ++ [x] := by
      have := congrArg List.reverse hr
      simpa using this
    subst hl2
    have hx : x < 64 := hl x (by simp)
    have h63 : size (A x &&& rest) < 64 := size_lt hx (by rw [Nat.testBit_and, hA x hx]; rfl)
    rw [minOf_snoc]
    rcases minOf_spec A rest hA r r.reverse (fun v hv => hl v (by simp [hv])) (by simp) with h | ⟨v, a, b, hab, hm, h1, h2⟩
    · refine ⟨x, [], [], by rw [h], ?_, by simp, by simp⟩
      rw [h]
      unfold minStep minOf
      rw [if_pos (by simp; omega)]
    · rw [hm]
      by_cases hc : size (A x &&& rest) < size (A v &&& rest)
      · refine ⟨x, a ++ v :: b, [], by rw [hab], ?_, ?_, by simp⟩
        · unfold minStep; rw [if_pos (by simp; omega)]
        · intro u hu
          simp only [List.mem_append, List.mem_cons] at hu
          rcases hu with hu | rfl | hu
          · have := h1 u hu; omega
          · exact hc
          · have := h2 u hu; omega
      · refine ⟨v, a, b ++ [x], by rw [hab]; simp, ?_, h1, ?_⟩
        · unfold minStep; rw [if_neg (by simp; omega)]
        · intro u hu
          simp only [List.mem_append, List.mem_singleton] at hu
          rcases hu with hu | rfl
          · exact h2 u hu
          · omega
def fillStep (ar : Nat) (A : Nat → Nat) (v : Nat) : Nat → Nat := upd A v (A v ||| bclr ar v)
def fill (ar : Nat) (l : List Nat) (A : Nat → Nat) : Nat → Nat := l.foldl (fillStep ar) A
theorem fillStep_small {ar v : Nat} {A : Nat → Nat} (h : Small A) (ha : ar < 18446744073709551616) : Small (fillStep ar A v) := h.upd (or_lt (h v) (bclr_lt v ha))
theorem fillStep_irr {ar v : Nat} {A : Nat → Nat} (h : Irr A) (hv : v < 64) : Irr (fillStep ar A v) := by
  intro u hu
  unfold fillStep
  by_cases e : u = v
  · subst e
    rw [upd_same, Nat.testBit_or, h u hu, bclr_bit _ _ _ hu hu]
    simp
  · rw [upd_other _ _ e]; exact h u hu
theorem fill_small {ar : Nat} (ha : ar < 18446744073709551616) : ∀ (l : List Nat) {A : Nat → Nat}, Small A → Small (fill ar l A)
  | [], _, h => h
  | v :: l, A, h => by
    simp only [fill, List.foldl_cons]
    exact fill_small ha l (fillStep_small h ha)
theorem fill_irr {ar : Nat} : ∀ (l : List Nat) {A : Nat → Nat}, (∀ v ∈ l, v < 64) → Irr A → Irr (fill ar l A)
  | [], _, _, h => h
  | v :: l, A, hl, h => by
    simp only [fill, List.foldl_cons]
    exact fill_irr l (fun u hu => hl u (by simp [hu])) (fillStep_irr h (hl v (by simp)))
/-- One elimination: the adjacency and what is left. -/
def elim (A : Nat → Nat) (rest : Nat) : (Nat → Nat) × Nat :=
  let b := (minOf A rest (verts rest)).1.toNat
  (fill (A b &&& rest) (verts (A b &&& rest)) A, bclr rest b)
def extFrom : Nat → (Nat → Nat) → Nat → (Nat → Nat)
  | 0, A, _ => A
  | f + 1, A, rest => if rest = 0 then A else extFrom f (elim A rest).1 (elim A rest).2
def extend (A : Nat → Nat) (n : Nat) : Nat → Nat := extFrom 65 A (firstN n)
end Go.Gr
end
section
/- Make. -/
namespace Go.Gr
def inR (n : Int) (e : Int × Int) : Prop := 0 ≤ e.1 ∧ e.1 < n ∧ 0 ≤ e.2 ∧ e.2 < n
def rangeOk (n : Int) (es : List (Int × Int)) : Prop := (0 ≤ n ∧ n ≤ 64) ∧ ∀ e ∈ es, inR n e
end Go.Gr
namespace Go.Proofs.Tg.Gx
open Go.RowKit Go.Gr
set_option maxHeartbeats 2000000
set_option maxRecDepth 100000
end Go.Proofs.Tg.Gx
end
section
/- The reference's Make. -/
namespace Go.Gr
def setT (t : Nat → Nat → Bool) (a b : Nat) : Nat → Nat → Bool := fun i j => if i = a ∧ j = b then true else t i j
def joinT (t : Nat → Nat → Bool) (a b : Nat) : Nat → Nat → Bool := setT (setT t a b) b a
end Go.Gr
namespace Go.Proofs.Tg.Gx
open Go.RowKit Go.Gr
set_option maxHeartbeats 2000000
set_option maxRecDepth 100000
end Go.Proofs.Tg.Gx
end
