/- Parts of the proof: GWE, GXA, GSpecT, GSort, GWL, GPJ, SP4, SM3, SM4, SM5, BG1, WG1. -/
import Derived.Deep.RegionWith
import Derived.Deep.RegionHeld3
import Derived.Deep.DeepCutAuto
import Derived.Maps.AppendAt
import Derived.Laws.Tables
import Derived.IntWalk
import Derived.Laws.MakeOwn
import Derived.Lib.Tables
import Derived.Laws.MathBits
import Derived.Laws.CopyOwn
import Derived.StillTailTactics
import Derived.ChangeKeys
import Derived.Maps.OwnOps
import Derived.DeepKeys4
import Derived.Test.YtodjofbneeejpaaGreatDoorMBD0
import Derived.Test.YtodjofbneeejpaaGreatDoorMBD1
import Derived.Test.YtodjofbneeejpaaGreatDoorMBD3
section
/- Comparisons: cmp.Compare at int, cmp.Or of two numbers, edges. -/
namespace Go.Gr
end Go.Gr
namespace Go.Proofs.Tg.Gx
open Go.RowKit Go.Gr
set_option maxHeartbeats 1000000
set_option maxRecDepth 100000
theorem nan_any (a : Int) (w : World) : Calls Tryz.prog 111 #[.int .i64 a] w fun e w' => e = .returned (.bool false) ∧ w = w' := by
 go_enter Tryz.func111, Tryz.ntmps111
 go_wp2
 go_ret
 exact ⟨by simp, rfl⟩
theorem cmp_any (a b : Int) (w : World) : Calls Tryz.prog 82 #[.int .i64 a, .int .i64 b] w fun e w' => e = .returned (.int .i64 (cmpI a b)) ∧ w = w' := by
 by_cases h1 : a < b
 ·have e : cmpI a b = -1 := by unfold cmpI; rw [if_pos h1]
  rw [e]; clear e
  go_enter Tryz.func82, Tryz.ntmps82
  go_wp2_with (go_at_call 111; refine (nan_any _ _).mono ?_; rintro e w' ⟨rfl, rfl⟩)
  go_ret
  exact ⟨rfl, rfl⟩
 ·by_cases h2 : b < a
  ·have e : cmpI a b = 1 := by unfold cmpI; rw [if_neg h1, if_pos h2]
   rw [e]; clear e
   go_enter Tryz.func82, Tryz.ntmps82
   go_wp2_with (go_at_call 111; refine (nan_any _ _).mono ?_; rintro e w' ⟨rfl, rfl⟩)
   go_ret
   exact ⟨rfl, rfl⟩
  ·have e : cmpI a b = 0 := by unfold cmpI; rw [if_neg h1, if_neg h2]
   rw [e]; clear e
   go_enter Tryz.func82, Tryz.ntmps82
   go_wp2_with (go_at_call 111; refine (nan_any _ _).mono ?_; rintro e w' ⟨rfl, rfl⟩)
   go_ret
   exact ⟨rfl, rfl⟩
end Go.Proofs.Tg.Gx
end
section
/- The reference's tables: a slice of rows of truth values, each row a block of its own. -/
namespace Go.Proofs.Tg.Gx
open Go.RowKit Go.Gr
/-- A row of n cells, told by a function. -/
def farr (n : Nat) (f : Nat → Value) : Array Value := ((List.range n).map f).toArray
theorem farr_set (n : Nat) (f : Nat → Value) (i : Nat) (v : Value) : (farr n f).setIfInBounds i v = farr n (fun k => if k = i then v else f k) := by
 apply Array.ext
 ·simp [farr]
 ·intro k h1 h2
  rw [Array.getElem_setIfInBounds (by simpa using h1)]
  simp only [farr, List.getElem_toArray, List.getElem_map, List.getElem_range]
  by_cases hk : i = k
  ·subst hk; simp
  ·rw [if_neg hk, if_neg (fun e => hk e.symm)]
theorem farr_made (z : Value) (n : Nat) : madeCells #[z] n = farr n (fun _ => z) := by
 apply Array.ext
 ·simp [farr, size_madeCells]
 ·intro i h1 h2
  simp [madeCells, farr, Nat.mod_one]
theorem farr_congr {n : Nat} {f g : Nat → Value} (h : ∀ i, i < n → f i = g i) : farr n f = farr n g := by
 unfold farr
 rw [List.map_congr_left (fun i hi => h i (by simpa using hi))]
theorem bool_info : (Tryz.prog.info? 4).map (fun i => (i.zero, i.size, i.bytes)) = some (some (.bool false), 1, 1) := by kernel_rfl
theorem make_bools (n : Nat) (hn : n ≤ 1000000) (w : World) : (Instr.makeSlice 89 (.int .i64 (n : Int)) (.int .i64 (n : Int))).run Tryz.prog w = .ok (.slice (some ⟨w.heap.size, 0, none⟩) n n) (w.alloc (.cells (farr n fun _ => .bool false) 4)) := by
 obtain ⟨i0, hi, hz0, hz1, hz2⟩ := info_parts bool_info
 have hr := run_make (P := Tryz.prog) w 89 4 i0 (.bool false) Tryz.underlying89 hi hz0 .i64 .i64 n n (by omega) (by omega) (by rw [hz2]; omega) (by omega)
 rw [hz1, Nat.mul_one, Int.toNat_natCast, show (Value.bool false).cells = #[.bool false] from rfl, farr_made] at hr
 exact hr
set_option maxHeartbeats 1000000
set_option maxRecDepth 100000
end Go.Proofs.Tg.Gx
end
section
/- Plain functions for the tree of cliques. -/
namespace Go.Gr
/-- One pair of sets is looked at: i outside the tree, k inside. -/
def pairStep (sets : List Nat) (inT i : Nat) (b : Int × Int × Int) (k : Nat) : Int × Int × Int :=
  if inT.testBit i = false ∧ inT.testBit k = true ∧ b.2.2 < ((size (sets.getD i 0 &&& sets.getD k 0) : Nat) : Int) then ((i : Int), (k : Int), ((size (sets.getD i 0 &&& sets.getD k 0) : Nat) : Int)) else b
def rowTo (sets : List Nat) (inT i : Nat) (b : Int × Int × Int) (k : Nat) : Int × Int × Int := (List.range k).foldl (pairStep sets inT i) b
def allTo (sets : List Nat) (inT m : Nat) : Nat → Int × Int × Int
  | 0 => (-1, -1, -1)
  | i + 1 => rowTo sets inT i (allTo sets inT m i) m
/-- The sets in the tree, and the parents, after r rounds. -/
def treeTo (sets : List Nat) : Nat → Nat × List Int
  | 0 => (bset 0 0, List.replicate sets.length (-1))
  | r + 1 =>
    let b := allTo sets (treeTo sets r).1 sets.length sets.length
    (bset (treeTo sets r).1 b.1.toNat, if 0 < b.2.2 then (treeTo sets r).2.set b.1.toNat b.2.1 else (treeTo sets r).2)
end Go.Gr
end
section
/- Plain mathematics of an insertion sort by exchanges. -/
namespace Go.Gr
/-- Slices are compared by their first element that differs, and a slice comes ahead of its continuations. -/
def cmpL : List Int → List Int → Int
  | [], [] => 0
  | [], _ :: _ => -1
  | _ :: _, [] => 1
  | a :: l, b :: m => if a < b then -1 else if b < a then 1 else cmpL l m
theorem cmpL_asym : ∀ x y, cmpL x y < 0 → ¬ cmpL y x < 0
  | [], [], h => by simp [cmpL] at h
  | [], _ :: _, _ => by simp [cmpL]
  | _ :: _, [], h => by simp [cmpL] at h
  | a :: l, b :: m, h => by
    unfold cmpL at h ⊢
    by_cases h1 : a < b
    ·rw [if_neg (by omega), if_pos h1]; omega
    ·rw [if_neg h1] at h
     by_cases h2 : b < a
     ·rw [if_pos h2] at h; omega
     ·rw [if_neg h2] at h
      rw [if_neg h2, if_neg h1]
      exact cmpL_asym l m h
theorem cmpL_trans : ∀ x y z, ¬ cmpL y x < 0 → ¬ cmpL z y < 0 → ¬ cmpL z x < 0
  | [], _, [], _, _ => by simp [cmpL]
  | [], _, _ :: _, _, _ => by simp [cmpL]
  | a :: l, [], z, h, _ => by simp [cmpL] at h
  | a :: l, b :: m, [], _, h => by simp [cmpL] at h
  | a :: l, b :: m, c :: n, h1, h2 => by
    unfold cmpL at h1 h2 ⊢
    by_cases p1 : b < a
    ·rw [if_pos p1] at h1; omega
    ·rw [if_neg p1] at h1
     by_cases q1 : c < b
     ·rw [if_pos q1] at h2; omega
     ·rw [if_neg q1] at h2
      rw [if_neg (by omega)]
      by_cases r1 : a < c
      ·rw [if_pos r1]; omega
      ·rw [if_neg r1]
       rw [if_neg (by omega)] at h1 h2
       exact cmpL_trans l m n h1 h2
end Go.Gr
end
section
/- slices.Compare at []int, and slices.SortFunc at a few slices. -/
namespace Go.Proofs.Tg.Gx
open Go.RowKit Go.Gr
set_option maxHeartbeats 1000000
set_option maxRecDepth 100000
theorem compare_any (A B : Option Addr) (c d : Nat) (l m : List Int) (w : World) (hA : Ints w A l) (hB : Ints w B m) (hl : l.length ≤ 1000000) :
    Calls Tryz.prog 51 #[.slice A l.length c, .slice B m.length d] w fun e w' => e = .returned (.int .i64 (cmpL l m)) ∧ w = w' := by
  go_enter Tryz.func51, Tryz.ntmps51
  go_wp2
  go_loop [11] (fun i => ∃ k : Nat, i = .int .i64 k ∧ k ≤ l.length ∧ k ≤ m.length ∧ Hid (cmpL l m = cmpL (l.drop k) (m.drop k))) (fun i => l.length - (intOf i).toNat)
  case atStart => exact ⟨0, rfl, Nat.zero_le _, Nat.zero_le _, Lib.hid rfl⟩
  case round =>
   obtain ⟨k, rfl, hk1, hk2, HC⟩ := hrel
   by_cases hkl : k < l.length
   ·obtain ⟨ad, rfl, hc⟩ := Ints.at hA hkl
    have HL : Hid (l.drop k = l[k] :: l.drop (k + 1)) := Lib.hid (List.drop_eq_getElem_cons hkl)
    generalize l[k] = x at hc HL
    by_cases hkm : k < m.length
    ·obtain ⟨bd, rfl, hd⟩ := Ints.at hB hkm
     have HM : Hid (m.drop k = m[k] :: m.drop (k + 1)) := Lib.hid (List.drop_eq_getElem_cons hkm)
     generalize m[k] = y at hd HM
     have dm : decide ((m.length : Int) ≤ (k : Int)) = false := by simp; omega
     have hce : cmpL l m = if cmpI x y = 0 then cmpL (l.drop (k + 1)) (m.drop (k + 1)) else cmpI x y := by
      rw [HC.out, HL.out, HM.out, cmpL]
      unfold cmpI
      by_cases h1 : x < y
      ·simp [h1]
      ·by_cases h2 : y < x <;> simp [h1, h2]
     have HE := Lib.hid hce
     clear hce HC HL HM
     have hcc := cmp_any x y w
     generalize cmpI x y = z at HE hcc
     have HQ := Lib.hid hcc
     clear hcc
     by_cases hz : z = 0
     ·have hzb : (z != 0) = false := by simp [hz]
      have HZ := Lib.hid hz
      clear hz
      go_wp2_with (go_at_call 82; refine HQ.out.mono ?_; rintro e w' ⟨rfl, rfl⟩)
      go_round
      case rel => exact ⟨k + 1, by go_num, by omega, by omega, Lib.hid (by rw [HE.out, if_pos HZ.out])⟩
      case measure => simp [intOf]; omega
     ·have hzb : (z != 0) = true := by simp [hz]
      have HZ := Lib.hid hz
      clear hz
      go_wp2_with (go_at_call 82; refine HQ.out.mono ?_; rintro e w' ⟨rfl, rfl⟩)
      go_ret
      exact ⟨by rw [HE.out, if_neg HZ.out]; rfl, rfl⟩
    ·have dm : decide ((m.length : Int) ≤ (k : Int)) = true := by simp; omega
     have HE : Hid (cmpL l m = 1) := Lib.hid (by rw [HC.out, HL.out, show m.drop k = [] from List.drop_of_length_le (by omega)]; rfl)
     clear HC HL
     go_wp2
     go_ret
     exact ⟨by rw [HE.out]; rfl, rfl⟩
   ·obtain rfl : k = l.length := by omega
    by_cases hlm : l.length < m.length
    ·have dm : decide ((l.length : Int) < (m.length : Int)) = true := by simp; omega
     have HE : Hid (cmpL l m = -1) := Lib.hid (by rw [HC.out, List.drop_length, List.drop_eq_getElem_cons hlm]; rfl)
     clear HC
     go_wp2
     go_ret
     exact ⟨by rw [HE.out]; rfl, rfl⟩
    ·have dm : decide ((l.length : Int) < (m.length : Int)) = false := by simp; omega
     have HE : Hid (cmpL l m = 0) := Lib.hid (by rw [HC.out, List.drop_length, show m.drop l.length = [] from List.drop_of_length_le (by omega)]; rfl)
     clear HC
     go_wp2
     go_ret
     exact ⟨by rw [HE.out]; rfl, rfl⟩
end Go.Proofs.Tg.Gx
end
section
/- Plain law of Tree: the cliques that hold a vertex are connected in the tree. -/
namespace Go.Gr
open Go
section
variable {sets : List Nat} {inT m : Nat}
end
/-- The set that is chosen in round r, and its parent. -/
def pk (sets : List Nat) : Nat → Nat
  | 0 => 0
  | r + 1 => (allTo sets (treeTo sets r).1 sets.length sets.length).1.toNat
def pq (sets : List Nat) : Nat → Nat
  | 0 => 0
  | r + 1 => (allTo sets (treeTo sets r).1 sets.length sets.length).2.1.toNat
def pw (sets : List Nat) (r : Nat) : Nat := size (sets.getD (pk sets r) 0 &&& sets.getD (pq sets r) 0)
structure Rounds (sets : List Nat) (r : Nat) : Prop where
  bits : ∀ i, (treeTo sets r).1.testBit i = true ↔ ∃ s, s ≤ r ∧ pk sets s = i
  lt : ∀ s, s ≤ r → pk sets s < sets.length
  new : ∀ s, 0 < s → s ≤ r → ∀ s', s' < s → pk sets s' ≠ pk sets s
  par : ∀ s, 0 < s → s ≤ r → ∃ s', s' < s ∧ pq sets s = pk sets s'
  most : ∀ s, 0 < s → s ≤ r → ∀ i, i < sets.length → (∀ s', s' < s → pk sets s' ≠ i) → ∀ s', s' < s → size (sets.getD i 0 &&& sets.getD (pk sets s') 0) ≤ pw sets s
  len : (treeTo sets r).2.length = sets.length
  tree : ∀ s, s ≤ r → (treeTo sets r).2.getD (pk sets s) 0 = if 0 < s ∧ 0 < pw sets s then ((pq sets s : Nat) : Int) else -1
  rest : ∀ i, i < sets.length → (∀ s, s ≤ r → pk sets s ≠ i) → (treeTo sets r).2.getD i 0 = -1
end Go.Gr
end
section
/- The error of a polynomial and a basis; the number of rounds is one; what the reference adds to its set: plain. -/
namespace Go.Sp
open Go Go.Mo Go.Gr
section
variable {N : Nat} (R : Rounds N)
end
/-- A key that may be asked: a monomial in n variables. -/
def domK (n : Nat) (c : Int) (v : List Int) : Prop := v.length = n ∧ ∀ x ∈ v, 0 ≤ x ∧ x ≤ c
theorem vld_dom {m : List Int} (h : vldM m = true) : domK m.length 24 m := by
 have h := vldM_iff.1 h
 refine ⟨rfl, fun x hx => ⟨h.2.1 x hx, ?_⟩⟩
 have : ∀ (l : List Int), (∀ e ∈ l, 0 ≤ e) → x ∈ l → x ≤ l.sum ∧ 0 ≤ l.sum := by
  intro l
  induction l with
  | nil => intro _ h; cases h
  | cons y l ih =>
    intro h0 hx
    have h1 : 0 ≤ l.sum := by
     have : ∀ l : List Int, (∀ e ∈ l, 0 ≤ e) → 0 ≤ l.sum := by
      intro l
      induction l with
      | nil => intro _; simp
      | cons z l ih => intro h; rw [List.sum_cons]; have := h z (by simp); have := ih (fun e he => h e (by simp [he])); omega
     exact this l (fun e he => h0 e (by simp [he]))
    have hy := h0 y (by simp)
    rw [List.sum_cons]
    rcases List.mem_cons.1 hx with rfl | hx
    ·omega
    ·have := ih (fun e he => h0 e (by simp [he])) hx; omega
 have := (this m h.2.1 hx).1
 omega
end Go.Sp
end
section
/- Different monomials have different keys. -/
namespace Go.Proofs.Tg
open Go.RowKit Go.Maps Go.WideShapes Go.Sp
theorem kl6_key (l : List Int) : WideAt.IsKeyLit (kl6 l) := trivial
theorem alike_ints : ∀ (l m : List Int), l.length = m.length → Go.Alike (l.map fun x => Lit.int .i64 x) (m.map fun x => Lit.int .i64 x)
  | [], [], _ => trivial
  | [], _ :: _, h => by simp at h
  | _ :: _, [], h => by simp at h
  | x :: l, y :: m, h => ⟨rfl, alike_ints l m (by simpa using h)⟩
theorem kl6_inj {l m : List Int} (h : l.length = m.length) (hl : ∀ x ∈ l, -1000000 ≤ x ∧ x ≤ 1000000) (hm : ∀ x ∈ m, -1000000 ≤ x ∧ x ≤ 1000000) (e : kl6 l = kl6 m) : l = m := by
 unfold kl6 at e
 injection e with e
 have := Go.keyBytes_inj (alike_ints l m h) (fun a ha => by obtain ⟨x, hx, rfl⟩ := List.mem_map.1 ha; exact wf_small (hl x hx)) (fun a ha => by obtain ⟨x, hx, rfl⟩ := List.mem_map.1 ha; exact wf_small (hm x hx)) e
 have inj : ∀ (l m : List Int), (l.map fun x => Lit.int .i64 x) = (m.map fun x => Lit.int .i64 x) → l = m := by
  intro l
  induction l with
  | nil => intro m h; cases m with
    | nil => rfl
    | cons _ _ => simp at h
  | cons x l ih => intro m h; cases m with
    | nil => simp at h
    | cons y m =>
      simp only [List.map_cons, List.cons.injEq] at h
      obtain ⟨h1, h2⟩ := h
      injection h1 with _ h1
      rw [h1, ih m h2]
 exact inj l m this
theorem kv_dom {n : Nat} {v : List Int} (h : domK n 48 v) : ∀ x ∈ kv v, -1000000 ≤ x ∧ x ≤ 1000000 := fun x hx => by
 have := kv_bound (by omega) h.2 x hx
 omega
theorem klv_inj {n : Nat} (hn : n ≤ 6) {u v : List Int} (hu : domK n 48 u) (hv : domK n 48 v) (e : kl6 (kv u) = kl6 (kv v)) : u = v :=
  kv_inj (by rw [hu.1, hv.1]) (by rw [hu.1]; exact hn) (kl6_inj (by rw [kv_len, kv_len]) (kv_dom hu) (kv_dom hv) e)
end Go.Proofs.Tg
end
section
/- What stays where a map's block alone has turned. -/
namespace Go.Proofs.Tg
open Go.RowKit Go.Maps
/-- Block b is a map's. -/
def MapB (w : World) (b : Nat) : Prop := ∃ es clock, w.heap[b]? = some (.map es clock)
theorem mapB_own {w : World} {P : Program} {k : TypeId} {R : Value → Option (DataW Unit × List MemPlace)} {b n : Nat} {D : DataW Unit} (h : w.ownsMap P k R b n D) : MapB w b := by
 obtain ⟨es, clock, hb, _⟩ := h
 exact ⟨es, clock, hb⟩
theorem MapB.lt {w : World} {b : Nat} (h : MapB w b) : b < w.heap.size := by
 obtain ⟨es, clock, hb⟩ := h
 exact (Array.getElem?_eq_some_iff.1 hb).1
theorem cell_map {w : World} {b : Nat} (h : MapB w b) {p : Addr} (hp : p.block = b) : w.cell? p = none := by
 obtain ⟨es, clock, hb⟩ := h
 unfold World.cell?
 rw [hp, hb]
theorem cell_turn {w w' : World} {b : Nat} (hm : MapB w b) (hg : w.grownBy w' (some b)) {p : Addr} {v : Value} (h : w.cell? p = some v) : w'.cell? p = some v := by
 have hne : p.block ≠ b := fun e => by rw [cell_map hm e] at h; cases h
 have hl := World.block_lt_of_cell? w p h
 have := hg.block p.block hl (by simp; exact hne)
 unfold World.cell? at h ⊢
 rw [this]
 exact h
theorem Sl.turn {w w' : World} {b : Nat} {A : Option Addr} {n sz : Nat} {xs : List Value} (h : Sl w A n sz xs) (hm : MapB w b) (hg : w.grownBy w' (some b)) : Sl w' A n sz xs :=
  ⟨h.len, fun hn => by
   obtain ⟨ad, e, hl, ha⟩ := h.lies hn
   exact ⟨ad, e, Nat.lt_of_lt_of_le hl hg.size, fun j u hu => cell_turn hm hg (ha j u hu)⟩⟩
theorem Blk.turn {w w' : World} {b g : Nat} {t : TypeId} {cs : Array Value} (h : Blk w g t cs) (hm : MapB w b) (hg : w.grownBy w' (some b)) : Blk w' g t cs := by
 refine (hg.block g h.lt ?_).trans h
 intro e
 obtain ⟨es, clock, hb⟩ := hm
 have : g = b := by simpa using e
 subst this
 unfold Blk at h
 rw [hb] at h
 cases h
end Go.Proofs.Tg
end
section
/- A map to bools as a set whose size is known. -/
namespace Go.Proofs.Tg
open Go.RowKit Go.Maps Go.WideShapes
/-- The map holds true at just the keys of the list, has no other key, and as many as the list is long. -/
structure SetN {α : Type} [DecidableEq α] (kl : α → Lit) (dom : α → Prop) (S : List α) (D : DataW Unit) : Prop where
  tidy : Maps.Tidy D
  at' : ∀ v, dom v → D.atKey (kl v) (.lit (.bool false)) = .lit (.bool (decide (v ∈ S)))
  has : ∀ v, dom v → Maps.has D (kl v) = decide (v ∈ S)
  size : Maps.size D = S.length
theorem SetN.nil {α : Type} [DecidableEq α] (kl : α → Lit) (dom : α → Prop) : SetN kl dom [] (.map []) := ⟨Maps.tidy_empty, fun v _ => by simp [DataW.atKey], fun v _ => by simp [Maps.has], rfl⟩
theorem SetN.put {α : Type} [DecidableEq α] {kl : α → Lit} {dom : α → Prop} {S : List α} {D : DataW Unit} (h : SetN kl dom S D) (hk : ∀ v, dom v → WideAt.IsKeyLit (kl v)) (hi : ∀ u v, dom u → dom v → kl u = kl v → u = v) {x : α} (hx : dom x) (hn : x ∉ S) :
    SetN kl dom (x :: S) (D.put (kl x) (.lit (.bool true))) := by
  refine ⟨h.tidy.put (hk x hx) _, fun v hv => ?_, fun v hv => ?_, ?_⟩
  ·by_cases he : v = x
   ·subst he
    rw [Maps.atKey_put_same h.tidy.isMap (hk v hv)]
    simp
   ·rw [Maps.atKey_put_other (fun e => he (hi v x hv hx e)), h.at' v hv]
    simp [he]
  ·by_cases he : v = x
   ·subst he
    rw [Maps.has_put_same h.tidy.isMap (hk v hv)]
    simp
   ·rw [Maps.has_put_other (fun e => he (hi v x hv hx e)), h.has v hv]
    simp [he]
  ·rw [Maps.size_put h.tidy, h.has x hx, h.size]
   simp [hn]
end Go.Proofs.Tg
end
section
/- Permutations as lists of numbers: products, the identity. Plain. -/
namespace Go.Pm
/-- A permutation of n variables. -/
def Perm (n : Nat) (a : List Int) : Prop := a.length = n ∧ (∀ x ∈ a, 0 ≤ x ∧ x < n) ∧ a.Nodup
instance (n : Nat) (a : List Int) : Decidable (Perm n a) := inferInstanceAs (Decidable (_ ∧ _ ∧ _))
def unit (n : Nat) : List Int := (List.range n).map fun i : Nat => (i : Int)
def cmp (a b : List Int) : List Int := b.map fun x => a.getD x.toNat 0
theorem unit_len (n : Nat) : (unit n).length = n := by simp [unit]
theorem cmp_len (a b : List Int) : (cmp a b).length = b.length := by simp [cmp]
theorem unit_get {n i : Nat} (h : i < n) : (unit n).getD i 0 = (i : Int) := by simp [unit, h]
theorem unit_perm (n : Nat) : Perm n (unit n) := by
 refine ⟨unit_len n, fun x hx => ?_, ?_⟩
 ·obtain ⟨i, hi, rfl⟩ := List.mem_map.1 hx
  have := List.mem_range.1 hi
  exact ⟨Int.natCast_nonneg _, by exact_mod_cast this⟩
 ·refine List.Pairwise.map _ (fun a b (h : a < b) => ?_) (List.pairwise_lt_range)
  intro e
  have : a = b := by exact_mod_cast e
  omega
theorem cmp_get (a b : List Int) {i : Nat} (h : i < b.length) : (cmp a b).getD i 0 = a.getD (b.getD i 0).toNat 0 := by simp [cmp, h]
theorem perm_get {n : Nat} {a : List Int} (h : Perm n a) {i : Nat} (hi : i < n) : 0 ≤ a.getD i 0 ∧ a.getD i 0 < n := by
 have hl : i < a.length := by rw [h.1]; exact hi
 rw [show a.getD i 0 = a[i] by simp [hl]]
 exact h.2.1 _ (List.getElem_mem _)
theorem perm_inj {n : Nat} {a : List Int} (h : Perm n a) {i j : Nat} (hi : i < n) (hj : j < n) (he : a.getD i 0 = a.getD j 0) : i = j := by
 have h1 : i < a.length := by rw [h.1]; exact hi
 have h2 : j < a.length := by rw [h.1]; exact hj
 rw [show a.getD i 0 = a[i] by simp [h1], show a.getD j 0 = a[j] by simp [h2]] at he
 apply Classical.byContradiction
 intro hne
 rcases Nat.lt_or_gt_of_ne hne with hlt | hlt
 ·exact List.pairwise_iff_getElem.1 h.2.2 i j h1 h2 hlt he
 ·exact List.pairwise_iff_getElem.1 h.2.2 j i h2 h1 hlt he.symm
theorem ext_get {a b : List Int} (hl : a.length = b.length) (h : ∀ i, i < a.length → a.getD i 0 = b.getD i 0) : a = b := by
 refine List.ext_getElem hl fun i h1 h2 => ?_
 have := h i h1
 simpa [h1, h2] using this
theorem cmp_perm {n : Nat} {a b : List Int} (ha : Perm n a) (hb : Perm n b) : Perm n (cmp a b) := by
 refine ⟨by rw [cmp_len, hb.1], fun x hx => ?_, ?_⟩
 ·obtain ⟨y, hy, rfl⟩ := List.mem_map.1 hx
  have := hb.2.1 y hy
  exact perm_get ha (by omega)
 ·refine List.pairwise_map.2 (hb.2.2.imp_of_mem fun {x y} hx hy hne he => ?_)
  have h1 := hb.2.1 x hx
  have h2 := hb.2.1 y hy
  have := perm_inj ha (by omega) (by omega) he
  omega
theorem unit_cmp {n : Nat} {b : List Int} (hb : Perm n b) : cmp (unit n) b = b := by
 refine ext_get (by rw [cmp_len]) fun i hi => ?_
 rw [cmp_len, hb.1] at hi
 rw [cmp_get _ _ (by rw [hb.1]; exact hi)]
 have := perm_get hb hi
 rw [unit_get (by omega)]
 omega
theorem cmp_unit {n : Nat} {a : List Int} (ha : a.length = n) : cmp a (unit n) = a := by
 refine ext_get (by rw [cmp_len, unit_len, ha]) fun i hi => ?_
 rw [cmp_len, unit_len] at hi
 rw [cmp_get _ _ (by rw [unit_len]; exact hi), unit_get hi]
 rfl
theorem cmp_assoc {n : Nat} {a b c : List Int} (hb : b.length = n) (hc : Perm n c) : cmp (cmp a b) c = cmp a (cmp b c) := by
 refine ext_get (by rw [cmp_len, cmp_len, cmp_len]) fun i hi => ?_
 rw [cmp_len, hc.1] at hi
 have h1 := perm_get hc hi
 rw [cmp_get _ _ (by rw [hc.1]; exact hi), cmp_get _ _ (by omega), cmp_get a _ (by rw [cmp_len, hc.1]; exact hi), cmp_get _ _ (by rw [hc.1]; exact hi)]
theorem cmp_inj {n : Nat} {a b c : List Int} (ha : Perm n a) (hb : Perm n b) (hc : Perm n c) (h : cmp a b = cmp a c) : b = c := by
 refine ext_get (by rw [hb.1, hc.1]) fun i hi => ?_
 rw [hb.1] at hi
 have h1 : (cmp a b).getD i 0 = (cmp a c).getD i 0 := by rw [h]
 rw [cmp_get _ _ (by rw [hb.1]; exact hi), cmp_get _ _ (by rw [hc.1]; exact hi)] at h1
 have h2 := perm_get hb hi
 have h3 := perm_get hc hi
 have := perm_inj ha (by omega) (by omega) h1
 omega
/-- What is below the identity is no permutation. -/
theorem unit_least {n : Nat} {a : List Int} (ha : Perm n a) (hne : a ≠ unit n) : Go.Gr.cmpL (unit n) a < 0 := by
 -- from place k on: the values below k stand ahead
 have key : ∀ m k : Nat, m = n - k → k ≤ n → (∀ i, i < k → a.getD i 0 = i) → a.drop k ≠ (unit n).drop k → Go.Gr.cmpL ((unit n).drop k) (a.drop k) < 0 := by
  intro m
  induction m with
  | zero =>
    intro k hm hk _ hne
    exfalso
    apply hne
    rw [List.drop_eq_nil_of_le (by rw [ha.1]; omega), List.drop_eq_nil_of_le (by rw [unit_len]; omega)]
  | succ m ih =>
    intro k hm hk hlow hne
    have hkn : k < n := by omega
    have h1 : (unit n).drop k = (k : Int) :: (unit n).drop (k + 1) := by
     rw [List.drop_eq_getElem_cons (by rw [unit_len]; exact hkn)]
     simp [unit]
    have hka : k < a.length := by rw [ha.1]; exact hkn
    have h2 : a.drop k = a.getD k 0 :: a.drop (k + 1) := by
     rw [List.drop_eq_getElem_cons hka]
     simp [hka]
    rw [h1, h2] at hne ⊢
    have hge : (k : Int) ≤ a.getD k 0 := by
     apply Int.not_lt.1
     intro hlt
     have hp := perm_get ha hkn
     have h3 := hlow (a.getD k 0).toNat (by omega)
     have h4 : ((a.getD k 0).toNat : Int) = a.getD k 0 := by omega
     rw [h4] at h3
     have := perm_inj ha (by omega) hkn h3
     omega
    unfold Go.Gr.cmpL
    by_cases hlt : (k : Int) < a.getD k 0
    ·rw [if_pos hlt]; omega
    ·rw [if_neg hlt, if_neg (by omega)]
     have he : a.getD k 0 = (k : Int) := by omega
     refine ih (k + 1) (by omega) (by omega) (fun i hi => ?_) (fun e => hne (by rw [e, he]))
     by_cases hik : i = k
     ·rw [hik, he]
     ·exact hlow i (by omega)
 have := key n 0 (by omega) (by omega) (fun i hi => by omega) (by simpa using hne)
 simpa using this
end Go.Pm
end
section
/- Keys of permutations and sets of keys, of the package group (printed by wip/tools/mk_keys.py). -/
namespace Go.Proofs.Tg.Gp
open Go.RowKit Go.Gr Go.Sp Go.Ev Go.Maps Go.WideShapes Go.Pm
set_option maxHeartbeats 4000000
set_option maxRecDepth 100000
theorem six {w : World} {g : Nat} {t : TypeId} {a0 a1 a2 a3 a4 a5 : Value} (h : Blk w g t #[a0, a1, a2, a3, a4, a5]) :
    (w.cell? ⟨g, 0, none⟩ = some a0 ∧ w.cell? ⟨g, 1, none⟩ = some a1 ∧ w.cell? ⟨g, 2, none⟩ = some a2 ∧ w.cell? ⟨g, 3, none⟩ = some a3 ∧ w.cell? ⟨g, 4, none⟩ = some a4 ∧ w.cell? ⟨g, 5, none⟩ = some a5) ∧
    (w.frozen? ⟨g, 0, none⟩ = false ∧ w.frozen? ⟨g, 1, none⟩ = false ∧ w.frozen? ⟨g, 2, none⟩ = false ∧ w.frozen? ⟨g, 3, none⟩ = false ∧ w.frozen? ⟨g, 4, none⟩ = false ∧ w.frozen? ⟨g, 5, none⟩ = false) :=
  ⟨⟨h.cell 0, h.cell 1, h.cell 2, h.cell 3, h.cell 4, h.cell 5⟩, h.frozen 0, h.frozen 1, h.frozen 2, h.frozen 3, h.frozen 4, h.frozen 5⟩
theorem below6 {w w' : World} {B g : Nat} (h : Below B w w') (hg : B ≤ g) (a0 a1 a2 a3 a4 a5 : Value) :
    Below B w ((((((w'.setCell ⟨g, 0, none⟩ a0).setCell ⟨g, 1, none⟩ a1).setCell ⟨g, 2, none⟩ a2).setCell ⟨g, 3, none⟩ a3).setCell ⟨g, 4, none⟩ a4).setCell ⟨g, 5, none⟩ a5) :=
  below_far (below_far (below_far (below_far (below_far (below_far h hg _ _) hg _ _) hg _ _) hg _ _) hg _ _) hg _ _
/-- The value of a key. -/
def keyV (el : List Int) : Value := .agg ((kv el).map vi).toArray
def z6 : Array Value := #[.int .i64 0, .int .i64 0, .int .i64 0, .int .i64 0, .int .i64 0, .int .i64 0]
theorem keyV_eq (el : List Int) : keyV el = .agg #[.int .i64 (el.getD 0 0), .int .i64 (el.getD 1 0), .int .i64 (el.getD 2 0), .int .i64 (el.getD 3 0), .int .i64 (el.getD 4 0), .int .i64 (el.getD 5 0)] := rfl
theorem keyOf_any (A : Option Addr) (c : Nat) (el : List Int) (w : World) (hA : Ints w A el) (hl : el.length ≤ 6) :
    Calls Tryz.prog 76 #[.slice A el.length c] w fun e w' => e = .returned (keyV el) ∧ Below w.heap.size w w' := by
  have HK := Lib.hid (keyV_eq el)
  generalize keyV el = kk at *
  obtain ⟨W, hW⟩ : ∃ W, (w.alloc (.cells z6 117)).alloc (.cells z6 117) = W := ⟨_, rfl⟩
  have B2 : Blk W w.heap.size 117 z6 := by rw [← hW]; exact (Blk.new _ _ _).alloc _
  have B3 : Blk W (w.heap.size + 1) 117 z6 := by rw [← hW]; have := Blk.new (w.alloc (.cells z6 117)) 117 z6; simpa using this
  have hbW : Below w.heap.size w W := by rw [← hW]; exact ((Below.refl _ _).alloc (Nat.le_refl _) _).alloc (by simp) _
  have hAW := Sl.keep hA hbW
  have HWW := Lib.hid hW
  clear hW hA
  go_enter Tryz.func76, Tryz.ntmps76
  go_upto_region 2 with (fail)
  have hh := HWW.out
  unfold z6 at hh
  rw [hh]
  clear hh
  go_wp2_with (first
    | (refine wpList_copy6 rfl _ _ rfl (w.heap.size + 1) 117 A c el [] rfl rfl hAW hl B3 ?_
       intro W' E3 hbut
       have E2 := hbut.blk _ _ _ (by omega) B2
       have hb' := hbut.below _ _ hbW (by omega)
       obtain ⟨⟨a0, a1, a2, a3, a4, a5⟩, f0, f1, f2, f3, f4, f5⟩ := six E2
       obtain ⟨⟨j0, j1, j2, j3, j4, j5⟩, k0, k1, k2, k3, k4, k5⟩ := six E3
       have hz := E2.lt
       clear B2 B3 E2 E3 hbut hAW
       generalize el.getD 0 0 = v0 at *
       generalize el.getD 1 0 = v1 at *
       generalize el.getD 2 0 = v2 at *
       generalize el.getD 3 0 = v3 at *
       generalize el.getD 4 0 = v4 at *
       generalize el.getD 5 0 = v5 at *))
  refine bodyPost_ret (v := .agg #[.int .i64 v0, .int .i64 v1, .int .i64 v2, .int .i64 v3, .int .i64 v4, .int .i64 v5]) (by simp [results, Tryz.results76, go_sem, a0, a1, a2, a3, a4, a5]) rfl ⟨by rw [HK.out], ?_⟩
  exact below6 hb' (by omega) _ _ _ _ _ _
theorem laidOut : laidOutB Tryz.prog = true := by kernel_rfl
theorem keyLaw : Keyed Tryz.prog 117 :=
  Keyed.of_law (deep_law_laid laidOut (m := 6) (by decide) (of_decide_eq_true (by kernel_rfl)) (by kernel_rfl) (by kernel_rfl))
theorem key_read {n : Nat} {el : List Int} (h : domK n 48 el) : keyOf Tryz.prog 117 (keyV el) = some (kl6 (kv el)) :=
  keyOf_six (I := 3) (s := Tryz.prog.types.size - 1) Tryz.underlying117 Tryz.underlying3 (by kernel_rfl) (by kernel_rfl) (by kernel_rfl) (by kernel_rfl) (kv el) (kv_len el) (kv_dom h)
theorem zeroB (w : World) : (zeroValue 4).run Tryz.prog w = .ok (.bool false) w := by kernel_rfl
/-- Block mb is a map that holds true at just the elements of S, among lists of n small numbers, and nothing else. -/
def SetM (w : World) (mb cnt n : Nat) (S : List (List Int)) : Prop :=
  ∃ D : DataW Unit, w.ownsMap Tryz.prog 117 (plainElem Tryz.prog 4) mb cnt D ∧ SetN (fun v => kl6 (kv v)) (domK n 48) S D
theorem SetM.mapB {w : World} {mb cnt n : Nat} {S : List (List Int)} (h : SetM w mb cnt n S) : MapB w mb := by
 obtain ⟨D, h, _⟩ := h
 exact mapB_own h
theorem SetM.made (w : World) (n : Nat) : SetM (w.alloc (.map #[] 0)) w.heap.size 0 n [] := ⟨_, World.ownsMap_made _ _ _ _, SetN.nil _ _⟩
theorem SetM.below {w w' : World} {B mb cnt n : Nat} {S : List (List Int)} (h : SetM w mb cnt n S) (hb : Below B w w') (hB : mb < B) : SetM w' mb cnt n S := by
 obtain ⟨D, ⟨es, clock, hh, r⟩, h2⟩ := h
 exact ⟨D, ⟨es, clock, (hb.block mb hB).trans hh, r⟩, h2⟩
theorem SetM.lt {w : World} {mb cnt n : Nat} {S : List (List Int)} (h : SetM w mb cnt n S) : mb < w.heap.size := by
 obtain ⟨es, clock, hh⟩ := h.mapB
 exact (Array.getElem?_eq_some_iff.1 hh).1
theorem SetM.grown {w w' : World} {mb cnt n : Nat} {S : List (List Int)} {r : Option Nat} (h : SetM w mb cnt n S) (hg : w.grownBy w' r) (hr : some mb ≠ r) : SetM w' mb cnt n S := by
 have hlt := h.lt
 obtain ⟨D, ⟨es, clock, hh, r⟩, h2⟩ := h
 exact ⟨D, ⟨es, clock, (hg.block mb hlt hr).trans hh, r⟩, h2⟩
theorem SetM.look {w : World} {mb cnt n : Nat} {S : List (List Int)} (h : SetM w mb cnt n S) {v : List Int} (hv : domK n 48 v) {c : Bool} (hc : decide (v ∈ S) = c) :
    (Instr.lookup 115 (.map (some mb)) (keyV v) false).run Tryz.prog w = .ok (.bool c) w := by
  obtain ⟨D, h1, h2⟩ := h
  obtain ⟨v', ps, hrun, hv2⟩ := h1.lookup keyLaw Tryz.underlying115 (zeroB w) (plainElem_bool Tryz.underlying4 false) (key_read hv)
  obtain ⟨c', rfl, e⟩ := plainElem_bool_inv Tryz.underlying4 hv2
  rw [h2.at' v hv, (decide_eq_decide.2 Iff.rfl).trans hc] at e
  injection e with e _
  injection e with e
  injection e with e
  subst e
  exact hrun
theorem SetM.put {w : World} {mb cnt n : Nat} {S : List (List Int)} (h : SetM w mb cnt n S) (hn : n ≤ 6) (hcnt : cnt ≤ 1000000000) {v : List Int} (hv : domK n 48 v) (hnew : v ∉ S) :
    ∃ w', (Instr.mapUpdate 115 (.map (some mb)) (keyV v) (.bool true)).run Tryz.prog w = .ok () w' ∧ SetM w' mb (cnt + 1) n (v :: S) ∧ w.grownBy w' (some mb) := by
  obtain ⟨D, h1, h2⟩ := h
  obtain ⟨w', hrun, h3, h4⟩ := h1.update keyLaw Tryz.underlying115 (by simp only [maxLen]; omega) (key_read hv) (plainElem_bool Tryz.underlying4 true)
  exact ⟨w', hrun, ⟨_, h3, h2.put (fun _ _ => kl6_key _) (fun _ _ hu hv => klv_inj hn hu hv) hv hnew⟩, h4⟩
theorem SetM.len {w : World} {mb cnt n : Nat} {S : List (List Int)} (h : SetM w mb cnt n S) (ty : TypeId) : (Builtin.len_ #[115] ty #[.map (some mb)]).run Tryz.prog w = .ok (.int .i64 S.length) w := by
 obtain ⟨D, h1, h2⟩ := h
 rw [h1.len Tryz.underlying115 ty, h2.size]
theorem bturn {w w1 w2 : World} {B mb : Nat} (h : Below B w w1) (hm : MapB w1 mb) (hg : w1.grownBy w2 (some mb)) (hB : B ≤ mb) : Below B w w2 :=
  h.grown hg (by have := hm.lt; omega) (fun q hq => by injection hq with hq; omega)
theorem perm_dom {n : Nat} (hn : n ≤ 6) {a : List Int} (h : Perm n a) : domK n 48 a := ⟨h.1, fun x hx => by have := h.2.1 x hx; omega⟩
end Go.Proofs.Tg.Gp
end
