/- Parts of the proof: BG3, BG5, BGA, XD3, WG5, AC1, WG2. -/
import Derived.Laws.OwnMore
import Derived.Maps.AppendAt
import Derived.Maps.OwnOps
import Derived.DeepKeys4
import Derived.Test.YtodjofbneeejpaaGreatDoorMBD0
import Derived.Test.YtodjofbneeejpaaGreatDoorMBD1
import Derived.Test.YtodjofbneeejpaaGreatDoorMBD2
import Derived.Test.YtodjofbneeejpaaGreatDoorMBD3
import Derived.Test.YtodjofbneeejpaaGreatDoorMBD4
import Derived.Test.YtodjofbneeejpaaGreatDoorMBD5
section
/- What permutations generate; lists that are groups. Plain. -/
namespace Go.Pm
open Go.Gr
/-- The products of generators. -/
inductive Gen (n : Nat) (gs : List (List Int)) : List Int → Prop
  | one : Gen n gs (unit n)
  | mul {g p : List Int} : g ∈ gs → Gen n gs p → Gen n gs (cmp g p)
theorem Gen.perm {n : Nat} {gs : List (List Int)} (hg : ∀ g ∈ gs, Perm n g) {p : List Int} (h : Gen n gs p) : Perm n p := by
 induction h with
 | one => exact unit_perm n
 | mul hm _ ih => exact cmp_perm (hg _ hm) ih
theorem Gen.mono {n : Nat} {gs gs' : List (List Int)} (hs : ∀ g ∈ gs, g ∈ gs') {p : List Int} (h : Gen n gs p) : Gen n gs' p := by
 induction h with
 | one => exact .one
 | mul hm _ ih => exact .mul (hs _ hm) ih
theorem Gen.mem {n : Nat} {gs : List (List Int)} (hg : ∀ g ∈ gs, Perm n g) {g : List Int} (h : g ∈ gs) : Gen n gs g := by
 have := Gen.mul h (Gen.one (n := n) (gs := gs))
 rwa [cmp_unit (hg g h).1] at this
theorem Gen.prod {n : Nat} {gs : List (List Int)} (hg : ∀ g ∈ gs, Perm n g) {p q : List Int} (hp : Gen n gs p) (hq : Gen n gs q) : Gen n gs (cmp p q) := by
 induction hp with
 | one => rw [unit_cmp (hq.perm hg)]; exact hq
 | @mul g p' hm h' ih =>
   rw [cmp_assoc (h'.perm hg).1 (hq.perm hg)]
   exact .mul hm ih
/-- A list that has the identity and all products. -/
def Grp (n : Nat) (l : List (List Int)) : Prop := unit n ∈ l ∧ ∀ a ∈ l, ∀ b ∈ l, cmp a b ∈ l
theorem Grp.gen {n : Nat} {l gs : List (List Int)} (h : Grp n l) (hs : ∀ g ∈ gs, g ∈ l) {p : List Int} (hp : Gen n gs p) : p ∈ l := by
 induction hp with
 | one => exact h.1
 | mul hm _ ih => exact h.2 _ (hs _ hm) _ ih
/-- The products of generators, as a list. -/
def IsGen (n : Nat) (gs S : List (List Int)) : Prop := S.Nodup ∧ ∀ x, x ∈ S ↔ Gen n gs x
theorem IsGen.grp {n : Nat} {l gs S : List (List Int)} (h : IsGen n gs S) (hl : l.Nodup) (hp : ∀ a ∈ l, Perm n a) (hs : ∀ g ∈ gs, g ∈ l) (hall : ∀ a ∈ l, Gen n gs a) : S.length = l.length ↔ Grp n l := by
 have hlS : ∀ x ∈ l, x ∈ S := fun x hx => (h.2 x).2 (hall x hx)
 have hg : ∀ g ∈ gs, Perm n g := fun g hm => hp g (hs g hm)
 constructor
 ·intro e
  have hSl := full_of hl hlS (by omega)
  exact ⟨hSl _ ((h.2 _).2 .one), fun a ha b hb => hSl _ ((h.2 _).2 ((hall a ha).prod hg (hall b hb)))⟩
 ·intro hG
  have h1 := h.1.length_le_of_subset (fun x hx => hG.gen hs ((h.2 x).1 hx))
  have h2 := hl.length_le_of_subset hlS
  omega
theorem IsGen.over {n : Nat} {l gs S : List (List Int)} (h : IsGen n gs S) (hs : ∀ g ∈ gs, g ∈ l) (hlt : l.length < S.length) : ¬ Grp n l := fun hG => by
 have h1 := h.1.length_le_of_subset (fun x hx => hG.gen hs ((h.2 x).1 hx))
 omega
/-- In a list in ascending order the identity stands first. -/
theorem Grp.first {n : Nat} {l : List (List Int)} (h : Grp n l) (hl : Asc l) (hp : ∀ a ∈ l, Perm n a) : ∃ h : 0 < l.length, l[0] = unit n := by
 obtain ⟨k, hk, he⟩ := List.getElem_of_mem h.1
 have h0 : 0 < l.length := by omega
 refine ⟨h0, ?_⟩
 by_cases hk0 : k = 0
 ·subst hk0; exact he
 ·exfalso
  have h1 := hl.lt h0 hk (by omega)
  rw [he] at h1
  have hne : l[0] ≠ unit n := fun e => by rw [e] at h1; exact lt_irr h1
  exact cmpL_asym _ _ h1 (unit_least (hp _ (List.getElem_mem _)) hne)
end Go.Pm
end
section
/- Breadth-first: what is known, what waits; at its end all products are known. Plain. -/
namespace Go.Pm
/-- How many permutations there can be. -/
def code (a : List Int) : Nat := a.foldl (fun c x => c * 6 + x.toNat) 0
theorem code_eq : ∀ (a b : List Int) (c d : Nat), a.length = b.length → (∀ x ∈ a, 0 ≤ x ∧ x < 6) → (∀ x ∈ b, 0 ≤ x ∧ x < 6) → a.foldl (fun c x => c * 6 + x.toNat) c = b.foldl (fun c x => c * 6 + x.toNat) d → c = d ∧ a = b
  | [], [], c, d, _, _, _, h => ⟨h, rfl⟩
  | x :: a, y :: b, c, d, hl, ha, hb, h => by
    rw [List.foldl_cons, List.foldl_cons] at h
    have h1 := code_eq a b _ _ (by simpa using hl) (fun z hz => ha z (List.mem_cons_of_mem _ hz)) (fun z hz => hb z (List.mem_cons_of_mem _ hz)) h
    have hx := ha x (by simp)
    have hy := hb y (by simp)
    refine ⟨by omega, ?_⟩
    rw [h1.2, show x = y by omega]
theorem code_lt : ∀ (a : List Int) (c : Nat), (∀ x ∈ a, 0 ≤ x ∧ x < 6) → a.foldl (fun c x => c * 6 + x.toNat) c < (c + 1) * 6 ^ a.length
  | [], c, _ => by simp
  | x :: a, c, h => by
    rw [List.foldl_cons, List.length_cons]
    have h1 := code_lt a (c * 6 + x.toNat) (fun z hz => h z (List.mem_cons_of_mem _ hz))
    have hx := h x (by simp)
    have h2 : (c * 6 + x.toNat + 1) * 6 ^ a.length ≤ (c * 6 + 6) * 6 ^ a.length := Nat.mul_le_mul_right _ (by omega)
    have h3 : (c * 6 + 6) * 6 ^ a.length = (c + 1) * 6 ^ (a.length + 1) := by rw [Nat.pow_succ]; rw [show c * 6 + 6 = (c + 1) * 6 by omega, Nat.mul_assoc, Nat.mul_comm 6]
    omega
theorem perm_few {n : Nat} (hn : n ≤ 6) {S : List (List Int)} (hS : S.Nodup) (hp : ∀ a ∈ S, Perm n a) : S.length ≤ 46656 := by
 have hr : ∀ a ∈ S, ∀ x ∈ a, 0 ≤ x ∧ x < 6 := fun a ha x hx => by
  have := (hp a ha).2.1 x hx
  omega
 have h1 : (S.map code).Nodup := List.pairwise_map.2 (hS.imp_of_mem fun {a b} ha hb hne e => hne (code_eq a b 0 0 (by rw [(hp a ha).1, (hp b hb).1]) (hr a ha) (hr b hb) e).2)
 have h2 : ∀ c ∈ S.map code, c ∈ List.range 46656 := fun c hc => by
  obtain ⟨a, ha, rfl⟩ := List.mem_map.1 hc
  have h3 := code_lt a 0 (hr a ha)
  rw [(hp a ha).1] at h3
  have h4 : 6 ^ n ≤ 6 ^ 6 := Nat.pow_le_pow_right (by omega) hn
  have h5 : (6 : Nat) ^ 6 = 46656 := rfl
  refine List.mem_range.2 ?_
  unfold code
  omega
 have := h1.length_le_of_subset h2
 rwa [List.length_map, List.length_range] at this
/-- What is known and what waits. -/
structure Bfs (n : Nat) (gs S Q : List (List Int)) : Prop where
  nodup : S.Nodup
  gen : ∀ x ∈ S, Gen n gs x
  one : unit n ∈ S
  wait : ∀ x ∈ Q, x ∈ S
  done : ∀ x ∈ S, x ∈ Q ∨ ∀ g ∈ gs, cmp g x ∈ S
theorem Bfs.start (n : Nat) (gs : List (List Int)) : Bfs n gs [unit n] [unit n] :=
  ⟨by simp, fun x hx => by rw [List.mem_singleton.1 hx]; exact .one, List.mem_singleton.2 rfl, fun x hx => hx, fun x hx => .inl hx⟩
theorem Bfs.fin {n : Nat} {gs S : List (List Int)} (h : Bfs n gs S []) : IsGen n gs S := by
 refine ⟨h.nodup, fun x => ⟨h.gen x, fun hx => ?_⟩⟩
 induction hx with
 | one => exact h.one
 | mul hm _ ih =>
   rcases h.done _ ih with h1 | h1
   ·cases h1
   ·exact h1 _ hm
/-- .. while the products with one element are looked at, those with the first j generators being done. -/
structure Mid (n : Nat) (gs S Q : List (List Int)) (a : List Int) (j : Nat) : Prop where
  nodup : S.Nodup
  gen : ∀ x ∈ S, Gen n gs x
  one : unit n ∈ S
  cur : a ∈ S
  wait : ∀ x ∈ Q, x ∈ S
  done : ∀ x ∈ S, x ∈ Q ∨ x = a ∨ ∀ g ∈ gs, cmp g x ∈ S
  part : ∀ g ∈ gs.take j, cmp g a ∈ S
theorem Bfs.pop {n : Nat} {gs S Q : List (List Int)} {a : List Int} (h : Bfs n gs S (a :: Q)) : Mid n gs S Q a 0 :=
  ⟨h.nodup, h.gen, h.one, h.wait a (by simp), fun x hx => h.wait x (List.mem_cons_of_mem _ hx), fun x hx => by
   rcases h.done x hx with h1 | h1
   ·rcases List.mem_cons.1 h1 with h1 | h1
    ·exact .inr (.inl h1)
    ·exact .inl h1
   ·exact .inr (.inr h1), fun g hg => by simp at hg⟩
theorem Mid.old {n : Nat} {gs S Q : List (List Int)} {a : List Int} {j : Nat} (h : Mid n gs S Q a j) (hj : j < gs.length) (hm : cmp gs[j] a ∈ S) : Mid n gs S Q a (j + 1) :=
  ⟨h.nodup, h.gen, h.one, h.cur, h.wait, h.done, fun g hg => by
   rw [List.take_succ_eq_append_getElem hj] at hg
   rcases List.mem_append.1 hg with h1 | h1
   ·exact h.part g h1
   ·rw [List.mem_singleton.1 h1]; exact hm⟩
theorem Mid.new {n : Nat} {gs S Q : List (List Int)} {a : List Int} {j : Nat} (h : Mid n gs S Q a j) (hj : j < gs.length) (hm : cmp gs[j] a ∉ S) : Mid n gs (cmp gs[j] a :: S) (Q ++ [cmp gs[j] a]) a (j + 1) := by
 have hc : ∀ x, x ∈ S → x ∈ cmp gs[j] a :: S := fun x hx => List.mem_cons_of_mem _ hx
 refine ⟨List.nodup_cons.2 ⟨hm, h.nodup⟩, fun x hx => ?_, hc _ h.one, hc _ h.cur, fun x hx => ?_, fun x hx => ?_, fun g hg => ?_⟩
 ·rcases List.mem_cons.1 hx with rfl | hx
  ·exact .mul (List.getElem_mem _) (h.gen a h.cur)
  ·exact h.gen x hx
 ·rcases List.mem_append.1 hx with hx | hx
  ·exact hc x (h.wait x hx)
  ·rw [List.mem_singleton.1 hx]; exact List.mem_cons_self
 ·rcases List.mem_cons.1 hx with rfl | hx
  ·exact .inl (List.mem_append_right _ (by simp))
  ·rcases h.done x hx with h1 | h1 | h1
   ·exact .inl (List.mem_append_left _ h1)
   ·exact .inr (.inl h1)
   ·exact .inr (.inr fun g hg => hc _ (h1 g hg))
 ·rw [List.take_succ_eq_append_getElem hj] at hg
  rcases List.mem_append.1 hg with h1 | h1
  ·exact hc _ (h.part g h1)
  ·rw [List.mem_singleton.1 h1]; exact List.mem_cons_self
theorem Mid.fin {n : Nat} {gs S Q : List (List Int)} {a : List Int} (h : Mid n gs S Q a gs.length) : Bfs n gs S Q := by
 have hp := h.part
 rw [List.take_length] at hp
 exact ⟨h.nodup, h.gen, h.one, h.wait, fun x hx => by
  rcases h.done x hx with h1 | h1 | h1
  ·exact .inl h1
  ·rw [h1]; exact .inr hp
  ·exact .inr h1⟩
end Go.Pm
end
section
/- Powers of a permutation: one of them is the identity. Plain. -/
namespace Go.Pm
def pw (a : List Int) : Nat → List Int
  | 0 => a
  | k + 1 => cmp a (pw a k)
theorem pw_perm {n : Nat} {a : List Int} (ha : Perm n a) : ∀ k, Perm n (pw a k)
  | 0 => ha
  | k + 1 => cmp_perm ha (pw_perm ha k)
theorem pw_back {n : Nat} {a : List Int} (ha : Perm n a) : ∀ i j, i < j → pw a i = pw a j → pw a (j - i - 1) = unit n
  | 0, j + 1, _, h => by
    have h1 : cmp a (unit n) = cmp a (pw a j) := by rw [cmp_unit ha.1]; exact h
    have := cmp_inj ha (unit_perm n) (pw_perm ha j) h1
    rw [show j + 1 - 0 - 1 = j by omega]
    exact this.symm
  | i + 1, j + 1, hij, h => by
    have h1 := cmp_inj ha (pw_perm ha i) (pw_perm ha j) h
    have := pw_back ha i j (by omega) h1
    rwa [show j + 1 - (i + 1) - 1 = j - i - 1 by omega]
theorem pw_end {n : Nat} (hn : n ≤ 6) {a : List Int} (ha : Perm n a) : ∃ K, K ≤ 46656 ∧ pw a K = unit n := by
 apply Classical.byContradiction
 intro hno
 have hne : ∀ k, k ≤ 46656 → pw a k ≠ unit n := fun k hk h => hno ⟨k, hk, h⟩
 have hnd : ((List.range 46657).map (pw a)).Nodup := by
  refine List.pairwise_map.2 (List.pairwise_lt_range.imp_of_mem fun {i j} hi hj hij e => ?_)
  have h1 := List.mem_range.1 hj
  exact hne (j - i - 1) (by omega) (pw_back ha i j hij e)
 have := perm_few hn hnd (fun x hx => by
  obtain ⟨k, _, rfl⟩ := List.mem_map.1 hx
  exact pw_perm ha k)
 rw [List.length_map, List.length_range] at this
 omega
/-- An involution: not the identity, its square is. -/
def Invo (a : List Int) : Prop := a.length ≤ 6 ∧ Perm a.length a ∧ a ≠ unit a.length ∧ cmp a a = unit a.length
instance (a : List Int) : Decidable (Invo a) := inferInstanceAs (Decidable (_ ∧ _ ∧ _ ∧ _))
theorem order_two {n k : Nat} {a : List Int} (h1 : pw a k = unit n) (h2 : ∀ j, j < k → pw a j ≠ unit n) : k + 1 = 2 ↔ a ≠ unit n ∧ cmp a a = unit n := by
 constructor
 ·intro h
  obtain rfl : k = 1 := by omega
  exact ⟨h2 0 (by omega), h1⟩
 ·rintro ⟨h3, h4⟩
  match k, h1, h2 with
  | 0, h1, _ => exact absurd h1 h3
  | 1, _, _ => rfl
  | k + 2, _, h2 => exact absurd h4 (h2 1 (by omega))
end Go.Pm
end
section
/- Walks of the reference: values, sets, classes. -/
namespace Go.Proofs.Tg
open Go.RowKit Go.Gr Go.Ev Go.Mo
set_option maxHeartbeats 4000000
set_option maxRecDepth 100000
theorem seq_any (A B : Option Addr) (xs ys : List Int) (c d : Nat) (w : World) (hx : Ints w A xs) (hy : Ints w B ys) (hn : xs.length ≤ 1000000) (b : Bool) (hbb : decide (xs = ys) = b) :
    Calls Tryz.prog 56 #[.slice A xs.length c, .slice B ys.length d] w fun e w' => e = .returned (.bool b) ∧ Dr w w' := by
  rw [← hbb]
  clear hbb
  by_cases hl : xs.length = ys.length
  ·have hb : ((xs.length : Int) != (ys.length : Int)) = false := by simp [hl]
   have HL := Lib.hid hl; clear hl
   go_enter Tryz.func56, Tryz.ntmps56
   go_wp2
   go_loopw [13] (fun i wr => ∃ k : Nat, k ≤ xs.length ∧ i = .int .i64 k ∧ Hid (xs.take k = ys.take k) ∧ Dr w wr) (fun i _ => xs.length - (intOf i).toNat)
   case atStart => exact ⟨0, Nat.zero_le _, rfl, Lib.hid (by simp), Dr.refl _⟩
   case round =>
    obtain ⟨k, hk, rfl, HT, hbw⟩ := hrel
    by_cases hlt : k < xs.length
    ·have hky : k < ys.length := by have := HL.out; omega
     obtain ⟨ad, rfl, hc⟩ := Ints.at (hx.keep hbw.below) hlt
     obtain ⟨bd, rfl, hd⟩ := Ints.at (hy.keep hbw.below) hky
     have HX : Hid (xs.take (k + 1) = xs.take k ++ [xs[k]]) := Lib.hid (List.take_succ_eq_append_getElem hlt)
     have HY : Hid (ys.take (k + 1) = ys.take k ++ [ys[k]]) := Lib.hid (List.take_succ_eq_append_getElem hky)
     have HNE : Hid (xs = ys → xs[k] = ys[k]) := Lib.hid (fun e => by subst e; rfl)
     have i1 : (0 : Int) ≤ (k : Int) := by omega
     have i2 : (k : Int) < (xs.length : Int) := by omega
     have i3 : (k : Int) < (ys.length : Int) := by omega
     have i4 : ((k : Int)).toNat = k := by omega
     clear hx hy
     generalize xs[k] = x at hc HX HNE
     generalize ys[k] = y at hd HY HNE
     by_cases heq : x = y
     ·have hbb : (x != y) = false := by simp [heq]
      have HE := Lib.hid heq; clear heq
      go_wp2
      go_quiet (fail)
      go_wp2
      go_roundw
      case rel => exact ⟨k + 1, by omega, by go_num, Lib.hid (by rw [HX.out, HY.out, HT.out, HE.out]), hbw.drewN _⟩
      case measure => simp [intOf]; omega
     ·have hbb : (x != y) = true := by simp [heq]
      have HF : Hid (decide (xs = ys) = false) := Lib.hid (decide_eq_false (fun e => heq (HNE.out e)))
      clear heq
      go_wp2
      go_quiet (fail)
      go_wp2
      go_ret
      exact ⟨by rw [HF.out]; rfl, hbw.drewN _⟩
    ·have HF : Hid (decide (xs = ys) = true) := Lib.hid (decide_eq_true (by
      have := HT.out
      rwa [List.take_of_length_le (by omega), List.take_of_length_le (by have := HL.out; omega)] at this))
     go_wp2
     go_ret
     exact ⟨by rw [HF.out]; rfl, hbw⟩
  ·have hb : ((xs.length : Int) != (ys.length : Int)) = true := by simp; omega
   have HF : Hid (decide (xs = ys) = false) := Lib.hid (decide_eq_false (fun e => hl (by rw [e])))
   clear hl
   go_enter Tryz.func56, Tryz.ntmps56
   go_wp2
   go_ret
   exact ⟨by rw [HF.out]; rfl, Dr.refl _⟩
end Go.Proofs.Tg
end
section
/- Order, isInvolution, commute of the program; Less and place of the reference 18. -/
namespace Go.Proofs.Tg.Gp
open Go.RowKit Go.Gr Go.Sp Go.Ev Go.Pm
set_option maxHeartbeats 4000000
set_option maxRecDepth 100000
theorem ints_blk {w : World} {g n : Nat} {l : List Int} (h : Blk w g 3 (iarr l)) (hl : l.length = n) (hn : n ≤ 6) : Ints w (some ⟨g, 0, none⟩) l := by
 have := Sl.own (own_iarr (b := 0) h (Nat.zero_le _) rfl (by omega))
 exact this
theorem gorder_any (A : Option Addr) (c n : Nat) (a : List Int) (w : World) (hA : Ints w A a) (ha : Perm n a) (hn : n ≤ 6) :
    Calls Tryz.prog 77 #[.slice A n c] w fun e w' => ∃ k : Nat, e = .returned (.tuple #[.int .i64 ((k : Int) + 1), .int .i64 0]) ∧ pw a k = unit n ∧ (∀ j, j < k → pw a j ≠ unit n) ∧ Below w.heap.size w w' := by
  obtain ⟨K, hK, hKe⟩ := pw_end hn ha
  have HK := Lib.hid hKe
  have HA := Lib.hid ha
  have hal := ha.1
  have HPW : Hid (∀ k, Perm n (pw a k)) := Lib.hid (fun k => pw_perm ha k)
  have HV : Hid (∀ V, Below w.heap.size w V → Calls Tryz.prog 74 #[.slice A n c] V fun e w' => e = .returned (.bool true) ∧ Below V.heap.size V w') := Lib.hid (fun V h => by
   have := gvalid_any A c a true V (hA.keep h) (by omega) ⟨fun _ => ⟨by omega, by rw [hal]; exact ha⟩, fun _ => rfl⟩
   rw [hal] at this
   exact this)
  have HID := Lib.hid (fun V => identity_any n V hn)
  clear hKe ha
  go_enter Tryz.func77, Tryz.ntmps77
  go_wp2_with (first
    | (go_at_call 74; refine (HV.out _ (Below.refl _ _)).mono ?_; rintro e w1 ⟨rfl, hb1⟩)
    | (go_at_call 97; refine (HID.out _).mono ?_; rintro e w2 ⟨rfl, hG2, hb2⟩))
  have hbw2 := below_all hb1 hb2
  have HG := Lib.hid hG2
  generalize w1.heap.size = g1 at *
  clear HV HID hb1
  go_loopw [5, 6] (fun s5 s6 wr => ∃ (k : Nat) (P : Option Addr) (cp : Nat), s5 = .int .i64 ((k : Int) + 1) ∧ k ≤ K ∧ s6 = .slice P n cp ∧ Ints wr P (pw a k) ∧ Hid (∀ j, j < k → pw a j ≠ unit n) ∧ Below w2.heap.size w2 wr) (fun s5 _ _ => K + 1 - (intOf s5).toNat)
  case atStart => exact ⟨0, A, c, by go_num, Nat.zero_le _, rfl, hA.keep hbw2, Lib.hid (fun j h => by omega), Below.refl _ _⟩
  case round =>
   obtain ⟨wo, rfl⟩ : ∃ wo : World, wo = wr := ⟨_, rfl⟩
   obtain ⟨k, P, cp, rfl, hk, rfl, hIP, HN, hbo⟩ := hrel
   have hpl := (HPW.out k).1
   have hIU := ints_blk (HG.out.keep hbo HG.out.lt) (unit_len n) hn
   have hsz : IntKind.i64.wrap ((k : Int) + 1 + 1) = (k : Int) + 1 + 1 := IntWalk.i64_in _ (by omega)
   by_cases he : pw a k = unit n
   ·have heq := seq_any P (some ⟨g1, 0, none⟩) (pw a k) (unit n) cp n wo hIP hIU (by omega) true (decide_eq_true he)
    rw [hpl, unit_len] at heq
    have HEQ := Lib.hid heq
    have HE := Lib.hid he
    clear heq he hIP hIU
    go_wp2_with (go_at_call 56; refine HEQ.out.mono ?_; rintro e w4 ⟨rfl, hd4⟩)
    go_ret2
    exact ⟨k, rfl, HE.out, HN.out, below_all (below_all hbw2 hbo) hd4.below⟩
   ·have heq := seq_any P (some ⟨g1, 0, none⟩) (pw a k) (unit n) cp n wo hIP hIU (by omega) false (decide_eq_false he)
    rw [hpl, unit_len] at heq
    have HEQ := Lib.hid heq
    have HN2 : Hid (∀ j, j < k + 1 → pw a j ≠ unit n) := Lib.hid (fun j hj => by
     by_cases h : j = k
     ·rw [h]; exact he
     ·exact HN.out j (by omega))
    have hkK : k < K := by
     apply Classical.byContradiction
     intro hlt
     have : k = K := by omega
     rw [this] at he
     exact he HK.out
    have HCP : Hid (∀ V, Below wo.heap.size wo V → Calls Tryz.prog 98 #[.slice A n c, .slice P n cp] V fun e w' => e = .returned (.slice (some ⟨V.heap.size, 0, none⟩) n n) ∧ Blk w' V.heap.size 3 (iarr (pw a (k + 1))) ∧ Below V.heap.size V w') := Lib.hid (fun V h =>
     compose_any A P c cp n a (pw a k) V (hA.keep (below_all (below_all hbw2 hbo) h)) (hIP.keep h) HA.out (HPW.out k) hn)
    clear heq he hIP hIU
    go_wp2_with (first
      | (go_at_call 56; refine HEQ.out.mono ?_; rintro e w4 ⟨rfl, hd4⟩
         have hb4 := hd4.below)
      | (go_at_call 98; refine (HCP.out _ hb4).mono ?_; rintro e w5 ⟨rfl, hG5, hb5⟩))
    go_roundw
    case rel => exact ⟨k + 1, _, n, by go_num, by omega, rfl, ints_blk hG5 (HPW.out (k + 1)).1 hn, HN2, below_all (below_all hbo hb4) hb5⟩
    case measure => simp [intOf]; omega
theorem invol_any (A : Option Addr) (c : Nat) (a : List Int) (v : Bool) (w : World) (hA : Ints w A a) (hl : a.length ≤ 1000000) (hv : v = true ↔ Invo a) :
    Calls Tryz.prog 43 #[.slice A a.length c] w fun e w' => e = .returned (.bool v) ∧ Below w.heap.size w w' := by
  by_cases hp : a.length ≤ 6 ∧ Perm a.length a
  ·have HV := Lib.hid (gvalid_any A c a true w hA hl ⟨fun _ => hp, fun _ => rfl⟩)
   have HO : Hid (∀ V, Below w.heap.size w V → Calls Tryz.prog 77 #[.slice A a.length c] V fun e w' => ∃ k : Nat, e = .returned (.tuple #[.int .i64 ((k : Int) + 1), .int .i64 0]) ∧ (k + 1 = 2 ↔ v = true) ∧ Below V.heap.size V w') := Lib.hid (fun V h =>
    (gorder_any A c a.length a V (hA.keep h) hp.2 hp.1).mono fun e w' ⟨k, h1, h2, h3, h4⟩ => ⟨k, h1, (order_two h2 h3).trans ⟨fun h => hv.2 ⟨hp.1, hp.2, h⟩, fun h => (hv.1 h).2.2⟩, h4⟩)
   clear hv hA hp
   go_enter Tryz.func43, Tryz.ntmps43
   go_upto_region 4 with (first
     | (go_at_call 74; refine HV.out.mono ?_; rintro e w1 ⟨rfl, hb1⟩)
     | (go_at_call 77; refine (HO.out _ hb1).mono ?_; rintro e w2 ⟨k, rfl, hk, hb2⟩))
   cases v with
   | true =>
     obtain rfl : k = 1 := by have := hk.2 rfl; omega
     go_wp2
     go_ret
     exact ⟨rfl, below_all hb1 hb2⟩
   | false =>
     have hne : ((k : Int) + 1 == 2) = false := beq_eq_false_iff_ne.2 (fun e => by have := hk.1 (by omega); cases this)
     go_wp2
     go_ret
     exact ⟨rfl, below_all hb1 hb2⟩
  ·have HV := Lib.hid (gvalid_any A c a false w hA hl (Iff.intro (fun h => by cases h) (fun h => absurd h hp)))
   obtain rfl : v = false := eq_false_of_ne_true (fun h => hp ⟨(hv.1 h).1, (hv.1 h).2.1⟩)
   clear hv hA hp
   go_enter Tryz.func43, Tryz.ntmps43
   go_wp2_with (go_at_call 74; refine HV.out.mono ?_; rintro e w1 ⟨rfl, hb1⟩)
   go_ret
   exact ⟨rfl, hb1⟩
theorem commute_any (A B : Option Addr) (c d n : Nat) (a b : List Int) (v : Bool) (w : World) (hA : Ints w A a) (hB : Ints w B b) (ha : Perm n a) (hb : Perm n b) (hn : n ≤ 6) (hv : decide (cmp a b = cmp b a) = v) :
    Calls Tryz.prog 61 #[.slice A n c, .slice B n d] w fun e w' => e = .returned (.bool v) ∧ Below w.heap.size w w' := by
  have H1 := Lib.hid (bcompose_any A B c d n a b w hA hB ha hb hn)
  have H2 : Hid (∀ V, Below w.heap.size w V → Calls Tryz.prog 62 #[.slice B n d, .slice A n c] V fun e w' => e = .returned (.slice (some ⟨V.heap.size, 0, none⟩) n n) ∧ Blk w' V.heap.size 3 (iarr (cmp b a)) ∧ Below V.heap.size V w') := Lib.hid (fun V h => bcompose_any B A d c n b a V (hB.keep h) (hA.keep h) hb ha hn)
  have HL1 : Hid ((cmp a b).length = n) := Lib.hid (cmp_perm ha hb).1
  have HL2 : Hid ((cmp b a).length = n) := Lib.hid (cmp_perm hb ha).1
  have HEQ : Hid (∀ V g1 g2, Blk V g1 3 (iarr (cmp a b)) → Blk V g2 3 (iarr (cmp b a)) → Calls Tryz.prog 56 #[.slice (some ⟨g1, 0, none⟩) n n, .slice (some ⟨g2, 0, none⟩) n n] V fun e w' => e = .returned (.bool v) ∧ Dr V w') := Lib.hid (fun V g1 g2 h1 h2 => by
   have := seq_any (some ⟨g1, 0, none⟩) (some ⟨g2, 0, none⟩) (cmp a b) (cmp b a) n n V (ints_blk h1 HL1.out hn) (ints_blk h2 HL2.out hn) (by have := HL1.out; omega) v hv
   rw [HL1.out, HL2.out] at this
   exact this)
  clear hA hB ha hb hv
  generalize cmp a b = x at *
  generalize cmp b a = y at *
  go_enter Tryz.func61, Tryz.ntmps61
  go_upto_region 1 with (fail)
  go_wp2_with (fail)
  refine H1.out.mono ?_
  rintro e w1 ⟨rfl, hG1, hb1⟩
  go_wp2_with (fail)
  refine (H2.out _ hb1).mono ?_
  rintro e w2 ⟨rfl, hG2, hb2⟩
  have HE2 := Lib.hid (HEQ.out w2 _ _ (hG1.keep hb2 hG1.lt) hG2)
  clear hG1 hG2 HEQ H1 H2
  go_wp2_with (go_at_call 56; refine HE2.out.mono ?_; rintro e w3 ⟨rfl, hd3⟩)
  go_ret
  exact ⟨rfl, below_all (below_all hb1 hb2) hd3.below⟩
theorem less_any (A B : Option Addr) (c d : Nat) (a b : List Int) (v : Bool) (w : World) (hA : Ints w A a) (hB : Ints w B b) (hl : a.length ≤ 1000000) (hv : decide (cmpL a b < 0) = v) :
    Calls Tryz.prog 57 #[.slice A a.length c, .slice B b.length d] w fun e w' => e = .returned (.bool v) ∧ w = w' := by
  have H := Lib.hid (Gx.compare_any A B c d a b w hA hB hl)
  generalize cmpL a b = z at *
  go_enter Tryz.func57, Tryz.ntmps57
  go_wp2_with (go_at_call 51; refine H.out.mono ?_; rintro e w1 ⟨rfl, rfl⟩)
  go_ret
  exact ⟨rfl, rfl⟩
end Go.Proofs.Tg.Gp
end
section
/- The package blocks: validMonomials, sizes; the reference's monomials. -/
namespace Go.Proofs.Tg.Bk
open Go.RowKit Go.Gr Go.Sp Go.Ev Go.Pm Go.Mo
set_option maxHeartbeats 1000000
set_option maxRecDepth 100000
theorem bvmons_any (L : Option Addr) (cL : Nat) (l : List (List Int)) (q : Bool) (w : World) (hL : Lists w L l) (hl : l.length ≤ 1000000) (hll : ∀ x ∈ l, x.length ≤ 1000) (hq : q = true ↔ ∀ x ∈ l, vldM x = true) :
    Calls Tryz.prog 46 #[.slice L l.length cL] w fun e w' => e = .returned (.bool q) ∧ w = w' := by
  have HL := Lib.hid hL
  have HQ := Lib.hid hq
  have HLL := Lib.hid hll
  clear hL hq hll
  go_enter Tryz.func46, Tryz.ntmps46
  go_wp2
  go_loopw [7] (fun s7 wr => ∃ k : Nat, s7 = .int .i64 k ∧ k ≤ l.length ∧ Hid (∀ j (h : j < l.length), j < k → vldM l[j] = true) ∧ w = wr) (fun s7 _ => l.length - (intOf s7).toNat)
  case atStart => exact ⟨0, rfl, Nat.zero_le _, Lib.hid (fun j _ h => absurd h (by omega)), rfl⟩
  case round =>
   obtain ⟨k, rfl, hk, HN, rfl⟩ := hrel
   by_cases hkl : k < l.length
   ·obtain ⟨ad, E, ce, rfl, hc, hE⟩ := HL.out.at hkl
    have q0 : (0 : Int) ≤ (k : Int) := by omega
    have q1 : (k : Int) < (l.length : Int) := by omega
    have q3 : ((k : Int)).toNat = k := by omega
    obtain ⟨b, hb⟩ : ∃ b, vldM l[k] = b := ⟨_, rfl⟩
    have HV := Lib.hid (valid_any E ce l[k] w hE (HLL.out _ (List.getElem_mem _)))
    rw [hb] at HV
    have HB := Lib.hid hb
    clear hE hb
    cases b with
    | true =>
      have HN2 : Hid (∀ j (h : j < l.length), j < k + 1 → vldM l[j] = true) := Lib.hid (fun j h hj => by
       by_cases he : j = k
       ·subst he; exact HB.out
       ·exact HN.out j h (by omega))
      clear HB
      generalize l[k] = x at *
      go_wp2_with (go_at_call 78; refine HV.out.mono ?_; rintro e w2 ⟨rfl, rfl⟩)
      go_roundw
      case rel => exact ⟨k + 1, by go_num, by omega, HN2, trivial⟩
      case measure => simp [intOf]; omega
    | false =>
      obtain rfl : q = false := eq_false_of_ne_true (fun h => by
       have := HQ.out.1 h _ (List.getElem_mem hkl)
       rw [HB.out] at this
       cases this)
      clear HB
      generalize l[k] = x at *
      go_wp2_with (go_at_call 78; refine HV.out.mono ?_; rintro e w2 ⟨rfl, rfl⟩)
      go_ret
      exact ⟨rfl, rfl⟩
   ·obtain rfl : k = l.length := by omega
    obtain rfl : q = true := HQ.out.2 (fun x hx => by
     obtain ⟨j, hj, rfl⟩ := List.getElem_of_mem hx
     exact HN.out j hj hj)
    have dk : decide ((l.length : Int) < (l.length : Int)) = false := by simp
    go_wp2
    go_ret
    exact ⟨rfl, rfl⟩
/-- The error of a basis' sizes. -/
def szE (n : Nat) (b : List (List Int)) : Int := if ∃ m ∈ b, m.length ≠ n then 4 else if b.length = 0 ∨ 64 < b.length then 2 else 0
theorem sizes_any (L : Option Addr) (cL n : Nat) (l : List (List Int)) (z : Int) (w : World) (hL : Lists w L l) (hl : l.length ≤ 1000000) (hz : szE n l = z) :
    Calls Tryz.prog 59 #[.int .i64 n, .slice L l.length cL] w fun e w' => e = .returned (.int .i64 z) ∧ w = w' := by
  have HL := Lib.hid hL
  have HZ := Lib.hid hz
  clear hL hz
  go_enter Tryz.func59, Tryz.ntmps59
  go_wp2
  go_loopw [9] (fun s9 wr => ∃ k : Nat, s9 = .int .i64 k ∧ k ≤ l.length ∧ Hid (∀ j (h : j < l.length), j < k → l[j].length = n) ∧ w = wr) (fun s9 _ => l.length - (intOf s9).toNat)
  case atStart => exact ⟨0, rfl, Nat.zero_le _, Lib.hid (fun j _ h => absurd h (by omega)), rfl⟩
  case round =>
   obtain ⟨k, rfl, hk, HN, rfl⟩ := hrel
   by_cases hkl : k < l.length
   ·obtain ⟨ad, E, ce, rfl, hc, _⟩ := HL.out.at hkl
    have q0 : (0 : Int) ≤ (k : Int) := by omega
    have q1 : (k : Int) < (l.length : Int) := by omega
    have q3 : ((k : Int)).toNat = k := by omega
    by_cases he : l[k].length = n
    ·have d1 : decide ((l[k].length : Int) = (n : Int)) = true := decide_eq_true (by omega)
     have d2 : decide (l[k].length = n) = true := decide_eq_true he
     have d3 : (((l[k].length : Nat) : Int) == (n : Int)) = true := beq_iff_eq.2 (by omega)
     have HN2 : Hid (∀ j (h : j < l.length), j < k + 1 → l[j].length = n) := Lib.hid (fun j h hj => by
      by_cases h2 : j = k
      ·subst h2; exact he
      ·exact HN.out j h (by omega))
     clear he
     generalize l[k] = x at hc d1 d2 d3
     go_wp2
     go_roundw
     case rel => exact ⟨k + 1, by go_num, by omega, HN2, trivial⟩
     case measure => simp [intOf]; omega
    ·have d1 : decide ((l[k].length : Int) = (n : Int)) = false := decide_eq_false (by omega)
     have d2 : decide (l[k].length = n) = false := decide_eq_false he
     have d3 : (((l[k].length : Nat) : Int) == (n : Int)) = false := beq_eq_false_iff_ne.2 (by omega)
     obtain rfl : z = 4 := by
      rw [← HZ.out]
      unfold szE
      rw [if_pos ⟨_, List.getElem_mem hkl, he⟩]
     clear he
     generalize l[k] = x at hc d1 d2 d3
     go_wp2
     go_ret
     exact ⟨rfl, rfl⟩
   ·obtain rfl : k = l.length := by omega
    have dk : decide ((l.length : Int) < (l.length : Int)) = false := by simp
    have hno : ¬ ∃ m ∈ l, m.length ≠ n := by
     rintro ⟨m, hm, hne⟩
     obtain ⟨j, hj, rfl⟩ := List.getElem_of_mem hm
     exact hne (HN.out j hj hj)
    have hz := HZ.out
    unfold szE at hz
    rw [if_neg hno] at hz
    by_cases h0 : l.length = 0
    ·rw [if_pos (.inl h0)] at hz
     subst hz
     have d1 : decide ((l.length : Int) = 0) = true := decide_eq_true (by omega)
     have d2 : decide (l.length = 0) = true := decide_eq_true h0
     have d3 : (((l.length : Nat) : Int) == 0) = true := beq_iff_eq.2 (by omega)
     clear h0 hno
     go_wp2
     go_ret
     exact ⟨rfl, rfl⟩
    ·have d1 : decide ((l.length : Int) = 0) = false := decide_eq_false (by omega)
     have d2 : decide (l.length = 0) = false := decide_eq_false h0
     have d3 : (((l.length : Nat) : Int) == 0) = false := beq_eq_false_iff_ne.2 (by omega)
     by_cases h6 : 64 < l.length
     ·rw [if_pos (.inr h6)] at hz
      subst hz
      have e1 : decide ((64 : Int) < (l.length : Int)) = true := decide_eq_true (by omega)
      have e2 : decide (64 < l.length) = true := decide_eq_true h6
      clear h0 hno h6
      go_wp2
      go_ret
      exact ⟨rfl, rfl⟩
     ·rw [if_neg (by rintro (h | h) <;> contradiction)] at hz
      subst hz
      have e1 : decide ((64 : Int) < (l.length : Int)) = false := decide_eq_false (by omega)
      have e2 : decide (64 < l.length) = false := decide_eq_false h6
      clear h0 hno h6
      go_wp2
      go_ret
      exact ⟨rfl, rfl⟩
end Go.Proofs.Tg.Bk
end
section
/- Keys of permutations and sets of keys, of the package blocks (printed by wip/tools/mk_keys.py). -/
namespace Go.Proofs.Tg.Bk
open Go.RowKit Go.Gr Go.Sp Go.Ev Go.Maps Go.WideShapes Go.Pm
set_option maxHeartbeats 4000000
set_option maxRecDepth 100000
theorem six {w : World} {g : Nat} {t : TypeId} {a0 a1 a2 a3 a4 a5 : Value} (h : Blk w g t #[a0, a1, a2, a3, a4, a5]) :
    (w.cell? ⟨g, 0, none⟩ = some a0 ∧ w.cell? ⟨g, 1, none⟩ = some a1 ∧ w.cell? ⟨g, 2, none⟩ = some a2 ∧ w.cell? ⟨g, 3, none⟩ = some a3 ∧ w.cell? ⟨g, 4, none⟩ = some a4 ∧ w.cell? ⟨g, 5, none⟩ = some a5) ∧
    (w.frozen? ⟨g, 0, none⟩ = false ∧ w.frozen? ⟨g, 1, none⟩ = false ∧ w.frozen? ⟨g, 2, none⟩ = false ∧ w.frozen? ⟨g, 3, none⟩ = false ∧ w.frozen? ⟨g, 4, none⟩ = false ∧ w.frozen? ⟨g, 5, none⟩ = false) :=
  ⟨⟨h.cell 0, h.cell 1, h.cell 2, h.cell 3, h.cell 4, h.cell 5⟩, h.frozen 0, h.frozen 1, h.frozen 2, h.frozen 3, h.frozen 4, h.frozen 5⟩
theorem below6 {w w' : World} {B g : Nat} (h : Below B w w') (hg : B ≤ g) (a0 a1 a2 a3 a4 a5 : Value) :
    Below B w ((((((w'.setCell ⟨g, 0, none⟩ a0).setCell ⟨g, 1, none⟩ a1).setCell ⟨g, 2, none⟩ a2).setCell ⟨g, 3, none⟩ a3).setCell ⟨g, 4, none⟩ a4).setCell ⟨g, 5, none⟩ a5) :=
  below_far (below_far (below_far (below_far (below_far (below_far h hg _ _) hg _ _) hg _ _) hg _ _) hg _ _) hg _ _
/-- The value of a key. -/
def keyV (el : List Int) : Value := .agg ((kv el).map vi).toArray
def z6 : Array Value := #[.int .i64 0, .int .i64 0, .int .i64 0, .int .i64 0, .int .i64 0, .int .i64 0]
theorem keyV_eq (el : List Int) : keyV el = .agg #[.int .i64 (el.getD 0 0), .int .i64 (el.getD 1 0), .int .i64 (el.getD 2 0), .int .i64 (el.getD 3 0), .int .i64 (el.getD 4 0), .int .i64 (el.getD 5 0)] := rfl
theorem keyOf_any (A : Option Addr) (c : Nat) (el : List Int) (w : World) (hA : Ints w A el) (hl : el.length ≤ 6) :
    Calls Tryz.prog 60 #[.slice A el.length c] w fun e w' => e = .returned (keyV el) ∧ Below w.heap.size w w' := by
  have HK := Lib.hid (keyV_eq el)
  generalize keyV el = kk at *
  obtain ⟨W, hW⟩ : ∃ W, (w.alloc (.cells z6 97)).alloc (.cells z6 97) = W := ⟨_, rfl⟩
  have B2 : Blk W w.heap.size 97 z6 := by rw [← hW]; exact (Blk.new _ _ _).alloc _
  have B3 : Blk W (w.heap.size + 1) 97 z6 := by rw [← hW]; have := Blk.new (w.alloc (.cells z6 97)) 97 z6; simpa using this
  have hbW : Below w.heap.size w W := by rw [← hW]; exact ((Below.refl _ _).alloc (Nat.le_refl _) _).alloc (by simp) _
  have hAW := Sl.keep hA hbW
  have HWW := Lib.hid hW
  clear hW hA
  go_enter Tryz.func60, Tryz.ntmps60
  go_upto_region 2 with (fail)
  have hh := HWW.out
  unfold z6 at hh
  rw [hh]
  clear hh
  go_wp2_with (first
    | (refine wpList_copy6 rfl _ _ rfl (w.heap.size + 1) 97 A c el [] rfl rfl hAW hl B3 ?_
       intro W' E3 hbut
       have E2 := hbut.blk _ _ _ (by omega) B2
       have hb' := hbut.below _ _ hbW (by omega)
       obtain ⟨⟨a0, a1, a2, a3, a4, a5⟩, f0, f1, f2, f3, f4, f5⟩ := six E2
       obtain ⟨⟨j0, j1, j2, j3, j4, j5⟩, k0, k1, k2, k3, k4, k5⟩ := six E3
       have hz := E2.lt
       clear B2 B3 E2 E3 hbut hAW
       generalize el.getD 0 0 = v0 at *
       generalize el.getD 1 0 = v1 at *
       generalize el.getD 2 0 = v2 at *
       generalize el.getD 3 0 = v3 at *
       generalize el.getD 4 0 = v4 at *
       generalize el.getD 5 0 = v5 at *))
  refine bodyPost_ret (v := .agg #[.int .i64 v0, .int .i64 v1, .int .i64 v2, .int .i64 v3, .int .i64 v4, .int .i64 v5]) (by simp [results, Tryz.results60, go_sem, a0, a1, a2, a3, a4, a5]) rfl ⟨by rw [HK.out], ?_⟩
  exact below6 hb' (by omega) _ _ _ _ _ _
theorem laidOut : laidOutB Tryz.prog = true := by kernel_rfl
theorem keyLaw : Keyed Tryz.prog 97 :=
  Keyed.of_law (deep_law_laid laidOut (m := 6) (by decide) (of_decide_eq_true (by kernel_rfl)) (by kernel_rfl) (by kernel_rfl))
theorem key_read {n : Nat} {el : List Int} (h : domK n 48 el) : keyOf Tryz.prog 97 (keyV el) = some (kl6 (kv el)) :=
  keyOf_six (I := 3) (s := Tryz.prog.types.size - 1) Tryz.underlying97 Tryz.underlying3 (by kernel_rfl) (by kernel_rfl) (by kernel_rfl) (by kernel_rfl) (kv el) (kv_len el) (kv_dom h)
theorem zeroB (w : World) : (zeroValue 4).run Tryz.prog w = .ok (.bool false) w := by kernel_rfl
/-- Block mb is a map that holds true at just the elements of S, among lists of n small numbers, and nothing else. -/
def SetM (w : World) (mb cnt n : Nat) (S : List (List Int)) : Prop :=
  ∃ D : DataW Unit, w.ownsMap Tryz.prog 97 (plainElem Tryz.prog 4) mb cnt D ∧ SetN (fun v => kl6 (kv v)) (domK n 48) S D
theorem SetM.mapB {w : World} {mb cnt n : Nat} {S : List (List Int)} (h : SetM w mb cnt n S) : MapB w mb := by
 obtain ⟨D, h, _⟩ := h
 exact mapB_own h
theorem SetM.made (w : World) (n : Nat) : SetM (w.alloc (.map #[] 0)) w.heap.size 0 n [] := ⟨_, World.ownsMap_made _ _ _ _, SetN.nil _ _⟩
theorem SetM.below {w w' : World} {B mb cnt n : Nat} {S : List (List Int)} (h : SetM w mb cnt n S) (hb : Below B w w') (hB : mb < B) : SetM w' mb cnt n S := by
 obtain ⟨D, ⟨es, clock, hh, r⟩, h2⟩ := h
 exact ⟨D, ⟨es, clock, (hb.block mb hB).trans hh, r⟩, h2⟩
theorem SetM.lt {w : World} {mb cnt n : Nat} {S : List (List Int)} (h : SetM w mb cnt n S) : mb < w.heap.size := by
 obtain ⟨es, clock, hh⟩ := h.mapB
 exact (Array.getElem?_eq_some_iff.1 hh).1
theorem SetM.grown {w w' : World} {mb cnt n : Nat} {S : List (List Int)} {r : Option Nat} (h : SetM w mb cnt n S) (hg : w.grownBy w' r) (hr : some mb ≠ r) : SetM w' mb cnt n S := by
 have hlt := h.lt
 obtain ⟨D, ⟨es, clock, hh, r⟩, h2⟩ := h
 exact ⟨D, ⟨es, clock, (hg.block mb hlt hr).trans hh, r⟩, h2⟩
theorem SetM.look {w : World} {mb cnt n : Nat} {S : List (List Int)} (h : SetM w mb cnt n S) {v : List Int} (hv : domK n 48 v) {c : Bool} (hc : decide (v ∈ S) = c) :
    (Instr.lookup 64 (.map (some mb)) (keyV v) false).run Tryz.prog w = .ok (.bool c) w := by
  obtain ⟨D, h1, h2⟩ := h
  obtain ⟨v', ps, hrun, hv2⟩ := h1.lookup keyLaw Tryz.underlying64 (zeroB w) (plainElem_bool Tryz.underlying4 false) (key_read hv)
  obtain ⟨c', rfl, e⟩ := plainElem_bool_inv Tryz.underlying4 hv2
  rw [h2.at' v hv, (decide_eq_decide.2 Iff.rfl).trans hc] at e
  injection e with e _
  injection e with e
  injection e with e
  subst e
  exact hrun
theorem SetM.put {w : World} {mb cnt n : Nat} {S : List (List Int)} (h : SetM w mb cnt n S) (hn : n ≤ 6) (hcnt : cnt ≤ 1000000000) {v : List Int} (hv : domK n 48 v) (hnew : v ∉ S) :
    ∃ w', (Instr.mapUpdate 64 (.map (some mb)) (keyV v) (.bool true)).run Tryz.prog w = .ok () w' ∧ SetM w' mb (cnt + 1) n (v :: S) ∧ w.grownBy w' (some mb) := by
  obtain ⟨D, h1, h2⟩ := h
  obtain ⟨w', hrun, h3, h4⟩ := h1.update keyLaw Tryz.underlying64 (by simp only [maxLen]; omega) (key_read hv) (plainElem_bool Tryz.underlying4 true)
  exact ⟨w', hrun, ⟨_, h3, h2.put (fun _ _ => kl6_key _) (fun _ _ hu hv => klv_inj hn hu hv) hv hnew⟩, h4⟩
theorem bturn {w w1 w2 : World} {B mb : Nat} (h : Below B w w1) (hm : MapB w1 mb) (hg : w1.grownBy w2 (some mb)) (hB : B ≤ mb) : Below B w w2 :=
  h.grown hg (by have := hm.lt; omega) (fun q hq => by injection hq with hq; omega)
theorem perm_dom {n : Nat} (hn : n ≤ 6) {a : List Int} (h : Perm n a) : domK n 48 a := ⟨h.1, fun x hx => by have := h.2.1 x hx; omega⟩
end Go.Proofs.Tg.Bk
end
