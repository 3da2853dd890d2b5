/- Parts of the proof: SP3, SP4, SM3, WK1, SM4, WK2, WS1. -/
import Derived.ChangeKeys
import Derived.Maps.OwnOps
import Derived.DeepKeys4
import Derived.Test.YtodapfjmgnekkaaGreatDoorProg
import Derived.WalkKit
import Derived.WalkSpells
import Derived.WalkLawsBesides
import Derived.Deep.QuietTactic
import Derived.BigQuiet
import Derived.Lib.Hide
import Derived.Lib.Strings
import Derived.Lib.IndexBytes
import Derived.Outline
import Derived.Test.YtodapfjmgnekkaaGreatDoorMCSR0
import Derived.Test.YtodapfjmgnekkaaGreatDoorMCSR1
import Derived.Test.YtodapfjmgnekkaaGreatDoorMCSR2
import Derived.Test.YtodapfjmgnekkaaGreatDoorMCSR4
import Derived.Test.YtodapfjmgnekkaaGreatDoorMCSR16
section
/- The rounds that a basis and a set of monomials make: plain. -/
namespace Go.Sp
open Go.Gr Go.Ev Go.Jt
theorem made_r {es : List (Int × Int)} {k : Nat} {ls : List (List Int)} (h : MadeL es k ls) : MadeR (Conn (Rel es)) k ls := by
  induction h with
  | zero => exact .zero
  | skip _ e ih => exact .skip ih e
  | add _ e p q ih => exact .add ih e p q
theorem conn_eqv {n : Nat} {es : List (Int × Int)} (h : valid n es) : Eqv (Conn (Rel es)) :=
  ⟨fun a => Conn.refl a, fun _ _ hc => Conn.symm (rel_sym h) hc, fun _ _ _ h1 h2 => h1.trans h2⟩
theorem conn_mono {es es' : List (Int × Int)} (h : ∀ e ∈ es, e ∈ es') {a b : Nat} (hc : Conn (Rel es) a b) : Conn (Rel es') a b := by
  refine hc (fun x => Conn (Rel es') a x) (Conn.refl a) (fun x y hx hxy => hx.trans (Conn.step ?_))
  obtain ⟨e, he, hh⟩ := (readT_iff _ _ _).1 hxy
  exact (readT_iff _ _ _).2 ⟨e, h e he, hh⟩
/-- There are components. -/
theorem made_ex {n : Nat} {es : List (Int × Int)} (h : valid n es) : ∀ k, k ≤ n → ∃ ls, MadeL es k ls
  | 0, _ => ⟨[], .zero⟩
  | k + 1, hk => by
    obtain ⟨ls, hls⟩ := made_ex h k (by omega)
    by_cases hc : ∃ l ∈ ls, (k : Int) ∈ l
    · exact ⟨ls, .skip hls hc⟩
    · refine ⟨ls ++ [((List.range n).filter fun v => @decide (Conn (Rel es) k v) (Classical.propDecidable _)).map fun v : Nat => (v : Int)], .add hls (fun m hm he => hc ⟨m, hm, he⟩) ?_ ?_⟩
      · rw [List.pairwise_map]
        exact ((List.pairwise_lt_range (n := n)).filter _).imp (fun hab => by omega)
      · intro x
        rw [List.mem_map]
        constructor
        · rintro ⟨v, hv, rfl⟩
          rw [List.mem_filter] at hv
          exact ⟨v, rfl, @of_decide_eq_true _ (Classical.propDecidable _) hv.2⟩
        · rintro ⟨v, rfl, hv⟩
          refine ⟨v, ?_, rfl⟩
          rw [List.mem_filter, List.mem_range]
          exact ⟨conn_lt h (by omega) hv, @decide_eq_true _ (Classical.propDecidable _) hv⟩
/-- The components of the graph of a set of monomials. -/
noncomputable def comps (b S : List (List Int)) : List (List Int) := @dite _ (∃ ls, MadeL (edTo b S b.length) b.length ls) (Classical.propDecidable _) (fun h => h.choose) (fun _ => [])
theorem comps_made {b S : List (List Int)} (h : valid b.length (edTo b S b.length)) : MadeL (edTo b S b.length) b.length (comps b S) := by
  have he := made_ex h b.length (Nat.le_refl _)
  unfold comps
  rw [dif_pos he]
  exact he.choose_spec
theorem edTo_mono {b S S' : List (List Int)} (h : ∀ v ∈ S, v ∈ S') : ∀ e ∈ edTo b S b.length, e ∈ edTo b S' b.length := by
  intro e he
  obtain ⟨i, j, h1, h2, h3, h4⟩ := edTo_mem.1 he
  exact edTo_mem.2 ⟨i, j, h1, h2, h3, h _ h4⟩
/-- The set of monomials behind t rounds. -/
noncomputable def setAt (b S : List (List Int)) : Nat → List (List Int)
  | 0 => S
  | t + 1 => setAt b S t ++ blockAll b (comps b (setAt b S t))
noncomputable def rounds (b S : List (List Int)) (hv : ∀ S', valid b.length (edTo b S' b.length)) : Rounds b.length where
  C t := Conn (Rel (edTo b (setAt b S t) b.length))
  B t := comps b (setAt b S t)
  eqv _ := conn_eqv (hv _)
  mono _ _ _ h := conn_mono (edTo_mono (fun _ hv => List.mem_append_left _ hv)) h
  lt _ _ _ ha h := conn_lt (hv _) ha h
  made _ := made_r (comps_made (hv _))
theorem cmpE_neg {p q : Int × Int} (h : p.1 < q.1 ∨ (p.1 = q.1 ∧ p.2 < q.2)) : cmpE p q < 0 := by
  rcases h with h | ⟨h1, h2⟩
  · have e : cmpI p.1 q.1 = -1 := if_pos h
    unfold cmpE orI
    rw [e, if_neg (by decide)]; decide
  · have e : cmpI p.1 q.1 = 0 := by unfold cmpI; rw [if_neg (by omega), if_neg (by omega)]
    have e2 : cmpI p.2 q.2 = -1 := if_pos h2
    unfold cmpE orI
    rw [e, if_pos rfl, e2]; decide
theorem edTo_asc (b S : List (List Int)) (k : Nat) : (edTo b S k).Pairwise fun p q => p.1 < q.1 ∨ (p.1 = q.1 ∧ p.2 < q.2) := by
  unfold edTo
  rw [List.pairwise_flatMap]
  refine ⟨fun i _ => ?_, ?_⟩
  · unfold edRow
    rw [List.pairwise_map]
    exact ((List.pairwise_lt_range (n := b.length)).filter _).imp (fun hab => .inr ⟨rfl, by omega⟩)
  · refine (List.pairwise_lt_range (n := k)).imp (fun {i i'} hlt x hx y hy => ?_)
    obtain ⟨_, rfl, _⟩ := edRow_mem.1 hx
    obtain ⟨_, rfl, _⟩ := edRow_mem.1 hy
    exact .inl (by simp only; omega)
theorem ed_valid (b S : List (List Int)) (h : b.length ≤ 64) : valid b.length (edTo b S b.length) := by
  refine ⟨by omega, by omega, fun i hi _ => ⟨?_, fun h0 => ?_⟩⟩
  · obtain ⟨x, y, e, h1, h2, _⟩ := edTo_mem.1 (List.getElem_mem hi)
    rw [e]
    exact ⟨by simp only; omega, by simp only; omega, by simp only; omega⟩
  · exact cmpE_neg (List.pairwise_iff_getElem.1 (edTo_asc b S b.length) (i - 1) i (by omega) hi (by omega))
theorem edTo_len (b S : List (List Int)) (k : Nat) : (edTo b S k).length ≤ k * b.length := by
  induction k with
  | zero => simp [edTo]
  | succ k ih =>
    rw [edTo_succ, List.length_append, Nat.succ_mul]
    have : (edRow b S k).length ≤ b.length := by
      unfold edRow
      rw [List.length_map]
      have := List.length_filter_le (fun j => decide (k < j) && decide (addL (b.getD k []) (b.getD j []) ∈ S)) (List.range b.length)
      rwa [List.length_range] at this
    omega
theorem blockAll_mem {b ls : List (List Int)} {v : List Int} : v ∈ blockAll b ls ↔ ∃ l ∈ ls, ∃ x ∈ l, ∃ y ∈ l, v = addL (b.getD x.toNat []) (b.getD y.toNat []) := by
  unfold blockAll
  simp only [List.mem_flatMap, List.mem_map]
  constructor
  · rintro ⟨l, hl, x, hx, y, hy, rfl⟩; exact ⟨l, hl, x, hx, y, hy, rfl⟩
  · rintro ⟨l, hl, x, hx, y, hy, rfl⟩; exact ⟨l, hl, x, hx, y, hy, rfl⟩
theorem setAt_low {b S : List (List Int)} {v : List Int} (h : v ∈ S) : ∀ t, v ∈ setAt b S t
  | 0 => h
  | t + 1 => List.mem_append_left _ (setAt_low h t)
theorem setAt_mem {b S : List (List Int)} {t : Nat} {v : List Int} : v ∈ setAt b S (t + 1) ↔ v ∈ setAt b S t ∨ ∃ l ∈ comps b (setAt b S t), ∃ x ∈ l, ∃ y ∈ l, v = addL (b.getD x.toNat []) (b.getD y.toNat []) := by
  rw [← blockAll_mem]
  exact List.mem_append
/-- The products of an element of a block before position q with one from it on. -/
def InB (b : List (List Int)) (l : List Int) (q : Nat) (v : List Int) : Prop := ∃ a c : Nat, a ≤ c ∧ a < q ∧ c < l.length ∧ v = addL (b.getD (l.getD a 0).toNat []) (b.getD (l.getD c 0).toNat [])
/-- The products of element q with the elements from q on, before position r. -/
def InR (b : List (List Int)) (l : List Int) (q r : Nat) (v : List Int) : Prop := ∃ c : Nat, q ≤ c ∧ c < r ∧ c < l.length ∧ v = addL (b.getD (l.getD q 0).toNat []) (b.getD (l.getD c 0).toNat [])
theorem inB_zero {b : List (List Int)} {l v : List Int} : ¬ InB b l 0 v := fun ⟨_, _, _, h, _⟩ => by omega
theorem inR_low {b : List (List Int)} {l v : List Int} {q : Nat} : ¬ InR b l q q v := fun ⟨_, h1, h2, _⟩ => by omega
theorem inB_succ {b : List (List Int)} {l v : List Int} {q : Nat} : InB b l (q + 1) v ↔ InB b l q v ∨ InR b l q l.length v := by
  constructor
  · rintro ⟨a, c, h1, h2, h3, h4⟩
    by_cases ha : a < q
    · exact .inl ⟨a, c, h1, ha, h3, h4⟩
    · obtain rfl : a = q := by omega
      exact .inr ⟨c, h1, h3, h3, h4⟩
  · rintro (⟨a, c, h1, h2, h3, h4⟩ | ⟨c, h1, h2, h3, h4⟩)
    · exact ⟨a, c, h1, by omega, h3, h4⟩
    · exact ⟨q, c, h1, by omega, h3, h4⟩
theorem inR_succ {b : List (List Int)} {l v : List Int} {q r : Nat} (h : q ≤ r) (hr : r < l.length) : InR b l q (r + 1) v ↔ InR b l q r v ∨ v = addL (b.getD (l.getD q 0).toNat []) (b.getD (l.getD r 0).toNat []) := by
  constructor
  · rintro ⟨c, h1, h2, h3, h4⟩
    by_cases hc : c < r
    · exact .inl ⟨c, h1, hc, h3, h4⟩
    · obtain rfl : c = r := by omega
      exact .inr h4
  · rintro (⟨c, h1, h2, h3, h4⟩ | h4)
    · exact ⟨c, h1, by omega, h3, h4⟩
    · exact ⟨r, h, by omega, hr, h4⟩
theorem inB_full {b : List (List Int)} {l v : List Int} : InB b l l.length v ↔ ∃ x ∈ l, ∃ y ∈ l, v = addL (b.getD x.toNat []) (b.getD y.toNat []) := by
  have hg : ∀ i, i < l.length → l.getD i 0 ∈ l := fun i h => by rw [List.getD_eq_getElem?_getD, List.getElem?_eq_getElem h, Option.getD_some]; exact List.getElem_mem h
  constructor
  · rintro ⟨a, c, h1, h2, h3, h4⟩
    exact ⟨_, hg a h2, _, hg c h3, h4⟩
  · rintro ⟨x, hx, y, hy, rfl⟩
    obtain ⟨a, ha, rfl⟩ := List.getElem_of_mem hx
    obtain ⟨c, hc, rfl⟩ := List.getElem_of_mem hy
    have e1 : l.getD a 0 = l[a] := by simp [ha]
    have e2 : l.getD c 0 = l[c] := by simp [hc]
    by_cases hac : a ≤ c
    · exact ⟨a, c, hac, ha, hc, by rw [e1, e2]⟩
    · exact ⟨c, a, by omega, hc, ha, by rw [e1, e2, addL_comm]⟩
end Go.Sp
end
section
/- The error of a polynomial and a basis; the number of rounds is one; what the reference adds to its set: plain. -/
namespace Go.Sp
open Go.Ev Go.Mo Go.Gr
section
variable {N : Nat} (R : Rounds N)
theorem Rounds.Final.uniq {R : Rounds N} {k m m' : Nat} (h : R.Final k m) (h' : R.Final k m') : m = m' := by
  have p := h.pos
  have p' := h'.pos
  rcases Nat.lt_trichotomy m m' with hlt | he | hlt
  · rcases h.fin with e | e
    · have := h'.le; omega
    · have := h'.fell (m - 1) (by omega)
      rw [show m - 1 + 1 = m by omega] at this
      exact absurd e this
  · exact he
  · rcases h'.fin with e | e
    · have := h.le; omega
    · have := h.fell (m' - 1) (by omega)
      rw [show m' - 1 + 1 = m' by omega] at this
      exact absurd e this
end
/-- The error of a polynomial and a basis. -/
def errS (ok : Bool) (v : Int) (b : List (List Int)) : Int :=
  if ok = true ∧ ∀ m ∈ b, vldM m = true then (if ∀ m ∈ b, (m.length : Int) = v then (if b.length ≤ 64 then (if b.Nodup then 0 else 10) else 2) else 4) else 1
theorem errS_bad {ok : Bool} {v : Int} {b : List (List Int)} (h : ok = false ∨ ∃ m ∈ b, vldM m = false) : errS ok v b = 1 := by
  unfold errS
  rw [if_neg]
  rintro ⟨h1, h2⟩
  rcases h with h | ⟨m, hm, h⟩
  · rw [h] at h1; cases h1
  · rw [h2 m hm] at h; cases h
theorem errS_shape {v : Int} {b : List (List Int)} (h : ∀ m ∈ b, vldM m = true) (h2 : ∃ m ∈ b, (m.length : Int) ≠ v) : errS true v b = 4 := by
  unfold errS
  rw [if_pos ⟨rfl, h⟩, if_neg]
  obtain ⟨m, hm, hne⟩ := h2
  exact fun h => hne (h m hm)
theorem errS_dup {v : Int} {b : List (List Int)} (h : ∀ m ∈ b, vldM m = true) (h2 : ∀ m ∈ b, (m.length : Int) = v) (h3 : b.length ≤ 64) (h4 : ¬ b.Nodup) : errS true v b = 10 := by
  unfold errS
  rw [if_pos ⟨rfl, h⟩, if_pos h2, if_pos h3, if_neg h4]
theorem errS_ok {v : Int} {b : List (List Int)} (h : ∀ m ∈ b, vldM m = true) (h2 : ∀ m ∈ b, (m.length : Int) = v) (h3 : b.length ≤ 64) (h4 : b.Nodup) : errS true v b = 0 := by
  unfold errS
  rw [if_pos ⟨rfl, h⟩, if_pos h2, if_pos h3, if_pos h4]
theorem errS_zero {ok : Bool} {v : Int} {b : List (List Int)} (h : errS ok v b = 0) : ok = true ∧ (∀ m ∈ b, vldM m = true) ∧ (∀ m ∈ b, (m.length : Int) = v) ∧ b.length ≤ 64 ∧ b.Nodup := by
  unfold errS at h
  split at h
  · rename_i h1
    split at h
    · rename_i h2
      split at h
      · rename_i h3
        split at h
        · rename_i h4
          exact ⟨h1.1, h1.2, h2, h3, h4⟩
        · cases h
      · cases h
    · cases h
  · cases h
/-- The monomials that are known before the first round. -/
def S0 (es b : List (List Int)) : List (List Int) := es ++ b.map fun m => addL m m
/-- A key that may be asked: a monomial in n variables. -/
def domK (n : Nat) (c : Int) (v : List Int) : Prop := v.length = n ∧ ∀ x ∈ v, 0 ≤ x ∧ x ≤ c
theorem addL_dom {n : Nat} {c : Int} {a b : List Int} (ha : domK n c a) (hb : domK n c b) : domK n (2 * c) (addL a b) := by
  refine ⟨?_, addL_bound ha.2 hb.2⟩
  unfold addL
  rw [List.length_zipWith, ha.1, hb.1, Nat.min_self]
theorem domK.mono {n : Nat} {c d : Int} {v : List Int} (h : domK n c v) (hcd : c ≤ d) : domK n d v := ⟨h.1, fun x hx => ⟨(h.2 x hx).1, by have := (h.2 x hx).2; omega⟩⟩
theorem vld_dom {m : List Int} (h : vldM m = true) : domK m.length 24 m := by
  have h := vldM_iff.1 h
  refine ⟨rfl, fun x hx => ⟨h.2.1 x hx, ?_⟩⟩
  have : ∀ (l : List Int), (∀ e ∈ l, 0 ≤ e) → x ∈ l → x ≤ l.sum ∧ 0 ≤ l.sum := by
    intro l
    induction l with
    | nil => intro _ h; cases h
    | cons y l ih =>
      intro h0 hx
      have h1 : 0 ≤ l.sum := by
        have : ∀ l : List Int, (∀ e ∈ l, 0 ≤ e) → 0 ≤ l.sum := by
          intro l
          induction l with
          | nil => intro _; simp
          | cons z l ih => intro h; rw [List.sum_cons]; have := h z (by simp); have := ih (fun e he => h e (by simp [he])); omega
        exact this l (fun e he => h0 e (by simp [he]))
      have hy := h0 y (by simp)
      rw [List.sum_cons]
      rcases List.mem_cons.1 hx with rfl | hx
      · omega
      · have := ih (fun e he => h0 e (by simp [he])) hx; omega
  have := (this m h.2.1 hx).1
  omega
/-- The products of a block's monomials, each two different ones, in the order of the reference; the list grows by those it lacks. -/
def addNew (s : List (List Int)) (v : List Int) : List (List Int) := if v ∈ s then s else s ++ [v]
theorem addNew_mem {s : List (List Int)} {v x : List Int} : x ∈ addNew s v ↔ x ∈ s ∨ x = v := by
  unfold addNew
  split
  · constructor
    · exact .inl
    · rintro (h | rfl)
      · exact h
      · assumption
  · simp
end Go.Sp
end
section
/- Different monomials have different keys. -/
namespace Go.Proofs.Tg
open Go.RowKit Go.Maps Go.WideShapes Go.Sp
theorem kl6_key (l : List Int) : WideAt.IsKeyLit (kl6 l) := trivial
theorem alike_ints : ∀ (l m : List Int), l.length = m.length → Go.Alike (l.map fun x => Lit.int .i64 x) (m.map fun x => Lit.int .i64 x)
  | [], [], _ => trivial
  | [], _ :: _, h => by simp at h
  | _ :: _, [], h => by simp at h
  | x :: l, y :: m, h => ⟨rfl, alike_ints l m (by simpa using h)⟩
theorem kl6_inj {l m : List Int} (h : l.length = m.length) (hl : ∀ x ∈ l, -1000000 ≤ x ∧ x ≤ 1000000) (hm : ∀ x ∈ m, -1000000 ≤ x ∧ x ≤ 1000000) (e : kl6 l = kl6 m) : l = m := by
  unfold kl6 at e
  injection e with e
  have := Go.keyBytes_inj (alike_ints l m h) (fun a ha => by obtain ⟨x, hx, rfl⟩ := List.mem_map.1 ha; exact wf_small (hl x hx)) (fun a ha => by obtain ⟨x, hx, rfl⟩ := List.mem_map.1 ha; exact wf_small (hm x hx)) e
  have inj : ∀ (l m : List Int), (l.map fun x => Lit.int .i64 x) = (m.map fun x => Lit.int .i64 x) → l = m := by
    intro l
    induction l with
    | nil => intro m h; cases m with
      | nil => rfl
      | cons _ _ => simp at h
    | cons x l ih => intro m h; cases m with
      | nil => simp at h
      | cons y m =>
        simp only [List.map_cons, List.cons.injEq] at h
        obtain ⟨h1, h2⟩ := h
        injection h1 with _ h1
        rw [h1, ih m h2]
  exact inj l m this
theorem kv_dom {n : Nat} {v : List Int} (h : domK n 48 v) : ∀ x ∈ kv v, -1000000 ≤ x ∧ x ≤ 1000000 := fun x hx => by
  have := kv_bound (by omega) h.2 x hx
  omega
theorem klv_inj {n : Nat} (hn : n ≤ 6) {u v : List Int} (hu : domK n 48 u) (hv : domK n 48 v) (e : kl6 (kv u) = kl6 (kv v)) : u = v :=
  kv_inj (by rw [hu.1, hv.1]) (by rw [hu.1]; exact hn) (kl6_inj (by rw [kv_len, kv_len]) (kv_dom hu) (kv_dom hv) e)
end Go.Proofs.Tg
end
section
/- The keys of monomials: the program's keyOf and product. -/
namespace Go.Proofs.Tg
open Go.RowKit Go.Gr Go.Sp Go.Ev
set_option maxHeartbeats 4000000
set_option maxRecDepth 100000
theorem Blk.six {w : World} {g : Nat} {t : TypeId} {a0 a1 a2 a3 a4 a5 : Value} (h : Blk w g t #[a0, a1, a2, a3, a4, a5]) :
    (w.cell? ⟨g, 0, none⟩ = some a0 ∧ w.cell? ⟨g, 1, none⟩ = some a1 ∧ w.cell? ⟨g, 2, none⟩ = some a2 ∧ w.cell? ⟨g, 3, none⟩ = some a3 ∧ w.cell? ⟨g, 4, none⟩ = some a4 ∧ w.cell? ⟨g, 5, none⟩ = some a5) ∧
    (w.frozen? ⟨g, 0, none⟩ = false ∧ w.frozen? ⟨g, 1, none⟩ = false ∧ w.frozen? ⟨g, 2, none⟩ = false ∧ w.frozen? ⟨g, 3, none⟩ = false ∧ w.frozen? ⟨g, 4, none⟩ = false ∧ w.frozen? ⟨g, 5, none⟩ = false) :=
  ⟨⟨h.cell 0, h.cell 1, h.cell 2, h.cell 3, h.cell 4, h.cell 5⟩, h.frozen 0, h.frozen 1, h.frozen 2, h.frozen 3, h.frozen 4, h.frozen 5⟩
theorem below_six {w w' : World} {B g : Nat} (h : Below B w w') (hg : B ≤ g) (a0 a1 a2 a3 a4 a5 : Value) :
    Below B w ((((((w'.setCell ⟨g, 0, none⟩ a0).setCell ⟨g, 1, none⟩ a1).setCell ⟨g, 2, none⟩ a2).setCell ⟨g, 3, none⟩ a3).setCell ⟨g, 4, none⟩ a4).setCell ⟨g, 5, none⟩ a5) :=
  below_far (below_far (below_far (below_far (below_far (below_far h hg _ _) hg _ _) hg _ _) hg _ _) hg _ _) hg _ _
/-- The value of a key. -/
def keyV (el : List Int) : Value := .agg ((kv el).map vi).toArray
def z6 : Array Value := #[.int .i64 0, .int .i64 0, .int .i64 0, .int .i64 0, .int .i64 0, .int .i64 0]
theorem keyV_eq (el : List Int) : keyV el = .agg #[.int .i64 (el.getD 0 0), .int .i64 (el.getD 1 0), .int .i64 (el.getD 2 0), .int .i64 (el.getD 3 0), .int .i64 (el.getD 4 0), .int .i64 (el.getD 5 0)] := rfl
theorem keyOf_any (A : Option Addr) (c : Nat) (el : List Int) (w : World) (hA : Ints w A el) (hl : el.length ≤ 6) :
    Calls Tryz.prog 56 #[.slice A el.length c] w fun e w' => e = .returned (keyV el) ∧ Below w.heap.size w w' := by
  have HK := Lib.hid (keyV_eq el)
  generalize keyV el = kk at *
  obtain ⟨W, hW⟩ : ∃ W, (w.alloc (.cells z6 105)).alloc (.cells z6 105) = W := ⟨_, rfl⟩
  have B2 : Blk W w.heap.size 105 z6 := by rw [← hW]; exact (Blk.new _ _ _).alloc _
  have B3 : Blk W (w.heap.size + 1) 105 z6 := by rw [← hW]; have := Blk.new (w.alloc (.cells z6 105)) 105 z6; simpa using this
  have hbW : Below w.heap.size w W := by rw [← hW]; exact ((Below.refl _ _).alloc (Nat.le_refl _) _).alloc (by simp) _
  have hAW := Sl.keep hA hbW
  have HWW := Lib.hid hW
  clear hW hA
  go_enter Tryz.func56, Tryz.ntmps56
  go_upto_region 2 with (fail)
  have hh := HWW.out
  unfold z6 at hh
  rw [hh]
  clear hh
  go_wp2_with (first
    | (refine wpList_copy6 rfl _ _ rfl (w.heap.size + 1) 105 A c el [] rfl rfl hAW hl B3 ?_
       intro W' E3 hbut
       have E2 := hbut.blk _ _ _ (by omega) B2
       have hb' := hbut.below _ _ hbW (by omega)
       obtain ⟨⟨a0, a1, a2, a3, a4, a5⟩, f0, f1, f2, f3, f4, f5⟩ := Blk.six E2
       obtain ⟨⟨j0, j1, j2, j3, j4, j5⟩, k0, k1, k2, k3, k4, k5⟩ := Blk.six E3
       have hz := E2.lt
       clear B2 B3 E2 E3 hbut hAW
       generalize el.getD 0 0 = v0 at *
       generalize el.getD 1 0 = v1 at *
       generalize el.getD 2 0 = v2 at *
       generalize el.getD 3 0 = v3 at *
       generalize el.getD 4 0 = v4 at *
       generalize el.getD 5 0 = v5 at *))
  refine bodyPost_ret (v := .agg #[.int .i64 v0, .int .i64 v1, .int .i64 v2, .int .i64 v3, .int .i64 v4, .int .i64 v5]) (by simp [results, Tryz.results56, go_sem, a0, a1, a2, a3, a4, a5]) rfl ⟨by rw [HK.out], ?_⟩
  exact below_six hb' (by omega) _ _ _ _ _ _
theorem kv_take_set {s : List Int} {k : Nat} (hk : k < s.length) : (kv (s.take k)).set k s[k] = kv (s.take (k + 1)) := by
  refine List.ext_getElem (by rw [List.length_set, kv_len, kv_len]) fun i h1 h2 => ?_
  rw [List.length_set, kv_len] at h1
  have e : ∀ m : List Int, (kv m)[i]'(by rw [kv_len]; exact h1) = m.getD i 0 := fun m => by
    have := kv_at m h1
    rw [List.getElem?_eq_getElem (by rw [kv_len]; exact h1)] at this
    injection this
  rw [e, List.getElem_set, e]
  by_cases hik : k = i
  · subst hik
    rw [if_pos rfl, List.getD_eq_getElem?_getD, List.getElem?_take, if_pos (by omega), List.getElem?_eq_getElem hk, Option.getD_some]
  · rw [if_neg hik, List.getD_eq_getElem?_getD, List.getD_eq_getElem?_getD, List.getElem?_take, List.getElem?_take]
    by_cases hlt : i < k
    · rw [if_pos hlt, if_pos (by omega)]
    · rw [if_neg hlt, if_neg (by omega)]
theorem product_any (A B : Option Addr) (c d n : Nat) (a b : List Int) (w : World) (hA : Ints w A a) (hB : Ints w B b) (ha : domK n 24 a) (hb : domK n 24 b) (hn : n ≤ 6) :
    Calls Tryz.prog 68 #[.slice A a.length c, .slice B b.length d] w fun e w' => e = .returned (keyV (addL a b)) ∧ Below w.heap.size w w' := by
  have HA := Lib.hid ha
  have HB := Lib.hid hb
  have HSL : Hid ((addL a b).length = n) := Lib.hid (addL_dom ha hb).1
  have HSA : Hid (∀ k (h1 : k < a.length) (h2 : k < b.length) (h3 : k < (addL a b).length), (addL a b)[k] = a[k] + b[k]) := Lib.hid (fun k h1 h2 h3 => by simp [addL])
  clear ha hb
  generalize addL a b = s at *
  obtain ⟨W, hW⟩ : ∃ W, (w.alloc (.cells z6 105)).alloc (.cells z6 105) = W := ⟨_, rfl⟩
  have B2 : Blk W w.heap.size 105 z6 := by rw [← hW]; exact (Blk.new _ _ _).alloc _
  have B3 : Blk W (w.heap.size + 1) 105 z6 := by rw [← hW]; have := Blk.new (w.alloc (.cells z6 105)) 105 z6; simpa using this
  have hbW : Below w.heap.size w W := by rw [← hW]; exact ((Below.refl _ _).alloc (Nat.le_refl _) _).alloc (by simp) _
  have hAW := Sl.keep hA hbW
  have hBW := Sl.keep hB hbW
  have HOA : Hid (Off A a.length (w.heap.size + 1)) := Lib.hid (Sl.off_new hA (by omega))
  have HOB : Hid (Off B b.length (w.heap.size + 1)) := Lib.hid (Sl.off_new hB (by omega))
  have HWW := Lib.hid hW
  clear hW hA hB
  go_enter Tryz.func68, Tryz.ntmps68
  go_upto_region 2 with (fail)
  have hh := HWW.out
  unfold z6 at hh
  rw [hh]
  clear hh
  go_wp2
  go_loopw [9] (fun i wr => ∃ k : Nat, k ≤ n ∧ i = .int .i64 k ∧ Blk wr w.heap.size 105 z6 ∧ Blk wr (w.heap.size + 1) 105 (iarr (kv (s.take k))) ∧ Below w.heap.size w wr ∧ Ints wr A a ∧ Ints wr B b) (fun i _ => n - (intOf i).toNat)
  case atStart => exact ⟨0, Nat.zero_le _, rfl, B2, B3, hbW, hAW, hBW⟩
  case round =>
    obtain ⟨wo, rfl⟩ : ∃ wo : World, wo = wr := ⟨_, rfl⟩
    obtain ⟨k, hk, rfl, C2, C3, hbr, hIA, hIB⟩ := hrel
    clear B2 B3 hbW hAW hBW
    by_cases hlt : k < n
    · have hka : k < a.length := by rw [HA.out.1]; exact hlt
      have hkb : k < b.length := by rw [HB.out.1]; exact hlt
      have hks : k < s.length := by rw [HSL.out]; exact hlt
      obtain ⟨ad, rfl, hca⟩ := Ints.at hIA hka
      obtain ⟨bd, rfl, hcb⟩ := Ints.at hIB hkb
      have hx := HA.out.2 a[k] (List.getElem_mem _)
      have hy := HB.out.2 b[k] (List.getElem_mem _)
      have HST : Hid ((kv (s.take k)).set k (a[k] + b[k]) = kv (s.take (k + 1))) := Lib.hid (by rw [← HSA.out k hka hkb hks]; exact kv_take_set hks)
      have c0 := C3.cell k
      have f0 := C3.frozen k
      rw [iarr_at _ (by rw [kv_len]; omega)] at c0
      generalize (kv (s.take k))[k]'(by rw [kv_len]; omega) = old at c0
      have HC3 := Lib.hid C3
      have HIA := Lib.hid hIA
      have HIB := Lib.hid hIB
      generalize b[k] = y at *
      generalize a[k] = x at *
      have hal : a.length = n := HA.out.1
      have hbl : b.length = n := HB.out.1
      have q0 : (0 : Int) ≤ (k : Int) := by omega
      have q1 : (k : Int) < (a.length : Int) := by omega
      have q2 : (k : Int) < (b.length : Int) := by omega
      have q4 : (k : Int) < 6 := by omega
      have q3 : ((k : Int)).toNat = k := by omega
      have w1 : IntKind.i64.wrap (x + y) = x + y := IntWalk.i64_in _ (by omega)
      have HAL := Lib.hid hal
      have HBL := Lib.hid hbl
      clear C3 hIA hIB hal hbl hx hy
      go_wp2
      go_region
      go_wp2
      go_roundw
      case rel =>
        refine ⟨k + 1, by omega, by go_num, (C2.far (by simp) _).drew, ?_, (below_far hbr (by omega) _ _).drew, (HIA.out.far HOA.out _ _).drewN 1, (HIB.out.far HOB.out _ _).drewN 1⟩
        have := HC3.out.set k (.int .i64 (x + y))
        rw [iarr_set, HST.out] at this
        exact this.drew
      case measure => simp [intOf]; omega
    · obtain rfl : k = n := by omega
      have hsl := HSL.out
      rw [List.take_of_length_le (by omega)] at C3
      have HK := Lib.hid (keyV_eq s)
      have C3' : Blk wo (w.heap.size + 1) 105 #[.int .i64 (s.getD 0 0), .int .i64 (s.getD 1 0), .int .i64 (s.getD 2 0), .int .i64 (s.getD 3 0), .int .i64 (s.getD 4 0), .int .i64 (s.getD 5 0)] := C3
      obtain ⟨⟨a0, a1, a2, a3, a4, a5⟩, f0, f1, f2, f3, f4, f5⟩ := Blk.six C2
      obtain ⟨⟨j0, j1, j2, j3, j4, j5⟩, k0, k1, k2, k3, k4, k5⟩ := Blk.six C3'
      have hz := C2.lt
      have hal : a.length = k := HA.out.1
      have HAL := Lib.hid hal
      have dd : decide ((k : Int) < (a.length : Int)) = false := decide_eq_false (by omega)
      have dd' : decide (k < a.length) = false := decide_eq_false (by omega)
      clear hsl C2 C3 C3' hal
      generalize s.getD 0 0 = v0 at *
      generalize s.getD 1 0 = v1 at *
      generalize s.getD 2 0 = v2 at *
      generalize s.getD 3 0 = v3 at *
      generalize s.getD 4 0 = v4 at *
      generalize s.getD 5 0 = v5 at *
      go_wp2
      refine bodyPost_ret (v := .agg #[.int .i64 v0, .int .i64 v1, .int .i64 v2, .int .i64 v3, .int .i64 v4, .int .i64 v5]) (by simp [results, Tryz.results68, go_sem, a0, a1, a2, a3, a4, a5]) rfl ⟨by rw [HK.out], ?_⟩
      exact below_six hbr (by omega) _ _ _ _ _ _
end Go.Proofs.Tg
end
section
/- What stays where a map's block alone has turned. -/
namespace Go.Proofs.Tg
open Go.RowKit Go.Maps
/-- Block b is a map's. -/
def MapB (w : World) (b : Nat) : Prop := ∃ es clock, w.heap[b]? = some (.map es clock)
theorem mapB_own {w : World} {P : Program} {k : TypeId} {R : Value → Option (DataW Unit × List MemPlace)} {b n : Nat} {D : DataW Unit} (h : w.ownsMap P k R b n D) : MapB w b := by
  obtain ⟨es, clock, hb, _⟩ := h
  exact ⟨es, clock, hb⟩
theorem MapB.lt {w : World} {b : Nat} (h : MapB w b) : b < w.heap.size := by
  obtain ⟨es, clock, hb⟩ := h
  exact (Array.getElem?_eq_some_iff.1 hb).1
theorem cell_map {w : World} {b : Nat} (h : MapB w b) {p : Addr} (hp : p.block = b) : w.cell? p = none := by
  obtain ⟨es, clock, hb⟩ := h
  unfold World.cell?
  rw [hp, hb]
theorem cell_turn {w w' : World} {b : Nat} (hm : MapB w b) (hg : w.grownBy w' (some b)) {p : Addr} {v : Value} (h : w.cell? p = some v) : w'.cell? p = some v := by
  have hne : p.block ≠ b := fun e => by rw [cell_map hm e] at h; cases h
  have hl := World.block_lt_of_cell? w p h
  have := hg.block p.block hl (by simp; exact hne)
  unfold World.cell? at h ⊢
  rw [this]
  exact h
theorem Sl.turn {w w' : World} {b : Nat} {A : Option Addr} {n sz : Nat} {xs : List Value} (h : Sl w A n sz xs) (hm : MapB w b) (hg : w.grownBy w' (some b)) : Sl w' A n sz xs :=
  ⟨h.len, fun hn => by
    obtain ⟨ad, e, hl, ha⟩ := h.lies hn
    exact ⟨ad, e, Nat.lt_of_lt_of_le hl hg.size, fun j u hu => cell_turn hm hg (ha j u hu)⟩⟩
theorem Lists.turn {w w' : World} {b : Nat} {V : Option Addr} {ls : List (List Int)} (h : Lists w V ls) (hm : MapB w b) (hg : w.grownBy w' (some b)) : Lists w' V ls := by
  obtain ⟨f, hs, hr⟩ := h
  exact ⟨f, hs.turn hm hg, fun i hi => (hr i hi).turn hm hg⟩
theorem TermsAt.turn {w w' : World} {b : Nat} {T : Option Addr} {tv : List TV} (h : TermsAt w T tv) (hm : MapB w b) (hg : w.grownBy w' (some b)) : TermsAt w' T tv :=
  ⟨h.sl.turn hm hg, fun t ht => (h.ints t ht).turn hm hg⟩
theorem Blk.turn {w w' : World} {b g : Nat} {t : TypeId} {cs : Array Value} (h : Blk w g t cs) (hm : MapB w b) (hg : w.grownBy w' (some b)) : Blk w' g t cs := by
  refine (hg.block g h.lt ?_).trans h
  intro e
  obtain ⟨es, clock, hb⟩ := hm
  have : g = b := by simpa using e
  subst this
  unfold Blk at h
  rw [hb] at h
  cases h
theorem MapB.turn {w' : World} {b : Nat} {P : Program} {k : TypeId} {R : Value → Option (DataW Unit × List MemPlace)} {n : Nat} {D : DataW Unit} (h : w'.ownsMap P k R b n D) : MapB w' b := mapB_own h
end Go.Proofs.Tg
end
section
/- The program's maps from keys to bools, as sets of monomials. -/
namespace Go.Proofs.Tg
open Go.RowKit Go.Gr Go.Sp Go.Ev Go.Maps Go.WideShapes
set_option maxHeartbeats 4000000
set_option maxRecDepth 100000
theorem laidOutK : laidOutB Tryz.prog = true := by kernel_rfl
theorem keyLaw : Keyed Tryz.prog 105 :=
  Keyed.of_law (deep_law_laid laidOutK (m := 6) (by decide) (of_decide_eq_true (by kernel_rfl)) (by kernel_rfl) (by kernel_rfl))
theorem key_read {n : Nat} {el : List Int} (h : domK n 48 el) : keyOf Tryz.prog 105 (keyV el) = some (kl6 (kv el)) :=
  keyOf_six (I := 3) (s := Tryz.prog.types.size - 1) Tryz.underlying105 Tryz.underlying3 (by kernel_rfl) (by kernel_rfl) (by kernel_rfl) (by kernel_rfl) (kv el) (kv_len el) (kv_dom h)
theorem zeroB (w : World) : (zeroValue 4).run Tryz.prog w = .ok (.bool false) w := by kernel_rfl
/-- Block mb is a map that holds true at just the monomials of S, among those in n variables. -/
def SetM (w : World) (mb cnt n : Nat) (S : List (List Int)) : Prop :=
  ∃ D : DataW Unit, w.ownsMap Tryz.prog 105 (plainElem Tryz.prog 4) mb cnt D ∧ SetOK (fun v => kl6 (kv v)) (domK n 48) S D
theorem SetM.mapB {w : World} {mb cnt n : Nat} {S : List (List Int)} (h : SetM w mb cnt n S) : MapB w mb := by
  obtain ⟨D, h, _⟩ := h
  exact mapB_own h
theorem SetM.made (w : World) (n : Nat) : SetM (w.alloc (.map #[] 0)) w.heap.size 0 n [] := ⟨_, World.ownsMap_made _ _ _ _, SetOK.nil _ _⟩
theorem SetM.below {w w' : World} {B mb cnt n : Nat} {S : List (List Int)} (h : SetM w mb cnt n S) (hb : Below B w w') (hB : mb < B) : SetM w' mb cnt n S := by
  obtain ⟨D, ⟨es, clock, hh, r⟩, h2⟩ := h
  exact ⟨D, ⟨es, clock, (hb.block mb hB).trans hh, r⟩, h2⟩
theorem SetM.drew {w : World} {mb cnt n : Nat} {S : List (List Int)} (h : SetM w mb cnt n S) : SetM w.drew mb cnt n S := h
theorem SetM.congr {w : World} {mb cnt n : Nat} {S S' : List (List Int)} (h : SetM w mb cnt n S) (hs : ∀ v, v ∈ S ↔ v ∈ S') : SetM w mb cnt n S' := by
  obtain ⟨D, h1, h2⟩ := h
  exact ⟨D, h1, h2.congr (fun v _ => hs v)⟩
theorem SetM.mono {w : World} {mb cnt cnt' n : Nat} {S : List (List Int)} (h : SetM w mb cnt n S) (hc : cnt ≤ cnt') : SetM w mb cnt' n S := by
  obtain ⟨D, h1, h2⟩ := h
  exact ⟨D, h1.mono hc, h2⟩
theorem SetM.look {w : World} {mb cnt n : Nat} {S : List (List Int)} (h : SetM w mb cnt n S) {v : List Int} (hv : domK n 48 v) {c : Bool} (hc : decide (v ∈ S) = c) :
    (Instr.lookup 118 (.map (some mb)) (keyV v) false).run Tryz.prog w = .ok (.bool c) w := by
  obtain ⟨D, h1, h2⟩ := h
  obtain ⟨v', ps, hrun, hv2⟩ := h1.lookup keyLaw Tryz.underlying118 (zeroB w) (plainElem_bool Tryz.underlying4 false) (key_read hv)
  obtain ⟨c', rfl, e⟩ := plainElem_bool_inv Tryz.underlying4 hv2
  rw [h2.at' v hv, (decide_eq_decide.2 Iff.rfl).trans hc] at e
  injection e with e _
  injection e with e
  injection e with e
  subst e
  exact hrun
theorem SetM.put {w : World} {mb cnt n : Nat} {S : List (List Int)} (h : SetM w mb cnt n S) (hn : n ≤ 6) (hcnt : cnt ≤ 1000000000) {v : List Int} (hv : domK n 48 v) :
    ∃ w', (Instr.mapUpdate 118 (.map (some mb)) (keyV v) (.bool true)).run Tryz.prog w = .ok () w' ∧ SetM w' mb (cnt + 1) n (v :: S) ∧ w.grownBy w' (some mb) := by
  obtain ⟨D, h1, h2⟩ := h
  obtain ⟨w', hrun, h3, h4⟩ := h1.update keyLaw Tryz.underlying118 (by simp only [maxLen]; omega) (key_read hv) (plainElem_bool Tryz.underlying4 true)
  exact ⟨w', hrun, ⟨_, h3, h2.put (fun _ _ => kl6_key _) (fun _ _ hu hv => klv_inj hn hu hv) hv⟩, h4⟩
end Go.Proofs.Tg
end
section
/- Walks: cutting a sign and digits off a text. -/
namespace Go.Proofs.Tg
open Go.RowKit Go.Qn
set_option maxHeartbeats 400000
def bs (l : List UInt8) : ByteArray := ⟨l.toArray⟩
theorem bs_self (s : ByteArray) : bs s.data.toList = s := by cases s; rfl
theorem bs_data (l : List UInt8) : (bs l).data.toList = l := rfl
theorem bs_size (l : List UInt8) : (bs l).size = l.length := by show l.toArray.size = _; simp
theorem ext_bs (s : ByteArray) (a b : Nat) : s.extract a b = bs ((s.data.toList.drop a).take (b - a)) := by rw [← bs_self (s.extract a b), Lib.extract_data]
theorem ext_end (s : ByteArray) (a : Nat) : s.extract a s.size = bs (s.data.toList.drop a) := by rw [← bs_self (s.extract a s.size), Lib.extract_to_end]
theorem len_size (s : ByteArray) : s.data.toList.length = s.size := by rw [Array.length_toList]; rfl
theorem hasp_any (s : ByteArray) (w : World) (hs : s.size ≤ 64) :
    Calls Tryz.prog 173 #[.string s, .string ⟨#[45]⟩] w fun e w' => e = .returned (.bool (decide (s.data.toList.head? = some 45))) ∧ w = w' := by
  go_enter Tryz.func173, Tryz.ntmps173
  go_wp2
  · have h1 : 1 ≤ (s.size : Int) := by assumption
    go_ret
    refine ⟨?_, rfl⟩
    show Ending.returned (.bool ((s.extract 0 1).toList == [45])) = _
    rw [Lib.toList_data, Lib.extract_data]
    have hl := len_size s
    congr 2
    cases hd : s.data.toList with
    | nil => rw [hd] at hl; simp at hl; omega
    | cons c t => by_cases hc : c = 45 <;> simp [hc]
  · have h1 : (s.size : Int) < 1 := by assumption
    go_ret
    refine ⟨?_, rfl⟩
    have hl := len_size s
    have : s.data.toList = [] := List.eq_nil_of_length_eq_zero (by omega)
    rw [this]; rfl
theorem hasp_t (s : ByteArray) (w : World) (hs : s.size ≤ 64) (h : s.data.toList.head? = some 45) :
    Calls Tryz.prog 173 #[.string s, .string ⟨#[45]⟩] w fun e w' => e = .returned (.bool true) ∧ w = w' :=
  (hasp_any s w hs).mono fun e w' ⟨h1, h2⟩ => ⟨by rw [h1, decide_eq_true h], h2⟩
theorem hasp_f (s : ByteArray) (w : World) (hs : s.size ≤ 64) (h : s.data.toList.head? ≠ some 45) :
    Calls Tryz.prog 173 #[.string s, .string ⟨#[45]⟩] w fun e w' => e = .returned (.bool false) ∧ w = w' :=
  (hasp_any s w hs).mono fun e w' ⟨h1, h2⟩ => ⟨by rw [h1, decide_eq_false h], h2⟩
theorem cutl_any (s : ByteArray) (w : World) (hs : s.size ≤ 64) :
    Calls Tryz.prog 161 #[.string s, .string ⟨#[45]⟩] w fun e w' => e = .returned (.tuple #[.string (bs (cut s.data.toList).2), .bool (cut s.data.toList).1]) ∧ w = w' := by
  by_cases h : s.data.toList.head? = some 45
  · have h1 : 1 ≤ (s.size : Int) := by
      have hl := len_size s
      cases hd : s.data.toList with
      | nil => rw [hd] at h; cases h
      | cons c t => rw [hd] at hl; simp at hl; omega
    have H := Lib.hid h
    clear h
    go_enter Tryz.func161, Tryz.ntmps161
    go_wp2_with (go_at_call 173; refine (hasp_t _ _ hs H.out).mono ?_; rintro e w' ⟨rfl, rfl⟩)
    go_ret2
    refine ⟨?_, rfl⟩
    have H := H.out
    show Ending.returned (.tuple #[.string (s.extract 1 s.size), .bool true]) = _
    rw [ext_end]
    unfold cut
    rw [if_pos H]; simp
  · have H := Lib.hid h
    clear h
    go_enter Tryz.func161, Tryz.ntmps161
    go_wp2_with (go_at_call 173; refine (hasp_f _ _ hs H.out).mono ?_; rintro e w' ⟨rfl, rfl⟩)
    go_ret2
    refine ⟨?_, rfl⟩
    have H := H.out
    show Ending.returned (.tuple #[.string s, .bool false]) = _
    unfold cut
    rw [if_neg H, bs_self]
theorem cutp_any (s : ByteArray) (w : World) (hs : s.size ≤ 64) :
    Calls Tryz.prog 156 #[.string s, .string ⟨#[45]⟩] w fun e w' => e = .returned (.tuple #[.string (bs (cut s.data.toList).2), .bool (cut s.data.toList).1]) ∧ w = w' := by
  go_enter Tryz.func156, Tryz.ntmps156
  go_wp2_with (go_at_call 161; refine (cutl_any _ _ hs).mono ?_; rintro e w' ⟨rfl, rfl⟩)
  go_ret2
  exact ⟨rfl, rfl⟩
theorem tw_at {p : UInt8 → Bool} (l : List UInt8) (k : Nat) (h : ∀ c ∈ l.take k, p c = true) (hx : l.length ≤ k ∨ ∃ h : k < l.length, p l[k] = false) : l.takeWhile p = l.take k ∧ l.dropWhile p = l.drop k := by
  have := tw_app (p := p) (l.take k) (l.drop k) h (by
    rcases hx with hx | ⟨hk, hx⟩
    · left; rw [List.drop_eq_nil_iff]; exact hx
    · right; exact ⟨l[k], l.drop (k + 1), by rw [List.drop_eq_getElem_cons hk], hx⟩)
  rwa [List.take_append_drop] at this
theorem isD_int {c : UInt8} (h : isD c = true) : (48 : Int) ≤ (c.toNat : Int) ∧ (c.toNat : Int) ≤ 57 := by rw [isD_iff] at h; omega
set_option maxHeartbeats 1000000 in
theorem digits_any (s : ByteArray) (w : World) (hs : s.size ≤ 64) :
    Calls Tryz.prog 157 #[.string s] w fun e w' => e = .returned (.tuple #[.string (bs (s.data.toList.takeWhile isD)), .string (bs (s.data.toList.dropWhile isD))]) ∧ Below w.heap.size w w' := by
  go_enter Tryz.func157, Tryz.ntmps157
  go_wp2
  go_loop [4] (fun i => ∃ k : Nat, k ≤ s.size ∧ i = .int .i64 k ∧ Hid (∀ c ∈ s.data.toList.take k, isD c = true)) (fun i => s.size - (intOf i).toNat)
  case atStart => exact ⟨0, Nat.zero_le _, rfl, Lib.hid (by simp)⟩
  case round =>
    obtain ⟨k, hk, rfl, HD⟩ := hrel
    have hl := Lib.hid (len_size s)
    by_cases hlt : k < s.size
    · by_cases hc : isD s[k] = true
      · obtain ⟨c1, c2⟩ := isD_int hc
        have d1 : decide ((48 : Int) ≤ (s[k].toNat : Int)) = true := by simpa using c1
        have d2 : decide ((s[k].toNat : Int) ≤ 57) = true := by simpa using c2
        have HD' : Hid (∀ c ∈ s.data.toList.take (k + 1), isD c = true) := Lib.hid (by
          intro c hc'
          rw [List.take_succ_eq_append_getElem (by rw [hl.out]; exact hlt)] at hc'
          rcases List.mem_append.1 hc' with h | h
          · exact HD.out c h
          · simp only [List.mem_cons, List.not_mem_nil, or_false] at h
            rw [h]; exact hc)
        clear hc
        go_wp2
        go_round
        case rel => exact ⟨k + 1, by omega, by go_num, HD'⟩
        case measure => simp [intOf]; omega
      · have hx : (s[k].toNat : Int) < 48 ∨ 57 < (s[k].toNat : Int) := by
          rw [isD_iff] at hc; omega
        have HX : Hid (s.data.toList.takeWhile isD = s.data.toList.take k ∧ s.data.toList.dropWhile isD = s.data.toList.drop k) := Lib.hid (tw_at _ k HD.out (.inr ⟨by rw [hl.out]; exact hlt, eq_false_of_ne_true hc⟩))
        clear hc
        have q1 : (k : Int) ≤ (s.size : Int) := by omega
        have q2 : (0 : Int) ≤ (k : Int) := by omega
        have q3 : ((k : Int)).toNat = k := by omega
        rcases hx with hx | hx
        · have d1 : decide ((48 : Int) ≤ (s[k].toNat : Int)) = false := by simp; omega
          go_wp2
          go_quiet (fail)
          go_wp2
          go_ret2
          refine ⟨?_, below_drewN (Below.refl _ _) _⟩
          show Ending.returned (.tuple #[.string (s.extract 0 k), .string (s.extract k s.size)]) = _
          rw [ext_bs, ext_end, HX.out.1, HX.out.2]; simp
        · have d1 : decide ((48 : Int) ≤ (s[k].toNat : Int)) = true := by simp; omega
          have d2 : decide ((s[k].toNat : Int) ≤ 57) = false := by simp; omega
          go_wp2
          go_quiet (fail)
          go_wp2
          go_ret2
          refine ⟨?_, below_drewN (Below.refl _ _) _⟩
          show Ending.returned (.tuple #[.string (s.extract 0 k), .string (s.extract k s.size)]) = _
          rw [ext_bs, ext_end, HX.out.1, HX.out.2]; simp
    · obtain rfl : k = s.size := by omega
      have HX : Hid (s.data.toList.takeWhile isD = s.data.toList.take s.size ∧ s.data.toList.dropWhile isD = s.data.toList.drop s.size) := Lib.hid (tw_at _ s.size HD.out (.inl (by rw [hl.out]; omega)))
      have q2 : (0 : Int) ≤ (s.size : Int) := by omega
      have q3 : ((s.size : Int)).toNat = s.size := by omega
      have d0 : decide (s.size < s.size) = false := by simp
      go_wp2
      go_quiet (fail)
      go_wp2
      go_ret2
      refine ⟨?_, below_drewN (Below.refl _ _) _⟩
      show Ending.returned (.tuple #[.string s, .string ByteArray.empty]) = _
      have h1 : s.data.toList.take s.size = s.data.toList := List.take_of_length_le (by rw [hl.out]; omega)
      have h2 : s.data.toList.drop s.size = [] := List.drop_eq_nil_iff.2 (by rw [hl.out]; omega)
      rw [HX.out.1, HX.out.2, h1, h2, bs_self]; rfl
end Go.Proofs.Tg
end
