/- Parts of the proof: SM1, SM2, E1, E2, C1, E3, E4, N2. -/
import Derived.Maps.OwnSet
import Derived.WalkKit
import Derived.DeepKeys5
import Derived.Test.YtodapfjmgnekkaaGreatDoorMV0
import Derived.Test.YtodapfjmgnekkaaGreatDoorMV1
section
/- A map to bools that the call itself has made, as a set of keys: the look-up, the store. -/
namespace Go.Proofs.Tg
open Go.RowKit Go.Maps Go.WideShapes
theorem plainElem_bool_inv {H : Type} {P : Program} {e : TypeId} (he : P.underlying e = some .bool) {v : Value} {z : DataW H × List MemPlace} (h : plainElem P e v = some z) : ∃ a, v = .bool a ∧ z = (.lit (.bool a), []) := by
  unfold plainElem at h
  rw [he] at h
  cases v <;> simp at h
  exact ⟨_, rfl, h.symm⟩
/-- The look-up in a map to bools, at the operation. -/
theorem wpList_look_bool {H : Type} {P : Program} (w : World) {ops : Array Oper} {rest : List Oper} {o : Oper} {a : Act} {Q : Exit → Act → World → Prop}
    (hg : o.guard = none) (m x : Operand) (t : TypeId) (hop : o.op = Op.lookup t m x false)
    (k e : TypeId) (K : Keyed P k) (ht : P.underlying t = some (.map k e)) (he : P.underlying e = some .bool) (hz : (zeroValue e).run P w = .ok (.bool false) w) (b n : Nat) (D : DataW H)
    (hm : a.eval m = .map (some b)) (hown : w.ownsMap P k (plainElem P e) b n D) (key : Value) (kl : Lit) (hx : a.eval x = key) (hkey : keyOf P k key = some kl) (c : Bool) (hc : D.atKey kl (.lit (.bool false)) = .lit (.bool c))
    (hK : wpList P ops Q rest (a.put o.dst (.bool c)) w) :
    wpList P ops Q (o :: rest) a w := by
  refine wpList_plain hg fun K' hK' => ?_
  obtain ⟨v, ps, hrun, hv⟩ := hown.lookup K ht hz (plainElem_bool he false) hkey
  obtain ⟨c', rfl, hv2⟩ := plainElem_bool_inv he hv
  rw [hc] at hv2
  injection hv2 with hv2 _
  injection hv2 with hv2
  injection hv2 with hv2
  subst hv2
  unfold Oper.wp
  simp [execOp, hop, hm, hx, hrun, Result.andThen]
  exact hK' _ _ hK
/-- The map holds true at just the keys of the list. -/
structure SetOK {α : Type} [DecidableEq α] (kl : α → Lit) (dom : α → Prop) (S : List α) (D : DataW Unit) : Prop where
  isMap : Maps.IsMap D
  at' : ∀ v, dom v → D.atKey (kl v) (.lit (.bool false)) = .lit (.bool (decide (v ∈ S)))
theorem SetOK.nil {α : Type} [DecidableEq α] (kl : α → Lit) (dom : α → Prop) : SetOK kl dom [] (.map []) := ⟨Maps.isMap_empty, fun v _ => by simp [DataW.atKey]⟩
theorem SetOK.put {α : Type} [DecidableEq α] {kl : α → Lit} {dom : α → Prop} {S : List α} {D : DataW Unit} (h : SetOK kl dom S D) (hk : ∀ v, dom v → WideAt.IsKeyLit (kl v)) (hi : ∀ u v, dom u → dom v → kl u = kl v → u = v) {x : α} (hx : dom x) :
    SetOK kl dom (x :: S) (D.put (kl x) (.lit (.bool true))) := by
  refine ⟨h.isMap.put _ _, fun v hv => ?_⟩
  by_cases he : v = x
  · subst he
    rw [Maps.atKey_put_same h.isMap (hk v hv)]
    simp
  · rw [Maps.atKey_put_other (fun e => he (hi v x hv hx e)), h.at' v hv]
    simp [he]
/-- The same set, told by another list. -/
theorem SetOK.congr {α : Type} [DecidableEq α] {kl : α → Lit} {dom : α → Prop} {S S' : List α} {D : DataW Unit} (h : SetOK kl dom S D) (hs : ∀ v, dom v → (v ∈ S ↔ v ∈ S')) : SetOK kl dom S' D :=
  ⟨h.isMap, fun v hv => by rw [h.at' v hv, decide_eq_decide.2 (hs v hv)]⟩
end Go.Proofs.Tg
end
section
/- What an array of six numbers reads as where it is the key of a map. -/
namespace Go.Proofs.Tg
open Go.RowKit Go.Maps Go.WideShapes
/-- The literal of a key. -/
def kl6 (l : List Int) : Lit := .string (keyBytes (l.map fun x => Lit.int .i64 x))
theorem wf_small {x : Int} (h : -1000000 ≤ x ∧ x ≤ 1000000) : (Lit.int .i64 x).wf = true := by
  have e1 : IntKind.i64.min = -9223372036854775808 := rfl
  have e2 : IntKind.i64.max = 9223372036854775807 := rfl
  simp only [Lit.wf, Bool.and_eq_true, decide_eq_true_eq]
  omega
theorem keyOf_six {P : Program} {T I : TypeId} (hT : P.underlying T = some (.array 6 I)) (hI : P.underlying I = some (.int .i64)) (hk : P.keyType T = true) (c1 : P.cellsOf I = 1) (c6 : P.cellsOf T = 6) {s : Nat} (hs : P.types.size = s + 1)
    (l : List Int) (hl : l.length = 6) (hw : ∀ x ∈ l, -1000000 ≤ x ∧ x ≤ 1000000) : keyOf P T (.agg (l.map fun x => Value.int .i64 x).toArray) = some (kl6 l) := by
  match l, hl with
  | [a, b, c, d, e, f], _ =>
    have ha := wf_small (hw a (by simp))
    have hb := wf_small (hw b (by simp))
    have hc := wf_small (hw c (by simp))
    have hd := wf_small (hw d (by simp))
    have he := wf_small (hw e (by simp))
    have hf := wf_small (hw f (by simp))
    have hr : List.range 6 = [0, 1, 2, 3, 4, 5] := rfl
    unfold keyOf
    simp [hT, hk, Value.formed, c6, Value.cells, hs, Program.keyLits, hI, c1, hr, ha, hb, hc, hd, he, hf, kl6]
end Go.Proofs.Tg
end
section
/- Vectors of bits: the reduced row echelon form of a space is the list of its reduced vectors. Plain numbers. -/
namespace Go.Ev
/-- Sums of elements of a list. -/
inductive Span (vs : List Nat) : Nat → Prop
  | zero : Span vs 0
  | add {x v : Nat} : Span vs x → v ∈ vs → Span vs (x ^^^ v)
theorem Span.mem {vs : List Nat} {v : Nat} (h : v ∈ vs) : Span vs v := by
  have := Span.add (Span.zero (vs := vs)) h
  rwa [Nat.zero_xor] at this
theorem Span.xor {vs : List Nat} {x y : Nat} (hx : Span vs x) (hy : Span vs y) : Span vs (x ^^^ y) := by
  induction hy with
  | zero => rwa [Nat.xor_zero]
  | add _ hv ih => rw [← Nat.xor_assoc]; exact ih.add hv
theorem Span.sub {vs us : List Nat} (h : ∀ v ∈ vs, Span us v) {x : Nat} (hx : Span vs x) : Span us x := by
  induction hx with
  | zero => exact .zero
  | add _ hv ih => exact ih.xor (h _ hv)
structure Space (V : Nat → Prop) (n : Nat) : Prop where
  lt : ∀ x, V x → x < 2 ^ n
  xor : ∀ x y, V x → V y → V (x ^^^ y)
/-- The state of the elimination before column i: r rows are done, row j has its first bit at p j. -/
structure EInv (V : Nat → Prop) (i : Nat) (vs : List Nat) (r : Nat) (p : Nat → Nat) : Prop where
  hr : r ≤ vs.length
  hV : ∀ v ∈ vs, V v
  span : ∀ x, V x → Span vs x
  lt : ∀ j, j < r → p j < i
  mono : ∀ j k, j < k → k < r → p j < p k
  bit : ∀ j k, j < r → k < vs.length → (vs.getD k 0).testBit (p j) = decide (k = j)
  low : ∀ j, j < r → ∀ b, b < p j → (vs.getD j 0).testBit b = false
  zero : ∀ k, r ≤ k → k < vs.length → ∀ b, b < i → (vs.getD k 0).testBit b = false
theorem EInv.start {V : Nat → Prop} {vs : List Nat} (hV : ∀ v ∈ vs, V v) (hs : ∀ x, V x → Span vs x) : EInv V 0 vs 0 (fun _ => 0) :=
  ⟨Nat.zero_le _, hV, hs, fun j h => absurd h (by omega), fun j k _ h => absurd h (by omega), fun j k h => absurd h (by omega), fun j h => absurd h (by omega), fun k _ _ b h => absurd h (by omega)⟩
theorem EInv.skip {V : Nat → Prop} {i r : Nat} {vs : List Nat} {p : Nat → Nat} (h : EInv V i vs r p) (hz : ∀ k, r ≤ k → k < vs.length → (vs.getD k 0).testBit i = false) : EInv V (i + 1) vs r p := by
  refine ⟨h.hr, h.hV, h.span, fun j hj => by have := h.lt j hj; omega, h.mono, h.bit, h.low, fun k hk hl b hb => ?_⟩
  by_cases e : b = i
  · subst e; exact hz k hk hl
  · exact h.zero k hk hl b (by omega)
/-- Two rows are exchanged. -/
def swp (vs : List Nat) (r q : Nat) : List Nat := (vs.set r (vs.getD q 0)).set q (vs.getD r 0)
theorem getD_set (vs : List Nat) (i k : Nat) (x : Nat) (hi : i < vs.length) : (vs.set i x).getD k 0 = if k = i then x else vs.getD k 0 := by
  simp only [List.getD_eq_getElem?_getD, List.getElem?_set]
  by_cases h : i = k
  · subst h; simp [hi]
  · simp [h, Ne.symm h]
theorem swp_get (vs : List Nat) {r q : Nat} (hr : r < vs.length) (hq : q < vs.length) (k : Nat) : (swp vs r q).getD k 0 = vs.getD (if k = q then r else if k = r then q else k) 0 := by
  unfold swp
  rw [getD_set _ _ _ _ (by simpa using hq), getD_set _ _ _ _ hr]
  by_cases h1 : k = q
  · simp [h1]
  · rw [if_neg h1, if_neg h1]
    by_cases h2 : k = r
    · rw [if_pos h2, if_pos h2]
    · rw [if_neg h2, if_neg h2]
theorem swp_len (vs : List Nat) (r q : Nat) : (swp vs r q).length = vs.length := by simp [swp]
theorem mem_getD {vs : List Nat} {v : Nat} : v ∈ vs ↔ ∃ k, k < vs.length ∧ vs.getD k 0 = v := by
  rw [List.mem_iff_getElem]
  constructor
  · rintro ⟨k, hk, e⟩
    exact ⟨k, hk, by rw [List.getD_eq_getElem?_getD, List.getElem?_eq_getElem hk, Option.getD_some]; exact e⟩
  · rintro ⟨k, hk, e⟩
    exact ⟨k, hk, by rw [List.getD_eq_getElem?_getD, List.getElem?_eq_getElem hk, Option.getD_some] at e; exact e⟩
theorem EInv.swap {V : Nat → Prop} {i r q : Nat} {vs : List Nat} {p : Nat → Nat} (h : EInv V i vs r p) (hrq : r ≤ q) (hq : q < vs.length) : EInv V i (swp vs r q) r p := by
  have hrl : r < vs.length := by omega
  have hg := swp_get vs hrl hq
  have hsw : ∀ k, k < vs.length → (if k = q then r else if k = r then q else k) < vs.length := by intro k hk; split; exact hrl; split; exact hq; exact hk
  refine ⟨by rw [swp_len]; exact h.hr, ?_, ?_, h.lt, h.mono, ?_, ?_, ?_⟩
  · intro v hv
    obtain ⟨k, hk, rfl⟩ := mem_getD.1 hv
    rw [swp_len] at hk
    rw [hg]
    exact h.hV _ (mem_getD.2 ⟨_, hsw k hk, rfl⟩)
  · intro x hx
    refine Span.sub (fun v hv => ?_) (h.span x hx)
    obtain ⟨k, hk, rfl⟩ := mem_getD.1 hv
    refine Span.mem (mem_getD.2 ⟨_, by rw [swp_len]; exact hsw k hk, ?_⟩)
    rw [hg]
    congr 1
    by_cases h1 : k = q
    · subst h1; by_cases h2 : r = k <;> simp [h2]
    · by_cases h2 : k = r <;> simp [h1, h2]
  · intro j k hj hk
    rw [swp_len] at hk
    rw [hg, h.bit j _ hj (hsw k hk)]
    by_cases h1 : k = q
    · subst h1; simp; omega
    · by_cases h2 : k = r
      · subst h2; simp [h1]; omega
      · simp [h1, h2]
  · intro j hj b hb
    rw [hg, if_neg (by omega), if_neg (by omega)]
    exact h.low j hj b hb
  · intro k hk hl b hb
    rw [swp_len] at hl
    rw [hg]
    refine h.zero _ ?_ (hsw k hl) b hb
    split
    · exact Nat.le_refl _
    · split <;> omega
/-- The rows before k but r have lost the bit i. -/
def elim (vs : List Nat) (i r k : Nat) : List Nat := (List.range vs.length).map fun j => if j < k ∧ j ≠ r ∧ (vs.getD j 0).testBit i = true then vs.getD j 0 ^^^ vs.getD r 0 else vs.getD j 0
theorem elim_len (vs : List Nat) (i r k : Nat) : (elim vs i r k).length = vs.length := by simp [elim]
theorem elim_get (vs : List Nat) (i r k j : Nat) (hj : j < vs.length) : (elim vs i r k).getD j 0 = if j < k ∧ j ≠ r ∧ (vs.getD j 0).testBit i = true then vs.getD j 0 ^^^ vs.getD r 0 else vs.getD j 0 := by
  unfold elim
  rw [List.getD_eq_getElem?_getD, List.getElem?_map, List.getElem?_range hj]; rfl
theorem ext_getD {a b : List Nat} (hl : a.length = b.length) (h : ∀ j, j < a.length → a.getD j 0 = b.getD j 0) : a = b := by
  refine List.ext_getElem hl fun j h1 h2 => ?_
  have := h j h1
  rwa [List.getD_eq_getElem?_getD, List.getD_eq_getElem?_getD, List.getElem?_eq_getElem h1, List.getElem?_eq_getElem h2] at this
theorem elim_zero (vs : List Nat) (i r : Nat) : elim vs i r 0 = vs :=
  ext_getD (elim_len _ _ _ _) fun j hj => by rw [elim_len] at hj; rw [elim_get _ _ _ _ _ hj, if_neg (by omega)]
theorem elim_skip (vs : List Nat) (i r k : Nat) (h : ¬ (k ≠ r ∧ (vs.getD k 0).testBit i = true)) : elim vs i r (k + 1) = elim vs i r k :=
  ext_getD (by rw [elim_len, elim_len]) fun j hj => by
    rw [elim_len] at hj
    rw [elim_get _ _ _ _ _ hj, elim_get _ _ _ _ _ hj]
    by_cases e : j = k
    · subst e; rw [if_neg (fun h' => h h'.2), if_neg (by omega)]
    · by_cases h2 : j < k
      · simp [h2, show j < k + 1 by omega]
      · simp [h2, show ¬ j < k + 1 by omega]
theorem elim_put (vs : List Nat) (i r k : Nat) (hk : k < vs.length) (h : k ≠ r ∧ (vs.getD k 0).testBit i = true) : elim vs i r (k + 1) = (elim vs i r k).set k (vs.getD k 0 ^^^ vs.getD r 0) :=
  ext_getD (by rw [List.length_set, elim_len, elim_len]) fun j hj => by
    rw [elim_len] at hj
    rw [getD_set _ _ _ _ (by rw [elim_len]; exact hk), elim_get _ _ _ _ _ hj, elim_get _ _ _ _ _ hj]
    by_cases e : j = k
    · subst e; rw [if_pos ⟨by omega, h⟩, if_pos rfl]
    · by_cases h2 : j < k
      · simp [h2, e, show j < k + 1 by omega]
      · simp [h2, e, show ¬ j < k + 1 by omega]
theorem elim_self (vs : List Nat) (i r k : Nat) (hr : r < vs.length) : (elim vs i r k).getD r 0 = vs.getD r 0 := by
  rw [elim_get _ _ _ _ _ hr, if_neg (fun h => h.2.1 rfl)]
theorem EInv.elim {V : Nat → Prop} {n i r : Nat} {vs : List Nat} {p : Nat → Nat} (hS : Space V n) (h : EInv V i vs r p) (hr : r < vs.length) (hb : (vs.getD r 0).testBit i = true) :
    EInv V (i + 1) (Ev.elim vs i r vs.length) (r + 1) (fun j => if j = r then i else p j) := by
  have hg : ∀ k, k < vs.length → (Ev.elim vs i r vs.length).getD k 0 = if k ≠ r ∧ (vs.getD k 0).testBit i = true then vs.getD k 0 ^^^ vs.getD r 0 else vs.getD k 0 := by
    intro k hk
    rw [elim_get _ _ _ _ _ hk]
    simp [hk]
  have hbi : ∀ k, k < vs.length → ((Ev.elim vs i r vs.length).getD k 0).testBit i = decide (k = r) := by
    intro k hk
    rw [hg k hk]
    by_cases e : k = r
    · subst e; simpa using hb
    · by_cases e2 : (vs.getD k 0).testBit i = true
      · rw [if_pos ⟨e, e2⟩, Nat.testBit_xor, e2, hb]; simp [e]
      · rw [if_neg (fun h => e2 h.2)]; simp [e]; simpa using e2
  have hlow : ∀ k, k < vs.length → ∀ b, b < i → ((Ev.elim vs i r vs.length).getD k 0).testBit b = (vs.getD k 0).testBit b := by
    intro k hk b hbi'
    rw [hg k hk]
    split
    · rw [Nat.testBit_xor, h.zero r (Nat.le_refl _) hr b hbi']; simp
    · rfl
  refine ⟨by rw [elim_len]; omega, ?_, ?_, ?_, ?_, ?_, ?_, ?_⟩
  · intro v hv
    obtain ⟨k, hk, rfl⟩ := mem_getD.1 hv
    rw [elim_len] at hk
    rw [hg k hk]
    split
    · exact hS.xor _ _ (h.hV _ (mem_getD.2 ⟨k, hk, rfl⟩)) (h.hV _ (mem_getD.2 ⟨r, hr, rfl⟩))
    · exact h.hV _ (mem_getD.2 ⟨k, hk, rfl⟩)
  · intro x hx
    refine Span.sub (fun v hv => ?_) (h.span x hx)
    obtain ⟨k, hk, rfl⟩ := mem_getD.1 hv
    have hm : ∀ k, k < vs.length → Span (Ev.elim vs i r vs.length) ((Ev.elim vs i r vs.length).getD k 0) := fun k hk => Span.mem (mem_getD.2 ⟨k, by rw [elim_len]; exact hk, rfl⟩)
    have h1 := hm k hk
    have h2 := hm r hr
    rw [elim_self _ _ _ _ hr] at h2
    rw [hg k hk] at h1
    split at h1
    · have := h1.xor h2
      rwa [Nat.xor_assoc, Nat.xor_self, Nat.xor_zero] at this
    · exact h1
  · intro j hj
    show (if j = r then i else p j) < i + 1
    split
    · omega
    · have := h.lt j (by omega); omega
  · intro j k hjk hk
    show (if j = r then i else p j) < (if k = r then i else p k)
    rw [if_neg (by omega)]
    split
    · exact h.lt j (by omega)
    · exact h.mono j k hjk (by omega)
  · intro j k hj hk
    rw [elim_len] at hk
    show ((Ev.elim vs i r vs.length).getD k 0).testBit (if j = r then i else p j) = decide (k = j)
    split
    · rename_i e; rw [hbi k hk, e]
    · rw [hlow k hk _ (h.lt j (by omega)), h.bit j k (by omega) hk]
  · intro j hj b hbj
    have hbj : b < (if j = r then i else p j) := hbj
    by_cases e : j = r
    · subst e
      rw [if_pos rfl] at hbj
      rw [hlow j hr b hbj]
      exact h.zero j (Nat.le_refl _) hr b hbj
    · rw [if_neg e] at hbj
      have := h.lt j (by omega)
      rw [hlow j (by omega) b (by omega)]
      exact h.low j (by omega) b hbj
  · intro k hk hl b hbk
    rw [elim_len] at hl
    by_cases e : b = i
    · subst e; rw [hbi k hl]; simp; omega
    · rw [hlow k hl b (by omega)]
      exact h.zero k (by omega) hl b (by omega)
/-! What the last state says. -/
def Lead (x k : Nat) : Prop := x.testBit k = true ∧ ∀ b, b < k → x.testBit b = false
/-- The sum of the first m rows, row j taken where x has the bit p j. -/
def comb (vs : List Nat) (p : Nat → Nat) (x : Nat) : Nat → Nat
  | 0 => 0
  | m + 1 => comb vs p x m ^^^ (if x.testBit (p m) = true then vs.getD m 0 else 0)
theorem comb_zero (vs : List Nat) (p : Nat → Nat) : ∀ m, comb vs p 0 m = 0
  | 0 => rfl
  | m + 1 => by simp [comb, comb_zero vs p m]
theorem zero_of_bits {n x : Nat} (hx : x < 2 ^ n) (h : ∀ b, b < n → x.testBit b = false) : x = 0 := by
  refine Nat.eq_of_testBit_eq fun b => ?_
  rw [Nat.zero_testBit]
  by_cases hb : b < n
  · exact h b hb
  · exact Nat.testBit_lt_two_pow (Nat.lt_of_lt_of_le hx (Nat.pow_le_pow_right (by omega) (by omega)))
theorem comb_add {V : Nat → Prop} {n r : Nat} {vs : List Nat} {p : Nat → Nat} (h : EInv V n vs r p) (hS : Space V n) (x k : Nat) (hk : k < vs.length) :
    ∀ m, m ≤ r → comb vs p (x ^^^ vs.getD k 0) m = comb vs p x m ^^^ (if k < m then vs.getD k 0 else 0)
  | 0, _ => by simp [comb]
  | m + 1, hm => by
    have ih := comb_add h hS x k hk m (by omega)
    simp only [comb, ih, Nat.testBit_xor, h.bit m k (by omega) hk]
    by_cases e : k = m
    · subst e
      simp
      cases hx : x.testBit (p k)
      · simp
      · simp [Nat.xor_assoc]
    · by_cases hl : k < m
      · simp only [e, hl, show k < m + 1 by omega, decide_false, Bool.xor_false, if_true]
        rw [Nat.xor_assoc, Nat.xor_assoc, Nat.xor_comm (vs.getD k 0)]
      · simp [e, hl, show ¬ k < m + 1 by omega]
theorem comb_eq {V : Nat → Prop} {n r : Nat} {vs : List Nat} {p : Nat → Nat} (h : EInv V n vs r p) (hS : Space V n) {x : Nat} (hx : V x) : comb vs p x r = x := by
  have : ∀ y, Span vs y → comb vs p y r = y := by
    intro y hy
    induction hy with
    | zero => exact comb_zero _ _ _
    | add _ hv ih =>
      obtain ⟨k, hk, rfl⟩ := mem_getD.1 hv
      rw [comb_add h hS _ k hk r (Nat.le_refl _), ih]
      by_cases hl : k < r
      · rw [if_pos hl]
      · rw [if_neg hl, zero_of_bits (hS.lt _ (h.hV _ hv)) (h.zero k (by omega) hk)]
  exact this x (h.span x hx)
theorem comb_low {V : Nat → Prop} {n r : Nat} {vs : List Nat} {p : Nat → Nat} (h : EInv V n vs r p) (x b : Nat) : ∀ m, m ≤ r → (∀ j, j < m → x.testBit (p j) = true → b < p j) → (comb vs p x m).testBit b = false
  | 0, _, _ => by simp [comb]
  | m + 1, hm, hj => by
    rw [comb, Nat.testBit_xor, comb_low h x b m (by omega) (fun j h1 => hj j (by omega))]
    split
    · rename_i e
      rw [h.low m (by omega) b (hj m (by omega) e)]; rfl
    · simp
theorem exists_least {P : Nat → Prop} : ∀ {r : Nat}, (∃ j, j < r ∧ P j) → ∃ j, j < r ∧ P j ∧ ∀ k, k < j → ¬ P k
  | 0, ⟨j, h, _⟩ => absurd h (by omega)
  | r + 1, ⟨j, h, hp⟩ => by
    by_cases h2 : ∃ j, j < r ∧ P j
    · obtain ⟨k, h3, h4⟩ := exists_least h2
      exact ⟨k, by omega, h4⟩
    · have : j = r := by
        rcases Nat.lt_or_ge j r with h3 | h3
        · exact absurd ⟨j, h3, hp⟩ h2
        · omega
      subst this
      exact ⟨j, h, hp, fun k hk hpk => h2 ⟨k, hk, hpk⟩⟩
/-- Every vector of the space but 0 has its first bit where a row has. -/
theorem lead_of {V : Nat → Prop} {n r : Nat} {vs : List Nat} {p : Nat → Nat} (h : EInv V n vs r p) (hS : Space V n) {x : Nat} (hx : V x) (h0 : x ≠ 0) : ∃ j, j < r ∧ Lead x (p j) := by
  have hc := comb_eq h hS hx
  have hex : ∃ j, j < r ∧ x.testBit (p j) = true := by
    apply Classical.byContradiction
    intro hno
    apply h0
    rw [← hc]
    refine Nat.eq_of_testBit_eq fun b => ?_
    rw [Nat.zero_testBit]
    exact comb_low h x b r (Nat.le_refl _) (fun j h1 h2 => absurd ⟨j, h1, h2⟩ hno)
  obtain ⟨j, h1, h2, h3⟩ := exists_least hex
  refine ⟨j, h1, h2, fun b hb => ?_⟩
  rw [← hc]
  refine comb_low h x b r (Nat.le_refl _) (fun k hk hk2 => ?_)
  rcases Nat.lt_trichotomy k j with e | e | e
  · exact absurd hk2 (by simpa using h3 k e)
  · subst e; exact hb
  · have := h.mono j k e hk; omega
theorem row_lead {V : Nat → Prop} {n r : Nat} {vs : List Nat} {p : Nat → Nat} (h : EInv V n vs r p) {j : Nat} (hj : j < r) : Lead (vs.getD j 0) (p j) :=
  ⟨by rw [h.bit j j hj (by have := h.hr; omega)]; simp, h.low j hj⟩
theorem Lead.inj {x a b : Nat} (ha : Lead x a) (hb : Lead x b) : a = b := by
  rcases Nat.lt_trichotomy a b with h | h | h
  · have := hb.2 a h; rw [ha.1] at this; cases this
  · exact h
  · have := ha.2 b h; rw [hb.1] at this; cases this
/-- A vector that is 0 wherever another vector of the space has its first bit behind its own first bit. -/
def Red (V : Nat → Prop) (x : Nat) : Prop := ∀ t k l, V t → Lead t k → Lead x l → l < k → x.testBit k = false
theorem row_red {V : Nat → Prop} {n r : Nat} {vs : List Nat} {p : Nat → Nat} (h : EInv V n vs r p) (hS : Space V n) {j : Nat} (hj : j < r) : Red V (vs.getD j 0) := by
  intro t k l ht hk hl hlk
  have e := (row_lead h hj).inj hl
  subst e
  have h0 : t ≠ 0 := by rintro rfl; have := hk.1; simp at this
  obtain ⟨m, hm, hml⟩ := lead_of h hS ht h0
  have e2 := hml.inj hk
  subst e2
  rw [h.bit m j hm (by have := h.hr; omega)]
  have : j ≠ m := by rintro rfl; omega
  simp [this]
theorem xor_zero {x y : Nat} (h : x ^^^ y = 0) : x = y := by
  have : x ^^^ y ^^^ y = y := by rw [h, Nat.zero_xor]
  rwa [Nat.xor_assoc, Nat.xor_self, Nat.xor_zero] at this
theorem lt_bits {x y i : Nat} (hx : x.testBit i = false) (hy : y.testBit i = true) (h : ∀ j, i < j → x.testBit j = y.testBit j) : x < y := by
  rw [Nat.testBit_eq_decide_div_mod_eq, decide_eq_false_iff_not] at hx
  rw [Nat.testBit_eq_decide_div_mod_eq, decide_eq_true_eq] at hy
  have e : x / 2 ^ i / 2 = y / 2 ^ i / 2 := by
    refine Nat.eq_of_testBit_eq fun j => ?_
    have := h (i + 1 + j) (by omega)
    rw [Nat.div_div_eq_div_mul, Nat.div_div_eq_div_mul, ← Nat.pow_succ, Nat.testBit_div_two_pow, Nat.testBit_div_two_pow]
    rwa [show j + i.succ = i + 1 + j by omega]
  have hlt : x / 2 ^ i < y / 2 ^ i := by omega
  rcases Nat.lt_or_ge x y with h1 | h1
  · exact h1
  · have := Nat.div_le_div_right (c := 2 ^ i) h1
    omega
theorem red_row {V : Nat → Prop} {n r : Nat} {vs : List Nat} {p : Nat → Nat} (h : EInv V n vs r p) (hS : Space V n) {x : Nat} (hx : V x) (h0 : x ≠ 0) (hr : Red V x) : ∃ j, j < r ∧ x = vs.getD j 0 := by
  obtain ⟨j, hj, hl⟩ := lead_of h hS hx h0
  refine ⟨j, hj, ?_⟩
  have hjl : j < vs.length := by have := h.hr; omega
  have hrow := row_lead h hj
  have hVr := h.hV _ (mem_getD.2 ⟨j, hjl, rfl⟩)
  apply Classical.byContradiction
  intro hne
  have hd : x ^^^ vs.getD j 0 ≠ 0 := fun e => hne (xor_zero e)
  have hVd := hS.xor _ _ hx hVr
  obtain ⟨m, hm, hml⟩ := lead_of h hS hVd hd
  have hlt : p j < p m := by
    rcases Nat.lt_trichotomy (p m) (p j) with e | e | e
    · have := hml.1
      rw [Nat.testBit_xor, hl.2 _ e, hrow.2 _ e] at this; cases this
    · have := hml.1
      rw [e, Nat.testBit_xor, hl.1, hrow.1] at this; cases this
    · exact e
  have a1 := hr _ _ _ hVd hml hl hlt
  have a2 := row_red h hS hj _ _ _ hVd hml hrow hlt
  have := hml.1
  rw [Nat.testBit_xor, a1, a2] at this; cases this
/-! The reference goes through all vectors, the greatest first when the first position counts most. -/
def rev (n v : Nat) : Nat := (List.range n).foldl (fun x i => if v.testBit (n - 1 - i) = true then x ||| 2 ^ i else x) 0
theorem rev_fold (n v m b : Nat) : ((List.range m).foldl (fun x i => if v.testBit (n - 1 - i) = true then x ||| 2 ^ i else x) 0).testBit b = (decide (b < m) && v.testBit (n - 1 - b)) := by
  induction m with
  | zero => simp
  | succ m ih =>
    rw [List.range_succ, List.foldl_append]
    simp only [List.foldl_cons, List.foldl_nil]
    split
    · rename_i h
      rw [Nat.testBit_or, ih, Nat.testBit_two_pow]
      by_cases e : b = m
      · subst e; simp [h]
      · simp [Ne.symm e]
        by_cases h1 : b < m
        · simp [h1, show b < m + 1 by omega]
        · simp [h1, show ¬ b < m + 1 by omega]
    · rename_i h
      rw [ih]
      by_cases e : b = m
      · subst e; simp; simpa using h
      · by_cases h1 : b < m
        · simp [h1, show b < m + 1 by omega]
        · simp [h1, show ¬ b < m + 1 by omega]
theorem rev_bit (n v b : Nat) : (rev n v).testBit b = (decide (b < n) && v.testBit (n - 1 - b)) := rev_fold n v n b
theorem rev_lt (n v : Nat) : rev n v < 2 ^ n := by
  apply Nat.lt_pow_two_of_testBit
  intro i hi
  rw [rev_bit]; simp; omega
theorem rev_rev {n v : Nat} (hv : v < 2 ^ n) : rev n (rev n v) = v := by
  refine Nat.eq_of_testBit_eq fun b => ?_
  rw [rev_bit, rev_bit]
  by_cases hb : b < n
  · simp [hb, show n - 1 - b < n by omega, show n - 1 - (n - 1 - b) = b by omega]
  · simp [hb]
    exact (Nat.testBit_lt_two_pow (Nat.lt_of_lt_of_le hv (Nat.pow_le_pow_right (n := 2) (by omega) (by omega : n ≤ b))))
theorem rev_zero {n v : Nat} (hv : v < 2 ^ n) : rev n v = 0 ↔ v = 0 := by
  constructor
  · intro h
    rw [← rev_rev hv, h]
    refine Nat.eq_of_testBit_eq fun b => ?_
    rw [rev_bit]; simp
  · rintro rfl
    refine Nat.eq_of_testBit_eq fun b => ?_
    rw [rev_bit]; simp
theorem lead_exists {x : Nat} (h : x ≠ 0) : ∃ k, Lead x k := by
  obtain ⟨b, hb⟩ := Nat.exists_testBit_of_ne_zero h
  obtain ⟨j, _, h2, h3⟩ := exists_least (P := fun j => x.testBit j = true) (r := b + 1) ⟨b, by omega, hb⟩
  exact ⟨j, h2, fun k hk => by simpa using h3 k hk⟩
theorem lead_lt {n x k : Nat} (hx : x < 2 ^ n) (h : Lead x k) : k < n := by
  rcases Nat.lt_or_ge k n with h1 | h1
  · exact h1
  · have := Nat.testBit_lt_two_pow (Nat.lt_of_lt_of_le hx (Nat.pow_le_pow_right (by omega) h1))
    rw [h.1] at this; cases this
theorem rev_order {n x y a b : Nat} (hx : x < 2 ^ n) (hxl : Lead x a) (hyl : Lead y b) (h : a < b) : rev n y < rev n x := by
  have ha := lead_lt hx hxl
  refine lt_bits (i := n - 1 - a) ?_ ?_ fun j hj => ?_
  · rw [rev_bit, show n - 1 - (n - 1 - a) = a by omega, hyl.2 a h]; simp
  · rw [rev_bit, show n - 1 - (n - 1 - a) = a by omega, hxl.1]; simp; omega
  · rw [rev_bit, rev_bit]
    by_cases hjn : j < n
    · rw [hxl.2 (n - 1 - j) (by omega), hyl.2 (n - 1 - j) (by omega)]
    · simp [hjn]
theorem sorted_eq {R : Nat → Nat → Prop} (irr : ∀ a, ¬ R a a) (asy : ∀ a b, R a b → ¬ R b a) : ∀ (l m : List Nat), l.Pairwise R → m.Pairwise R → (∀ x, x ∈ l ↔ x ∈ m) → l = m
  | [], [], _, _, _ => rfl
  | [], y :: m, _, _, h => absurd ((h y).2 (by simp)) (by simp)
  | x :: l, [], _, _, h => absurd ((h x).1 (by simp)) (by simp)
  | x :: l, y :: m, hl, hm, h => by
    obtain ⟨l1, l2⟩ := List.pairwise_cons.1 hl
    obtain ⟨m1, m2⟩ := List.pairwise_cons.1 hm
    have e : x = y := by
      apply Classical.byContradiction
      intro ne
      have hx : x ∈ m := by
        rcases List.mem_cons.1 ((h x).1 (by simp)) with e | e
        · exact absurd e ne
        · exact e
      have hy : y ∈ l := by
        rcases List.mem_cons.1 ((h y).2 (by simp)) with e | e
        · exact absurd e.symm ne
        · exact e
      exact asy _ _ (m1 x hx) (l1 y hy)
    subst e
    congr 1
    refine sorted_eq irr asy l m l2 m2 fun z => ?_
    constructor
    · intro hz
      rcases List.mem_cons.1 ((h z).1 (List.mem_cons_of_mem _ hz)) with e | e
      · subst e; exact absurd (l1 _ hz) (irr _)
      · exact e
    · intro hz
      rcases List.mem_cons.1 ((h z).2 (List.mem_cons_of_mem _ hz)) with e | e
      · subst e; exact absurd (m1 _ hz) (irr _)
      · exact e
/-- The vectors that the reference keeps out of the first k that it looks at. -/
def kern (keep : Nat → Bool) (n k : Nat) : List Nat := (((List.range k).map fun t => rev n (2 ^ n - 1 - t)).filter keep)
theorem kern_succ (keep : Nat → Bool) (n k : Nat) : kern keep n (k + 1) = kern keep n k ++ (if keep (rev n (2 ^ n - 1 - k)) = true then [rev n (2 ^ n - 1 - k)] else []) := by
  unfold kern
  rw [List.range_succ, List.map_append, List.filter_append]
  congr 1
  simp only [List.map_cons, List.map_nil, List.filter_cons, List.filter_nil]
/-- The rows of the elimination are what the reference keeps. -/
theorem rows_kern {V : Nat → Prop} {n r : Nat} {vs : List Nat} {p : Nat → Nat} (h : EInv V n vs r p) (hS : Space V n) (keep : Nat → Bool) (hk : ∀ x, x ≠ 0 → x < 2 ^ n → (keep x = true ↔ V x ∧ Red V x)) :
    vs.take r = kern keep n (2 ^ n - 1) := by
  have hpos : 0 < 2 ^ n := Nat.two_pow_pos n
  have hrl := h.hr
  have hgd : ∀ j (hj : j < (vs.take r).length), (vs.take r)[j] = vs.getD j 0 := by
    intro j hj
    have hj' : j < vs.length := by simp at hj; omega
    rw [List.getElem_take, List.getD_eq_getElem?_getD, List.getElem?_eq_getElem hj', Option.getD_some]
  have hVr : ∀ j, j < r → V (vs.getD j 0) := fun j hj => h.hV _ (mem_getD.2 ⟨j, by omega, rfl⟩)
  refine sorted_eq (R := fun x y => rev n y < rev n x) (fun a => Nat.lt_irrefl _) (fun a b h1 h2 => by omega) _ _ ?_ ?_ ?_
  · rw [List.pairwise_iff_getElem]
    intro i j hi hj hij
    rw [hgd i hi, hgd j hj]
    have hj' : j < r := by simp at hj; omega
    exact rev_order (hS.lt _ (hVr i (by omega))) (row_lead h (by omega)) (row_lead h hj') (h.mono i j hij hj')
  · unfold kern
    refine List.Pairwise.filter _ ?_
    rw [List.pairwise_map]
    refine List.Pairwise.imp_of_mem ?_ (List.pairwise_lt_range (n := 2 ^ n - 1))
    intro a b ha hb hab
    have ha := List.mem_range.1 ha
    have hb := List.mem_range.1 hb
    rw [rev_rev (by omega), rev_rev (by omega)]
    omega
  · intro x
    constructor
    · intro hx
      obtain ⟨j, hj, e⟩ := List.mem_iff_getElem.1 hx
      rw [hgd j hj] at e
      have hj' : j < r := by simp at hj; omega
      subst e
      have hlt := hS.lt _ (hVr j hj')
      have h0 : vs.getD j 0 ≠ 0 := by intro e; have := (row_lead h hj').1; rw [e] at this; simp at this
      unfold kern
      refine List.mem_filter.2 ⟨List.mem_map.2 ⟨2 ^ n - 1 - rev n (vs.getD j 0), List.mem_range.2 ?_, ?_⟩, (hk _ h0 hlt).2 ⟨hVr j hj', row_red h hS hj'⟩⟩
      · have : rev n (vs.getD j 0) ≠ 0 := fun e => h0 ((rev_zero hlt).1 e)
        have := rev_lt n (vs.getD j 0)
        omega
      · have := rev_lt n (vs.getD j 0)
        rw [show 2 ^ n - 1 - (2 ^ n - 1 - rev n (vs.getD j 0)) = rev n (vs.getD j 0) by omega, rev_rev hlt]
    · intro hx
      obtain ⟨h1, h2⟩ := List.mem_filter.1 hx
      obtain ⟨t, ht, rfl⟩ := List.mem_map.1 h1
      have ht := List.mem_range.1 ht
      have hlt := rev_lt n (2 ^ n - 1 - t)
      have h0 : rev n (2 ^ n - 1 - t) ≠ 0 := fun e => by have := (rev_zero (n := n) (by omega)).1 e; omega
      obtain ⟨h3, h4⟩ := (hk _ h0 hlt).1 h2
      obtain ⟨j, hj, e⟩ := red_row h hS h3 h0 h4
      rw [e]
      refine List.mem_iff_getElem.2 ⟨j, by simp; omega, ?_⟩
      rw [hgd j (by simp; omega)]
end Go.Ev
end
section
/- Parities: the inner product modulo 2 of a list of exponents and a sign vector, by sums and by bits. Plain numbers. -/
namespace Go.Ev
open Go.Gr
def pr (row : List Int) (x : Nat) : Nat → Nat
  | 0 => 0
  | i + 1 => pr row x i + (if x.testBit i = true then (row.getD i 0).toNat else 0)
theorem pr_xor (row : List Int) (x y : Nat) : ∀ n, pr row (x ^^^ y) n % 2 = (pr row x n + pr row y n) % 2
  | 0 => rfl
  | n + 1 => by
    have ih := pr_xor row x y n
    simp only [pr, Nat.testBit_xor]
    cases x.testBit n <;> cases y.testBit n <;> simp <;> omega
/-- The sign vectors of n variables that are orthogonal to all rows. -/
def V (rows : List (List Int)) (n x : Nat) : Prop := x < 2 ^ n ∧ ∀ row ∈ rows, pr row x n % 2 = 0
theorem V_space (rows : List (List Int)) (n : Nat) : Space (V rows n) n :=
  ⟨fun _ h => h.1, fun x y hx hy => ⟨Nat.xor_lt_two_pow hx.1 hy.1, fun row hr => by
    have := pr_xor row x y n
    have h1 := hx.2 row hr
    have h2 := hy.2 row hr
    omega⟩⟩
/-- A list of numbers as bits: bit i is the parity of number i. -/
def pk (l : List Int) : Nat → Nat
  | 0 => 0
  | k + 1 => pk l k ^^^ (((l.getD k 0).toNat % 2) <<< k)
theorem pk_bit (l : List Int) (b : Nat) : ∀ k, (pk l k).testBit b = (decide (b < k) && decide ((l.getD b 0).toNat % 2 = 1))
  | 0 => by simp [pk]
  | k + 1 => by
    rw [pk, Nat.testBit_xor, pk_bit l b k, Nat.testBit_shiftLeft]
    have h01 : (l.getD k 0).toNat % 2 = 0 ∨ (l.getD k 0).toNat % 2 = 1 := by omega
    by_cases e : b = k
    · subst e
      rcases h01 with h | h <;> rw [h] <;> simp
    · by_cases hlt : b < k
      · simp [hlt, show b < k + 1 by omega, show ¬ k ≤ b by omega]
      · have : k ≤ b := by omega
        simp only [hlt, show ¬ b < k + 1 by omega, decide_false, Bool.false_and, Bool.false_xor, ge_iff_le, this, decide_true, Bool.true_and]
        rcases h01 with h | h
        · rw [h]; simp
        · rw [h]
          exact Nat.testBit_lt_two_pow (i := b - k) (x := 1) (Nat.lt_of_lt_of_le (show 1 < 2 ^ 1 by decide) (Nat.pow_le_pow_right (by omega) (by omega)))
theorem pk_lt (l : List Int) (k : Nat) : pk l k < 2 ^ k := by
  apply Nat.lt_pow_two_of_testBit
  intro i hi
  rw [pk_bit]; simp; omega
theorem cnt_and (l : List Int) (x k : Nat) : ∀ n, n ≤ k → ((List.range n).filter (x &&& pk l k).testBit).length % 2 = pr l x n % 2
  | 0, _ => rfl
  | n + 1, h => by
    have ih := cnt_and l x k n (by omega)
    rw [List.range_succ, List.filter_append, List.length_append, pr]
    simp only [List.filter_cons, List.filter_nil, Nat.testBit_and, pk_bit, show n < k by omega, decide_true, Bool.true_and]
    cases x.testBit n
    · simp; omega
    · by_cases h2 : (l.getD n 0).toNat % 2 = 1
      · simp only [h2, decide_true, Bool.and_true, if_true, List.length_singleton]; omega
      · simp only [h2, decide_false, Bool.and_false, Bool.false_eq_true, if_false, if_true, List.length_nil]; omega
theorem cnt_high (z k : Nat) (hz : z < 2 ^ k) : ∀ m, ((List.range (k + m)).filter z.testBit).length = ((List.range k).filter z.testBit).length
  | 0 => rfl
  | m + 1 => by
    have : z.testBit (k + m) = false := Nat.testBit_lt_two_pow (Nat.lt_of_lt_of_le hz (Nat.pow_le_pow_right (by omega) (by omega)))
    rw [show k + (m + 1) = k + m + 1 from rfl, List.range_succ, List.filter_append, List.length_append, cnt_high z k hz m]
    simp [this]
/-- The number of common bits of a sign vector and the packed exponents is odd exactly if the inner product is. -/
theorem size_and (l : List Int) (x k : Nat) (hk : k ≤ 64) : size (x &&& pk l k) % 2 = pr l x k % 2 := by
  have hz : x &&& pk l k < 2 ^ k := Nat.lt_of_le_of_lt Nat.and_le_right (pk_lt l k)
  have := cnt_high _ k hz (64 - k)
  rw [show k + (64 - k) = 64 by omega] at this
  unfold size verts
  rw [this]
  exact cnt_and l x k k (Nat.le_refl _)
/-- The inner product of two lists. -/
def dotN (a s : List Int) : Nat → Int
  | 0 => 0
  | i + 1 => dotN a s i + a.getD i 0 * s.getD i 0
/-- A list of zeros and ones. -/
def Bit01 (s : List Int) : Prop := ∀ x ∈ s, x = 0 ∨ x = 1
theorem getD_mem (s : List Int) (i : Nat) (h : i < s.length) : s.getD i 0 ∈ s := by
  rw [List.getD_eq_getElem?_getD, List.getElem?_eq_getElem h, Option.getD_some]; exact List.getElem_mem h
theorem dotN_pr (a s : List Int) (k : Nat) (hs : Bit01 s) (hk : k = s.length) (ha : ∀ x ∈ a, 0 ≤ x) : ∀ n, n ≤ k → dotN a s n = (pr a (pk s k) n : Nat)
  | 0, _ => rfl
  | n + 1, h => by
    have h0 : 0 ≤ a.getD n 0 := by
      rcases Nat.lt_or_ge n a.length with h1 | h1
      · exact ha _ (getD_mem a n h1)
      · rw [List.getD_eq_getElem?_getD, List.getElem?_eq_none h1]; simp
    rw [dotN, pr, dotN_pr a s k hs hk ha n (by omega), pk_bit]
    simp only [show n < k by omega, decide_true, Bool.true_and]
    generalize a.getD n 0 = x at *
    rcases hs _ (getD_mem s n (by omega)) with e | e <;> rw [e] <;> simp
    omega
/-- A sign vector as a list. -/
def unp (x n : Nat) : List Int := (List.range n).map fun i => if x.testBit i = true then 1 else 0
theorem unp_len (x n : Nat) : (unp x n).length = n := by simp [unp]
theorem unp_getD (x n i : Nat) (h : i < n) : (unp x n).getD i 0 = if x.testBit i = true then 1 else 0 := by
  unfold unp
  rw [List.getD_eq_getElem?_getD, List.getElem?_map, List.getElem?_range h]; rfl
theorem unp_bit (x n : Nat) : Bit01 (unp x n) := by
  intro v hv
  obtain ⟨i, _, rfl⟩ := List.mem_map.1 hv
  split <;> simp
theorem pk_unp {x n : Nat} (hx : x < 2 ^ n) : pk (unp x n) n = x := by
  refine Nat.eq_of_testBit_eq fun b => ?_
  rw [pk_bit]
  by_cases hb : b < n
  · rw [unp_getD x n b hb]
    cases x.testBit b <;> simp [hb]
  · simp [hb]
    exact (Nat.testBit_lt_two_pow (Nat.lt_of_lt_of_le hx (Nat.pow_le_pow_right (n := 2) (by omega) (by omega : n ≤ b))))
end Go.Ev
end
section
/- Characters and classes of monomials. Plain lists. -/
namespace Go.Ev
open Go.Gr Go.Mo
def b01 (l : List Int) : Bool := l.all fun x => x == 0 || x == 1
theorem b01_iff {l : List Int} : b01 l = true ↔ Bit01 l := by unfold b01 Bit01; simp
def badM (l : List (List Int)) : Bool := l.any fun m => !vldM m
def badS (s : List (List Int)) : Bool := s.any fun v => !b01 v
def diffL (s l : List (List Int)) : Bool := s.any fun v => l.any fun m => decide (v.length ≠ m.length)
/-- The error of sign vectors and monomials. -/
def chk (s l : List (List Int)) : Int := if badM l = true ∨ badS s = true then 1 else if diffL s l = true then 4 else 0
theorem badM_iff {l : List (List Int)} : badM l = true ↔ ∃ m ∈ l, vldM m = false := by unfold badM; simp
theorem badS_iff {l : List (List Int)} : badS l = true ↔ ∃ m ∈ l, b01 m = false := by unfold badS; simp
theorem diffL_iff {s l : List (List Int)} : diffL s l = true ↔ ∃ v ∈ s, ∃ m ∈ l, v.length ≠ m.length := by unfold diffL; simp
theorem chk_bad {s l : List (List Int)} (h : (∃ m ∈ l, vldM m = false) ∨ ∃ v ∈ s, b01 v = false) : chk s l = 1 := by
  unfold chk
  rw [if_pos (h.imp badM_iff.2 badS_iff.2)]
theorem chk_diff {s l : List (List Int)} (h1 : ∀ m ∈ l, vldM m = true) (h2 : ∀ v ∈ s, b01 v = true) (h : ∃ v ∈ s, ∃ m ∈ l, v.length ≠ m.length) : chk s l = 4 := by
  unfold chk
  rw [if_neg, if_pos (diffL_iff.2 h)]
  rw [badM_iff, badS_iff]
  rintro (⟨m, hm, e⟩ | ⟨m, hm, e⟩)
  · rw [h1 m hm] at e; cases e
  · rw [h2 m hm] at e; cases e
theorem chk_ok {s l : List (List Int)} (h1 : ∀ m ∈ l, vldM m = true) (h2 : ∀ v ∈ s, b01 v = true) (h : ∀ v ∈ s, ∀ m ∈ l, v.length = m.length) : chk s l = 0 := by
  unfold chk
  rw [if_neg, if_neg]
  · rw [diffL_iff]
    rintro ⟨v, hv, m, hm, e⟩
    exact e (h v hv m hm)
  · rw [badM_iff, badS_iff]
    rintro (⟨m, hm, e⟩ | ⟨m, hm, e⟩)
    · rw [h1 m hm] at e; cases e
    · rw [h2 m hm] at e; cases e
theorem chk_inv {s l : List (List Int)} (h : chk s l = 0) : (∀ m ∈ l, vldM m = true) ∧ (∀ v ∈ s, b01 v = true) ∧ ∀ v ∈ s, ∀ m ∈ l, v.length = m.length := by
  unfold chk at h
  split at h
  · omega
  · rename_i h1
    split at h
    · omega
    · rename_i h2
      rw [badM_iff, badS_iff] at h1
      rw [diffL_iff] at h2
      refine ⟨fun m hm => ?_, fun v hv => ?_, fun v hv m hm => ?_⟩
      · cases e : vldM m with
        | true => rfl
        | false => exact absurd (.inl ⟨m, hm, e⟩) h1
      · cases e : b01 v with
        | true => rfl
        | false => exact absurd (.inr ⟨v, hv, e⟩) h1
      · apply Classical.byContradiction
        intro e
        exact h2 ⟨v, hv, m, hm, e⟩
/-- The character of a monomial. -/
def chr (s : List (List Int)) (m : List Int) : List Int := s.map fun v => dotN m v v.length % 2
theorem chr_len (s : List (List Int)) (m : List Int) : (chr s m).length = s.length := by simp [chr]
theorem chr_bit (s : List (List Int)) (m : List Int) : ∀ x ∈ chr s m, x = 0 ∨ x = 1 := by
  intro x hx
  obtain ⟨v, _, rfl⟩ := List.mem_map.1 hx
  omega
theorem chr_odd {m v : List Int} (hv : Bit01 v) (hm : ∀ x ∈ m, 0 ≤ x) (hl : v.length = m.length) (h64 : m.length ≤ 64) : (dotN m v v.length % 2 = if size (pk v v.length &&& pk m m.length) % 2 = 1 then 1 else 0) := by
  rw [size_and m _ m.length h64, dotN_pr m v v.length hv rfl hm v.length (Nat.le_refl _), hl]
  split <;> omega
/-- The classes: keys so far and the indices of each. -/
def clsSt (ks : List (List Int)) : Nat → List (List Int) × List (List Nat)
  | 0 => ([], [])
  | i + 1 =>
    let K := (clsSt ks i).1
    let C := (clsSt ks i).2
    let k := K.idxOf (ks.getD i [])
    if k < K.length then (K, C.set k (C.getD k [] ++ [i])) else (K ++ [ks.getD i []], C ++ [[i]])
theorem clsSt_len (ks : List (List Int)) : ∀ i, (clsSt ks i).1.length = (clsSt ks i).2.length ∧ (clsSt ks i).1.length ≤ i
  | 0 => by simp [clsSt]
  | i + 1 => by
    have ih := clsSt_len ks i
    simp only [clsSt]
    split
    · simp only [List.length_set]; omega
    · simp only [List.length_append, List.length_cons, List.length_nil]; omega
theorem clsSt_old {ks : List (List Int)} {i : Nat} (h : (clsSt ks i).1.idxOf (ks.getD i []) < (clsSt ks i).1.length) : clsSt ks (i + 1) = ((clsSt ks i).1, (clsSt ks i).2.set ((clsSt ks i).1.idxOf (ks.getD i [])) ((clsSt ks i).2.getD ((clsSt ks i).1.idxOf (ks.getD i [])) [] ++ [i])) := by
  simp only [clsSt]; rw [if_pos h]
theorem clsSt_new {ks : List (List Int)} {i : Nat} (h : ¬ (clsSt ks i).1.idxOf (ks.getD i []) < (clsSt ks i).1.length) : clsSt ks (i + 1) = ((clsSt ks i).1 ++ [ks.getD i []], (clsSt ks i).2 ++ [[i]]) := by
  simp only [clsSt]; rw [if_neg h]
theorem clsSt_each (ks : List (List Int)) : ∀ i j, ((clsSt ks i).2.getD j []).length ≤ i
  | 0, j => by simp [clsSt]
  | i + 1, j => by
    have ih := clsSt_each ks i
    by_cases hc : (clsSt ks i).1.idxOf (ks.getD i []) < (clsSt ks i).1.length
    · rw [clsSt_old hc]
      have hk := (clsSt_len ks i).1
      generalize (clsSt ks i).1.idxOf (ks.getD i []) = k at *
      have h1 := ih j
      have h2 := ih k
      generalize (clsSt ks i).2 = C at *
      simp only [List.getD_eq_getElem?_getD, List.getElem?_set] at h1 h2 ⊢
      by_cases e : k = j
      · subst e
        rw [if_pos rfl, if_pos (by omega)]
        simp only [Option.getD_some, List.length_append, List.length_cons, List.length_nil]
        omega
      · rw [if_neg e]; omega
    · rw [clsSt_new hc]
      have h1 := ih j
      generalize (clsSt ks i).2 = C at *
      simp only [List.getD_eq_getElem?_getD] at h1 ⊢
      rcases Nat.lt_or_ge j C.length with h | h
      · rw [List.getElem?_append_left h]; omega
      · rw [List.getElem?_append_right h]
        cases hh : j - C.length with
        | zero => simp
        | succ z => simp
end Go.Ev
end
section
/- Sign symmetries: what the search over all sign vectors finds. Plain numbers. -/
namespace Go.Ev
open Go.Gr
/-- The parities of the rows, as marks. -/
def occF (rows : List (List Int)) (i : Nat) : Bool := rows.any fun r => pk r r.length == i
theorem occF_app (rows : List (List Int)) (r : List Int) (i : Nat) : occF (rows ++ [r]) i = (occF rows i || (pk r r.length == i)) := by
  unfold occF; rw [List.any_append]; simp
/-- A sign vector that has an even number of bits in common with each marked number. -/
def goodS (f : Nat → Bool) (x : Nat) : Bool := (List.range 64).all fun e => !(f e && decide (size (x &&& e) % 2 = 1))
theorem goodS_iff {f : Nat → Bool} {x : Nat} : goodS f x = true ↔ ∀ e, e < 64 → f e = true → size (x &&& e) % 2 ≠ 1 := by
  unfold goodS
  rw [List.all_eq_true]
  constructor
  · intro h e he hf
    have := h e (List.mem_range.2 he)
    simpa [hf] using this
  · intro h e he
    have := h e (List.mem_range.1 he)
    cases hf : f e with
    | false => rfl
    | true => simpa using this hf
theorem good_V {rows : List (List Int)} {n x : Nat} (hn : n ≤ 6) (hx : x < 2 ^ n) (hr : ∀ r ∈ rows, r.length = n) : goodS (occF rows) x = true ↔ V rows n x := by
  have h6 : 2 ^ n ≤ 2 ^ 6 := Nat.pow_le_pow_right (by omega) hn
  rw [goodS_iff]
  constructor
  · intro h
    refine ⟨hx, fun r hr' => ?_⟩
    have hl := hr r hr'
    have hp := pk_lt r r.length
    rw [hl] at hp
    have := h (pk r n) (by omega) (by unfold occF; exact List.any_eq_true.2 ⟨r, hr', by rw [hl]; simp⟩)
    rw [size_and r x n (by omega)] at this
    omega
  · intro h e he hf
    unfold occF at hf
    obtain ⟨r, hr', hre⟩ := List.any_eq_true.1 hf
    have hl := hr r hr'
    have e2 : pk r n = e := by rw [hl] at hre; simpa using hre
    rw [← e2, size_and r x n (by omega), h.2 r hr']
    decide
/-- The vectors that the search has found below s. -/
def fnd (f : Nat → Bool) (s : Nat) : List Nat := (List.range s).filter fun x => decide (0 < x) && goodS f x
theorem fnd_succ (f : Nat → Bool) (s : Nat) (hs : 0 < s) : fnd f (s + 1) = fnd f s ++ (if goodS f s = true then [s] else []) := by
  unfold fnd
  rw [List.range_succ, List.filter_append]
  congr 1
  simp [List.filter_cons, hs]
theorem fnd_one (f : Nat → Bool) : fnd f 1 = [] := rfl
theorem fnd_len (f : Nat → Bool) (s : Nat) : (fnd f s).length ≤ s := by
  unfold fnd
  exact Nat.le_trans (List.length_filter_le _ _) (by simp)
theorem fnd_space {rows : List (List Int)} {n : Nat} (hn : n ≤ 6) (hr : ∀ r ∈ rows, r.length = n) :
    (∀ v ∈ fnd (occF rows) (2 ^ n), V rows n v) ∧ ∀ x, V rows n x → Span (fnd (occF rows) (2 ^ n)) x := by
  constructor
  · intro v hv
    obtain ⟨h1, h2⟩ := List.mem_filter.1 hv
    have h1 := List.mem_range.1 h1
    rw [Bool.and_eq_true] at h2
    exact (good_V hn h1 hr).1 h2.2
  · intro x hx
    by_cases h0 : x = 0
    · subst h0; exact .zero
    · exact Span.mem (List.mem_filter.2 ⟨List.mem_range.2 hx.1, by rw [(good_V hn hx.1 hr).2 hx, decide_eq_true (Nat.pos_of_ne_zero h0)]; rfl⟩)
end Go.Ev
end
section
/- The reduced vectors, by search: a test that can be run. Plain numbers. -/
namespace Go.Ev
def Vb (rows : List (List Int)) (n x : Nat) : Bool := decide (x < 2 ^ n) && rows.all fun r => pr r x n % 2 == 0
theorem Vb_iff {rows : List (List Int)} {n x : Nat} : Vb rows n x = true ↔ V rows n x := by unfold Vb V; simp
def leadB (x k : Nat) : Bool := x.testBit k && (List.range k).all fun b => !x.testBit b
theorem leadB_iff {x k : Nat} : leadB x k = true ↔ Lead x k := by unfold leadB Lead; simp
def redB (rows : List (List Int)) (n x : Nat) : Bool := (List.range (2 ^ n)).all fun t => (List.range n).all fun k => (List.range n).all fun l => !(Vb rows n t && leadB t k && leadB x l && decide (l < k) && x.testBit k)
theorem redB_iff {rows : List (List Int)} {n x : Nat} (hx : x < 2 ^ n) : redB rows n x = true ↔ Red (V rows n) x := by
  unfold redB Red
  simp only [List.all_eq_true, List.mem_range]
  constructor
  · intro h t k l ht hk hl hlk
    have := h t ht.1 k (lead_lt ht.1 hk) l (lead_lt hx hl)
    cases hb : x.testBit k with
    | false => rfl
    | true => rw [Vb_iff.2 ht, leadB_iff.2 hk, leadB_iff.2 hl, decide_eq_true hlk, hb] at this; cases this
  · intro h t _ k _ l _
    by_cases hc : V rows n t ∧ Lead t k ∧ Lead x l ∧ l < k
    · rw [h t k l hc.1 hc.2.1 hc.2.2.1 hc.2.2.2]; simp
    · cases hv : Vb rows n t with
      | false => rfl
      | true =>
        cases h1 : leadB t k with
        | false => rfl
        | true =>
          cases h2 : leadB x l with
          | false => rfl
          | true =>
            have : ¬ l < k := fun h3 => hc ⟨Vb_iff.1 hv, leadB_iff.1 h1, leadB_iff.1 h2, h3⟩
            rw [decide_eq_false this]; rfl
def keepB (rows : List (List Int)) (n x : Nat) : Bool := Vb rows n x && redB rows n x
/-- The rows of the echelon form are those that the search keeps. -/
theorem rows_keep {rows : List (List Int)} {n r : Nat} {us : List Nat} {p : Nat → Nat} (h : EInv (V rows n) n us r p) : us.take r = kern (keepB rows n) n (2 ^ n - 1) :=
  rows_kern h (V_space rows n) (keepB rows n) (fun x _ hx => by unfold keepB; rw [Bool.and_eq_true, Vb_iff, redB_iff hx])
end Go.Ev
end
section
/- The text of a number's negative; a sign vector applied to a polynomial. -/
namespace Go.Mo
open Go.Qn Go.Lib
def negL (l : List UInt8) : List UInt8 := if l.head? = some 45 then l.tail else 45 :: l
theorem negL_text {b : Bool} {n d : Nat} : negL (text b n d) = text (!b) n d := by
  cases b with
  | true => simp [negL, text]
  | false =>
    have hne := dec_ne n
    have hh : (text false n d).head? ≠ some 45 := by
      unfold text
      simp only [Bool.false_eq_true, if_false, List.nil_append]
      rw [List.head?_append]
      cases hx : decDigits n with
      | nil => exact absurd hx hne
      | cons c t =>
        simp only [List.head?_cons, Option.some_or]
        intro e
        injection e with e
        have := dec_allD n c (by rw [hx]; simp)
        rw [e] at this
        exact absurd this (by decide)
    unfold negL
    rw [if_neg hh]
    simp [text]
theorem rd_neg {l : List UInt8} {b : Bool} {n d : Nat} (h : rd l = some (b, n, d)) (h0 : n ≠ 0) : rd (negL l) = some (!b, n, d) := by
  obtain ⟨hc, rfl⟩ := rd_some h
  rw [negL_text]
  exact rd_text ⟨hc.1, hc.2.1, fun e => absurd e h0⟩
theorem negL_negL {l : List UInt8} {b : Bool} {n d : Nat} (h : rd l = some (b, n, d)) : negL (negL l) = l := by
  obtain ⟨hc, rfl⟩ := rd_some h
  rw [negL_text, negL_text, Bool.not_not]
theorem negL_len (l : List UInt8) : (negL l).length ≤ l.length + 1 := by
  unfold negL; split
  · rw [List.length_tail]; omega
  · simp
theorem negL_ne (l : List UInt8) : negL l ≠ l := by
  intro h
  have := congrArg List.length h
  unfold negL at this
  split at this
  · rename_i h1
    cases l with
    | nil => simp at h1
    | cons c t => simp at this
  · simp at this
def negB (s : ByteArray) : ByteArray := ⟨(negL s.data.toList).toArray⟩
theorem negB_data (s : ByteArray) : (negB s).data.toList = negL s.data.toList := by simp [negB]
theorem coef_some {s : ByteArray} (h : coefOk s = true) : ∃ b n d, rd s.data.toList = some (b, n, d) ∧ n ≠ 0 := by
  unfold coefOk at h
  split at h
  · rename_i b n d hr
    exact ⟨b, n, d, hr, by simpa using h⟩
  · cases h
theorem coef_neg {s : ByteArray} (h : coefOk s = true) : coefOk (negB s) = true := by
  obtain ⟨b, n, d, hr, h0⟩ := coef_some h
  unfold coefOk
  rw [negB_data, rd_neg hr h0]
  simpa using h0
theorem negB_negB {s : ByteArray} (h : coefOk s = true) : negB (negB s) = s := by
  obtain ⟨b, n, d, hr, h0⟩ := coef_some h
  have : (negB (negB s)).data.toList = s.data.toList := by rw [negB_data, negB_data, negL_negL hr]
  cases s
  rename_i dt
  have e : (negB (negB ⟨dt⟩)).data = dt := Array.toList_inj.1 this
  exact congrArg ByteArray.mk e
theorem negB_ne (s : ByteArray) : negB s ≠ s := by
  intro h
  have : (negB s).data.toList = s.data.toList := by rw [h]
  rw [negB_data] at this
  exact negL_ne _ this
theorem negB_size (s : ByteArray) : (negB s).size ≤ s.size + 1 := by
  have h1 := negL_len s.data.toList
  have h2 : (negB s).size = (negL s.data.toList).length := rfl
  have h3 : s.data.toList.length = s.size := rfl
  omega
/-! A sign vector applied. -/
def oddT (s e : List Int) : Bool := decide (Gr.size (Ev.pk s s.length &&& Ev.pk e e.length) % 2 = 1)
def appT (s : List Int) (t : Term) : Term := if oddT s t.2 = true then (negB t.1, t.2) else t
theorem appT_exps (s : List Int) (t : Term) : (appT s t).2 = t.2 := by unfold appT; split <;> rfl
theorem appT_ok {s : List Int} {v : Int} {t : Term} (h : termOk v t = true) : termOk v (appT s t) = true := by
  rw [termOk_iff] at h ⊢
  rw [appT_exps]
  refine ⟨?_, h.2⟩
  unfold appT
  split
  · exact coef_neg h.1
  · exact h.1
theorem appT_appT {s : List Int} {v : Int} {t : Term} (h : termOk v t = true) : appT s (appT s t) = t := by
  rw [termOk_iff] at h
  by_cases ho : oddT s t.2 = true
  · have e1 : appT s t = (negB t.1, t.2) := if_pos ho
    rw [e1]
    unfold appT
    rw [if_pos ho, negB_negB h.1]
  · have e1 : appT s t = t := if_neg ho
    rw [e1, e1]
theorem appT_size (s : List Int) (t : Term) : (appT s t).1.size ≤ t.1.size + 1 := by
  unfold appT
  split
  · exact negB_size _
  · omega
theorem appT_same {s : List Int} {t : Term} : appT s t = t ↔ oddT s t.2 = false := by
  unfold appT
  constructor
  · intro h
    cases ho : oddT s t.2 with
    | false => rfl
    | true =>
      rw [if_pos ho] at h
      exact absurd (congrArg Prod.fst h) (negB_ne _)
  · intro h
    rw [if_neg (by rw [h]; decide)]
theorem app_valid {s : List Int} {v : Int} {ts : List Term} (h : VldP v ts) : VldP v (ts.map (appT s)) := by
  obtain ⟨h1, ⟨h2, h3, h4⟩, h5⟩ := h
  refine ⟨by simpa using h1, ⟨h2, h3, ?_⟩, ?_⟩
  · intro i hi hl
    have hl' : i < ts.length := by simpa using hl
    obtain ⟨a, b⟩ := h4 i hl' hl'
    rw [List.getElem_map]
    refine ⟨appT_ok a, fun hi0 => ?_⟩
    have := b hi0
    have hi1 : i - 1 < ts.length := by omega
    rw [appT_exps]
    simp only [List.getD_eq_getElem?_getD, List.getElem?_map, List.getElem?_eq_getElem hi1, Option.map_some, Option.getD_some, appT_exps]
    simpa [List.getD_eq_getElem?_getD, List.getElem?_eq_getElem hi1] using this
  · intro h
    have h' : 0 < ts.length := by simpa using h
    rw [List.getElem_map, appT_exps]
    exact h5 h'
theorem app_app {s : List Int} {v : Int} {ts : List Term} (h : VldP v ts) : (ts.map (appT s)).map (appT s) = ts := by
  rw [List.map_map]
  have : ∀ t ∈ ts, (appT s ∘ appT s) t = t := by
    intro t ht
    obtain ⟨i, hi, rfl⟩ := List.getElem_of_mem ht
    exact appT_appT (h.2.1.2.2 i hi hi).1
  exact (List.map_congr_left this).trans (List.map_id' _)
theorem app_same {s : List Int} {ts : List Term} : ts.map (appT s) = ts ↔ ∀ t ∈ ts, oddT s t.2 = false := by
  constructor
  · intro h t ht
    obtain ⟨i, hi, rfl⟩ := List.getElem_of_mem ht
    have : (ts.map (appT s))[i]? = ts[i]? := by rw [h]
    rw [List.getElem?_map, List.getElem?_eq_getElem hi, Option.map_some] at this
    injection this with this
    exact appT_same.1 this
  · intro h
    exact (List.map_congr_left (fun t ht => appT_same.2 (h t ht))).trans (List.map_id' _)
end Go.Mo
end
