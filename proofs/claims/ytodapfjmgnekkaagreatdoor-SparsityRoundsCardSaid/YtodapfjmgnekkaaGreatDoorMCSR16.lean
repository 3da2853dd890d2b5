/- Parts of the proof: GPM, GPN, GXO, GPO. -/
import Derived.Test.YtodapfjmgnekkaaGreatDoorMCSR6
import Derived.Test.YtodapfjmgnekkaaGreatDoorMCSR7
import Derived.Test.YtodapfjmgnekkaaGreatDoorMCSR10
import Derived.Test.YtodapfjmgnekkaaGreatDoorMCSR14
import Derived.Test.YtodapfjmgnekkaaGreatDoorMCSR15
section
/- Plain: the reference finds chordal graphs and their maximal cliques as the library does. -/
namespace Go.Gr
open Go.Chordal
theorem cmpL_antisymm : ∀ x y : List Int, ¬ cmpL x y < 0 → ¬ cmpL y x < 0 → x = y
  | [], [], _, _ => rfl
  | [], _ :: _, h, _ => by simp [cmpL] at h
  | _ :: _, [], _, h => by simp [cmpL] at h
  | a :: l, b :: m, h1, h2 => by
    unfold cmpL at h1 h2
    by_cases p : a < b
    · rw [if_pos p] at h1; omega
    · rw [if_neg p] at h1
      by_cases q : b < a
      · rw [if_pos q] at h2; omega
      · rw [if_neg q] at h1 h2
        rw [if_neg p] at h2
        have : a = b := by omega
        rw [this, cmpL_antisymm l m h1 h2]
theorem sorted_same : ∀ {l m : List (List Int)}, l.Perm m → l.Pairwise (fun a b => ¬ cmpL b a < 0) → m.Pairwise (fun a b => ¬ cmpL b a < 0) → l = m
  | [], m, h, _, _ => by rw [List.nil_perm.1 h]
  | x :: l, [], h, _, _ => by have := h.length_eq; simp at this
  | x :: l, y :: m, h, h1, h2 => by
    rw [List.pairwise_cons] at h1 h2
    have hxy : x = y := by
      have a : x ∈ y :: m := h.mem_iff.1 (by simp)
      have b : y ∈ x :: l := h.mem_iff.2 (by simp)
      rcases List.mem_cons.1 a with e | e
      · exact e
      · rcases List.mem_cons.1 b with e2 | e2
        · exact e2.symm
        · exact cmpL_antisymm x y (h2.1 x e) (h1.1 y e2)
    subst hxy
    rw [sorted_same (h.cons_inv) h1.2 h2.2]
theorem pair_of_sortedL {l : List (List Int)} (h : Go.Proofs.Tg.Gx.sortedL l) : l.Pairwise (fun a b => ¬ cmpL b a < 0) := by
  rw [List.pairwise_iff_getElem]
  intro i j hi hj hij
  have := h i j hij hj
  rw [List.getD_eq_getElem?_getD, List.getD_eq_getElem?_getD, List.getElem?_eq_getElem hi, List.getElem?_eq_getElem hj] at this
  exact this
theorem peo_suffix {adj : Nat → Nat → Prop} : ∀ (l1 : List Nat) {l2 : List Nat}, Peo adj (l1 ++ l2) → Peo adj l2
  | [], _, h => h
  | _ :: l1, _, h => peo_suffix l1 h.2
/-- The first of l that is not gone. -/
theorem first_left {p : Nat → Bool} : ∀ {l : List Nat}, (∃ v ∈ l, p v = false) → ∃ l1 v l2, l = l1 ++ v :: l2 ∧ p v = false ∧ ∀ x ∈ l1, p x = true
  | [], ⟨v, hv, _⟩ => by simp at hv
  | x :: l, h => by
    by_cases hx : p x = false
    · exact ⟨[], x, l, rfl, hx, by simp⟩
    · obtain ⟨v, hv, hp⟩ := h
      have hv2 : v ∈ l := by
        rcases List.mem_cons.1 hv with rfl | hv
        · exact absurd hp hx
        · exact hv
      obtain ⟨l1, u, l2, e, h1, h2⟩ := first_left (l := l) ⟨v, hv2, hp⟩
      refine ⟨x :: l1, u, l2, by rw [e]; rfl, h1, fun y hy => ?_⟩
      rcases List.mem_cons.1 hy with rfl | hy
      · simpa using hx
      · exact h2 y hy
section
variable {t : Nat → Nat → Bool} {n : Nat}
theorem simp_of {gone : Nat → Bool} {i : Nat} (h : ∀ a b, a < n → b < n → gone a = false → gone b = false → t i a = true → t i b = true → a ≠ b → t a b = true) : simpB t n gone i = true := by
  rw [simpB_iff]
  intro a ha b hb
  unfold okp
  cases h1 : gone a <;> cases h2 : gone b <;> cases h3 : t i a <;> cases h4 : t i b <;> simp
  exact h a b ha (by omega) h1 h2 h3 h4 (by omega)
theorem of_simp (hN : Nice t n) {gone : Nat → Bool} {i : Nat} (h : simpB t n gone i = true) : ∀ a b, a < n → b < n → gone a = false → gone b = false → t i a = true → t i b = true → a ≠ b → t a b = true := by
  rw [simpB_iff] at h
  have half : ∀ a b, a < n → b < a → gone a = false → gone b = false → t i a = true → t i b = true → t a b = true := by
    intro a b ha hb h1 h2 h3 h4
    have := h a ha b hb
    unfold okp at this
    rw [h1, h2, h3, h4] at this
    simpa using this
  intro a b ha hb h1 h2 h3 h4 hne
  rcases Nat.lt_or_gt_of_ne hne with hh | hh
  · exact hN.sym _ _ (half b a hb hh h2 h1 h4 h3)
  · exact half a b ha hh h1 h2 h3 h4
theorem okV_exists (hN : Nice t n) (hC : Chord t n) {gone : Nat → Bool} (hex : ∃ v, v < n ∧ gone v = false) : ∃ i, (List.range n).find? (okV t n gone) = some i := by
  obtain ⟨l, hl1, hl2, hl3⟩ := hC
  obtain ⟨v0, hv0, hg0⟩ := hex
  obtain ⟨l1, v, l2, e, hgv, hbef⟩ := first_left (p := gone) (l := l) ⟨v0, (hl1 v0).2 hv0, hg0⟩
  have hvn : v < n := (hl1 v).1 (by rw [e]; simp)
  have hpeo := peo_suffix l1 (by rw [← e]; exact hl3)
  have hok : okV t n gone v = true := by
    unfold okV
    rw [hgv]
    have : simpB t n gone v = true := by
      refine simp_of (fun a b ha hb h1 h2 h3 h4 hne => ?_)
      have hin : ∀ x, x < n → gone x = false → t v x = true → x ∈ l2 := by
        intro x hx hgx htx
        have : x ∈ l1 ++ v :: l2 := by rw [← e]; exact (hl1 x).2 hx
        rcases List.mem_append.1 this with hh | hh
        · rw [hbef x hh] at hgx; cases hgx
        · rcases List.mem_cons.1 hh with rfl | hh
          · rw [hN.irr] at htx; cases htx
          · exact hh
      exact hpeo.1 a (hin a ha h1 h3) b (hin b hb h2 h4) h3 h4 hne
    rw [this]; rfl
  cases hf : (List.range n).find? (okV t n gone) with
  | none =>
    rw [List.find?_eq_none] at hf
    exact absurd hok (hf v (by simpa using hvn))
  | some i => exact ⟨i, rfl⟩
/-- What the steps have done: the vertices in the order in which they went, and the sets. -/
structure Steps (t : Nat → Nat → Bool) (n r : Nat) (l : List Nat) (gone : Nat → Bool) (sets : List (List Int)) : Prop where
  len : l.length = r
  nd : l.Nodup
  lt : ∀ v ∈ l, v < n
  gone : ∀ v, gone v = true ↔ v ∈ l
  elim : ∀ j (hj : j < l.length), ∀ a b, a < n → b < n → a ∉ l.take j → b ∉ l.take j → a ≠ b → t l[j] a = true → t l[j] b = true → t a b = true
  slen : sets.length = r
  sets : ∀ j (hj : j < l.length) (hs : j < sets.length), ∃ s : List Nat, sets[j] = natsI s ∧ s.Pairwise (· < ·) ∧ ∀ x, x ∈ s ↔ x < n ∧ (x = l[j] ∨ (t l[j] x = true ∧ x ∉ l.take j))
theorem steps_zero : Steps t n 0 [] (fun _ => false) [] := ⟨rfl, by simp, by simp, by simp, fun j hj => by simp at hj, rfl, fun j hj => by simp at hj⟩
theorem steps_succ (hN : Nice t n) {r i : Nat} {l : List Nat} {gone : Nat → Bool} {sets : List (List Int)} (h : Steps t n r l gone sets) (hf : (List.range n).find? (okV t n gone) = some i) :
    Steps t n (r + 1) (l ++ [i]) (updF gone i true) (sets ++ [natsI (rowSet t n gone i)]) := by
  have hok := List.find?_some hf
  have hin : i < n := by simpa using List.mem_of_find?_eq_some hf
  unfold okV at hok
  simp only [Bool.and_eq_true, Bool.not_eq_true'] at hok
  have hil : i ∉ l := fun hm => by rw [(h.gone i).2 hm] at hok; cases hok.1
  have hng : ∀ v, gone v = false ↔ v ∉ l := by
    intro v
    rw [← h.gone]
    simp
  refine ⟨by simp [h.len], ?_, fun v hv => ?_, fun v => ?_, fun j hj a b ha hb h1 h2 hne h3 h4 => ?_, by simp [h.slen], fun j hj hs => ?_⟩
  · rw [List.nodup_append]
    exact ⟨h.nd, by simp, fun a ha b hb e => by simp at hb; subst hb e; exact hil ha⟩
  · rcases List.mem_append.1 hv with hv | hv
    · exact h.lt v hv
    · simp at hv; subst hv; exact hin
  · unfold updF
    by_cases e : v = i
    · rw [if_pos e]; simp [e]
    · rw [if_neg e, h.gone]; simp [e]
  · rw [List.length_append, List.length_singleton] at hj
    by_cases hjl : j < l.length
    · rw [List.take_append_of_le_length (by omega)] at h1 h2
      rw [List.getElem_append_left hjl] at h3 h4
      exact h.elim j hjl a b ha hb h1 h2 hne h3 h4
    · have ej : j = l.length := by omega
      subst ej
      rw [List.take_left'] at h1 h2
      · rw [List.getElem_append_right (Nat.le_refl _)] at h3 h4
        simp at h3 h4
        exact of_simp hN hok.2 a b ha hb ((hng a).2 h1) ((hng b).2 h2) h3 h4 hne
      · rfl
      · rfl
  · rw [List.length_append, List.length_singleton] at hj
    by_cases hjl : j < l.length
    · obtain ⟨s, e, h1, h2⟩ := h.sets j hjl (by rw [h.slen, ← h.len]; exact hjl)
      refine ⟨s, ?_, h1, fun x => ?_⟩
      · rw [List.getElem_append_left (by rw [h.slen, ← h.len]; exact hjl)]; exact e
      · rw [h2, List.getElem_append_left hjl, List.take_append_of_le_length (by omega)]
    · have ej : j = l.length := by omega
      subst ej
      refine ⟨rowSet t n gone i, ?_, ?_, fun x => ?_⟩
      · rw [List.getElem_append_right (by rw [h.slen, h.len]; exact Nat.le_refl _)]
        simp
      · unfold rowSet
        exact List.Pairwise.filter _ List.pairwise_lt_range
      · rw [List.take_left' rfl, List.getElem_append_right (Nat.le_refl _)]
        unfold rowSet
        simp only [List.mem_filter, List.mem_range, Bool.or_eq_true, decide_eq_true_eq, Bool.and_eq_true, Bool.not_eq_true', hng]
        simp
theorem left_exists {r : Nat} {l : List Nat} {gone : Nat → Bool} {sets : List (List Int)} (h : Steps t n r l gone sets) (hr : r < n) : ∃ v, v < n ∧ gone v = false := by
  by_cases hex : ∃ v, v < n ∧ gone v = false
  · exact hex
  · exfalso
    have : n ≤ l.length := cover_le n l (fun v hv => by
      rw [← h.gone]
      cases hg : gone v
      · exact absurd ⟨v, hv, hg⟩ hex
      · rfl)
    have := h.len
    omega
theorem chord_steps (hN : Nice t n) (hC : Chord t n) : ∀ r, r ≤ n → ∃ l, triTo t n r = some (maxTo t n r).1 ∧ Steps t n r l (maxTo t n r).1 (maxTo t n r).2
  | 0, _ => ⟨[], rfl, steps_zero⟩
  | r + 1, hr => by
    obtain ⟨l, h1, h2⟩ := chord_steps hN hC r (by omega)
    obtain ⟨i, hi⟩ := okV_exists hN hC (left_exists h2 (by omega))
    refine ⟨l ++ [i], ?_, ?_⟩
    · rw [maxTo_some hi]
      show (match triTo t n r with | none => none | some gone => _) = _
      rw [h1]
      show (match (List.range n).find? (okV t n (maxTo t n r).1) with | none => none | some i => _) = _
      rw [hi]
    · rw [maxTo_some hi]
      exact steps_succ hN h2 hi
theorem tri_steps (hN : Nice t n) : ∀ r gone, triTo t n r = some gone → ∃ l sets, Steps t n r l gone sets
  | 0, gone, h => by
    have : gone = fun _ => false := by
      have : some (fun _ => false) = some gone := h
      injection this with this; exact this.symm
    subst this
    exact ⟨[], [], steps_zero⟩
  | r + 1, gone, h => by
    have h' : (match triTo t n r with
      | none => none
      | some gone => match (List.range n).find? (okV t n gone) with
        | none => none
        | some i => some (updF gone i true)) = some gone := h
    cases h1 : triTo t n r with
    | none => rw [h1] at h'; cases h'
    | some g0 =>
      rw [h1] at h'
      simp only at h'
      cases h2 : (List.range n).find? (okV t n g0) with
      | none => rw [h2] at h'; cases h'
      | some i =>
        rw [h2] at h'
        simp only at h'
        injection h' with h'
        subst h'
        obtain ⟨l, sets, hs⟩ := tri_steps hN r g0 h1
        exact ⟨_, _, steps_succ hN hs h2⟩
theorem steps_all {l : List Nat} {gone : Nat → Bool} {sets : List (List Int)} (h : Steps t n n l gone sets) : ∀ v, v ∈ l ↔ v < n := by
  intro v
  refine ⟨h.lt v, fun hv => ?_⟩
  by_cases hm : v ∈ l
  · exact hm
  · exfalso
    have := Go.Jt.inj_len (f := fun x => x) (l := v :: l) (l' := List.range n) (List.nodup_cons.2 ⟨hm, h.nd⟩) (fun x hx => by
      rcases List.mem_cons.1 hx with rfl | hx
      · simpa using hv
      · simpa using h.lt x hx) (fun _ _ _ _ e => e)
    rw [List.length_range, List.length_cons, h.len] at this
    omega
theorem steps_chord {l : List Nat} {gone : Nat → Bool} {sets : List (List Int)} (h : Steps t n n l gone sets) : Chord t n := by
  refine ⟨l, steps_all h, h.nd, ?_⟩
  have : ∀ (l2 l1 : List Nat), l = l1 ++ l2 → Peo (fun a b => t a b = true) l2 := by
    intro l2
    induction l2 with
    | nil => intro _ _; exact trivial
    | cons v l2 ih =>
      intro l1 e
      refine ⟨fun a ha b hb h1 h2 hne => ?_, ih (l1 ++ [v]) (by rw [e]; simp)⟩
      have hj : l1.length < l.length := by rw [e]; simp
      have ev : l[l1.length] = v := by simp [e]
      have htk : l.take l1.length = l1 := by rw [e]; simp
      have hnd := h.nd
      rw [e, List.nodup_append] at hnd
      have hnot : ∀ x ∈ l2, x ∉ l1 := fun x hx hx1 => hnd.2.2 x hx1 x (by simp [hx]) rfl
      refine h.elim l1.length hj a b (h.lt a (by rw [e]; simp [ha])) (h.lt b (by rw [e]; simp [hb])) (by rw [htk]; exact hnot a ha) (by rw [htk]; exact hnot b hb) hne (by rw [ev]; exact h1) (by rw [ev]; exact h2)
  exact this l [] rfl
theorem triang_iff (hN : Nice t n) : triang t n = true ↔ Chord t n := by
  unfold triang
  constructor
  · intro h
    cases h1 : triTo t n n with
    | none => rw [h1] at h; cases h
    | some gone =>
      obtain ⟨l, sets, hs⟩ := tri_steps hN n gone h1
      exact steps_chord hs
  · intro hC
    obtain ⟨l, h1, _⟩ := chord_steps hN hC n (Nat.le_refl _)
    rw [h1]; rfl
end
end Go.Gr
end
section
/- Plain: the reference's maximal cliques are the library's. -/
namespace Go.Gr
theorem common_sub {a b : List Int} (hb : b.Nodup) : common a b = a.length ↔ ∀ x ∈ a, x ∈ b := by
  have h1 : common a b = (a.filter fun x => decide (x ∈ b)).length := by
    unfold common
    induction a with
    | nil => rfl
    | cons x l ih =>
      rw [List.map_cons, List.sum_cons, ih]
      by_cases hx : x ∈ b
      · rw [List.filter_cons_of_pos (by simpa using hx), List.Nodup.count hb, if_pos hx]; simp; omega
      · rw [List.filter_cons_of_neg (by simpa using hx), List.count_eq_zero_of_not_mem hx]; simp
  rw [h1, List.length_filter_eq_length_iff]
  simp
theorem natsI_mem {l : List Nat} {x : Nat} : (x : Int) ∈ natsI l ↔ x ∈ l := by
  unfold natsI
  rw [List.mem_map]
  exact ⟨fun ⟨y, hy, e⟩ => by rwa [show x = y by omega], fun h => ⟨x, h, rfl⟩⟩
theorem natsI_sub {a b : List Nat} : (∀ x ∈ natsI a, x ∈ natsI b) ↔ ∀ x ∈ a, x ∈ b := by
  constructor
  · intro h x hx
    exact natsI_mem.1 (h _ (natsI_mem.2 hx))
  · intro h x hx
    unfold natsI at hx
    obtain ⟨y, hy, rfl⟩ := List.mem_map.1 hx
    exact natsI_mem.2 (h y hy)
section
variable {n : Nat} {es : List (Int × Int)}
theorem kept_mem (h : valid n es) (hC : Chord (readT es) n) : ((keptI (maxTo (readT es) n n).2 (maxTo (readT es) n n).2.length).map fun i => (maxTo (readT es) n n).2.getD i []).Nodup ∧
    ∀ X, X ∈ ((keptI (maxTo (readT es) n n).2 (maxTo (readT es) n n).2.length).map fun i => (maxTo (readT es) n n).2.getD i []) ↔ ∃ s, s < 18446744073709551616 ∧ MaxClq (readT es) n s ∧ vertsI s = X := by
  have hN := valid_nice h
  have hn : n ≤ 64 := by have := h.2.1; omega
  obtain ⟨l, _, hS⟩ := chord_steps hN hC n (Nat.le_refl _)
  generalize (maxTo (readT es) n n).2 = sets at hS ⊢
  have hall := steps_all hS
  have hsl := hS.slen
  -- the sets as lists of numbers
  have hex : ∀ j, j < n → ∃ s : List Nat, sets.getD j [] = natsI s ∧ s.Pairwise (· < ·) ∧ ∀ x, x ∈ s ↔ x < n ∧ (x = l.getD j 0 ∨ (readT es (l.getD j 0) x = true ∧ x ∉ l.take j)) := by
    intro j hj
    obtain ⟨s, e, h1, h2⟩ := hS.sets j (by rw [hS.len]; exact hj) (by omega)
    have e1 : l[j]'(by rw [hS.len]; exact hj) = l.getD j 0 := by simp [show j < l.length by rw [hS.len]; exact hj]
    refine ⟨s, ?_, h1, fun x => by rw [h2, e1]⟩
    rw [List.getD_eq_getElem?_getD, List.getElem?_eq_getElem (by omega)]
    exact e
  obtain ⟨S, hSS⟩ : ∃ S : Nat → List Nat, ∀ j, j < n → sets.getD j [] = natsI (S j) ∧ (S j).Pairwise (· < ·) ∧ ∀ x, x ∈ S j ↔ x < n ∧ (x = l.getD j 0 ∨ (readT es (l.getD j 0) x = true ∧ x ∉ l.take j)) :=
    ⟨fun j => if hj : j < n then Classical.choose (hex j hj) else [], fun j hj => by simp only [hj, dite_true]; exact Classical.choose_spec (hex j hj)⟩
  have hgm : ∀ j, j < n → l.getD j 0 ∈ l := fun j hj => Go.Proofs.Tg.Gx.getD_mem (by rw [hS.len]; exact hj)
  have hglt : ∀ j, j < n → l.getD j 0 < n := fun j hj => hS.lt _ (hgm j hj)
  have hself : ∀ j, j < n → l.getD j 0 ∈ S j := fun j hj => ((hSS j hj).2.2 _).2 ⟨hglt j hj, .inl rfl⟩
  have hidx : ∀ v, v < n → ∃ j, j < n ∧ l.getD j 0 = v := by
    intro v hv
    obtain ⟨j, hj, e⟩ := List.getElem_of_mem ((hall v).2 hv)
    exact ⟨j, by rw [← hS.len]; exact hj, by simp [hj, e]⟩
  have htake : ∀ i j, i < n → j < n → (l.getD i 0 ∈ l.take j ↔ i < j) := by
    intro i j hi hj
    have hil : i < l.length := by rw [hS.len]; exact hi
    constructor
    · intro hm
      obtain ⟨k, hk, e⟩ := List.getElem_of_mem hm
      rw [List.length_take] at hk
      rw [List.getElem_take] at e
      have e1 : l.getD i 0 = l[i] := by simp [hil]
      rw [e1] at e
      rcases Nat.lt_trichotomy k i with h1 | h1 | h1
      · exact absurd e (List.pairwise_iff_getElem.1 hS.nd k i (by omega) hil h1)
      · omega
      · exact absurd e.symm (List.pairwise_iff_getElem.1 hS.nd i k hil (by omega) h1)
    · intro hij
      have e1 : l.getD i 0 = l[i] := by simp [hil]
      rw [e1]
      exact List.mem_take_iff_getElem.2 ⟨i, by omega, rfl⟩
  have hclq : ∀ j, j < n → ∀ a b, a ∈ S j → b ∈ S j → a ≠ b → readT es a b = true := by
    intro j hj a b ha hb hne
    obtain ⟨ha1, ha2⟩ := ((hSS j hj).2.2 a).1 ha
    obtain ⟨hb1, hb2⟩ := ((hSS j hj).2.2 b).1 hb
    rcases ha2 with rfl | ⟨ha2, ha3⟩
    · rcases hb2 with rfl | ⟨hb2, _⟩
      · exact absurd rfl hne
      · exact hb2
    · rcases hb2 with rfl | ⟨hb2, hb3⟩
      · exact hN.sym _ _ ha2
      · have e1 : l[j]'(by rw [hS.len]; exact hj) = l.getD j 0 := by simp [show j < l.length by rw [hS.len]; exact hj]
        exact hS.elim j (by rw [hS.len]; exact hj) a b ha1 hb1 ha3 hb3 hne (by rw [e1]; exact ha2) (by rw [e1]; exact hb2)
  have hnd : ∀ j, j < n → (natsI (S j)).Nodup := by
    intro j hj
    unfold natsI
    rw [List.nodup_iff_pairwise_ne, List.pairwise_map]
    exact (hSS j hj).2.1.imp (fun h e => by omega)
  have hkeep : ∀ i, i < n → (keepI sets i = true ↔ ∀ k, k < n → k ≠ i → ¬ ∀ x ∈ S i, x ∈ S k) := by
    intro i hi
    unfold keepI
    rw [List.all_eq_true]
    have hone : ∀ k, k < n → (keepP sets i k = true ↔ (k ≠ i → ¬ ∀ x ∈ S i, x ∈ S k)) := by
      intro k hk
      unfold keepP
      rw [(hSS i hi).1, (hSS k hk).1, Bool.or_eq_true, Bool.not_eq_true', decide_eq_true_eq, decide_eq_false_iff_not, common_sub (hnd k hk), natsI_sub]
      by_cases e : k = i
      · simp [e]
      · simp [e]
    constructor
    · intro hh k hk
      exact (hone k hk).1 (hh k (by simp; omega))
    · intro hh k hk
      have hk : k < n := by have : k < sets.length := by simpa using hk
                            omega
      exact (hone k hk).2 (hh k hk)
  have hset : ∀ j, j < n → asc (natsI (S j)) := by
    intro j hj
    have hp : (natsI (S j)).Pairwise (· < ·) := by
      unfold natsI
      rw [List.pairwise_map]
      exact (hSS j hj).2.1.imp (fun h => by omega)
    have hr : ∀ x ∈ natsI (S j), 0 ≤ x ∧ x < 64 := by
      intro x hx
      unfold natsI at hx
      obtain ⟨y, hy, rfl⟩ := List.mem_map.1 hx
      have := (((hSS j hj).2.2 y).1 hy).1
      omega
    intro i hi _
    exact ⟨hr _ (List.getElem_mem _), fun h0 => List.pairwise_iff_getElem.1 hp (i - 1) i (by omega) hi (by omega)⟩
  have hbit : ∀ j, j < n → ∀ v : Nat, (setOf (natsI (S j))).testBit v = true ↔ v ∈ S j := by
    intro j hj v
    rw [setOf_bit (fun x hx => (asc_range (hset j hj) x hx).1), natsI_mem]
  have hmemK : ∀ X, X ∈ ((keptI sets sets.length).map fun i => sets.getD i []) ↔ ∃ i, i < n ∧ keepI sets i = true ∧ natsI (S i) = X := by
    intro X
    rw [List.mem_map]
    unfold keptI
    constructor
    · rintro ⟨i, hi, e⟩
      rw [List.mem_filter, List.mem_range] at hi
      have hin : i < n := by omega
      exact ⟨i, hin, hi.2, by rw [← e]; exact (hSS i hin).1.symm⟩
    · rintro ⟨i, hi, h1, e⟩
      exact ⟨i, List.mem_filter.2 ⟨by simp; omega, h1⟩, by simp only [(hSS i hi).1]; exact e⟩
  refine ⟨?_, fun X => ?_⟩
  · rw [List.nodup_iff_pairwise_ne, List.pairwise_map]
    have hnk : (keptI sets sets.length).Nodup := by
      unfold keptI
      exact List.Pairwise.filter _ List.nodup_range
    refine List.Pairwise.imp_of_mem (fun {a b} ha hb hne e => ?_) hnk
    unfold keptI at ha hb
    rw [List.mem_filter, List.mem_range] at ha hb
    have han : a < n := by omega
    have hbn : b < n := by omega
    rw [(hSS a han).1, (hSS b hbn).1] at e
    refine (hkeep a han).1 ha.2 b hbn (fun e2 => hne e2.symm) (fun x hx => ?_)
    exact natsI_mem.1 (by rw [← e]; exact natsI_mem.2 hx)
  · rw [hmemK]
    constructor
    · rintro ⟨i, hi, hk, rfl⟩
      refine ⟨setOf (natsI (S i)), setOf_small (hset i hi), ⟨fun v hv => ?_, fun u v hu hv hne => ?_, fun v hv hadj => ?_, ?_⟩, vertsZ_setOf (hset i hi)⟩
      · exact (((hSS i hi).2.2 v).1 ((hbit i hi v).1 hv)).1
      · exact hclq i hi u v ((hbit i hi u).1 hu) ((hbit i hi v).1 hv) hne
      · rw [hbit i hi]
        obtain ⟨j, hj, rfl⟩ := hidx v hv
        have hadj' : ∀ u ∈ S i, u ≠ l.getD j 0 → readT es u (l.getD j 0) = true := fun u hu hne => hadj u ((hbit i hi u).2 hu) hne
        rcases Nat.lt_trichotomy j i with hji | hji | hji
        · exfalso
          refine (hkeep i hi).1 hk j hj (by omega) (fun x hx => ?_)
          rw [(hSS j hj).2.2]
          obtain ⟨hx1, hx2⟩ := ((hSS i hi).2.2 x).1 hx
          refine ⟨hx1, ?_⟩
          obtain ⟨q, hq, rfl⟩ := hidx x hx1
          by_cases e : l.getD q 0 = l.getD j 0
          · exact .inl e
          · right
            refine ⟨hN.sym _ _ (hadj' _ hx e), ?_⟩
            rw [htake q j hq hj]
            have : i ≤ q := by
              rcases hx2 with e2 | ⟨_, h3⟩
              · have : ¬ q < i := by rw [← htake q i hq hi, e2, htake i i hi hi]; omega
                omega
              · rw [htake q i hq hi] at h3; omega
            omega
        · subst hji; exact hself j hj
        · rw [(hSS i hi).2.2]
          refine ⟨hglt j hj, .inr ⟨?_, by rw [htake j i hj hi]; omega⟩⟩
          refine hadj' _ (hself i hi) (fun e => ?_)
          have : j < i ∨ ¬ j < i := Classical.em _
          have h1 : l.getD i 0 ∈ l.take j := (htake i j hi hj).2 hji
          rw [e] at h1
          have := (htake j j hj hj).1 h1
          omega
      · exact ⟨_, (hbit i hi _).2 (hself i hi)⟩
    · rintro ⟨s, hs, hM, rfl⟩
      have hleast : ∃ i, i < n ∧ s.testBit (l.getD i 0) = true ∧ ∀ j, j < i → s.testBit (l.getD j 0) = false := by
        obtain ⟨v, hv⟩ := hM.one
        obtain ⟨j, hj, rfl⟩ := hidx v (hM.lt v hv)
        have : ∀ j, j < n → s.testBit (l.getD j 0) = true → ∃ i, i < n ∧ s.testBit (l.getD i 0) = true ∧ ∀ j, j < i → s.testBit (l.getD j 0) = false := by
          intro j
          induction j using Nat.strongRecOn with
          | _ j ih =>
            intro hj hb
            by_cases hh : ∃ q, q < j ∧ s.testBit (l.getD q 0) = true
            · obtain ⟨q, h1, h2⟩ := hh
              exact ih q h1 (by omega) h2
            · refine ⟨j, hj, hb, fun q hq => ?_⟩
              cases hbq : s.testBit (l.getD q 0)
              · rfl
              · exact absurd ⟨q, hq, hbq⟩ hh
        exact this j hj hv
      obtain ⟨i, hi, hib, hbef⟩ := hleast
      have hsub : ∀ x, s.testBit x = true → x ∈ S i := by
        intro x hx
        rw [(hSS i hi).2.2]
        refine ⟨hM.lt x hx, ?_⟩
        by_cases e : x = l.getD i 0
        · exact .inl e
        · right
          refine ⟨hM.clq _ _ hib hx (fun e2 => e e2.symm), ?_⟩
          obtain ⟨q, hq, rfl⟩ := hidx x (hM.lt x hx)
          rw [htake q i hq hi]
          intro hqi
          rw [hbef q hqi] at hx
          cases hx
      have hsame : ∀ x, x ∈ S i ↔ s.testBit x = true := fun x => ⟨fun hx => hM.max x (((hSS i hi).2.2 x).1 hx).1 (fun u hu hne => hclq i hi u x (hsub u hu) hx hne), hsub x⟩
      have hes : setOf (natsI (S i)) = s := by
        apply Nat.eq_of_testBit_eq
        intro x
        rw [Bool.eq_iff_iff, hbit i hi, hsame]
      refine ⟨i, hi, (hkeep i hi).2 (fun k hk hki hin => ?_), ?_⟩
      · have hkS : l.getD k 0 ∈ S i := by
          rw [hsame]
          refine hM.max _ (hglt k hk) (fun u hu hne => ?_)
          exact hclq k hk u _ (hin u (hsub u hu)) (hself k hk) hne
        have hik : i < k := by
          obtain ⟨_, h2⟩ := ((hSS i hi).2.2 _).1 hkS
          have hnot : ¬ k < i := by
            rcases h2 with e | ⟨_, h3⟩
            · rw [← htake k i hk hi, e, htake i i hi hi]; omega
            · rw [htake k i hk hi] at h3; exact h3
          omega
        obtain ⟨_, h2⟩ := ((hSS k hk).2.2 _).1 (hin _ (hself i hi))
        have htk := (htake i k hi hk).2 hik
        rcases h2 with e | ⟨_, h3⟩
        · rw [e] at htk
          have := (htake k k hk hk).1 htk
          omega
        · exact h3 htk
      · rw [← hes]
        exact (vertsZ_setOf (hset i hi)).symm
/-- Both lists of cliques are one. -/
theorem max_same (h : valid n es) (hc : isChordal (readAll es) n = true) {lo ls : List (List Int)} (h1 : lo.Perm ((keptI (maxTo (readT es) n n).2 (maxTo (readT es) n n).2.length).map fun i => (maxTo (readT es) n n).2.getD i [])) (h2 : Go.Proofs.Tg.Gx.sortedL lo)
    (h3 : ls.Perm ((keepLast (cands (readAll es) n)).map vertsI)) (h4 : Go.Proofs.Tg.Gx.sortedL ls) : lo = ls := by
  have hn : n ≤ 64 := by have := h.2.1; omega
  obtain ⟨hnd, hmem⟩ := kept_mem h ((isChordal_chord h).1 hc)
  have hnd2 : ((keepLast (cands (readAll es) n)).map vertsI).Nodup := by
    rw [List.nodup_iff_pairwise_ne, List.pairwise_map]
    exact List.Pairwise.imp_of_mem (fun {a b} ha hb hne e => hne (vertsI_inj ((keep_iff h hc a).1 ha).1 ((keep_iff h hc b).1 hb).1 e)) ((cands_nodup (es := es) hn).sublist (keepLast_sub _))
  have hp : ((keptI (maxTo (readT es) n n).2 (maxTo (readT es) n n).2.length).map fun i => (maxTo (readT es) n n).2.getD i []).Perm ((keepLast (cands (readAll es) n)).map vertsI) := by
    rw [List.perm_ext_iff_of_nodup hnd hnd2]
    intro X
    rw [hmem, List.mem_map]
    constructor
    · rintro ⟨s, h1, h2, e⟩
      exact ⟨s, (keep_iff h hc s).2 ⟨h1, h2⟩, e⟩
    · rintro ⟨s, hs, e⟩
      have := (keep_iff h hc s).1 hs
      exact ⟨s, this.1, this.2, e⟩
  exact sorted_same ((h1.trans hp).trans h3.symm) (pair_of_sortedL h2) (pair_of_sortedL h4)
end
end Go.Gr
end
section
/- The reference's Extend and Cliques. -/
namespace Go.Gr
def fillEs (n : Nat) (es : List (Int × Int)) : List (Int × Int) := tableEdges (fillTo (readT es) n n).1 n n
theorem fillEs_valid {n : Nat} {es : List (Int × Int)} (hn : n ≤ 64) : valid n (fillEs n es) := tableEdges_valid _ hn
theorem fillEs_len {n : Nat} {es : List (Int × Int)} (hn : n ≤ 64) : (fillEs n es).length ≤ 4096 := by
  have := tableEdges_len (fillTo (readT es) n n).1 n n
  have h2 : n * n ≤ 64 * 64 := Nat.mul_le_mul hn hn
  unfold fillEs
  omega
end Go.Gr
namespace Go.Proofs.Tg.Gx
open Go.RowKit Go.Gr
set_option maxHeartbeats 4000000
set_option maxRecDepth 100000
def RetFill (n : Nat) (es : List (Int × Int)) (w : World) (e : Ending) (w' : World) : Prop :=
  ∃ xs F d, xs = fillEs n es ∧ e = .returned (.tuple #[.agg #[.int .i64 n, .slice F (List.length xs) d], .int .i64 0]) ∧ w'.ownsRow w.heap.size 83 2 (.slice F xs.length d) xs.length (ecells xs) ∧ Below w.heap.size w w'
/-- What Cliques of the reference returns. -/
def RetRef (n : Nat) (es : List (Int × Int)) (w : World) (e : Ending) (w' : World) : Prop :=
  ∃ lo V d er, e = .returned (.tuple #[.slice V (List.length lo) d, .int .i64 er]) ∧ Lists w' V lo ∧
    ((triang (readT es) n = false ∧ lo = [] ∧ er = 11) ∨ (triang (readT es) n = true ∧ er = 0 ∧ lo.Perm ((keptI (maxTo (readT es) n n).2 (maxTo (readT es) n n).2.length).map fun i => (maxTo (readT es) n n).2.getD i []) ∧ sortedL lo)) ∧ Below w.heap.size w w'
end Go.Proofs.Tg.Gx
end
section
/- What the reference fills is what the library fills; the count of its search; its parts. -/
namespace Go.Gr
open Go.Jt
def goodC (gone : Nat → Bool) (t : Nat → Nat → Bool) (best x : Nat) : Prop := gone x = false ∧ t best x = true
theorem rowF_at {gone : Nat → Bool} {best a : Nat} {u : Nat → Nat → Bool} (hb : u best best = false) : ∀ k i j, rowF gone best a u k i j = true ↔ u i j = true ∨ (goodC gone u best a ∧ ((i = a ∧ j < k ∧ goodC gone u best j) ∨ (j = a ∧ i < k ∧ goodC gone u best i)))
  | 0, i, j => by simp [rowF]
  | k + 1, i, j => by
    rw [rowF_succ]
    have ih := rowF_at (gone := gone) (a := a) hb k
    have hrow : ∀ x, rowF gone best a u k best x = u best x := by
      intro x
      rw [Bool.eq_iff_iff, ih]
      constructor
      · rintro (h | ⟨ha, ⟨e, _⟩ | ⟨_, _, h⟩⟩)
        · exact h
        · subst e; have := ha.2; rw [hb] at this; cases this
        · have := h.2; rw [hb] at this; cases this
      · exact .inl
    unfold stepF
    rw [hrow, hrow]
    by_cases hc : (!gone a && !gone k && u best a && u best k) = true
    · rw [if_pos hc, joinT_at]
      simp only [Bool.and_eq_true, Bool.not_eq_true'] at hc
      obtain ⟨⟨⟨h1, h2⟩, h3⟩, h4⟩ := hc
      rw [Bool.or_eq_true, Bool.or_eq_true, decide_eq_true_eq, decide_eq_true_eq, ih]
      constructor
      · rintro ((⟨e1, e2⟩ | ⟨e1, e2⟩) | h | ⟨ha, ⟨e, hj, g⟩ | ⟨e, hi, g⟩⟩)
        · exact .inr ⟨⟨h1, h3⟩, .inl ⟨e1, by omega, by rw [e2]; exact ⟨h2, h4⟩⟩⟩
        · exact .inr ⟨⟨h1, h3⟩, .inr ⟨e2, by omega, by rw [e1]; exact ⟨h2, h4⟩⟩⟩
        · exact .inl h
        · exact .inr ⟨ha, .inl ⟨e, by omega, g⟩⟩
        · exact .inr ⟨ha, .inr ⟨e, by omega, g⟩⟩
      · rintro (h | ⟨ha, ⟨e, hj, g⟩ | ⟨e, hi, g⟩⟩)
        · exact .inr (.inl h)
        · by_cases e2 : j = k
          · exact .inl (.inl ⟨e, e2⟩)
          · exact .inr (.inr ⟨ha, .inl ⟨e, by omega, g⟩⟩)
        · by_cases e2 : i = k
          · exact .inl (.inr ⟨e2, e⟩)
          · exact .inr (.inr ⟨ha, .inr ⟨e, by omega, g⟩⟩)
    · rw [if_neg hc, ih]
      have hno : goodC gone u best a → goodC gone u best k → False := fun h1 h2 => hc (by simp [h1.1, h1.2, h2.1, h2.2])
      constructor
      · rintro (h | ⟨ha, ⟨e, hj, g⟩ | ⟨e, hi, g⟩⟩)
        · exact .inl h
        · exact .inr ⟨ha, .inl ⟨e, by omega, g⟩⟩
        · exact .inr ⟨ha, .inr ⟨e, by omega, g⟩⟩
      · rintro (h | ⟨ha, ⟨e, hj, g⟩ | ⟨e, hi, g⟩⟩)
        · exact .inl h
        · by_cases e2 : j = k
          · subst e2; exact (hno ha g).elim
          · exact .inr ⟨ha, .inl ⟨e, by omega, g⟩⟩
        · by_cases e2 : i = k
          · subst e2; exact (hno ha g).elim
          · exact .inr ⟨ha, .inr ⟨e, by omega, g⟩⟩
theorem allF_at {gone : Nat → Bool} {best : Nat} {t : Nat → Nat → Bool} (hb : t best best = false) : ∀ k i j, allF gone best t k i j = true ↔ t i j = true ∨ (i ≠ j ∧ i < k ∧ j < k ∧ goodC gone t best i ∧ goodC gone t best j)
  | 0, i, j => by simp [allF]
  | k + 1, i, j => by
    have ih := allF_at (gone := gone) hb k
    have hrow : ∀ x, allF gone best t k best x = t best x := by
      intro x
      rw [Bool.eq_iff_iff, ih]
      constructor
      · rintro (h | ⟨_, _, _, h, _⟩)
        · exact h
        · have := h.2; rw [hb] at this; cases this
      · exact .inl
    have hC : ∀ x, goodC gone (allF gone best t k) best x ↔ goodC gone t best x := by
      intro x; unfold goodC; rw [hrow]
    rw [allF_succ, rowF_at (by rw [hrow]; exact hb), ih, hC, hC, hC]
    constructor
    · rintro ((h | ⟨h1, h2, h3, h4, h5⟩) | ⟨ha, ⟨e, hj, g⟩ | ⟨e, hi, g⟩⟩)
      · exact .inl h
      · exact .inr ⟨h1, by omega, by omega, h4, h5⟩
      · exact .inr ⟨by omega, by omega, by omega, by rw [e]; exact ha, g⟩
      · exact .inr ⟨by omega, by omega, by omega, g, by rw [e]; exact ha⟩
    · rintro (h | ⟨h1, h2, h3, h4, h5⟩)
      · exact .inl (.inl h)
      · by_cases e1 : i = k
        · exact .inr ⟨by rw [← e1]; exact h4, .inl ⟨e1, by omega, h5⟩⟩
        · by_cases e2 : j = k
          · exact .inr ⟨by rw [← e2]; exact h5, .inr ⟨e2, by omega, h4⟩⟩
          · exact .inl (.inr ⟨h1, by omega, by omega, h4, h5⟩)
/-- The reference's table and the library's sets, side by side. -/
structure Mat (n : Nat) (u : Nat → Nat → Bool) (gone : Nat → Bool) (A : Nat → Nat) (rest : Nat) : Prop where
  eq : ∀ i j, i < n → j < n → u i j = bt A i j
  bits : ∀ v, rest.testBit v = true ↔ v < n ∧ gone v = false
  irr : Irr A
  small : Small A
  lt : ∀ i j, i < n → bt A i j = true → j < n
  rl : rest < 18446744073709551616
theorem Mat.cnt {n : Nat} {u : Nat → Nat → Bool} {gone : Nat → Bool} {A : Nat → Nat} {rest : Nat} (h : Mat n u gone A rest) (hn : n ≤ 64) {i : Nat} (hi : i < n) : cntR u gone i n = size (A i &&& rest) := by
  unfold cntR size verts
  rw [filter_range_le hn (p := (A i &&& rest).testBit) (q := fun j => u i j && !gone j)]
  · intro k hk
    rw [Nat.testBit_and, h.eq i k hi hk]
    unfold bt
    congr 1
    rw [Bool.eq_iff_iff, h.bits]
    simp [hk]
  · intro k hk _
    rw [Nat.testBit_and]
    have : rest.testBit k = false := by
      cases hb : rest.testBit k
      · rfl
      · have := ((h.bits k).1 hb).1; omega
    rw [this]; simp
theorem Mat.step {n : Nat} {u : Nat → Nat → Bool} {gone : Nat → Bool} {A : Nat → Nat} {rest : Nat} (h : Mat n u gone A rest) (hn : n ≤ 64) (h0 : rest ≠ 0) :
    ∃ b, b < 64 ∧ rest.testBit b = true ∧ (elim A rest).2 = bclr rest b ∧ Mat n (allF gone (minR u n gone n).1.toNat u n) (updF gone (minR u n gone n).1.toNat true) (elim A rest).1 (elim A rest).2 := by
  obtain ⟨b, hb64, hbr, he, hmin, hfst⟩ := elim_at h.irr h.rl h0
  obtain ⟨hbn, hbg⟩ := (h.bits b).1 hbr
  refine ⟨b, hb64, hbr, by rw [he], ?_⟩
  have hm : (minR u n gone n).1.toNat = b := by
    rcases minR_spec u n gone n with ⟨_, h2⟩ | ⟨i, hi, hg, hmi, hle, hlt⟩
    · rw [h2 b hbn] at hbg; cases hbg
    · rw [hmi]
      simp only [Int.toNat_natCast]
      have hir : rest.testBit i = true := (h.bits i).2 ⟨hi, hg⟩
      have c1 := hle b hbn hbg
      rw [h.cnt hn hi, h.cnt hn hbn] at c1
      rcases Nat.lt_trichotomy i b with hlt' | e | hgt
      · have := hfst i hlt' hir; omega
      · exact e
      · have := hlt b hgt hbg
        rw [h.cnt hn hi, h.cnt hn hbn] at this
        have := hmin i (by omega) hir
        omega
  rw [hm, he]
  have har : (A b &&& rest) < 18446744073709551616 := and_lt rest (h.small b)
  have hlt : ∀ v ∈ verts (A b &&& rest), v < 64 := fun v hv => (mem_verts.1 hv).1
  have hbit := fill_bit (A b &&& rest) (verts (A b &&& rest)) A hlt (verts_nodup _)
  have hS1 : Small (fill (A b &&& rest) (verts (A b &&& rest)) A) := fill_small har _ h.small
  have hbb : u b b = false := by
    rw [h.eq b b hbn hbn]; exact h.irr b hb64
  have hgood : ∀ v, v < n → ((A b &&& rest).testBit v = true ↔ goodC gone u b v) := by
    intro v hv
    rw [Nat.testBit_and, Bool.and_eq_true, h.bits]
    unfold goodC
    rw [h.eq b v hbn hv]
    unfold bt
    constructor
    · rintro ⟨h1, _, h2⟩; exact ⟨h2, h1⟩
    · rintro ⟨h1, h2⟩; exact ⟨h2, hv, h1⟩
  refine ⟨fun i j hi hj => ?_, fun v => ?_, fill_irr _ hlt h.irr, hS1, fun i j hi hb => ?_, bclr_lt b h.rl⟩
  · rw [Bool.eq_iff_iff, allF_at hbb]
    unfold bt
    rw [hbit, Bool.or_eq_true, Bool.and_eq_true, decide_eq_true_eq, mem_verts, bclr_bit _ _ _ (by omega) (by omega), hgood i hi, Bool.and_eq_true, hgood j hj, h.eq i j hi hj]
    unfold bt
    constructor
    · rintro (h1 | ⟨h1, _, _, h2, h3⟩)
      · exact .inl h1
      · exact .inr ⟨⟨by omega, h2⟩, h3, by simpa using h1⟩
    · rintro (h1 | ⟨⟨_, h2⟩, h3, h4⟩)
      · exact .inl h1
      · exact .inr ⟨by simpa using h4, hi, hj, h2, h3⟩
  · have hu : updF gone b true v = false ↔ v ≠ b ∧ gone v = false := by
      unfold updF
      by_cases e : v = b
      · simp [e]
      · simp [e]
    rw [hu]
    by_cases hv : v < 64
    · rw [bclr_bit _ _ _ hb64 hv, Bool.and_eq_true, h.bits]
      constructor
      · rintro ⟨⟨h1, h2⟩, h3⟩
        exact ⟨h1, fun e => by simp [e] at h3, h2⟩
      · rintro ⟨h1, h2, h3⟩
        exact ⟨⟨h1, h3⟩, by simp; exact fun e => h2 e.symm⟩
    · rw [high_bit (bclr_lt b h.rl) (by omega)]
      simp
      intro h1; omega
  · unfold bt at hb
    have hj64 : j < 64 := bt_lt hS1 hb
    rw [hbit, Bool.or_eq_true, Bool.and_eq_true] at hb
    rcases hb with h1 | ⟨_, h1⟩
    · exact h.lt i j hi h1
    · rw [bclr_bit _ _ _ (by omega) hj64, Bool.and_eq_true, Nat.testBit_and, Bool.and_eq_true] at h1
      exact ((h.bits j).1 h1.1.2).1
theorem size_bclr {s i : Nat} (hi : i < 64) (h : s.testBit i = true) : size (bclr s i) + 1 = size s := by
  have e : verts (bclr s i) = (verts s).erase i := by
    rw [List.Nodup.erase_eq_filter (verts_nodup s)]
    unfold verts
    rw [List.filter_filter]
    apply List.filter_congr
    intro x hx
    rw [bclr_bit _ _ _ hi (by simpa using hx)]
    rw [Bool.and_comm]
    congr 1
    by_cases e : i = x
    · simp [e]
    · simp [e]; exact fun h => e h.symm
  have hm : i ∈ verts s := mem_verts.2 ⟨hi, h⟩
  have hp : 0 < (verts s).length := List.length_pos_of_mem hm
  unfold size
  rw [e, List.length_erase_of_mem hm]
  omega
theorem Mat.run {t : Nat → Nat → Bool} {n : Nat} (hn : n ≤ 64) : ∀ (d r f : Nat) (A : Nat → Nat) (rest : Nat), r + d = n → Mat n (fillTo t n r).1 (fillTo t n r).2 A rest → size rest = d → d < f → ∀ i j, i < n → j < n → (fillTo t n n).1 i j = bt (extFrom f A rest) i j
  | _, _, 0, _, _, _, _, _, hf => by omega
  | 0, r, f + 1, A, rest, hr, hM, hs, _ => by
    have h0 : rest = 0 := verts_empty hM.rl (List.eq_nil_of_length_eq_zero hs)
    obtain rfl : r = n := by omega
    unfold extFrom
    rw [if_pos h0]
    exact hM.eq
  | d + 1, r, f + 1, A, rest, hr, hM, hs, hf => by
    have h0 : rest ≠ 0 := by
      intro e
      rw [e] at hs
      unfold size at hs
      rw [verts_zero] at hs
      simp at hs
    obtain ⟨b, hb64, hbr, he, hM2⟩ := hM.step hn h0
    unfold extFrom
    rw [if_neg h0]
    refine Mat.run hn d (r + 1) f _ _ (by omega) hM2 ?_ (by omega)
    rw [he]
    have := size_bclr hb64 hbr
    omega
theorem tableEdges_congr {t u : Nat → Nat → Bool} {n : Nat} : ∀ m, m ≤ n → (∀ i j, i < n → j < n → t i j = u i j) → tableEdges t n m = tableEdges u n m
  | 0, _, _ => rfl
  | m + 1, hm, h => by
    rw [tableEdges_succ, tableEdges_succ, tableEdges_congr m (by omega) h]
    have e : rowT t m n = rowT u m n := by
      unfold rowT
      rw [List.filter_congr (fun x hx => by rw [h m x (by omega) (by simpa using hx)])]
    rw [e]
theorem fill_same {n : Nat} {es : List (Int × Int)} (h : valid n es) : fillEs n es = writeEdges (extend (readAll es) n) n := by
  have hn : n ≤ 64 := by have := h.2.1; omega
  obtain ⟨hS, hI⟩ := readAll_small es n h
  rw [extend_edges h]
  unfold fillEs
  refine tableEdges_congr n (Nat.le_refl _) ?_
  refine Mat.run hn n 0 65 (readAll es) (firstN n) (by omega) ⟨fun i j _ _ => (bt_read es i j).symm, fun v => ?_, hI, hS, fun i j hi hb => ?_, firstN_lt hn⟩ ?_ (by omega)
  · rw [firstN_bit]; simp [fillTo]
  · rw [bt_read] at hb; exact ((valid_nice h).lt _ _ hb).2
  · unfold size verts
    rw [filter_range_le hn (p := (firstN n).testBit) (q := fun _ => true)]
    · rw [List.filter_eq_self.2 (fun _ _ => rfl), List.length_range]
    · intro k hk; rw [firstN_bit]; simp [hk]
    · intro k hk _; rw [firstN_bit]; simp; omega
/-- The count of the search. -/
theorem search_cnt {A : Nat → Nat} (hS : Small A) {n r v : Nat} (hn : n ≤ 64) (hr : r ≤ n) : ((searchTo A n r).2.filter fun x => bt A v x).length = size (A v &&& (searchTo A n r).1) := by
  rw [← cnt_size hS hn hr, searchTo_ord hn hr, List.filter_map, List.length_map]
  rfl
/-- How both make the components. -/
inductive MadeL (es : List (Int × Int)) : Nat → List (List Int) → Prop
  | zero : MadeL es 0 []
  | skip {k : Nat} {ls : List (List Int)} : MadeL es k ls → (∃ l ∈ ls, (k : Int) ∈ l) → MadeL es (k + 1) ls
  | add {k : Nat} {ls : List (List Int)} {l : List Int} : MadeL es k ls → (∀ m ∈ ls, (k : Int) ∉ m) → l.Pairwise (· < ·) → (∀ x : Int, x ∈ l ↔ ∃ v : Nat, x = v ∧ Conn (Rel es) k v) → MadeL es (k + 1) (ls ++ [l])
theorem MadeL.same {es : List (Int × Int)} : ∀ {k : Nat} {ls ms : List (List Int)}, MadeL es k ls → MadeL es k ms → ls = ms := by
  intro k
  induction k with
  | zero =>
    intro ls ms h1 h2
    cases h1; cases h2; rfl
  | succ k ih =>
    intro ls ms h1 h2
    cases h1 with
    | skip h1 e1 =>
      cases h2 with
      | skip h2 e2 => exact ih h1 h2
      | add h2 e2 _ _ =>
        obtain ⟨l, hl, hk⟩ := e1
        rw [ih h1 h2] at hl
        exact absurd hk (e2 l hl)
    | add h1 e1 p1 q1 =>
      cases h2 with
      | skip h2 e2 =>
        obtain ⟨l, hl, hk⟩ := e2
        rw [← ih h1 h2] at hl
        exact absurd hk (e1 l hl)
      | add h2 e2 p2 q2 =>
        rw [ih h1 h2, asc_ext p1 p2 (fun x => (q1 x).trans (q2 x).symm)]
end Go.Gr
end
