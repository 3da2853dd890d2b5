/- Plain mathematics of clique trees: a tree that grows by a heaviest edge each time is a clique tree, if there is one. No program in sight. -/
import Derived.Test.YtamipjpcphghaaaDoorSpec
namespace Go.Jt
open Go.Gr
/-- b is reached from a by steps of R. -/
def Conn (R : Nat → Nat → Prop) (a b : Nat) : Prop := ∀ P : Nat → Prop, P a → (∀ x y, P x → R x y → P y) → P b
section
variable {R : Nat → Nat → Prop}
theorem Conn.refl (a : Nat) : Conn R a a := fun _ h _ => h
theorem Conn.step {a b : Nat} (h : R a b) : Conn R a b := fun _ ha hs => hs a b ha h
theorem Conn.trans {a b c : Nat} (h : Conn R a b) (k : Conn R b c) : Conn R a c := fun P ha hs => k P (h P ha hs) hs
theorem Conn.symm (hR : ∀ x y, R x y → R y x) {a b : Nat} (h : Conn R a b) : Conn R b a :=
  h (fun x => Conn R x a) (Conn.refl a) (fun x y hx hxy => (Conn.step (hR x y hxy)).trans hx)
theorem Conn.cross {a b : Nat} (h : Conn R a b) (I : Nat → Prop) (ha : I a) (hb : ¬ I b) : ∃ x y, R x y ∧ I x ∧ ¬ I y := by
  by_cases hex : ∃ x y, R x y ∧ I x ∧ ¬ I y
  · exact hex
  · exact absurd (h I ha (fun x y hx hxy => Classical.byContradiction fun hy => hex ⟨x, y, hxy, hx, hy⟩)) hb
end
theorem len_mono {p q : Nat → Bool} : ∀ {l : List Nat}, (∀ x ∈ l, p x = true → q x = true) → (l.filter p).length ≤ (l.filter q).length
  | [], _ => by simp
  | x :: l, h => by
    have ih := len_mono (l := l) (fun y hy => h y (by simp [hy]))
    by_cases hp : p x = true
    · have := h x (by simp) hp
      simp [hp, this]; omega
    · by_cases hq : q x = true <;> simp [hp, hq] <;> omega
theorem len_not (p : Nat → Bool) : ∀ l : List Nat, (l.filter p).length + (l.filter fun x => !p x).length = l.length
  | [] => by simp
  | x :: l => by
    have ih := len_not p l
    cases hp : p x <;> simp [hp] <;> omega
theorem inj_len {f : Nat → Nat} : ∀ {l l' : List Nat}, l.Nodup → (∀ x ∈ l, f x ∈ l') → (∀ x ∈ l, ∀ y ∈ l, f x = f y → x = y) → l.length ≤ l'.length
  | [], _, _, _, _ => by simp
  | x :: l, l', hn, hm, hi => by
    rw [List.nodup_cons] at hn
    have hx := hm x (by simp)
    have ih := inj_len (f := f) (l := l) (l' := l'.erase (f x)) hn.2 (fun y hy => by
      refine (List.mem_erase_of_ne ?_).2 (hm y (by simp [hy]))
      intro e
      have := hi y (by simp [hy]) x (by simp) e
      subst this
      exact hn.1 hy) (fun y hy z hz e => hi y (by simp [hy]) z (by simp [hz]) e)
    rw [List.length_erase_of_mem hx] at ih
    have : 0 < l'.length := List.length_pos_of_mem hx
    simp; omega
theorem sum_add (f g : Nat → Nat) : ∀ l : List Nat, (l.map fun x => f x + g x).sum = (l.map f).sum + (l.map g).sum
  | [] => by simp
  | x :: l => by simp [sum_add f g l]; omega
theorem sum_ind (p : Nat → Bool) : ∀ l : List Nat, (l.map fun x => if p x = true then 1 else 0).sum = (l.filter p).length
  | [] => by simp
  | x :: l => by
    rw [List.map_cons, List.sum_cons, sum_ind p l]
    cases h : p x <;> simp [h]; omega
theorem sum_mono {f g : Nat → Nat} : ∀ {l : List Nat}, (∀ x ∈ l, f x ≤ g x) → (l.map f).sum ≤ (l.map g).sum
  | [], _ => by simp
  | x :: l, h => by
    have h1 := h x (by simp)
    have h2 := sum_mono (l := l) (fun y hy => h y (by simp [hy]))
    simp; omega
theorem sum_same {f g : Nat → Nat} : ∀ {l : List Nat}, (∀ x ∈ l, f x ≤ g x) → (l.map g).sum ≤ (l.map f).sum → ∀ x ∈ l, f x = g x
  | [], _, _, x, hx => by simp at hx
  | y :: l, h, hs, x, hx => by
    have h1 := h y (by simp)
    have h2 := sum_mono (l := l) (fun z hz => h z (by simp [hz]))
    simp only [List.map_cons, List.sum_cons] at hs
    rcases List.mem_cons.1 hx with rfl | hx
    · omega
    · exact sum_same (l := l) (fun z hz => h z (by simp [hz])) (by omega) x hx
/-- Pairs are counted by rows and by columns. -/
theorem double (f : Nat → Nat → Bool) (n : Nat) : ∀ m, ((List.range m).map fun r => ((List.range n).filter (f r)).length).sum = ((List.range n).map fun v => ((List.range m).filter fun r => f r v).length).sum
  | 0 => by
    have : ((List.range n).map fun v => ((List.range 0).filter fun r => f r v).length) = (List.range n).map fun _ => 0 := by simp
    rw [this]
    have h0 : ∀ l : List Nat, (l.map fun _ => 0).sum = 0 := by intro l; induction l <;> simp_all
    simp [h0]
  | m + 1 => by
    rw [List.range_succ, List.map_append, List.sum_append, double f n m]
    have : (fun v => ((List.range m ++ [m]).filter fun r => f r v).length) = fun v => ((List.range m).filter fun r => f r v).length + if f m v = true then 1 else 0 := by
      funext v
      rw [List.filter_append, List.length_append]
      cases h : f m v <;> simp [h]
    rw [this, sum_add, sum_ind]
    simp
/-- How often v is in one of the sets; how often it is in a set and in its parent. -/
def occ (T : Nat → Nat) (m v : Nat) : Nat := ((List.range m).filter fun r => (T r).testBit v).length
def links (T q : Nat → Nat) (m v : Nat) : Nat := ((List.range m).filter fun r => decide (0 < r) && (T r &&& q r).testBit v).length
def wt (T q : Nat → Nat) (r : Nat) : Nat := if 0 < r then size (T r &&& q r) else 0
structure Prim (T q : Nat → Nat) (m : Nat) : Prop where
  inj : ∀ a b, a < b → b < m → T a ≠ T b
  par : ∀ r, 0 < r → r < m → ∃ s, s < r ∧ q r = T s
  most : ∀ r, 0 < r → r < m → ∀ i k, r ≤ i → i < m → k < r → size (T i &&& T k) ≤ size (T r &&& q r)
structure Jtree (L q : Nat → Nat) (m : Nat) : Prop where
  inj : ∀ a b, a < b → b < m → L a ≠ L b
  par : ∀ r, 0 < r → r < m → ∃ s, s < r ∧ q r = L s
  run : ∀ v, (∃ r, r < m ∧ (L r).testBit v = true) → links L q m v + 1 = occ L m v
theorem inj_of {T : Nat → Nat} {m : Nat} (h : ∀ a b, a < b → b < m → T a ≠ T b) {a b : Nat} (ha : a < m) (hb : b < m) (e : T a = T b) : a = b := by
  rcases Nat.lt_trichotomy a b with h1 | h1 | h1
  · exact absurd e (h a b h1 hb)
  · exact h1
  · exact absurd e.symm (h b a h1 ha)
theorem total (T q : Nat → Nat) (m : Nat) : ((List.range m).map (wt T q)).sum = ((List.range 64).map (links T q m)).sum := by
  have h := double (fun r v => decide (0 < r) && (T r &&& q r).testBit v) 64 m
  have e : (fun r => ((List.range 64).filter fun v => decide (0 < r) && (T r &&& q r).testBit v).length) = wt T q := by
    funext r
    unfold wt size verts
    by_cases hr : 0 < r
    · rw [if_pos hr]; simp only [hr, decide_true, Bool.true_and]
    · rw [if_neg hr]; simp [hr]
  rw [e] at h
  exact h
theorem thresh (x : Nat → Nat) (N m : Nat) (h : ∀ r, r < m → x r ≤ N) : ((List.range m).map x).sum = ((List.range N).map fun t => ((List.range m).filter fun r => decide (t < x r)).length).sum := by
  rw [← double (fun r t => decide (t < x r)) N m]
  congr 1
  apply List.map_congr_left
  intro r hr
  have hr : r < m := by simpa using hr
  have hx := h r hr
  have : ∀ N, x r ≤ N → ((List.range N).filter fun t => decide (t < x r)).length = x r := by
    intro N
    induction N with
    | zero => intro h; simp; omega
    | succ N ih =>
      intro h
      rw [List.range_succ, List.filter_append, List.length_append]
      by_cases e : x r = N + 1
      · have h1 : (List.range N).filter (fun t => decide (t < x r)) = List.range N := List.filter_eq_self.2 (fun t ht => by
          have : t < N := by simpa using ht
          simp; omega)
        rw [h1]; simp [e]
      · rw [ih (by omega)]
        have : ¬ N < x r := by omega
        simp [this]
  exact (this N hx).symm
/-- Those of a sequence that are the first of their part. -/
noncomputable def fstB (R : Nat → Nat → Prop) (T : Nat → Nat) (r : Nat) : Bool := @decide (∀ s, s < r → ¬ Conn R (T s) (T r)) (Classical.propDecidable _)
theorem fstB_iff {R : Nat → Nat → Prop} {T : Nat → Nat} {r : Nat} : fstB R T r = true ↔ ∀ s, s < r → ¬ Conn R (T s) (T r) := @decide_eq_true_iff _ (Classical.propDecidable _)
noncomputable def firsts (R : Nat → Nat → Prop) (T : Nat → Nat) (m : Nat) : List Nat := (List.range m).filter (fstB R T)
theorem mem_firsts {R : Nat → Nat → Prop} {T : Nat → Nat} {m r : Nat} : r ∈ firsts R T m ↔ r < m ∧ ∀ s, s < r → ¬ Conn R (T s) (T r) := by
  unfold firsts
  rw [List.mem_filter, List.mem_range, fstB_iff]
theorem firsts_le {R : Nat → Nat → Prop} (hR : ∀ x y, R x y → R y x) {T L : Nat → Nat} {m : Nat} (hp : ∀ r, r < m → ∃ s, s < m ∧ L s = T r) : (firsts R T m).length ≤ (firsts R L m).length := by
  have hleast : ∀ r, r < m → ∃ s, s ∈ firsts R L m ∧ Conn R (L s) (T r) := by
    intro r hr
    obtain ⟨s0, hs0, e0⟩ := hp r hr
    have : ∀ s, s < m → Conn R (L s) (T r) → ∃ s, s ∈ firsts R L m ∧ Conn R (L s) (T r) := by
      intro s
      induction s using Nat.strongRecOn with
      | _ s ih =>
        intro hs hc
        by_cases hf : ∀ s', s' < s → ¬ Conn R (L s') (L s)
        · exact ⟨s, mem_firsts.2 ⟨hs, hf⟩, hc⟩
        · obtain ⟨s', h1⟩ := Classical.not_forall.1 hf
          obtain ⟨h2, h3⟩ := Classical.not_imp.1 h1
          exact ih s' h2 (by omega) ((Classical.not_not.1 h3).trans hc)
    exact this s0 hs0 (by rw [e0]; exact Conn.refl _)
  have hnd : (firsts R T m).Nodup := by
    unfold firsts
    exact List.Pairwise.filter _ List.nodup_range
  refine inj_len (f := fun r => if h : r < m then Classical.choose (hleast r h) else 0) hnd (fun r hr => ?_) (fun r hr r' hr' e => ?_)
  · have hrm := (mem_firsts.1 hr).1
    simp only [hrm, dite_true]
    exact (Classical.choose_spec (hleast r hrm)).1
  · have h1 := mem_firsts.1 hr
    have h2 := mem_firsts.1 hr'
    simp only [h1.1, h2.1, dite_true] at e
    have c1 := (Classical.choose_spec (hleast r h1.1)).2
    have c2 := (Classical.choose_spec (hleast r' h2.1)).2
    rw [e] at c1
    have c : Conn R (T r) (T r') := (c1.symm hR).trans c2
    rcases Nat.lt_trichotomy r r' with h | h | h
    · exact absurd c (h2.2 r h)
    · exact h
    · exact absurd (c.symm hR) (h1.2 r' h)
/-- The greedy tree is a clique tree. -/
theorem prim_jt {T q L q' : Nat → Nat} {m : Nat} (hP : Prim T q m) (hJ : Jtree L q' m) (h1 : ∀ r, r < m → ∃ s, s < m ∧ L s = T r) (h2 : ∀ r, r < m → ∃ s, s < m ∧ T s = L r)
    (hs : ∀ r, r < m → T r < 18446744073709551616) : ∀ v, (∃ r, r < m ∧ (T r).testBit v = true) → links T q m v + 1 = occ T m v := by
  -- the sets are the same
  have hocc : ∀ v, occ T m v = occ L m v := by
    have half : ∀ {T L : Nat → Nat}, (∀ r, r < m → ∃ s, s < m ∧ L s = T r) → (∀ a b, a < b → b < m → T a ≠ T b) → ∀ v, occ T m v ≤ occ L m v := by
      intro T L h hi v
      unfold occ
      refine inj_len (f := fun r => if h' : r < m then Classical.choose (h r h') else 0) (List.Pairwise.filter _ List.nodup_range) (fun r hr => ?_) (fun r hr r' hr' e => ?_)
      · rw [List.mem_filter, List.mem_range] at hr
        simp only [hr.1, dite_true]
        have := Classical.choose_spec (h r hr.1)
        rw [List.mem_filter, List.mem_range, this.2]
        exact ⟨this.1, hr.2⟩
      · rw [List.mem_filter, List.mem_range] at hr hr'
        simp only [hr.1, hr'.1, dite_true] at e
        have c1 := (Classical.choose_spec (h r hr.1)).2
        have c2 := (Classical.choose_spec (h r' hr'.1)).2
        rw [e] at c1
        exact inj_of hi hr.1 hr'.1 (c1.symm.trans c2)
    exact fun v => Nat.le_antisymm (half h1 hP.inj v) (half h2 hJ.inj v)
  -- the weights
  have hw : ∀ t, ((List.range m).filter fun r => !decide (t < wt T q r)).length ≤ ((List.range m).filter fun r => !decide (t < wt L q' r)).length := by
    intro t
    let R : Nat → Nat → Prop := fun a b => (∃ r, r < m ∧ T r = a) ∧ (∃ r, r < m ∧ T r = b) ∧ t < size (a &&& b)
    have hR : ∀ x y, R x y → R y x := fun x y ⟨ha, hb, hc⟩ => ⟨hb, ha, by rw [Nat.and_comm]; exact hc⟩
    have a1 : ((List.range m).filter fun r => !decide (t < wt T q r)).length ≤ (firsts R T m).length := by
      unfold firsts
      refine len_mono (fun r hr h => ?_)
      have hr : r < m := by simpa using hr
      rw [fstB_iff]
      intro s hsr hc
      obtain ⟨x, y, ⟨⟨i, hi, rfl⟩, ⟨k, hk, rfl⟩, hxy⟩, hx, hy⟩ := hc.cross (fun z => ∃ s, s < r ∧ T s = z) ⟨s, hsr, rfl⟩ (by
        rintro ⟨s', hs', e⟩
        exact hP.inj s' r hs' hr e)
      obtain ⟨i', hi', e⟩ := hx
      have hkr : r ≤ k := by
        by_cases hkr : r ≤ k
        · exact hkr
        · exact absurd ⟨k, by omega, rfl⟩ hy
      have := hP.most r (by omega) hr k i' hkr hk hi'
      rw [e, Nat.and_comm] at this
      have hh : ¬ t < wt T q r := by simpa using h
      apply hh
      unfold wt
      rw [if_pos (by omega)]
      omega
    have a2 := firsts_le hR h1
    have a3 : (firsts R L m).length ≤ ((List.range m).filter fun r => !decide (t < wt L q' r)).length := by
      unfold firsts
      refine len_mono (fun r hr h => ?_)
      have hr : r < m := by simpa using hr
      rw [fstB_iff] at h
      simp only [Bool.not_eq_true', decide_eq_false_iff_not]
      intro hlt
      unfold wt at hlt
      by_cases h0 : 0 < r
      · rw [if_pos h0] at hlt
        obtain ⟨s, hsr, e⟩ := hJ.par r h0 hr
        rw [e, Nat.and_comm] at hlt
        obtain ⟨i, hi, ei⟩ := h2 s (by omega)
        obtain ⟨k, hk, ek⟩ := h2 r hr
        exact h s hsr (Conn.step ⟨⟨i, hi, ei⟩, ⟨k, hk, ek⟩, hlt⟩)
      · rw [if_neg h0] at hlt; omega
    omega
  have hle : ∀ (T q : Nat → Nat) r, r < m → wt T q r ≤ 64 := by
    intro T q r _
    unfold wt
    split
    · exact size_le _
    · omega
  have hsum : ((List.range 64).map (links L q' m)).sum ≤ ((List.range 64).map (links T q m)).sum := by
    rw [← total, ← total, thresh _ 64 m (hle L q'), thresh _ 64 m (hle T q)]
    refine sum_mono (fun t _ => ?_)
    have e1 := len_not (fun r => decide (t < wt L q' r)) (List.range m)
    have e2 := len_not (fun r => decide (t < wt T q r)) (List.range m)
    have := hw t
    omega
  have hno : ∀ v, ¬ (∃ r, r < m ∧ (T r).testBit v = true) → links T q m v = 0 ∧ links L q' m v = 0 := by
    intro v hno
    have z : ∀ (T q : Nat → Nat), (∀ r, r < m → (T r).testBit v = false) → links T q m v = 0 := by
      intro T q h
      unfold links
      rw [List.length_eq_zero_iff, List.filter_eq_nil_iff]
      intro r hr
      rw [Nat.testBit_and, h r (by simpa using hr)]
      simp
    refine ⟨z T q (fun r hr => ?_), z L q' (fun r hr => ?_)⟩
    · cases hb : (T r).testBit v
      · rfl
      · exact absurd ⟨r, hr, hb⟩ hno
    · cases hb : (L r).testBit v
      · rfl
      · obtain ⟨s, hsm, e⟩ := h2 r hr
        exact absurd ⟨s, hsm, by rw [e]; exact hb⟩ hno
  have hup : ∀ v, (∃ r, r < m ∧ (T r).testBit v = true) → links T q m v + 1 ≤ occ T m v := by
    rintro v ⟨r, hr, hb⟩
    have hleast : ∃ r, r < m ∧ (T r).testBit v = true ∧ ∀ s, s < r → (T s).testBit v = false := by
      have : ∀ r, r < m → (T r).testBit v = true → ∃ r, r < m ∧ (T r).testBit v = true ∧ ∀ s, s < r → (T s).testBit v = false := by
        intro r
        induction r using Nat.strongRecOn with
        | _ r ih =>
          intro hr hb
          by_cases hex : ∃ s, s < r ∧ (T s).testBit v = true
          · obtain ⟨s, h1, h2⟩ := hex
            exact ih s h1 (by omega) h2
          · refine ⟨r, hr, hb, fun s hs => ?_⟩
            cases hbs : (T s).testBit v
            · rfl
            · exact absurd ⟨s, hs, hbs⟩ hex
      exact this r hr hb
    obtain ⟨r0, hr0, hb0, hfst⟩ := hleast
    have hnl : (decide (0 < r0) && (T r0 &&& q r0).testBit v) = false := by
      by_cases h0 : 0 < r0
      · obtain ⟨s, hs, e⟩ := hP.par r0 h0 hr0
        rw [Nat.testBit_and, e, hfst s hs]; simp
      · simp [h0]
    unfold links occ
    have key : ∀ l : List Nat, l.Nodup → r0 ∈ l → (l.filter fun r => decide (0 < r) && (T r &&& q r).testBit v).length + 1 ≤ (l.filter fun r => (T r).testBit v).length := by
      intro l
      induction l with
      | nil => simp
      | cons x l ih =>
        intro hn hm
        rw [List.nodup_cons] at hn
        by_cases e : x = r0
        · subst e
          have := len_mono (p := fun r => decide (0 < r) && (T r &&& q r).testBit v) (q := fun r => (T r).testBit v) (l := l) (fun y _ h => by
            rw [Nat.testBit_and] at h
            simp only [Bool.and_eq_true] at h
            exact h.2.1)
          rw [List.filter_cons_of_neg (by rw [hnl]; simp), List.filter_cons_of_pos (by simpa using hb0), List.length_cons]
          omega
        · have := ih hn.2 ((List.mem_cons.1 hm).resolve_left (fun e2 => e e2.symm))
          by_cases hp : (decide (0 < x) && (T x &&& q x).testBit v) = true
          · have hq : (T x).testBit v = true := by
              rw [Nat.testBit_and] at hp
              simp only [Bool.and_eq_true] at hp
              exact hp.2.1
            rw [List.filter_cons_of_pos (by simpa using hp), List.filter_cons_of_pos (by simpa using hq), List.length_cons, List.length_cons]
            omega
          · rw [List.filter_cons_of_neg (by simpa using hp)]
            by_cases hq : (T x).testBit v = true
            · rw [List.filter_cons_of_pos (by simpa using hq), List.length_cons]; omega
            · rw [List.filter_cons_of_neg (by simpa using hq)]; exact this
    exact key _ List.nodup_range (by simpa using hr0)
  have hvle : ∀ v ∈ List.range 64, links T q m v ≤ links L q' m v := by
    intro v _
    by_cases hex : ∃ r, r < m ∧ (T r).testBit v = true
    · have e1 := hup v hex
      obtain ⟨r, hr, hb⟩ := hex
      obtain ⟨s, hsm, e⟩ := h1 r hr
      have e2 := hJ.run v ⟨s, hsm, by rw [e]; exact hb⟩
      rw [hocc] at e1
      omega
    · rw [(hno v hex).1]; omega
  intro v hex
  have hv64 : v < 64 := by
    obtain ⟨r, hr, hb⟩ := hex
    by_cases h64 : v < 64
    · exact h64
    · rw [high_bit (hs r hr) (by omega)] at hb; cases hb
  have e1 := sum_same hvle hsum v (by simpa using hv64)
  obtain ⟨r, hr, hb⟩ := hex
  obtain ⟨s, hsm, e⟩ := h1 r hr
  have e2 := hJ.run v ⟨s, hsm, by rw [e]; exact hb⟩
  rw [e1, hocc]
  exact e2
end Go.Jt
