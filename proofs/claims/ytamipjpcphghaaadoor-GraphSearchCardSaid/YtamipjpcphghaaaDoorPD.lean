/- Plain law of Extend: what it adds; its order of elimination is perfect. -/
import Derived.Test.YtamipjpcphghaaaDoorSpecE
import Derived.Test.YtamipjpcphghaaaDoorChordal
namespace Go.Gr
open Go.Chordal
def bt (A : Nat → Nat) (i j : Nat) : Bool := (A i).testBit j
theorem bt_lt {A : Nat → Nat} (hS : Small A) {i j : Nat} (h : bt A i j = true) : j < 64 := by
  by_cases hj : j < 64
  · exact hj
  · have := high_bit (hS i) (show 64 ≤ j by omega)
    unfold bt at h
    rw [this] at h
    cases h
theorem fill_bit (ar : Nat) : ∀ (l : List Nat) (A : Nat → Nat), (∀ v ∈ l, v < 64) → l.Nodup → ∀ v j, (fill ar l A v).testBit j = ((A v).testBit j || (decide (v ∈ l) && (bclr ar v).testBit j))
  | [], A, _, _, v, j => by simp [fill]
  | x :: l, A, hl, hn, v, j => by
    rw [List.nodup_cons] at hn
    have e : fill ar (x :: l) A = fill ar l (fillStep ar A x) := by simp [fill]
    rw [e, fill_bit ar l _ (fun u hu => hl u (by simp [hu])) hn.2]
    by_cases h : v = x
    · subst h
      unfold fillStep
      rw [upd_same, Nat.testBit_or]
      simp [hn.1]
    · unfold fillStep
      rw [upd_other _ _ h]
      simp [h]
theorem verts_nodup (s : Nat) : (verts s).Nodup := by
  unfold verts
  exact List.Pairwise.filter _ List.nodup_range
theorem verts_empty {s : Nat} (hs : s < 18446744073709551616) (h : verts s = []) : s = 0 := by
  apply Nat.eq_of_testBit_eq
  intro i
  rw [Nat.zero_testBit]
  by_cases hi : i < 64
  · cases hb : s.testBit i with
    | false => rfl
    | true =>
      have : i ∈ verts s := mem_verts.2 ⟨hi, hb⟩
      rw [h] at this
      simp at this
  · exact high_bit hs (by omega)
theorem elim_at {A : Nat → Nat} {rest : Nat} (hI : Irr A) (hr : rest < 18446744073709551616) (h0 : rest ≠ 0) :
    ∃ b, b < 64 ∧ rest.testBit b = true ∧ elim A rest = (fill (A b &&& rest) (verts (A b &&& rest)) A, bclr rest b) ∧ (∀ u, u < 64 → rest.testBit u = true → size (A b &&& rest) ≤ size (A u &&& rest)) ∧
      (∀ u, u < b → rest.testBit u = true → size (A b &&& rest) < size (A u &&& rest)) := by
  rcases minOf_spec A rest hI (verts rest).reverse (verts rest) (fun v hv => (mem_verts.1 hv).1) rfl with h | ⟨b, l, m, hlm, hm, h1, h2⟩
  · exact absurd (verts_empty hr h) h0
  · have hb : b ∈ verts rest := by rw [hlm]; simp
    have hasc : (verts rest).Pairwise (· < ·) := by unfold verts; exact List.Pairwise.filter _ List.pairwise_lt_range
    refine ⟨b, (mem_verts.1 hb).1, (mem_verts.1 hb).2, by unfold elim; rw [hm]; rfl, fun u hu hub => ?_, fun u hu hub => ?_⟩
    · have hmem : u ∈ verts rest := mem_verts.2 ⟨hu, hub⟩
      rw [hlm] at hmem
      rcases List.mem_append.1 hmem with h | h
      · have := h1 u h; omega
      · rcases List.mem_cons.1 h with rfl | h
        · exact Nat.le_refl _
        · exact h2 u h
    · have hmem : u ∈ verts rest := mem_verts.2 ⟨by have := (mem_verts.1 hb).1; omega, hub⟩
      rw [hlm] at hmem hasc
      rw [List.pairwise_append, List.pairwise_cons] at hasc
      rcases List.mem_append.1 hmem with h | h
      · exact h1 u h
      · rcases List.mem_cons.1 h with rfl | h
        · omega
        · have := hasc.2.1.1 u h; omega
def SymA (A : Nat → Nat) : Prop := ∀ i j, i < 64 → j < 64 → (A i).testBit j = (A j).testBit i
structure Ext (A B : Nat → Nat) (rest : Nat) : Prop where
  mono : ∀ v j, (A v).testBit j = true → (B v).testBit j = true
  new : ∀ v j, (B v).testBit j = true → (A v).testBit j = true ∨ (v < 64 ∧ j < 64 ∧ rest.testBit v = true ∧ rest.testBit j = true ∧ v ≠ j)
  sym : SymA A → SymA B
  small : Small B
  peo : ∃ l, (∀ v, v ∈ l ↔ v < 64 ∧ rest.testBit v = true) ∧ l.Nodup ∧ Peo (fun a b => (B a).testBit b = true) l
theorem extFrom_spec : ∀ (f : Nat) (A : Nat → Nat) (rest : Nat), size rest < f → Irr A → Small A → rest < 18446744073709551616 → Ext A (extFrom f A rest) rest
  | 0, _, _, h, _, _, _ => by omega
  | f + 1, A, rest, h, hI, hS, hr => by
    unfold extFrom
    by_cases h0 : rest = 0
    · rw [if_pos h0]
      refine ⟨fun _ _ h => h, fun _ _ h => .inl h, fun h => h, hS, [], ?_, by simp, trivial⟩
      intro v; subst h0; simp
    · rw [if_neg h0]
      obtain ⟨b, hb64, hbr, he, _, _⟩ := elim_at hI hr h0
      rw [he]
      have har : (A b &&& rest) < 18446744073709551616 := and_lt rest (hS b)
      have hlt : ∀ v ∈ verts (A b &&& rest), v < 64 := fun v hv => (mem_verts.1 hv).1
      have hbit := fill_bit (A b &&& rest) (verts (A b &&& rest)) A hlt (verts_nodup _)
      have hI1 : Irr (fill (A b &&& rest) (verts (A b &&& rest)) A) := fill_irr _ hlt hI
      have hS1 : Small (fill (A b &&& rest) (verts (A b &&& rest)) A) := fill_small har _ hS
      have hr1 : bclr rest b < 18446744073709551616 := bclr_lt b hr
      have ih := extFrom_spec f _ (bclr rest b) (by have := (bclr_less hb64 hbr).2; omega) hI1 hS1 hr1
      have hsub : ∀ j, j < 64 → ((bclr rest b).testBit j = true ↔ rest.testBit j = true ∧ b ≠ j) := by
        intro j hj; rw [bclr_bit _ _ _ hb64 hj]; simp
      have hab : ∀ v j, v < 64 → j < 64 → ((bclr (A b &&& rest) v).testBit j = true ↔ (A b &&& rest).testBit j = true ∧ v ≠ j) := by
        intro v j hv hj; rw [bclr_bit _ _ _ hv hj]; simp
      generalize hA1 : fill (A b &&& rest) (verts (A b &&& rest)) A = A1 at *
      have hnew1 : ∀ v j, (A1 v).testBit j = true → (A v).testBit j = true ∨ (v < 64 ∧ j < 64 ∧ (A b &&& rest).testBit v = true ∧ (A b &&& rest).testBit j = true ∧ v ≠ j) := by
        intro v j hj
        have hj64 : j < 64 := bt_lt hS1 hj
        rw [hbit] at hj
        simp only [Bool.or_eq_true, Bool.and_eq_true, decide_eq_true_eq] at hj
        rcases hj with hj | ⟨hv, hj⟩
        · exact .inl hj
        · have hv2 := mem_verts.1 hv
          rw [hab v j hv2.1 hj64] at hj
          exact .inr ⟨hv2.1, hj64, hv2.2, hj.1, hj.2⟩
      have hmono1 : ∀ v j, (A v).testBit j = true → (A1 v).testBit j = true := by
        intro v j hj; rw [hbit, hj]; rfl
      have hadd1 : ∀ v j, v < 64 → j < 64 → (A b &&& rest).testBit v = true → (A b &&& rest).testBit j = true → v ≠ j → (A1 v).testBit j = true := by
        intro v j hv hj h1 h2 h3
        rw [hbit]
        have : (bclr (A b &&& rest) v).testBit j = true := (hab v j hv hj).2 ⟨h2, h3⟩
        rw [this]
        simp [mem_verts, hv, h1]
      have hsym1 : SymA A → SymA A1 := by
        intro hs i j hi hj
        rw [Bool.eq_iff_iff]
        have half : ∀ i j, i < 64 → j < 64 → (A1 i).testBit j = true → (A1 j).testBit i = true := by
          intro i j hi hj h
          rcases hnew1 i j h with h | ⟨_, _, h1, h2, h3⟩
          · exact hmono1 j i (by rw [← hs i j hi hj]; exact h)
          · exact hadd1 j i hj hi h2 h1 (fun e => h3 e.symm)
        exact ⟨half i j hi hj, half j i hj hi⟩
      refine ⟨fun v j hj => ih.mono v j (hmono1 v j hj), fun v j hj => ?_, fun hs => ih.sym (hsym1 hs), ih.small, ?_⟩
      · rcases ih.new v j hj with hj | ⟨h1, h2, h3, h4, h5⟩
        · rcases hnew1 v j hj with hj | ⟨h1, h2, h3, h4, h5⟩
          · exact .inl hj
          · rw [Nat.testBit_and] at h3 h4
            simp only [Bool.and_eq_true] at h3 h4
            exact .inr ⟨h1, h2, h3.2, h4.2, h5⟩
        · exact .inr ⟨h1, h2, ((hsub v h1).1 h3).1, ((hsub j h2).1 h4).1, h5⟩
      · obtain ⟨l, hl1, hl2, hl3⟩ := ih.peo
        have hbl : b ∉ l := fun hm => ((hsub b hb64).1 ((hl1 b).1 hm).2).2 rfl
        refine ⟨b :: l, fun v => ?_, List.nodup_cons.2 ⟨hbl, hl2⟩, ?_, hl3⟩
        · rw [List.mem_cons, hl1]
          constructor
          · rintro (rfl | ⟨h1, h2⟩)
            · exact ⟨hb64, hbr⟩
            · exact ⟨h1, ((hsub v h1).1 h2).1⟩
          · rintro ⟨h1, h2⟩
            by_cases e : v = b
            · exact .inl e
            · exact .inr ⟨h1, (hsub v h1).2 ⟨h2, fun e2 => e e2.symm⟩⟩
        · have key : ∀ a ∈ l, (extFrom f A1 (bclr rest b) b).testBit a = true → a < 64 ∧ (A b &&& rest).testBit a = true := by
            intro a ha h1
            have ha2 := (hl1 a).1 ha
            refine ⟨ha2.1, ?_⟩
            have hra := ((hsub a ha2.1).1 ha2.2).1
            have hA : (A b).testBit a = true := by
              rcases ih.new b a h1 with h | ⟨_, _, h, _, _⟩
              · rcases hnew1 b a h with h | ⟨_, _, h, _, _⟩
                · exact h
                · rw [Nat.testBit_and, hI b hb64] at h; cases h
              · exact absurd rfl ((hsub b hb64).1 h).2
            rw [Nat.testBit_and, hA, hra]; rfl
          intro a ha c hc h1 h2 hne
          have k1 := key a ha h1
          have k2 := key c hc h2
          exact ih.mono a c (hadd1 a c k1.1 k2.1 k1.2 k2.2 hne)
end Go.Gr
