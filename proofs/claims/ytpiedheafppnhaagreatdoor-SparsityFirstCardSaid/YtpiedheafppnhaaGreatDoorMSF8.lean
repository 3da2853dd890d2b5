/- Parts of the proof: GXM, GPI, GPJ, GPM. -/
import Derived.Test.YtpiedheafppnhaaGreatDoorMSF6
import Derived.Test.YtpiedheafppnhaaGreatDoorMSF7
section
/- The reference's Maximal. -/
namespace Go.Gr
/-- Vertex i and its neighbours that are not gone. -/
def rowSet (t : Nat → Nat → Bool) (n : Nat) (gone : Nat → Bool) (i : Nat) : List Nat := (List.range n).filter fun k => decide (k = i) || (t i k && !gone k)
def natsI (l : List Nat) : List Int := l.map fun x : Nat => (x : Int)
/-- What is gone, and the sets, after r steps. -/
def maxTo (t : Nat → Nat → Bool) (n : Nat) : Nat → (Nat → Bool) × List (List Int)
  | 0 => (fun _ => false, [])
  | r + 1 => match (List.range n).find? (okV t n (maxTo t n r).1) with
    | none => maxTo t n r
    | some i => (updF (maxTo t n r).1 i true, (maxTo t n r).2 ++ [natsI (rowSet t n (maxTo t n r).1 i)])
theorem maxTo_none {t : Nat → Nat → Bool} {n r : Nat} (h : (List.range n).find? (okV t n (maxTo t n r).1) = none) : maxTo t n (r + 1) = maxTo t n r := by
  show (match (List.range n).find? (okV t n (maxTo t n r).1) with | none => maxTo t n r | some i => _) = _
  rw [h]
theorem maxTo_some {t : Nat → Nat → Bool} {n r i : Nat} (h : (List.range n).find? (okV t n (maxTo t n r).1) = some i) : maxTo t n (r + 1) = (updF (maxTo t n r).1 i true, (maxTo t n r).2 ++ [natsI (rowSet t n (maxTo t n r).1 i)]) := by
  show (match (List.range n).find? (okV t n (maxTo t n r).1) with | none => maxTo t n r | some i => _) = _
  rw [h]
/-- List i is in no other one. -/
def keepP (als : List (List Int)) (i k : Nat) : Bool := decide (k = i) || !decide (common (als.getD i []) (als.getD k []) = (als.getD i []).length)
def keepI (als : List (List Int)) (i : Nat) : Bool := (List.range als.length).all (keepP als i)
def keptI (als : List (List Int)) (k : Nat) : List Nat := (List.range k).filter (keepI als)
end Go.Gr
namespace Go.Proofs.Tg.Gx
open Go.RowKit Go.Gr
set_option maxHeartbeats 4000000
set_option maxRecDepth 100000
theorem nats_vi (l : List Nat) : l.map vn = (natsI l).map vi := by simp [natsI, vn, vi]
/-- Phase one: the sets. -/
def Phase1 (t : Nat → Nat → Bool) (n base : Nat) (w : World) (r m cr : Nat) (R : Option Addr) (F : Nat → Option Addr × Nat) (ls : Nat → List Int) (gone : Nat → Bool) (wr : World) : Prop :=
  m ≤ cr ∧ m ≤ r ∧ wr.ownsRow base 50 1 (.slice R m cr) m ((List.range m).map (enc F ls)) ∧ RowsIn wr base m F ls ∧ Blk wr w.heap.size 4 (farr n fun v => .bool (gone v)) ∧ Below w.heap.size w wr ∧ maxTo t n r = (gone, (List.range m).map ls)
def RetMax (t : Nat → Nat → Bool) (n : Nat) (w : World) (e : Ending) (w' : World) : Prop :=
  ∃ lo V d, e = .returned (.slice V (List.length lo) d) ∧ Lists w' V lo ∧ lo.Perm ((keptI (maxTo t n n).2 (maxTo t n n).2.length).map fun i => (maxTo t n n).2.getD i []) ∧ sortedL lo ∧ Below w.heap.size w w'
end Go.Proofs.Tg.Gx
end
section
/- Plain: the maximal cliques of a chordal graph have a clique tree. -/
namespace Go.Gr
open Go.Chordal Go.Jt
def at0 (L : List Nat) (r : Nat) : Nat := L.getD r 0
theorem at0_mem {L : List Nat} {r : Nat} (h : r < L.length) : at0 L r ∈ L := by unfold at0; rw [List.getD_eq_getElem?_getD, List.getElem?_eq_getElem h]; exact List.getElem_mem _
theorem at0_of {L : List Nat} {s : Nat} (h : s ∈ L) : ∃ r, r < L.length ∧ at0 L r = s := by
  obtain ⟨r, hr, e⟩ := List.getElem_of_mem h
  exact ⟨r, hr, by unfold at0; rw [List.getD_eq_getElem?_getD, List.getElem?_eq_getElem hr]; exact e⟩
theorem at0_inj {L : List Nat} (hn : L.Nodup) {a b : Nat} (ha : a < L.length) (hb : b < L.length) (e : at0 L a = at0 L b) : a = b := by
  unfold at0 at e
  rw [List.getD_eq_getElem?_getD, List.getD_eq_getElem?_getD, List.getElem?_eq_getElem ha, List.getElem?_eq_getElem hb] at e
  simp only [Option.getD_some] at e
  rcases Nat.lt_trichotomy a b with h | h | h
  · exact absurd e (List.pairwise_iff_getElem.1 hn a b ha hb h)
  · exact h
  · exact absurd e.symm (List.pairwise_iff_getElem.1 hn b a hb ha h)
structure JInv (es : List (Int × Int)) (n k : Nat) (L : List Nat) (pf : Nat → Nat) : Prop where
  nd : L.Nodup
  small : ∀ s ∈ L, s < 18446744073709551616
  one : ∀ s ∈ L, ∃ v, s.testBit v = true
  vis : ∀ s ∈ L, ∀ v, s.testBit v = true → ∃ j, j < k ∧ ord (readAll es) n j = v
  clq : ∀ s ∈ L, ∀ u v, s.testBit u = true → s.testBit v = true → u ≠ v → readT es u v = true
  max : ∀ s ∈ L, ∀ j, j < k → (∀ u, s.testBit u = true → u ≠ ord (readAll es) n j → readT es u (ord (readAll es) n j) = true) → s.testBit (ord (readAll es) n j) = true
  cover : ∀ j, j < k → ∃ s ∈ L, ∀ v, (v = ord (readAll es) n j ∨ (readT es (ord (readAll es) n j) v = true ∧ ∃ i, i < j ∧ ord (readAll es) n i = v)) → s.testBit v = true
  par : ∀ r, 0 < r → r < L.length → pf r < r
  run : ∀ v, (∃ s ∈ L, s.testBit v = true) → links (at0 L) (fun r => at0 L (pf r)) L.length v + 1 = occ (at0 L) L.length v
theorem jinv {n : Nat} {es : List (Int × Int)} (h : valid n es) (hc : isChordal (readAll es) n = true) : ∀ k, k ≤ n → ∃ L pf, JInv es n k L pf := by
  have hn : n ≤ 64 := by have := h.2.1; omega
  have hN := valid_nice h
  have hS := (readAll_small es n h).1
  have hch := (chordal_iff hS hn).1 hc
  intro k
  induction k with
  | zero =>
    intro _
    refine ⟨[], fun _ => 0, ⟨by simp, by simp, by simp, by simp, by simp, by simp, by intro j hj; omega, by intro r h1 h2; simp at h2, by simp⟩⟩
  | succ k ih =>
    intro hk
    obtain ⟨L, pf, I⟩ := ih (by omega)
    have hkn : k < n := by omega
    obtain ⟨x, hx⟩ : ∃ x, ord (readAll es) n k = x := ⟨_, rfl⟩
    obtain ⟨S, hSd⟩ : ∃ S, readAll es (ord (readAll es) n k) &&& (searchTo (readAll es) n k).1 = S := ⟨_, rfl⟩
    have hSs : S < 18446744073709551616 := by rw [← hSd]; exact and_lt _ (hS _)
    have hSb : ∀ v, S.testBit v = true ↔ readT es x v = true ∧ ∃ j, j < k ∧ ord (readAll es) n j = v := by
      intro v
      rw [← hSd, Nat.testBit_and, Bool.and_eq_true, vis_bit hn (by omega), ← hx, ← bt_read]
      rfl
    have hx64 : x < 64 := by rw [← hx]; have := ord_lt (A := readAll es) hn hkn; omega
    have hS'b : ∀ v, (bset S x).testBit v = true ↔ v = x ∨ S.testBit v = true := by
      intro v
      rw [bset_bit, Bool.or_eq_true, decide_eq_true_eq]
      constructor
      · rintro (h | h)
        · exact .inr h
        · exact .inl h.symm
      · rintro (h | h)
        · exact .inr h.symm
        · exact .inl h
    have hxL : ∀ s ∈ L, s.testBit x = false := by
      intro s hs
      cases hb : s.testBit x
      · rfl
      · obtain ⟨j, hj, e⟩ := I.vis s hs x hb
        rw [← hx] at e
        exact absurd e (ord_inj hn hj hkn)
    have hxS : S.testBit x = false := by
      cases hb : S.testBit x
      · rfl
      · have := ((hSb x).1 hb).1
        rw [hN.irr] at this
        cases this
    have hSclq : ∀ u v, S.testBit u = true → S.testBit v = true → u ≠ v → readT es u v = true := by
      intro u v hu hv hne
      obtain ⟨h1, i, hi, rfl⟩ := (hSb u).1 hu
      obtain ⟨h2, j, hj, rfl⟩ := (hSb v).1 hv
      rw [← hx] at h1 h2
      rw [← bt_read] at h1 h2 ⊢
      exact hch k i j hkn hi hj (fun e => hne (by rw [e])) h1 h2
    have hS'small : bset S x < 18446744073709551616 := bset_lt hSs hx64
    have hS'clq : ∀ u v, (bset S x).testBit u = true → (bset S x).testBit v = true → u ≠ v → readT es u v = true := by
      intro u v hu hv hne
      rw [hS'b] at hu hv
      rcases hu with rfl | hu
      · rcases hv with rfl | hv
        · exact absurd rfl hne
        · exact ((hSb v).1 hv).1
      · rcases hv with rfl | hv
        · exact hN.sym _ _ ((hSb u).1 hu).1
        · exact hSclq u v hu hv hne
    have hS'vis : ∀ v, (bset S x).testBit v = true → ∃ j, j < k + 1 ∧ ord (readAll es) n j = v := by
      intro v hv
      rcases (hS'b v).1 hv with rfl | hv
      · exact ⟨k, by omega, hx⟩
      · obtain ⟨_, j, hj, e⟩ := (hSb v).1 hv
        exact ⟨j, by omega, e⟩
    -- a set of L whose members are all adjacent to x lies in S
    have hinS : ∀ s ∈ L, (∀ u, s.testBit u = true → u ≠ x → readT es u x = true) → ∀ u, s.testBit u = true → S.testBit u = true := by
      intro s hs hall u hu
      have hne : u ≠ x := by rintro rfl; rw [hxL s hs] at hu; cases hu
      rw [hSb]
      exact ⟨hN.sym _ _ (hall u hu hne), I.vis s hs u hu⟩
    -- and if S lies in a set of L, the two are one
    have hsame : ∀ s ∈ L, ∀ s0 ∈ L, (∀ u, s.testBit u = true → s0.testBit u = true) → s = s0 := by
      intro s hs s0 hs0 hsub
      apply Nat.eq_of_testBit_eq
      intro u
      rw [Bool.eq_iff_iff]
      refine ⟨hsub u, fun hu => ?_⟩
      obtain ⟨j, hj, rfl⟩ := I.vis s0 hs0 u hu
      exact I.max s hs j hj (fun w hw hne => I.clq s0 hs0 w _ (hsub w hw) hu hne)
    by_cases hSL : S ∈ L
    · -- S grows
      let g : Nat → Nat := fun s => if s = S then bset S x else s
      have hgS : g S = bset S x := by simp [g]
      have hgo : ∀ s, s ≠ S → g s = s := fun s hs => by simp [g, hs]
      have hgb : ∀ s, ∀ v, v ≠ x → (g s).testBit v = s.testBit v := by
        intro s v hv
        by_cases e : s = S
        · subst e
          rw [hgS, bset_bit]
          have hv2 : ¬ x = v := fun e => hv e.symm
          simp [hv2]
        · rw [hgo s e]
      have hgx : ∀ s ∈ L, ((g s).testBit x = true ↔ s = S) := by
        intro s hs
        by_cases e : s = S
        · rw [e, hgS, hS'b]; simp
        · rw [hgo s e, hxL s hs]; simp [e]
      have hget : ∀ r, r < L.length → at0 (L.map g) r = g (at0 L r) := by
        intro r hr
        unfold at0
        simp [List.getD_eq_getElem?_getD, hr]
      refine ⟨L.map g, pf, ⟨?_, ?_, ?_, ?_, ?_, ?_, ?_, ?_, ?_⟩⟩
      · rw [List.nodup_iff_pairwise_ne, List.pairwise_map]
        refine List.Pairwise.imp_of_mem (fun {a b} ha hb hne e => ?_) I.nd
        by_cases e1 : a = S
        · have := (hgx a ha).2 e1
          rw [e] at this
          exact hne (e1.trans ((hgx b hb).1 this).symm)
        · by_cases e2 : b = S
          · have := (hgx b hb).2 e2
            rw [← e] at this
            exact hne (((hgx a ha).1 this).trans e2.symm)
          · rw [hgo a e1, hgo b e2] at e
            exact hne e
      · intro s hs
        obtain ⟨s', hs', rfl⟩ := List.mem_map.1 hs
        by_cases e : s' = S
        · rw [e, hgS]; exact hS'small
        · rw [hgo s' e]; exact I.small s' hs'
      · intro s hs
        obtain ⟨s', hs', rfl⟩ := List.mem_map.1 hs
        by_cases e : s' = S
        · rw [e, hgS]; exact ⟨x, (hS'b x).2 (.inl rfl)⟩
        · rw [hgo s' e]; exact I.one s' hs'
      · intro s hs v hv
        obtain ⟨s', hs', rfl⟩ := List.mem_map.1 hs
        by_cases e : s' = S
        · rw [e, hgS] at hv; exact hS'vis v hv
        · rw [hgo s' e] at hv
          obtain ⟨j, hj, e2⟩ := I.vis s' hs' v hv
          exact ⟨j, by omega, e2⟩
      · intro s hs
        obtain ⟨s', hs', rfl⟩ := List.mem_map.1 hs
        by_cases e : s' = S
        · rw [e, hgS]; exact hS'clq
        · rw [hgo s' e]; exact I.clq s' hs'
      · intro s hs j hj hall
        obtain ⟨s', hs', rfl⟩ := List.mem_map.1 hs
        by_cases e : s' = S
        · subst e
          rw [hgS] at hall ⊢
          rw [hS'b]
          by_cases ejk : j = k
          · subst ejk; exact .inl hx
          · exact .inr (I.max s' hs' j (by omega) (fun u hu hne => hall u ((hS'b u).2 (.inr hu)) hne))
        · rw [hgo s' e] at hall ⊢
          by_cases ejk : j = k
          · subst ejk
            rw [hx] at hall ⊢
            exact absurd (hsame s' hs' S hSL (hinS s' hs' hall)) e
          · exact I.max s' hs' j (by omega) hall
      · intro j hj
        by_cases ejk : j = k
        · subst ejk
          refine ⟨g S, List.mem_map.2 ⟨S, hSL, rfl⟩, fun v hv => ?_⟩
          rw [hgS, hS'b]
          rcases hv with hv | ⟨h1, h2⟩
          · exact .inl (hv.trans hx)
          · exact .inr ((hSb v).2 ⟨by rw [← hx]; exact h1, h2⟩)
        · obtain ⟨s, hs, hcov⟩ := I.cover j (by omega)
          refine ⟨g s, List.mem_map.2 ⟨s, hs, rfl⟩, fun v hv => ?_⟩
          have hvx : v ≠ x := by
            rintro rfl
            have := hcov _ hv
            rw [hxL s hs] at this
            cases this
          rw [hgb s v hvx]
          exact hcov v hv
      · intro r h0 hr
        exact I.par r h0 (by simpa using hr)
      · intro v hex
        rw [List.length_map]
        by_cases evx : v = x
        · subst evx
          obtain ⟨r0, hr0, e0⟩ := at0_of hSL
          have hbit : ∀ r, r < L.length → ((at0 (L.map g) r).testBit v = true ↔ r = r0) := by
            intro r hr
            rw [hget r hr, hgx _ (at0_mem hr)]
            constructor
            · intro e; exact at0_inj I.nd hr hr0 (e.trans e0.symm)
            · intro e; rw [e, e0]
          have hocc : occ (at0 (L.map g)) L.length v = 1 := by
            unfold occ
            rw [List.filter_congr (q := fun r => decide (r = r0)) (fun r hr => by
              rw [Bool.eq_iff_iff, decide_eq_true_eq]; exact hbit r (by simpa using hr))]
            have : ∀ m, r0 < m → ((List.range m).filter fun r => decide (r = r0)).length = 1 := by
              intro m
              induction m with
              | zero => omega
              | succ m ihm =>
                intro hm
                rw [List.range_succ, List.filter_append, List.length_append]
                by_cases e : r0 = m
                · subst e
                  have : (List.range r0).filter (fun r => decide (r = r0)) = [] := List.filter_eq_nil_iff.2 (fun a ha => by
                    have : a < r0 := by simpa using ha
                    simp; omega)
                  rw [this]; simp
                · rw [ihm (by omega)]
                  have e3 : ¬ m = r0 := fun e2 => e e2.symm
                  simp [e3]
            exact this _ hr0
          have hlnk : links (at0 (L.map g)) (fun r => at0 (L.map g) (pf r)) L.length v = 0 := by
            unfold links
            rw [List.length_eq_zero_iff, List.filter_eq_nil_iff]
            intro r hr
            have hr : r < L.length := by simpa using hr
            intro hb
            rw [Nat.testBit_and] at hb
            simp only [Bool.and_eq_true, decide_eq_true_eq] at hb
            have e1 := (hbit r hr).1 hb.2.1
            have hp := I.par r hb.1 hr
            have e2 := (hbit (pf r) (by omega)).1 hb.2.2
            omega
          omega
        · have e1 : occ (at0 (L.map g)) L.length v = occ (at0 L) L.length v := by
            unfold occ
            congr 1
            apply List.filter_congr
            intro r hr
            rw [hget r (by simpa using hr), hgb _ v evx]
          have e2 : links (at0 (L.map g)) (fun r => at0 (L.map g) (pf r)) L.length v = links (at0 L) (fun r => at0 L (pf r)) L.length v := by
            unfold links
            congr 1
            apply List.filter_congr
            intro r hr
            have hr : r < L.length := by simpa using hr
            by_cases h0 : 0 < r
            · have hp := I.par r h0 hr
              simp only [Nat.testBit_and]
              rw [hget r hr, hget (pf r) (by omega), hgb _ v evx, hgb _ v evx]
            · simp [h0]
          rw [e1, e2]
          refine I.run v ?_
          obtain ⟨s, hs, hb⟩ := hex
          obtain ⟨s', hs', rfl⟩ := List.mem_map.1 hs
          exact ⟨s', hs', by rw [← hgb s' v evx]; exact hb⟩
    · -- a new set
      have hpar : L = [] ∨ ∃ p0, p0 < L.length ∧ ∀ u, S.testBit u = true → (at0 L p0).testBit u = true := by
        by_cases hL : L = []
        · exact .inl hL
        · right
          by_cases hSe : ∃ u, S.testBit u = true
          · have hlast : ∃ j, j < k ∧ S.testBit (ord (readAll es) n j) = true ∧ ∀ i, j < i → i < k → S.testBit (ord (readAll es) n i) = false := by
              obtain ⟨u, hu⟩ := hSe
              obtain ⟨_, j0, hj0, e0⟩ := (hSb u).1 hu
              have : ∀ d, ∀ j, j < k → k - j = d → S.testBit (ord (readAll es) n j) = true → ∃ j, j < k ∧ S.testBit (ord (readAll es) n j) = true ∧ ∀ i, j < i → i < k → S.testBit (ord (readAll es) n i) = false := by
                intro d
                induction d using Nat.strongRecOn with
                | _ d ihd =>
                  intro j hj hd hb
                  by_cases hex : ∃ i, j < i ∧ i < k ∧ S.testBit (ord (readAll es) n i) = true
                  · obtain ⟨i, h1, h2, h3⟩ := hex
                    exact ihd (k - i) (by omega) i h2 rfl h3
                  · refine ⟨j, hj, hb, fun i h1 h2 => ?_⟩
                    cases hbi : S.testBit (ord (readAll es) n i)
                    · rfl
                    · exact absurd ⟨i, h1, h2, hbi⟩ hex
              exact this _ j0 hj0 rfl (by rw [e0]; exact hu)
            obtain ⟨j, hj, hjb, hafter⟩ := hlast
            obtain ⟨s, hs, hcov⟩ := I.cover j hj
            obtain ⟨p0, hp0, e0⟩ := at0_of hs
            refine ⟨p0, hp0, fun u hu => ?_⟩
            rw [e0]
            refine hcov u ?_
            obtain ⟨_, i, hi, rfl⟩ := (hSb u).1 hu
            by_cases e : i = j
            · left; rw [e]
            · right
              have hij : i < j := by
                by_cases hij : i < j
                · exact hij
                · rw [hafter i (by omega) hi] at hu; cases hu
              exact ⟨hSclq _ _ hjb hu (fun e2 => ord_inj hn hij (by omega) e2.symm), i, hij, rfl⟩
          · refine ⟨0, List.length_pos_iff.2 hL, fun u hu => absurd ⟨u, hu⟩ hSe⟩
      obtain ⟨p0, hp0⟩ : ∃ p0, L = [] ∨ (p0 < L.length ∧ ∀ u, S.testBit u = true → (at0 L p0).testBit u = true) := by
        rcases hpar with h | ⟨p0, h⟩
        · exact ⟨0, .inl h⟩
        · exact ⟨p0, .inr h⟩
      have hg1 : ∀ r, r < L.length → at0 (L ++ [bset S x]) r = at0 L r := by
        intro r hr
        unfold at0
        rw [List.getD_eq_getElem?_getD, List.getElem?_append_left hr, List.getD_eq_getElem?_getD]
      have hg2 : at0 (L ++ [bset S x]) L.length = bset S x := by
        unfold at0
        rw [List.getD_eq_getElem?_getD, List.getElem?_append_right (Nat.le_refl _)]
        simp
      have hnew : bset S x ∉ L := by
        intro hm
        have := hxL _ hm
        rw [(hS'b x).2 (.inl rfl)] at this
        cases this
      refine ⟨L ++ [bset S x], fun r => if r = L.length then p0 else pf r, ⟨?_, ?_, ?_, ?_, ?_, ?_, ?_, ?_, ?_⟩⟩
      · rw [List.nodup_append]
        refine ⟨I.nd, by simp, fun a ha b hb e => ?_⟩
        simp at hb
        subst hb e
        exact hnew ha
      · intro s hs
        rcases List.mem_append.1 hs with hs | hs
        · exact I.small s hs
        · simp at hs; subst hs; exact hS'small
      · intro s hs
        rcases List.mem_append.1 hs with hs | hs
        · exact I.one s hs
        · simp at hs; subst hs; exact ⟨x, (hS'b x).2 (.inl rfl)⟩
      · intro s hs v hv
        rcases List.mem_append.1 hs with hs | hs
        · obtain ⟨j, hj, e⟩ := I.vis s hs v hv
          exact ⟨j, by omega, e⟩
        · simp at hs; subst hs; exact hS'vis v hv
      · intro s hs
        rcases List.mem_append.1 hs with hs | hs
        · exact I.clq s hs
        · simp at hs; subst hs; exact hS'clq
      · intro s hs j hj hall
        rcases List.mem_append.1 hs with hs | hs
        · by_cases ejk : j = k
          · subst ejk
            rw [hx] at hall ⊢
            exfalso
            have hin := hinS s hs hall
            rcases hp0 with hL | ⟨hp1, hp2⟩
            · rw [hL] at hs; simp at hs
            · have es0 := hsame s hs (at0 L p0) (at0_mem hp1) (fun u hu => hp2 u (hin u hu))
              apply hSL
              have : S = s := by
                apply Nat.eq_of_testBit_eq
                intro u
                rw [Bool.eq_iff_iff]
                exact ⟨fun hu => by rw [es0]; exact hp2 u hu, hin u⟩
              rw [this]; exact hs
          · exact I.max s hs j (by omega) hall
        · simp at hs
          subst hs
          rw [hS'b]
          by_cases ejk : j = k
          · subst ejk; exact .inl hx
          · right
            rw [hSb]
            refine ⟨hall x ((hS'b x).2 (.inl rfl)) ?_, j, by omega, rfl⟩
            rw [← hx]
            exact fun e => ord_inj hn (show j < k by omega) hkn e.symm
      · intro j hj
        by_cases ejk : j = k
        · subst ejk
          refine ⟨bset S x, by simp, fun v hv => ?_⟩
          rw [hS'b]
          rcases hv with hv | ⟨h1, h2⟩
          · exact .inl (hv.trans hx)
          · exact .inr ((hSb v).2 ⟨by rw [← hx]; exact h1, h2⟩)
        · obtain ⟨s, hs, hcov⟩ := I.cover j (by omega)
          exact ⟨s, by simp [hs], hcov⟩
      · intro r h0 hr
        rw [List.length_append, List.length_singleton] at hr
        by_cases e : r = L.length
        · rcases hp0 with hL | ⟨hp1, _⟩
          · rw [hL] at e; simp at e; omega
          · simp [e]; exact hp1
        · simp [e]; exact I.par r h0 (by omega)
      · intro v hex
        rw [List.length_append, List.length_singleton]
        have e1 : occ (at0 (L ++ [bset S x])) (L.length + 1) v = occ (at0 L) L.length v + if (bset S x).testBit v = true then 1 else 0 := by
          unfold occ
          rw [List.range_succ, List.filter_append, List.length_append]
          rw [List.filter_congr (q := fun r => (at0 L r).testBit v) (fun r hr => by rw [hg1 r (by simpa using hr)])]
          congr 1
          cases hb : (bset S x).testBit v <;> simp [hg2, hb]
        have e2 : links (at0 (L ++ [bset S x])) (fun r => at0 (L ++ [bset S x]) (if r = L.length then p0 else pf r)) (L.length + 1) v = links (at0 L) (fun r => at0 L (pf r)) L.length v + if 0 < L.length ∧ (bset S x).testBit v = true ∧ (at0 L p0).testBit v = true then 1 else 0 := by
          unfold links
          rw [List.range_succ, List.filter_append, List.length_append]
          rw [List.filter_congr (q := fun r => decide (0 < r) && (at0 L r &&& at0 L (pf r)).testBit v) (fun r hr => by
            have hr : r < L.length := by simpa using hr
            by_cases h0 : 0 < r
            · have hp := I.par r h0 hr
              simp only []
              rw [if_neg (by omega), hg1 r hr, hg1 (pf r) (by omega)]
            · simp [h0])]
          congr 1
          by_cases hlen : 0 < L.length
          · rcases hp0 with hL | ⟨hp1, _⟩
            · rw [hL] at hlen; simp at hlen
            · have : at0 (L ++ [bset S x]) p0 = at0 L p0 := hg1 p0 hp1
              cases hb : (bset S x).testBit v <;> cases hb2 : (at0 L p0).testBit v <;> simp [hg2, hb, hb2, this, hlen]
          · have h0 : L.length = 0 := by omega
            simp [hlen]
        rw [e1, e2]
        by_cases evx : v = x
        · subst evx
          have z1 : occ (at0 L) L.length v = 0 := by
            unfold occ
            rw [List.length_eq_zero_iff, List.filter_eq_nil_iff]
            intro r hr
            rw [hxL _ (at0_mem (by simpa using hr))]; simp
          have z2 : links (at0 L) (fun r => at0 L (pf r)) L.length v = 0 := by
            unfold links
            rw [List.length_eq_zero_iff, List.filter_eq_nil_iff]
            intro r hr
            rw [Nat.testBit_and, hxL _ (at0_mem (by simpa using hr))]; simp
          rw [z1, z2, if_pos ((hS'b v).2 (.inl rfl)), if_neg]
          rintro ⟨h1, _, h3⟩
          rcases hp0 with hL | ⟨hp1, _⟩
          · rw [hL] at h1; simp at h1
          · rw [hxL _ (at0_mem hp1)] at h3; cases h3
        · by_cases hvS : S.testBit v = true
          · have hpos : 0 < L.length := by
              obtain ⟨_, j, hj, _⟩ := (hSb v).1 hvS
              obtain ⟨s, hs, _⟩ := I.cover j hj
              exact List.length_pos_of_mem hs
            rcases hp0 with hL | ⟨hp1, hp2⟩
            · rw [hL] at hpos; simp at hpos
            · rw [if_pos ((hS'b v).2 (.inr hvS)), if_pos ⟨hpos, (hS'b v).2 (.inr hvS), hp2 v hvS⟩]
              have := I.run v ⟨_, at0_mem hp1, hp2 v hvS⟩
              omega
          · have hno : ¬ (bset S x).testBit v = true := by
              rw [hS'b]
              rintro (h | h)
              · exact evx h
              · exact hvS h
            rw [if_neg hno, if_neg (fun h => hno h.2.1)]
            refine I.run v ?_
            obtain ⟨s, hs, hb⟩ := hex
            rcases List.mem_append.1 hs with hs | hs
            · exact ⟨s, hs, hb⟩
            · simp at hs; subst hs; exact absurd hb hno
/-- The maximal cliques of a chordal graph, in some order, with parents that make a clique tree. -/
theorem jtree_exists {n : Nat} {es : List (Int × Int)} (h : valid n es) (hc : isChordal (readAll es) n = true) :
    ∃ (L : List Nat) (pf : Nat → Nat), L.Nodup ∧ (∀ s, s ∈ L ↔ s < 18446744073709551616 ∧ MaxClq (readT es) n s) ∧ Jtree (at0 L) (fun r => at0 L (pf r)) L.length := by
  have hn : n ≤ 64 := by have := h.2.1; omega
  obtain ⟨L, pf, I⟩ := jinv h hc n (Nat.le_refl _)
  have hin : ∀ s ∈ L, s < 18446744073709551616 ∧ MaxClq (readT es) n s := by
    intro s hs
    refine ⟨I.small s hs, ⟨fun v hv => ?_, I.clq s hs, fun v hv hall => ?_, I.one s hs⟩⟩
    · obtain ⟨j, hj, rfl⟩ := I.vis s hs v hv
      exact ord_lt hn hj
    · obtain ⟨j, hj, rfl⟩ := ord_onto (A := readAll es) hn hv
      exact I.max s hs j hj hall
  refine ⟨L, pf, I.nd, fun s => ⟨hin s, fun ⟨hs, hM⟩ => ?_⟩, ⟨fun a b hab hb e => ?_, fun r h0 hr => ⟨pf r, I.par r h0 hr, rfl⟩, fun v hv => ?_⟩⟩
  · -- the last vertex of s
    have hk := (keep_iff h hc s).2 ⟨hs, hM⟩
    obtain ⟨k, hkl, e, _⟩ := mem_keepLast.1 hk
    have hkn : k < n := by rwa [cands_len hn] at hkl
    obtain ⟨s', hs', hcov⟩ := I.cover k hkn
    have hsub : ∀ v, s.testBit v = true → s'.testBit v = true := by
      intro v hv
      rw [← e, cand_bit hn hkn] at hv
      refine hcov v ?_
      rcases hv with hv | ⟨h1, h2⟩
      · exact .inl hv
      · exact .inr ⟨by rw [← bt_read]; exact h1, h2⟩
    have : s = s' := by
      apply Nat.eq_of_testBit_eq
      intro u
      rw [Bool.eq_iff_iff]
      refine ⟨hsub u, fun hu => ?_⟩
      exact hM.max u ((hin s' hs').2.lt u hu) (fun w hw hne => I.clq s' hs' w u (hsub w hw) hu hne)
    rw [this]; exact hs'
  · have := at0_inj I.nd (show a < L.length by omega) hb e
    omega
  · obtain ⟨r, hr, hb⟩ := hv
    exact I.run v ⟨_, at0_mem hr, hb⟩
end Go.Gr
end
section
/- Plain law of Tree: the cliques that hold a vertex are connected in the tree. -/
namespace Go.Gr
open Go.Jt
section
variable {sets : List Nat} {inT m : Nat}
def okB (sets : List Nat) (b : Int × Int × Int) : Prop := b = (-1, -1, -1) ∨ ∃ i k : Nat, b = ((i : Int), (k : Int), ((size (sets.getD i 0 &&& sets.getD k 0) : Nat) : Int))
theorem okB_pair {b : Int × Int × Int} (h : okB sets b) (i k : Nat) : okB sets (pairStep sets inT i b k) := by
  unfold pairStep
  split
  · exact .inr ⟨i, k, rfl⟩
  · exact h
theorem okB_row {b : Int × Int × Int} (h : okB sets b) (i : Nat) : ∀ k, okB sets (rowTo sets inT i b k)
  | 0 => h
  | k + 1 => by rw [rowTo_succ]; exact okB_pair (okB_row h i k) i k
theorem okB_all : ∀ i, okB sets (allTo sets inT m i)
  | 0 => .inl rfl
  | i + 1 => okB_row (okB_all i) i m
theorem row_most {b : Int × Int × Int} {i k : Nat} (hi : inT.testBit i = false) (hk : inT.testBit k = true) : ∀ q, k < q → ((size (sets.getD i 0 &&& sets.getD k 0) : Nat) : Int) ≤ (rowTo sets inT i b q).2.2
  | 0, h => by omega
  | q + 1, h => by
    rw [rowTo_succ]
    by_cases e : k = q
    · subst e
      unfold pairStep
      split
      · exact Int.le_refl _
      · rename_i hc
        by_cases h2 : (rowTo sets inT i b k).2.2 < ((size (sets.getD i 0 &&& sets.getD k 0) : Nat) : Int)
        · exact absurd ⟨hi, hk, h2⟩ hc
        · omega
    · exact Int.le_trans (row_most hi hk q (by omega)) pair_mono
theorem all_most {i k : Nat} (hi : inT.testBit i = false) (hk : inT.testBit k = true) (hkm : k < m) : ∀ q, i < q → ((size (sets.getD i 0 &&& sets.getD k 0) : Nat) : Int) ≤ (allTo sets inT m q).2.2
  | 0, h => by omega
  | q + 1, h => by
    by_cases e : i = q
    · subst e; exact row_most hi hk m hkm
    · exact Int.le_trans (all_most hi hk hkm q (by omega)) (all_mono q)
end
/-- The set that is chosen in round r, and its parent. -/
def pk (sets : List Nat) : Nat → Nat
  | 0 => 0
  | r + 1 => (allTo sets (treeTo sets r).1 sets.length sets.length).1.toNat
def pq (sets : List Nat) : Nat → Nat
  | 0 => 0
  | r + 1 => (allTo sets (treeTo sets r).1 sets.length sets.length).2.1.toNat
def pw (sets : List Nat) (r : Nat) : Nat := size (sets.getD (pk sets r) 0 &&& sets.getD (pq sets r) 0)
structure Rounds (sets : List Nat) (r : Nat) : Prop where
  bits : ∀ i, (treeTo sets r).1.testBit i = true ↔ ∃ s, s ≤ r ∧ pk sets s = i
  lt : ∀ s, s ≤ r → pk sets s < sets.length
  new : ∀ s, 0 < s → s ≤ r → ∀ s', s' < s → pk sets s' ≠ pk sets s
  par : ∀ s, 0 < s → s ≤ r → ∃ s', s' < s ∧ pq sets s = pk sets s'
  most : ∀ s, 0 < s → s ≤ r → ∀ i, i < sets.length → (∀ s', s' < s → pk sets s' ≠ i) → ∀ s', s' < s → size (sets.getD i 0 &&& sets.getD (pk sets s') 0) ≤ pw sets s
  len : (treeTo sets r).2.length = sets.length
  tree : ∀ s, s ≤ r → (treeTo sets r).2.getD (pk sets s) 0 = if 0 < s ∧ 0 < pw sets s then ((pq sets s : Nat) : Int) else -1
  rest : ∀ i, i < sets.length → (∀ s, s ≤ r → pk sets s ≠ i) → (treeTo sets r).2.getD i 0 = -1
theorem rounds {sets : List Nat} (hm : sets.length ≤ 64) (h0 : 0 < sets.length) : ∀ r, r + 1 ≤ sets.length → Rounds sets r
  | 0, _ => by
    refine ⟨fun i => ?_, fun s hs => ?_, fun s h1 h2 => by omega, fun s h1 h2 => by omega, fun s h1 h2 => by omega, by simp [treeTo], fun s hs => ?_, fun i hi _ => by simp [treeTo, hi]⟩
    · unfold treeTo
      rw [bset_bit]
      simp only [Nat.zero_testBit, Bool.false_or, decide_eq_true_eq]
      exact ⟨fun e => ⟨0, by omega, e⟩, fun ⟨s, hs, e⟩ => by
        obtain rfl : s = 0 := by omega
        exact e⟩
    · obtain rfl : s = 0 := by omega
      exact h0
    · obtain rfl : s = 0 := by omega
      simp [treeTo, pk, h0]
  | r + 1, hr => by
    have ih := rounds hm h0 r (by omega)
    have hg := grows hm h0 r (by omega)
    obtain ⟨i0, k0, c0, hi0, hk0, hf, ht, he⟩ := tree_best hg (by omega)
    have ep : pk sets (r + 1) = i0 := by simp [pk, he]
    have eq : pq sets (r + 1) = k0 := by simp [pq, he]
    have ec : c0 = pw sets (r + 1) := by
      have := okB_all (sets := sets) (inT := (treeTo sets r).1) (m := sets.length) sets.length
      rw [he] at this
      unfold pw
      rw [ep, eq]
      rcases this with h | ⟨i, k, h⟩
      · have := congrArg (fun x => x.1) h
        simp at this
      · simp only [Prod.mk.injEq] at h
        obtain ⟨h1, h2, h3⟩ := h
        have e1 : i0 = i := by omega
        have e2 : k0 = k := by omega
        subst e1 e2
        omega
    have eT : treeTo sets (r + 1) = (bset (treeTo sets r).1 i0, if (0 : Int) < (c0 : Int) then (treeTo sets r).2.set i0 (k0 : Int) else (treeTo sets r).2) := by
      simp only [treeTo, he]; rfl
    have hi0new : ∀ s, s ≤ r → pk sets s ≠ i0 := by
      intro s hs e
      have := (ih.bits i0).2 ⟨s, hs, e⟩
      rw [hf] at this
      cases this
    have hset : ∀ i, i ≠ i0 → (treeTo sets (r + 1)).2.getD i 0 = (treeTo sets r).2.getD i 0 := by
      intro i hi
      rw [eT]
      simp only
      split
      · rw [List.getD_eq_getElem?_getD, List.getD_eq_getElem?_getD, List.getElem?_set_ne (fun e => hi e.symm)]
      · rfl
    refine ⟨fun i => ?_, fun s hs => ?_, fun s h1 h2 s' hs' => ?_, fun s h1 h2 => ?_, fun s h1 h2 i hi hout s' hs' => ?_, ?_, fun s hs => ?_, fun i hi hout => ?_⟩
    · rw [eT, bset_bit, Bool.or_eq_true, decide_eq_true_eq, ih.bits]
      constructor
      · rintro (⟨s, hs, e⟩ | e)
        · exact ⟨s, by omega, e⟩
        · exact ⟨r + 1, Nat.le_refl _, ep.trans e⟩
      · rintro ⟨s, hs, e⟩
        by_cases e2 : s = r + 1
        · subst e2; exact .inr (ep.symm.trans e)
        · exact .inl ⟨s, by omega, e⟩
    · by_cases e : s = r + 1
      · rw [e, ep]; exact hi0
      · exact ih.lt s (by omega)
    · by_cases e : s = r + 1
      · rw [e, ep]; exact hi0new s' (by omega)
      · exact ih.new s h1 (by omega) s' hs'
    · by_cases e : s = r + 1
      · subst e
        obtain ⟨s', hs', e'⟩ := (ih.bits k0).1 ht
        exact ⟨s', by omega, eq.trans e'.symm⟩
      · exact ih.par s h1 (by omega)
    · by_cases e : s = r + 1
      · subst e
        have h3 : (treeTo sets r).1.testBit i = false := by
          cases hb : (treeTo sets r).1.testBit i
          · rfl
          · obtain ⟨s2, hs2, e2⟩ := (ih.bits i).1 hb
            exact absurd e2 (hout s2 (by omega))
        have h4 : (treeTo sets r).1.testBit (pk sets s') = true := (ih.bits _).2 ⟨s', by omega, rfl⟩
        have := all_most (sets := sets) h3 h4 (m := sets.length) (ih.lt s' (by omega)) sets.length hi
        rw [he] at this
        simp only at this
        rw [← ec]
        omega
      · exact ih.most s h1 (by omega) i hi hout s' hs'
    · rw [eT]
      simp only
      split
      · simp [ih.len]
      · exact ih.len
    · by_cases e : s = r + 1
      · subst e
        rw [ep, eT, ← ec, eq]
        simp only
        by_cases hc : 0 < c0
        · rw [if_pos (by omega), if_pos ⟨by omega, hc⟩]
          simp [ih.len, hi0]
        · rw [if_neg (by omega), if_neg (fun h => hc h.2)]
          exact ih.rest i0 hi0 hi0new
      · rw [hset _ (hi0new s (by omega))]
        exact ih.tree s (by omega)
    · have hi2 : i ≠ i0 := fun e => hout (r + 1) (Nat.le_refl _) (ep.trans e.symm)
      rw [hset i hi2]
      exact ih.rest i hi (fun s hs => hout s (by omega))
/-- How many of the cliques hold v; how many hold it with their parent. -/
def nSets (ls : List (List Int)) (v : Int) (k : Nat) : Nat := ((List.range k).filter fun i => decide (v ∈ ls.getD i [])).length
def nLinks (ls : List (List Int)) (ts : List Int) (v : Int) (k : Nat) : Nat := ((List.range k).filter fun i => decide (v ∈ ls.getD i []) && (decide (0 ≤ ts.getD i 0) && decide (v ∈ ls.getD (ts.getD i 0).toNat []))).length
structure TreeEs (n : Nat) (ls : List (List Int)) (ts : List Int) : Prop where
  len : ts.length = ls.length
  range : ∀ i, i < ls.length → -1 ≤ ts.getD i 0 ∧ ts.getD i 0 < ls.length ∧ ts.getD i 0 ≠ i
  run : ∀ v : Nat, v < n → nSets ls v ls.length = nLinks ls ts v ls.length + 1
theorem vertsI_inj {s s' : Nat} (hs : s < 18446744073709551616) (hs' : s' < 18446744073709551616) (e : vertsI s = vertsI s') : s = s' := by
  apply Nat.eq_of_testBit_eq
  intro j
  by_cases hj : j < 64
  · have h1 : (j : Int) ∈ vertsI s ↔ (j : Int) ∈ vertsI s' := by rw [e]
    rw [mem_vertsI, mem_vertsI] at h1
    rw [Bool.eq_iff_iff]
    constructor
    · intro h
      have := (h1.1 ⟨by omega, by omega, by simpa using h⟩).2.2
      simpa using this
    · intro h
      have := (h1.2 ⟨by omega, by omega, by simpa using h⟩).2.2
      simpa using this
  · rw [high_bit hs (by omega), high_bit hs' (by omega)]
theorem onto_of_inj {f : Nat → Nat} {m : Nat} (hlt : ∀ r, r < m → f r < m) (hinj : ∀ a b, a < m → b < m → f a = f b → a = b) : ∀ i, i < m → ∃ r, r < m ∧ f r = i := by
  intro i hi
  by_cases h : ∃ r, r < m ∧ f r = i
  · exact h
  · exfalso
    have h1 := inj_len (f := f) (l := List.range m) (l' := (List.range m).erase i) List.nodup_range (fun r hr => by
      have hr : r < m := by simpa using hr
      exact (List.mem_erase_of_ne (fun e => h ⟨r, hr, e⟩)).2 (by simpa using hlt r hr)) (fun a ha b hb e => hinj a b (by simpa using ha) (by simpa using hb) e)
    rw [List.length_erase_of_mem (by simpa using hi), List.length_range] at h1
    omega
theorem count_bij {f : Nat → Nat} {m : Nat} (hlt : ∀ r, r < m → f r < m) (hinj : ∀ a b, a < m → b < m → f a = f b → a = b) (p q : Nat → Bool) (hpq : ∀ r, r < m → p r = q (f r)) : ((List.range m).filter p).length = ((List.range m).filter q).length := by
  apply Nat.le_antisymm
  · refine inj_len (f := f) (List.Pairwise.filter _ List.nodup_range) (fun r hr => ?_) (fun a ha b hb e => ?_)
    · rw [List.mem_filter, List.mem_range] at hr ⊢
      exact ⟨hlt r hr.1, by rw [← hpq r hr.1]; exact hr.2⟩
    · rw [List.mem_filter, List.mem_range] at ha hb
      exact hinj a b ha.1 hb.1 e
  · have honto := onto_of_inj hlt hinj
    refine inj_len (f := fun i => if h : i < m then Classical.choose (honto i h) else 0) (List.Pairwise.filter _ List.nodup_range) (fun i hi => ?_) (fun a ha b hb e => ?_)
    · rw [List.mem_filter, List.mem_range] at hi
      simp only [hi.1, dite_true]
      have := Classical.choose_spec (honto i hi.1)
      rw [List.mem_filter, List.mem_range, hpq _ this.1, this.2]
      exact ⟨this.1, hi.2⟩
    · rw [List.mem_filter, List.mem_range] at ha hb
      simp only [ha.1, hb.1, dite_true] at e
      have c1 := (Classical.choose_spec (honto a ha.1)).2
      have c2 := (Classical.choose_spec (honto b hb.1)).2
      rw [e] at c1
      exact c1.symm.trans c2
theorem tree_es {n : Nat} {es : List (Int × Int)} (h : valid n es) (hc : isChordal (readAll es) n = true) {ls : List (List Int)} (hp : ls.Perm ((keepLast (cands (readAll es) n)).map vertsI)) : TreeEs n ls (tree (ls.map setOf)) := by
  have hn : n ≤ 64 := by have := h.2.1; omega
  have hQ := clq_es h hc hp
  have hS := (readAll_small es n h).1
  have hasc : ∀ l ∈ ls, asc l := by
    intro l hl
    have h1 := hQ.asc l hl
    have h2 := hQ.lt l hl
    intro i hi _
    have h3 := h2 l[i] (List.getElem_mem _)
    refine ⟨by omega, fun h0 => List.pairwise_iff_getElem.1 h1 (i - 1) i (by omega) hi (by omega)⟩
  have hm64 : ls.length ≤ 64 := by have := hQ.few; omega
  by_cases h0 : 0 < ls.length
  · obtain ⟨sets, hsets⟩ : ∃ sets, ls.map setOf = sets := ⟨_, rfl⟩
    have hlen : sets.length = ls.length := by rw [← hsets]; simp
    rw [hsets]
    have hR := rounds (sets := sets) (by omega) (by omega) (sets.length - 1) (by omega)
    have hgd : ∀ i, i < ls.length → sets.getD i 0 = setOf (ls.getD i []) := by
      intro i hi
      rw [← hsets]
      simp [List.getD_eq_getElem?_getD, hi]
    have hmemD : ∀ i, i < ls.length → ls.getD i [] ∈ ls := by
      intro i hi
      rw [List.getD_eq_getElem?_getD, List.getElem?_eq_getElem hi]
      exact List.getElem_mem _
    have hbit : ∀ i, i < ls.length → ∀ v : Nat, (sets.getD i 0).testBit v = true ↔ (v : Int) ∈ ls.getD i [] := by
      intro i hi v
      rw [hgd i hi, setOf_bit (fun x hx => (hQ.lt _ (hmemD i hi) x hx).1)]
    have hvs : ∀ i, i < ls.length → vertsI (sets.getD i 0) = ls.getD i [] := by
      intro i hi
      rw [hgd i hi]
      exact vertsZ_setOf (hasc _ (hmemD i hi))
    have hsmall : ∀ i, i < ls.length → sets.getD i 0 < 18446744073709551616 := by
      intro i hi
      rw [hgd i hi]
      exact setOf_small (hasc _ (hmemD i hi))
    have hlsnd : ls.Nodup := by
      rw [hp.nodup_iff, List.nodup_iff_pairwise_ne, List.pairwise_map]
      refine List.Pairwise.imp_of_mem (fun {a b} ha hb hne e => hne (vertsI_inj ((keep_iff h hc a).1 ha).1 ((keep_iff h hc b).1 hb).1 e)) ((cands_nodup (es := es) hn).sublist (keepLast_sub _))
    have hsinj : ∀ a b, a < ls.length → b < ls.length → sets.getD a 0 = sets.getD b 0 → a = b := by
      intro a b ha hb e
      have e2 : ls.getD a [] = ls.getD b [] := by rw [← hvs a ha, ← hvs b hb, e]
      rw [List.getD_eq_getElem?_getD, List.getD_eq_getElem?_getD, List.getElem?_eq_getElem ha, List.getElem?_eq_getElem hb] at e2
      simp only [Option.getD_some] at e2
      rcases Nat.lt_trichotomy a b with h1 | h1 | h1
      · exact absurd e2 (List.pairwise_iff_getElem.1 hlsnd a b ha hb h1)
      · exact h1
      · exact absurd e2.symm (List.pairwise_iff_getElem.1 hlsnd b a hb ha h1)
    have hplt : ∀ r, r < ls.length → pk sets r < ls.length := fun r hr => by have := hR.lt r (by omega); omega
    have hpinj : ∀ a b, a < ls.length → b < ls.length → pk sets a = pk sets b → a = b := by
      intro a b ha hb e
      rcases Nat.lt_trichotomy a b with h1 | h1 | h1
      · exact absurd e (hR.new b (by omega) (by omega) a h1)
      · exact h1
      · exact absurd e.symm (hR.new a (by omega) (by omega) b h1)
    have honto := onto_of_inj hplt hpinj
    have etree : tree sets = (treeTo sets (sets.length - 1)).2 := rfl
    have hts : ∀ r, r < ls.length → (tree sets).getD (pk sets r) 0 = if 0 < r ∧ 0 < pw sets r then ((pq sets r : Nat) : Int) else -1 := by
      intro r hr
      rw [etree]
      exact hR.tree r (by omega)
    obtain ⟨L, pf, hLn, hLm, hJ⟩ := jtree_exists h hc
    -- the sets of the list are those of L
    have hmemS : ∀ s, (∃ i, i < ls.length ∧ sets.getD i 0 = s) ↔ s ∈ L := by
      intro s
      rw [hLm, ← keep_iff h hc]
      constructor
      · rintro ⟨i, hi, rfl⟩
        have := hp.mem_iff.1 (hmemD i hi)
        obtain ⟨s, hs, e⟩ := List.mem_map.1 this
        rw [← hvs i hi] at e
        have := vertsI_inj ((keep_iff h hc s).1 hs).1 (hsmall i hi) e
        rw [← this]; exact hs
      · intro hs
        have : vertsI s ∈ ls := hp.mem_iff.2 (List.mem_map.2 ⟨s, hs, rfl⟩)
        obtain ⟨i, hi, e⟩ := List.getElem_of_mem this
        refine ⟨i, hi, vertsI_inj (hsmall i hi) ((keep_iff h hc s).1 hs).1 ?_⟩
        rw [hvs i hi, List.getD_eq_getElem?_getD, List.getElem?_eq_getElem hi]
        exact e
    have hLlen : L.length = ls.length := by
      apply Nat.le_antisymm
      · have := inj_len (f := fun s => if hh : ∃ i, i < ls.length ∧ sets.getD i 0 = s then Classical.choose hh else 0) (l := L) (l' := List.range ls.length) hLn (fun s hs => by
          have hh := (hmemS s).2 hs
          simp only [hh, dite_true]
          simpa using (Classical.choose_spec hh).1) (fun a ha b hb e => by
          have h1 := (hmemS a).2 ha
          have h2 := (hmemS b).2 hb
          simp only [h1, h2, dite_true] at e
          have c1 := (Classical.choose_spec h1).2
          have c2 := (Classical.choose_spec h2).2
          rw [e] at c1
          exact c1.symm.trans c2)
        simpa using this
      · have := inj_len (f := fun i => sets.getD i 0) (l := List.range ls.length) (l' := L) List.nodup_range (fun i hi => (hmemS _).1 ⟨i, by simpa using hi, rfl⟩) (fun a ha b hb e => hsinj a b (by simpa using ha) (by simpa using hb) e)
        simpa using this
    have hPrim : Prim (fun r => sets.getD (pk sets r) 0) (fun r => sets.getD (pq sets r) 0) ls.length := by
      refine ⟨fun a b hab hb e => ?_, fun r hr0 hr => ?_, fun r hr0 hr i k hri hi hk => ?_⟩
      · have := hpinj a b (by omega) hb (hsinj _ _ (hplt a (by omega)) (hplt b hb) e)
        omega
      · obtain ⟨s', hs', e⟩ := hR.par r hr0 (by omega)
        exact ⟨s', hs', by simp only [e]⟩
      · have := hR.most r hr0 (by omega) (pk sets i) (by rw [hlen]; exact hplt i hi) (fun s' hs' e => by
          have := hpinj s' i (by omega) hi e
          omega) k hk
        exact this
    have hrun := prim_jt hPrim (by rw [← hLlen]; exact hJ) (fun r hr => by
        have := (hmemS _).1 ⟨pk sets r, hplt r hr, rfl⟩
        obtain ⟨s, hs, e⟩ := at0_of this
        exact ⟨s, by omega, e⟩) (fun r hr => by
        obtain ⟨i, hi, e⟩ := (hmemS _).2 (at0_mem (L := L) (r := r) (by omega))
        obtain ⟨s, hs, e2⟩ := honto i hi
        exact ⟨s, hs, by simp only [e2]; exact e⟩) (fun r hr => hsmall _ (hplt r hr))
    refine ⟨by rw [etree, hR.len, hlen], fun i hi => ?_, fun v hv => ?_⟩
    · obtain ⟨r, hr, rfl⟩ := honto i hi
      rw [hts r hr]
      split
      · rename_i hh
        obtain ⟨s', hs', e⟩ := hR.par r hh.1 (by omega)
        have h1 := hplt s' (by omega)
        have h2 : pq sets r ≠ pk sets r := by
          rw [e]
          intro e2
          have := hpinj s' r (by omega) hr e2
          omega
        rw [e] at h2 ⊢
        refine ⟨by omega, by omega, by omega⟩
      · refine ⟨by omega, by omega, by omega⟩
    · obtain ⟨l, hl, hvl⟩ := hQ.all v hv
      obtain ⟨i, hi, e⟩ := List.getElem_of_mem hl
      have hvi : (v : Int) ∈ ls.getD i [] := by rw [List.getD_eq_getElem?_getD, List.getElem?_eq_getElem hi, Option.getD_some, e]; exact hvl
      obtain ⟨r0, hr0, e0⟩ := honto i hi
      have hmain := hrun v ⟨r0, hr0, by simp only [e0]; exact (hbit i hi v).2 hvi⟩
      have c1 : occ (fun r => sets.getD (pk sets r) 0) ls.length v = nSets ls v ls.length := by
        unfold occ nSets
        refine count_bij hplt hpinj _ _ (fun r hr => ?_)
        rw [Bool.eq_iff_iff, hbit _ (hplt r hr), decide_eq_true_eq]
      have c2 : links (fun r => sets.getD (pk sets r) 0) (fun r => sets.getD (pq sets r) 0) ls.length v = nLinks ls (tree sets) v ls.length := by
        unfold links nLinks
        refine count_bij hplt hpinj _ _ (fun r hr => ?_)
        rw [Bool.eq_iff_iff, hts r hr]
        simp only [Bool.and_eq_true, decide_eq_true_eq, Nat.testBit_and]
        rw [hbit _ (hplt r hr)]
        constructor
        · rintro ⟨h1, h2, h3⟩
          obtain ⟨s', hs', e⟩ := hR.par r h1 (by omega)
          have hpql : pq sets r < ls.length := by rw [e]; exact hplt s' (by omega)
          have hw : 0 < pw sets r := by
            unfold pw size
            refine List.length_pos_of_mem (a := v) (mem_verts.2 ⟨by omega, ?_⟩)
            rw [Nat.testBit_and, (hbit _ (hplt r hr) v).2 h2, h3]; rfl
          rw [if_pos ⟨h1, hw⟩]
          refine ⟨h2, by omega, ?_⟩
          rw [Int.toNat_natCast]
          exact (hbit _ hpql v).1 h3
        · rintro ⟨h1, h2, h3⟩
          split at h2
          · rename_i hh
            rw [if_pos hh, Int.toNat_natCast] at h3
            obtain ⟨s', hs', e⟩ := hR.par r hh.1 (by omega)
            have hpql : pq sets r < ls.length := by rw [e]; exact hplt s' (by omega)
            exact ⟨hh.1, h1, (hbit _ hpql v).2 h3⟩
          · omega
      rw [← c1, ← c2]
      exact hmain.symm
  · have hz : ls.length = 0 := by omega
    have hn0 := hQ.zero hz
    have hnil : ls = [] := List.length_eq_zero_iff.1 hz
    subst hnil
    exact ⟨rfl, fun i hi => by simp at hi, fun v hv => by omega⟩
end Go.Gr
end
section
/- Plain: the reference finds chordal graphs and their maximal cliques as the library does. -/
namespace Go.Gr
open Go.Chordal
theorem cmpL_antisymm : ∀ x y : List Int, ¬ cmpL x y < 0 → ¬ cmpL y x < 0 → x = y
  | [], [], _, _ => rfl
  | [], _ :: _, h, _ => by simp [cmpL] at h
  | _ :: _, [], _, h => by simp [cmpL] at h
  | a :: l, b :: m, h1, h2 => by
    unfold cmpL at h1 h2
    by_cases p : a < b
    · rw [if_pos p] at h1; omega
    · rw [if_neg p] at h1
      by_cases q : b < a
      · rw [if_pos q] at h2; omega
      · rw [if_neg q] at h1 h2
        rw [if_neg p] at h2
        have : a = b := by omega
        rw [this, cmpL_antisymm l m h1 h2]
theorem sorted_same : ∀ {l m : List (List Int)}, l.Perm m → l.Pairwise (fun a b => ¬ cmpL b a < 0) → m.Pairwise (fun a b => ¬ cmpL b a < 0) → l = m
  | [], m, h, _, _ => by rw [List.nil_perm.1 h]
  | x :: l, [], h, _, _ => by have := h.length_eq; simp at this
  | x :: l, y :: m, h, h1, h2 => by
    rw [List.pairwise_cons] at h1 h2
    have hxy : x = y := by
      have a : x ∈ y :: m := h.mem_iff.1 (by simp)
      have b : y ∈ x :: l := h.mem_iff.2 (by simp)
      rcases List.mem_cons.1 a with e | e
      · exact e
      · rcases List.mem_cons.1 b with e2 | e2
        · exact e2.symm
        · exact cmpL_antisymm x y (h2.1 x e) (h1.1 y e2)
    subst hxy
    rw [sorted_same (h.cons_inv) h1.2 h2.2]
theorem pair_of_sortedL {l : List (List Int)} (h : Go.Proofs.Tg.Gx.sortedL l) : l.Pairwise (fun a b => ¬ cmpL b a < 0) := by
  rw [List.pairwise_iff_getElem]
  intro i j hi hj hij
  have := h i j hij hj
  rw [List.getD_eq_getElem?_getD, List.getD_eq_getElem?_getD, List.getElem?_eq_getElem hi, List.getElem?_eq_getElem hj] at this
  exact this
theorem peo_suffix {adj : Nat → Nat → Prop} : ∀ (l1 : List Nat) {l2 : List Nat}, Peo adj (l1 ++ l2) → Peo adj l2
  | [], _, h => h
  | _ :: l1, _, h => peo_suffix l1 h.2
/-- The first of l that is not gone. -/
theorem first_left {p : Nat → Bool} : ∀ {l : List Nat}, (∃ v ∈ l, p v = false) → ∃ l1 v l2, l = l1 ++ v :: l2 ∧ p v = false ∧ ∀ x ∈ l1, p x = true
  | [], ⟨v, hv, _⟩ => by simp at hv
  | x :: l, h => by
    by_cases hx : p x = false
    · exact ⟨[], x, l, rfl, hx, by simp⟩
    · obtain ⟨v, hv, hp⟩ := h
      have hv2 : v ∈ l := by
        rcases List.mem_cons.1 hv with rfl | hv
        · exact absurd hp hx
        · exact hv
      obtain ⟨l1, u, l2, e, h1, h2⟩ := first_left (l := l) ⟨v, hv2, hp⟩
      refine ⟨x :: l1, u, l2, by rw [e]; rfl, h1, fun y hy => ?_⟩
      rcases List.mem_cons.1 hy with rfl | hy
      · simpa using hx
      · exact h2 y hy
section
variable {t : Nat → Nat → Bool} {n : Nat}
theorem simp_of {gone : Nat → Bool} {i : Nat} (h : ∀ a b, a < n → b < n → gone a = false → gone b = false → t i a = true → t i b = true → a ≠ b → t a b = true) : simpB t n gone i = true := by
  rw [simpB_iff]
  intro a ha b hb
  unfold okp
  cases h1 : gone a <;> cases h2 : gone b <;> cases h3 : t i a <;> cases h4 : t i b <;> simp
  exact h a b ha (by omega) h1 h2 h3 h4 (by omega)
theorem of_simp (hN : Nice t n) {gone : Nat → Bool} {i : Nat} (h : simpB t n gone i = true) : ∀ a b, a < n → b < n → gone a = false → gone b = false → t i a = true → t i b = true → a ≠ b → t a b = true := by
  rw [simpB_iff] at h
  have half : ∀ a b, a < n → b < a → gone a = false → gone b = false → t i a = true → t i b = true → t a b = true := by
    intro a b ha hb h1 h2 h3 h4
    have := h a ha b hb
    unfold okp at this
    rw [h1, h2, h3, h4] at this
    simpa using this
  intro a b ha hb h1 h2 h3 h4 hne
  rcases Nat.lt_or_gt_of_ne hne with hh | hh
  · exact hN.sym _ _ (half b a hb hh h2 h1 h4 h3)
  · exact half a b ha hh h1 h2 h3 h4
theorem okV_exists (hN : Nice t n) (hC : Chord t n) {gone : Nat → Bool} (hex : ∃ v, v < n ∧ gone v = false) : ∃ i, (List.range n).find? (okV t n gone) = some i := by
  obtain ⟨l, hl1, hl2, hl3⟩ := hC
  obtain ⟨v0, hv0, hg0⟩ := hex
  obtain ⟨l1, v, l2, e, hgv, hbef⟩ := first_left (p := gone) (l := l) ⟨v0, (hl1 v0).2 hv0, hg0⟩
  have hvn : v < n := (hl1 v).1 (by rw [e]; simp)
  have hpeo := peo_suffix l1 (by rw [← e]; exact hl3)
  have hok : okV t n gone v = true := by
    unfold okV
    rw [hgv]
    have : simpB t n gone v = true := by
      refine simp_of (fun a b ha hb h1 h2 h3 h4 hne => ?_)
      have hin : ∀ x, x < n → gone x = false → t v x = true → x ∈ l2 := by
        intro x hx hgx htx
        have : x ∈ l1 ++ v :: l2 := by rw [← e]; exact (hl1 x).2 hx
        rcases List.mem_append.1 this with hh | hh
        · rw [hbef x hh] at hgx; cases hgx
        · rcases List.mem_cons.1 hh with rfl | hh
          · rw [hN.irr] at htx; cases htx
          · exact hh
      exact hpeo.1 a (hin a ha h1 h3) b (hin b hb h2 h4) h3 h4 hne
    rw [this]; rfl
  cases hf : (List.range n).find? (okV t n gone) with
  | none =>
    rw [List.find?_eq_none] at hf
    exact absurd hok (hf v (by simpa using hvn))
  | some i => exact ⟨i, rfl⟩
/-- What the steps have done: the vertices in the order in which they went, and the sets. -/
structure Steps (t : Nat → Nat → Bool) (n r : Nat) (l : List Nat) (gone : Nat → Bool) (sets : List (List Int)) : Prop where
  len : l.length = r
  nd : l.Nodup
  lt : ∀ v ∈ l, v < n
  gone : ∀ v, gone v = true ↔ v ∈ l
  elim : ∀ j (hj : j < l.length), ∀ a b, a < n → b < n → a ∉ l.take j → b ∉ l.take j → a ≠ b → t l[j] a = true → t l[j] b = true → t a b = true
  slen : sets.length = r
  sets : ∀ j (hj : j < l.length) (hs : j < sets.length), ∃ s : List Nat, sets[j] = natsI s ∧ s.Pairwise (· < ·) ∧ ∀ x, x ∈ s ↔ x < n ∧ (x = l[j] ∨ (t l[j] x = true ∧ x ∉ l.take j))
theorem steps_zero : Steps t n 0 [] (fun _ => false) [] := ⟨rfl, by simp, by simp, by simp, fun j hj => by simp at hj, rfl, fun j hj => by simp at hj⟩
theorem steps_succ (hN : Nice t n) {r i : Nat} {l : List Nat} {gone : Nat → Bool} {sets : List (List Int)} (h : Steps t n r l gone sets) (hf : (List.range n).find? (okV t n gone) = some i) :
    Steps t n (r + 1) (l ++ [i]) (updF gone i true) (sets ++ [natsI (rowSet t n gone i)]) := by
  have hok := List.find?_some hf
  have hin : i < n := by simpa using List.mem_of_find?_eq_some hf
  unfold okV at hok
  simp only [Bool.and_eq_true, Bool.not_eq_true'] at hok
  have hil : i ∉ l := fun hm => by rw [(h.gone i).2 hm] at hok; cases hok.1
  have hng : ∀ v, gone v = false ↔ v ∉ l := by
    intro v
    rw [← h.gone]
    simp
  refine ⟨by simp [h.len], ?_, fun v hv => ?_, fun v => ?_, fun j hj a b ha hb h1 h2 hne h3 h4 => ?_, by simp [h.slen], fun j hj hs => ?_⟩
  · rw [List.nodup_append]
    exact ⟨h.nd, by simp, fun a ha b hb e => by simp at hb; subst hb e; exact hil ha⟩
  · rcases List.mem_append.1 hv with hv | hv
    · exact h.lt v hv
    · simp at hv; subst hv; exact hin
  · unfold updF
    by_cases e : v = i
    · rw [if_pos e]; simp [e]
    · rw [if_neg e, h.gone]; simp [e]
  · rw [List.length_append, List.length_singleton] at hj
    by_cases hjl : j < l.length
    · rw [List.take_append_of_le_length (by omega)] at h1 h2
      rw [List.getElem_append_left hjl] at h3 h4
      exact h.elim j hjl a b ha hb h1 h2 hne h3 h4
    · have ej : j = l.length := by omega
      subst ej
      rw [List.take_left'] at h1 h2
      · rw [List.getElem_append_right (Nat.le_refl _)] at h3 h4
        simp at h3 h4
        exact of_simp hN hok.2 a b ha hb ((hng a).2 h1) ((hng b).2 h2) h3 h4 hne
      · rfl
      · rfl
  · rw [List.length_append, List.length_singleton] at hj
    by_cases hjl : j < l.length
    · obtain ⟨s, e, h1, h2⟩ := h.sets j hjl (by rw [h.slen, ← h.len]; exact hjl)
      refine ⟨s, ?_, h1, fun x => ?_⟩
      · rw [List.getElem_append_left (by rw [h.slen, ← h.len]; exact hjl)]; exact e
      · rw [h2, List.getElem_append_left hjl, List.take_append_of_le_length (by omega)]
    · have ej : j = l.length := by omega
      subst ej
      refine ⟨rowSet t n gone i, ?_, ?_, fun x => ?_⟩
      · rw [List.getElem_append_right (by rw [h.slen, h.len]; exact Nat.le_refl _)]
        simp
      · unfold rowSet
        exact List.Pairwise.filter _ List.pairwise_lt_range
      · rw [List.take_left' rfl, List.getElem_append_right (Nat.le_refl _)]
        unfold rowSet
        simp only [List.mem_filter, List.mem_range, Bool.or_eq_true, decide_eq_true_eq, Bool.and_eq_true, Bool.not_eq_true', hng]
        simp
theorem left_exists {r : Nat} {l : List Nat} {gone : Nat → Bool} {sets : List (List Int)} (h : Steps t n r l gone sets) (hr : r < n) : ∃ v, v < n ∧ gone v = false := by
  by_cases hex : ∃ v, v < n ∧ gone v = false
  · exact hex
  · exfalso
    have : n ≤ l.length := cover_le n l (fun v hv => by
      rw [← h.gone]
      cases hg : gone v
      · exact absurd ⟨v, hv, hg⟩ hex
      · rfl)
    have := h.len
    omega
theorem chord_steps (hN : Nice t n) (hC : Chord t n) : ∀ r, r ≤ n → ∃ l, triTo t n r = some (maxTo t n r).1 ∧ Steps t n r l (maxTo t n r).1 (maxTo t n r).2
  | 0, _ => ⟨[], rfl, steps_zero⟩
  | r + 1, hr => by
    obtain ⟨l, h1, h2⟩ := chord_steps hN hC r (by omega)
    obtain ⟨i, hi⟩ := okV_exists hN hC (left_exists h2 (by omega))
    refine ⟨l ++ [i], ?_, ?_⟩
    · rw [maxTo_some hi]
      show (match triTo t n r with | none => none | some gone => _) = _
      rw [h1]
      show (match (List.range n).find? (okV t n (maxTo t n r).1) with | none => none | some i => _) = _
      rw [hi]
    · rw [maxTo_some hi]
      exact steps_succ hN h2 hi
theorem tri_steps (hN : Nice t n) : ∀ r gone, triTo t n r = some gone → ∃ l sets, Steps t n r l gone sets
  | 0, gone, h => by
    have : gone = fun _ => false := by
      have : some (fun _ => false) = some gone := h
      injection this with this; exact this.symm
    subst this
    exact ⟨[], [], steps_zero⟩
  | r + 1, gone, h => by
    have h' : (match triTo t n r with
      | none => none
      | some gone => match (List.range n).find? (okV t n gone) with
        | none => none
        | some i => some (updF gone i true)) = some gone := h
    cases h1 : triTo t n r with
    | none => rw [h1] at h'; cases h'
    | some g0 =>
      rw [h1] at h'
      simp only at h'
      cases h2 : (List.range n).find? (okV t n g0) with
      | none => rw [h2] at h'; cases h'
      | some i =>
        rw [h2] at h'
        simp only at h'
        injection h' with h'
        subst h'
        obtain ⟨l, sets, hs⟩ := tri_steps hN r g0 h1
        exact ⟨_, _, steps_succ hN hs h2⟩
theorem steps_all {l : List Nat} {gone : Nat → Bool} {sets : List (List Int)} (h : Steps t n n l gone sets) : ∀ v, v ∈ l ↔ v < n := by
  intro v
  refine ⟨h.lt v, fun hv => ?_⟩
  by_cases hm : v ∈ l
  · exact hm
  · exfalso
    have := Go.Jt.inj_len (f := fun x => x) (l := v :: l) (l' := List.range n) (List.nodup_cons.2 ⟨hm, h.nd⟩) (fun x hx => by
      rcases List.mem_cons.1 hx with rfl | hx
      · simpa using hv
      · simpa using h.lt x hx) (fun _ _ _ _ e => e)
    rw [List.length_range, List.length_cons, h.len] at this
    omega
theorem steps_chord {l : List Nat} {gone : Nat → Bool} {sets : List (List Int)} (h : Steps t n n l gone sets) : Chord t n := by
  refine ⟨l, steps_all h, h.nd, ?_⟩
  have : ∀ (l2 l1 : List Nat), l = l1 ++ l2 → Peo (fun a b => t a b = true) l2 := by
    intro l2
    induction l2 with
    | nil => intro _ _; exact trivial
    | cons v l2 ih =>
      intro l1 e
      refine ⟨fun a ha b hb h1 h2 hne => ?_, ih (l1 ++ [v]) (by rw [e]; simp)⟩
      have hj : l1.length < l.length := by rw [e]; simp
      have ev : l[l1.length] = v := by simp [e]
      have htk : l.take l1.length = l1 := by rw [e]; simp
      have hnd := h.nd
      rw [e, List.nodup_append] at hnd
      have hnot : ∀ x ∈ l2, x ∉ l1 := fun x hx hx1 => hnd.2.2 x hx1 x (by simp [hx]) rfl
      refine h.elim l1.length hj a b (h.lt a (by rw [e]; simp [ha])) (h.lt b (by rw [e]; simp [hb])) (by rw [htk]; exact hnot a ha) (by rw [htk]; exact hnot b hb) hne (by rw [ev]; exact h1) (by rw [ev]; exact h2)
  exact this l [] rfl
theorem triang_iff (hN : Nice t n) : triang t n = true ↔ Chord t n := by
  unfold triang
  constructor
  · intro h
    cases h1 : triTo t n n with
    | none => rw [h1] at h; cases h
    | some gone =>
      obtain ⟨l, sets, hs⟩ := tri_steps hN n gone h1
      exact steps_chord hs
  · intro hC
    obtain ⟨l, h1, _⟩ := chord_steps hN hC n (Nat.le_refl _)
    rw [h1]; rfl
end
end Go.Gr
end
