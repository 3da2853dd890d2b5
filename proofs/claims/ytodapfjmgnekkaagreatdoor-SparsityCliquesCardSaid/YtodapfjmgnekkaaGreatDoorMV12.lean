/- Parts of the proof: GPJ, GPM, GPN, GXO. -/
import Derived.Test.YtodapfjmgnekkaaGreatDoorMV5
import Derived.Test.YtodapfjmgnekkaaGreatDoorMV6
import Derived.Test.YtodapfjmgnekkaaGreatDoorMV8
import Derived.Test.YtodapfjmgnekkaaGreatDoorMV11
section
/- Plain law of Tree: the cliques that hold a vertex are connected in the tree. -/
namespace Go.Gr
open Go.Jt
section
variable {sets : List Nat} {inT m : Nat}
def okB (sets : List Nat) (b : Int × Int × Int) : Prop := b = (-1, -1, -1) ∨ ∃ i k : Nat, b = ((i : Int), (k : Int), ((size (sets.getD i 0 &&& sets.getD k 0) : Nat) : Int))
theorem okB_pair {b : Int × Int × Int} (h : okB sets b) (i k : Nat) : okB sets (pairStep sets inT i b k) := by
  unfold pairStep
  split
  · exact .inr ⟨i, k, rfl⟩
  · exact h
theorem okB_row {b : Int × Int × Int} (h : okB sets b) (i : Nat) : ∀ k, okB sets (rowTo sets inT i b k)
  | 0 => h
  | k + 1 => by rw [rowTo_succ]; exact okB_pair (okB_row h i k) i k
theorem okB_all : ∀ i, okB sets (allTo sets inT m i)
  | 0 => .inl rfl
  | i + 1 => okB_row (okB_all i) i m
theorem row_most {b : Int × Int × Int} {i k : Nat} (hi : inT.testBit i = false) (hk : inT.testBit k = true) : ∀ q, k < q → ((size (sets.getD i 0 &&& sets.getD k 0) : Nat) : Int) ≤ (rowTo sets inT i b q).2.2
  | 0, h => by omega
  | q + 1, h => by
    rw [rowTo_succ]
    by_cases e : k = q
    · subst e
      unfold pairStep
      split
      · exact Int.le_refl _
      · rename_i hc
        by_cases h2 : (rowTo sets inT i b k).2.2 < ((size (sets.getD i 0 &&& sets.getD k 0) : Nat) : Int)
        · exact absurd ⟨hi, hk, h2⟩ hc
        · omega
    · exact Int.le_trans (row_most hi hk q (by omega)) pair_mono
theorem all_most {i k : Nat} (hi : inT.testBit i = false) (hk : inT.testBit k = true) (hkm : k < m) : ∀ q, i < q → ((size (sets.getD i 0 &&& sets.getD k 0) : Nat) : Int) ≤ (allTo sets inT m q).2.2
  | 0, h => by omega
  | q + 1, h => by
    by_cases e : i = q
    · subst e; exact row_most hi hk m hkm
    · exact Int.le_trans (all_most hi hk hkm q (by omega)) (all_mono q)
end
/-- The set that is chosen in round r, and its parent. -/
def pk (sets : List Nat) : Nat → Nat
  | 0 => 0
  | r + 1 => (allTo sets (treeTo sets r).1 sets.length sets.length).1.toNat
def pq (sets : List Nat) : Nat → Nat
  | 0 => 0
  | r + 1 => (allTo sets (treeTo sets r).1 sets.length sets.length).2.1.toNat
def pw (sets : List Nat) (r : Nat) : Nat := size (sets.getD (pk sets r) 0 &&& sets.getD (pq sets r) 0)
structure Rounds (sets : List Nat) (r : Nat) : Prop where
  bits : ∀ i, (treeTo sets r).1.testBit i = true ↔ ∃ s, s ≤ r ∧ pk sets s = i
  lt : ∀ s, s ≤ r → pk sets s < sets.length
  new : ∀ s, 0 < s → s ≤ r → ∀ s', s' < s → pk sets s' ≠ pk sets s
  par : ∀ s, 0 < s → s ≤ r → ∃ s', s' < s ∧ pq sets s = pk sets s'
  most : ∀ s, 0 < s → s ≤ r → ∀ i, i < sets.length → (∀ s', s' < s → pk sets s' ≠ i) → ∀ s', s' < s → size (sets.getD i 0 &&& sets.getD (pk sets s') 0) ≤ pw sets s
  len : (treeTo sets r).2.length = sets.length
  tree : ∀ s, s ≤ r → (treeTo sets r).2.getD (pk sets s) 0 = if 0 < s ∧ 0 < pw sets s then ((pq sets s : Nat) : Int) else -1
  rest : ∀ i, i < sets.length → (∀ s, s ≤ r → pk sets s ≠ i) → (treeTo sets r).2.getD i 0 = -1
theorem rounds {sets : List Nat} (hm : sets.length ≤ 64) (h0 : 0 < sets.length) : ∀ r, r + 1 ≤ sets.length → Rounds sets r
  | 0, _ => by
    refine ⟨fun i => ?_, fun s hs => ?_, fun s h1 h2 => by omega, fun s h1 h2 => by omega, fun s h1 h2 => by omega, by simp [treeTo], fun s hs => ?_, fun i hi _ => by simp [treeTo, hi]⟩
    · unfold treeTo
      rw [bset_bit]
      simp only [Nat.zero_testBit, Bool.false_or, decide_eq_true_eq]
      exact ⟨fun e => ⟨0, by omega, e⟩, fun ⟨s, hs, e⟩ => by
        obtain rfl : s = 0 := by omega
        exact e⟩
    · obtain rfl : s = 0 := by omega
      exact h0
    · obtain rfl : s = 0 := by omega
      simp [treeTo, pk, h0]
  | r + 1, hr => by
    have ih := rounds hm h0 r (by omega)
    have hg := grows hm h0 r (by omega)
    obtain ⟨i0, k0, c0, hi0, hk0, hf, ht, he⟩ := tree_best hg (by omega)
    have ep : pk sets (r + 1) = i0 := by simp [pk, he]
    have eq : pq sets (r + 1) = k0 := by simp [pq, he]
    have ec : c0 = pw sets (r + 1) := by
      have := okB_all (sets := sets) (inT := (treeTo sets r).1) (m := sets.length) sets.length
      rw [he] at this
      unfold pw
      rw [ep, eq]
      rcases this with h | ⟨i, k, h⟩
      · have := congrArg (fun x => x.1) h
        simp at this
      · simp only [Prod.mk.injEq] at h
        obtain ⟨h1, h2, h3⟩ := h
        have e1 : i0 = i := by omega
        have e2 : k0 = k := by omega
        subst e1 e2
        omega
    have eT : treeTo sets (r + 1) = (bset (treeTo sets r).1 i0, if (0 : Int) < (c0 : Int) then (treeTo sets r).2.set i0 (k0 : Int) else (treeTo sets r).2) := by
      simp only [treeTo, he]; rfl
    have hi0new : ∀ s, s ≤ r → pk sets s ≠ i0 := by
      intro s hs e
      have := (ih.bits i0).2 ⟨s, hs, e⟩
      rw [hf] at this
      cases this
    have hset : ∀ i, i ≠ i0 → (treeTo sets (r + 1)).2.getD i 0 = (treeTo sets r).2.getD i 0 := by
      intro i hi
      rw [eT]
      simp only
      split
      · rw [List.getD_eq_getElem?_getD, List.getD_eq_getElem?_getD, List.getElem?_set_ne (fun e => hi e.symm)]
      · rfl
    refine ⟨fun i => ?_, fun s hs => ?_, fun s h1 h2 s' hs' => ?_, fun s h1 h2 => ?_, fun s h1 h2 i hi hout s' hs' => ?_, ?_, fun s hs => ?_, fun i hi hout => ?_⟩
    · rw [eT, bset_bit, Bool.or_eq_true, decide_eq_true_eq, ih.bits]
      constructor
      · rintro (⟨s, hs, e⟩ | e)
        · exact ⟨s, by omega, e⟩
        · exact ⟨r + 1, Nat.le_refl _, ep.trans e⟩
      · rintro ⟨s, hs, e⟩
        by_cases e2 : s = r + 1
        · subst e2; exact .inr (ep.symm.trans e)
        · exact .inl ⟨s, by omega, e⟩
    · by_cases e : s = r + 1
      · rw [e, ep]; exact hi0
      · exact ih.lt s (by omega)
    · by_cases e : s = r + 1
      · rw [e, ep]; exact hi0new s' (by omega)
      · exact ih.new s h1 (by omega) s' hs'
    · by_cases e : s = r + 1
      · subst e
        obtain ⟨s', hs', e'⟩ := (ih.bits k0).1 ht
        exact ⟨s', by omega, eq.trans e'.symm⟩
      · exact ih.par s h1 (by omega)
    · by_cases e : s = r + 1
      · subst e
        have h3 : (treeTo sets r).1.testBit i = false := by
          cases hb : (treeTo sets r).1.testBit i
          · rfl
          · obtain ⟨s2, hs2, e2⟩ := (ih.bits i).1 hb
            exact absurd e2 (hout s2 (by omega))
        have h4 : (treeTo sets r).1.testBit (pk sets s') = true := (ih.bits _).2 ⟨s', by omega, rfl⟩
        have := all_most (sets := sets) h3 h4 (m := sets.length) (ih.lt s' (by omega)) sets.length hi
        rw [he] at this
        simp only at this
        rw [← ec]
        omega
      · exact ih.most s h1 (by omega) i hi hout s' hs'
    · rw [eT]
      simp only
      split
      · simp [ih.len]
      · exact ih.len
    · by_cases e : s = r + 1
      · subst e
        rw [ep, eT, ← ec, eq]
        simp only
        by_cases hc : 0 < c0
        · rw [if_pos (by omega), if_pos ⟨by omega, hc⟩]
          simp [ih.len, hi0]
        · rw [if_neg (by omega), if_neg (fun h => hc h.2)]
          exact ih.rest i0 hi0 hi0new
      · rw [hset _ (hi0new s (by omega))]
        exact ih.tree s (by omega)
    · have hi2 : i ≠ i0 := fun e => hout (r + 1) (Nat.le_refl _) (ep.trans e.symm)
      rw [hset i hi2]
      exact ih.rest i hi (fun s hs => hout s (by omega))
/-- How many of the cliques hold v; how many hold it with their parent. -/
def nSets (ls : List (List Int)) (v : Int) (k : Nat) : Nat := ((List.range k).filter fun i => decide (v ∈ ls.getD i [])).length
def nLinks (ls : List (List Int)) (ts : List Int) (v : Int) (k : Nat) : Nat := ((List.range k).filter fun i => decide (v ∈ ls.getD i []) && (decide (0 ≤ ts.getD i 0) && decide (v ∈ ls.getD (ts.getD i 0).toNat []))).length
structure TreeEs (n : Nat) (ls : List (List Int)) (ts : List Int) : Prop where
  len : ts.length = ls.length
  range : ∀ i, i < ls.length → -1 ≤ ts.getD i 0 ∧ ts.getD i 0 < ls.length ∧ ts.getD i 0 ≠ i
  run : ∀ v : Nat, v < n → nSets ls v ls.length = nLinks ls ts v ls.length + 1
theorem vertsI_inj {s s' : Nat} (hs : s < 18446744073709551616) (hs' : s' < 18446744073709551616) (e : vertsI s = vertsI s') : s = s' := by
  apply Nat.eq_of_testBit_eq
  intro j
  by_cases hj : j < 64
  · have h1 : (j : Int) ∈ vertsI s ↔ (j : Int) ∈ vertsI s' := by rw [e]
    rw [mem_vertsI, mem_vertsI] at h1
    rw [Bool.eq_iff_iff]
    constructor
    · intro h
      have := (h1.1 ⟨by omega, by omega, by simpa using h⟩).2.2
      simpa using this
    · intro h
      have := (h1.2 ⟨by omega, by omega, by simpa using h⟩).2.2
      simpa using this
  · rw [high_bit hs (by omega), high_bit hs' (by omega)]
theorem onto_of_inj {f : Nat → Nat} {m : Nat} (hlt : ∀ r, r < m → f r < m) (hinj : ∀ a b, a < m → b < m → f a = f b → a = b) : ∀ i, i < m → ∃ r, r < m ∧ f r = i := by
  intro i hi
  by_cases h : ∃ r, r < m ∧ f r = i
  · exact h
  · exfalso
    have h1 := inj_len (f := f) (l := List.range m) (l' := (List.range m).erase i) List.nodup_range (fun r hr => by
      have hr : r < m := by simpa using hr
      exact (List.mem_erase_of_ne (fun e => h ⟨r, hr, e⟩)).2 (by simpa using hlt r hr)) (fun a ha b hb e => hinj a b (by simpa using ha) (by simpa using hb) e)
    rw [List.length_erase_of_mem (by simpa using hi), List.length_range] at h1
    omega
theorem count_bij {f : Nat → Nat} {m : Nat} (hlt : ∀ r, r < m → f r < m) (hinj : ∀ a b, a < m → b < m → f a = f b → a = b) (p q : Nat → Bool) (hpq : ∀ r, r < m → p r = q (f r)) : ((List.range m).filter p).length = ((List.range m).filter q).length := by
  apply Nat.le_antisymm
  · refine inj_len (f := f) (List.Pairwise.filter _ List.nodup_range) (fun r hr => ?_) (fun a ha b hb e => ?_)
    · rw [List.mem_filter, List.mem_range] at hr ⊢
      exact ⟨hlt r hr.1, by rw [← hpq r hr.1]; exact hr.2⟩
    · rw [List.mem_filter, List.mem_range] at ha hb
      exact hinj a b ha.1 hb.1 e
  · have honto := onto_of_inj hlt hinj
    refine inj_len (f := fun i => if h : i < m then Classical.choose (honto i h) else 0) (List.Pairwise.filter _ List.nodup_range) (fun i hi => ?_) (fun a ha b hb e => ?_)
    · rw [List.mem_filter, List.mem_range] at hi
      simp only [hi.1, dite_true]
      have := Classical.choose_spec (honto i hi.1)
      rw [List.mem_filter, List.mem_range, hpq _ this.1, this.2]
      exact ⟨this.1, hi.2⟩
    · rw [List.mem_filter, List.mem_range] at ha hb
      simp only [ha.1, hb.1, dite_true] at e
      have c1 := (Classical.choose_spec (honto a ha.1)).2
      have c2 := (Classical.choose_spec (honto b hb.1)).2
      rw [e] at c1
      exact c1.symm.trans c2
theorem tree_es {n : Nat} {es : List (Int × Int)} (h : valid n es) (hc : isChordal (readAll es) n = true) {ls : List (List Int)} (hp : ls.Perm ((keepLast (cands (readAll es) n)).map vertsI)) : TreeEs n ls (tree (ls.map setOf)) := by
  have hn : n ≤ 64 := by have := h.2.1; omega
  have hQ := clq_es h hc hp
  have hS := (readAll_small es n h).1
  have hasc : ∀ l ∈ ls, asc l := by
    intro l hl
    have h1 := hQ.asc l hl
    have h2 := hQ.lt l hl
    intro i hi _
    have h3 := h2 l[i] (List.getElem_mem _)
    refine ⟨by omega, fun h0 => List.pairwise_iff_getElem.1 h1 (i - 1) i (by omega) hi (by omega)⟩
  have hm64 : ls.length ≤ 64 := by have := hQ.few; omega
  by_cases h0 : 0 < ls.length
  · obtain ⟨sets, hsets⟩ : ∃ sets, ls.map setOf = sets := ⟨_, rfl⟩
    have hlen : sets.length = ls.length := by rw [← hsets]; simp
    rw [hsets]
    have hR := rounds (sets := sets) (by omega) (by omega) (sets.length - 1) (by omega)
    have hgd : ∀ i, i < ls.length → sets.getD i 0 = setOf (ls.getD i []) := by
      intro i hi
      rw [← hsets]
      simp [List.getD_eq_getElem?_getD, hi]
    have hmemD : ∀ i, i < ls.length → ls.getD i [] ∈ ls := by
      intro i hi
      rw [List.getD_eq_getElem?_getD, List.getElem?_eq_getElem hi]
      exact List.getElem_mem _
    have hbit : ∀ i, i < ls.length → ∀ v : Nat, (sets.getD i 0).testBit v = true ↔ (v : Int) ∈ ls.getD i [] := by
      intro i hi v
      rw [hgd i hi, setOf_bit (fun x hx => (hQ.lt _ (hmemD i hi) x hx).1)]
    have hvs : ∀ i, i < ls.length → vertsI (sets.getD i 0) = ls.getD i [] := by
      intro i hi
      rw [hgd i hi]
      exact vertsZ_setOf (hasc _ (hmemD i hi))
    have hsmall : ∀ i, i < ls.length → sets.getD i 0 < 18446744073709551616 := by
      intro i hi
      rw [hgd i hi]
      exact setOf_small (hasc _ (hmemD i hi))
    have hlsnd : ls.Nodup := by
      rw [hp.nodup_iff, List.nodup_iff_pairwise_ne, List.pairwise_map]
      refine List.Pairwise.imp_of_mem (fun {a b} ha hb hne e => hne (vertsI_inj ((keep_iff h hc a).1 ha).1 ((keep_iff h hc b).1 hb).1 e)) ((cands_nodup (es := es) hn).sublist (keepLast_sub _))
    have hsinj : ∀ a b, a < ls.length → b < ls.length → sets.getD a 0 = sets.getD b 0 → a = b := by
      intro a b ha hb e
      have e2 : ls.getD a [] = ls.getD b [] := by rw [← hvs a ha, ← hvs b hb, e]
      rw [List.getD_eq_getElem?_getD, List.getD_eq_getElem?_getD, List.getElem?_eq_getElem ha, List.getElem?_eq_getElem hb] at e2
      simp only [Option.getD_some] at e2
      rcases Nat.lt_trichotomy a b with h1 | h1 | h1
      · exact absurd e2 (List.pairwise_iff_getElem.1 hlsnd a b ha hb h1)
      · exact h1
      · exact absurd e2.symm (List.pairwise_iff_getElem.1 hlsnd b a hb ha h1)
    have hplt : ∀ r, r < ls.length → pk sets r < ls.length := fun r hr => by have := hR.lt r (by omega); omega
    have hpinj : ∀ a b, a < ls.length → b < ls.length → pk sets a = pk sets b → a = b := by
      intro a b ha hb e
      rcases Nat.lt_trichotomy a b with h1 | h1 | h1
      · exact absurd e (hR.new b (by omega) (by omega) a h1)
      · exact h1
      · exact absurd e.symm (hR.new a (by omega) (by omega) b h1)
    have honto := onto_of_inj hplt hpinj
    have etree : tree sets = (treeTo sets (sets.length - 1)).2 := rfl
    have hts : ∀ r, r < ls.length → (tree sets).getD (pk sets r) 0 = if 0 < r ∧ 0 < pw sets r then ((pq sets r : Nat) : Int) else -1 := by
      intro r hr
      rw [etree]
      exact hR.tree r (by omega)
    obtain ⟨L, pf, hLn, hLm, hJ⟩ := jtree_exists h hc
    -- the sets of the list are those of L
    have hmemS : ∀ s, (∃ i, i < ls.length ∧ sets.getD i 0 = s) ↔ s ∈ L := by
      intro s
      rw [hLm, ← keep_iff h hc]
      constructor
      · rintro ⟨i, hi, rfl⟩
        have := hp.mem_iff.1 (hmemD i hi)
        obtain ⟨s, hs, e⟩ := List.mem_map.1 this
        rw [← hvs i hi] at e
        have := vertsI_inj ((keep_iff h hc s).1 hs).1 (hsmall i hi) e
        rw [← this]; exact hs
      · intro hs
        have : vertsI s ∈ ls := hp.mem_iff.2 (List.mem_map.2 ⟨s, hs, rfl⟩)
        obtain ⟨i, hi, e⟩ := List.getElem_of_mem this
        refine ⟨i, hi, vertsI_inj (hsmall i hi) ((keep_iff h hc s).1 hs).1 ?_⟩
        rw [hvs i hi, List.getD_eq_getElem?_getD, List.getElem?_eq_getElem hi]
        exact e
    have hLlen : L.length = ls.length := by
      apply Nat.le_antisymm
      · have := inj_len (f := fun s => if hh : ∃ i, i < ls.length ∧ sets.getD i 0 = s then Classical.choose hh else 0) (l := L) (l' := List.range ls.length) hLn (fun s hs => by
          have hh := (hmemS s).2 hs
          simp only [hh, dite_true]
          simpa using (Classical.choose_spec hh).1) (fun a ha b hb e => by
          have h1 := (hmemS a).2 ha
          have h2 := (hmemS b).2 hb
          simp only [h1, h2, dite_true] at e
          have c1 := (Classical.choose_spec h1).2
          have c2 := (Classical.choose_spec h2).2
          rw [e] at c1
          exact c1.symm.trans c2)
        simpa using this
      · have := inj_len (f := fun i => sets.getD i 0) (l := List.range ls.length) (l' := L) List.nodup_range (fun i hi => (hmemS _).1 ⟨i, by simpa using hi, rfl⟩) (fun a ha b hb e => hsinj a b (by simpa using ha) (by simpa using hb) e)
        simpa using this
    have hPrim : Prim (fun r => sets.getD (pk sets r) 0) (fun r => sets.getD (pq sets r) 0) ls.length := by
      refine ⟨fun a b hab hb e => ?_, fun r hr0 hr => ?_, fun r hr0 hr i k hri hi hk => ?_⟩
      · have := hpinj a b (by omega) hb (hsinj _ _ (hplt a (by omega)) (hplt b hb) e)
        omega
      · obtain ⟨s', hs', e⟩ := hR.par r hr0 (by omega)
        exact ⟨s', hs', by simp only [e]⟩
      · have := hR.most r hr0 (by omega) (pk sets i) (by rw [hlen]; exact hplt i hi) (fun s' hs' e => by
          have := hpinj s' i (by omega) hi e
          omega) k hk
        exact this
    have hrun := prim_jt hPrim (by rw [← hLlen]; exact hJ) (fun r hr => by
        have := (hmemS _).1 ⟨pk sets r, hplt r hr, rfl⟩
        obtain ⟨s, hs, e⟩ := at0_of this
        exact ⟨s, by omega, e⟩) (fun r hr => by
        obtain ⟨i, hi, e⟩ := (hmemS _).2 (at0_mem (L := L) (r := r) (by omega))
        obtain ⟨s, hs, e2⟩ := honto i hi
        exact ⟨s, hs, by simp only [e2]; exact e⟩) (fun r hr => hsmall _ (hplt r hr))
    refine ⟨by rw [etree, hR.len, hlen], fun i hi => ?_, fun v hv => ?_⟩
    · obtain ⟨r, hr, rfl⟩ := honto i hi
      rw [hts r hr]
      split
      · rename_i hh
        obtain ⟨s', hs', e⟩ := hR.par r hh.1 (by omega)
        have h1 := hplt s' (by omega)
        have h2 : pq sets r ≠ pk sets r := by
          rw [e]
          intro e2
          have := hpinj s' r (by omega) hr e2
          omega
        rw [e] at h2 ⊢
        refine ⟨by omega, by omega, by omega⟩
      · refine ⟨by omega, by omega, by omega⟩
    · obtain ⟨l, hl, hvl⟩ := hQ.all v hv
      obtain ⟨i, hi, e⟩ := List.getElem_of_mem hl
      have hvi : (v : Int) ∈ ls.getD i [] := by rw [List.getD_eq_getElem?_getD, List.getElem?_eq_getElem hi, Option.getD_some, e]; exact hvl
      obtain ⟨r0, hr0, e0⟩ := honto i hi
      have hmain := hrun v ⟨r0, hr0, by simp only [e0]; exact (hbit i hi v).2 hvi⟩
      have c1 : occ (fun r => sets.getD (pk sets r) 0) ls.length v = nSets ls v ls.length := by
        unfold occ nSets
        refine count_bij hplt hpinj _ _ (fun r hr => ?_)
        rw [Bool.eq_iff_iff, hbit _ (hplt r hr), decide_eq_true_eq]
      have c2 : links (fun r => sets.getD (pk sets r) 0) (fun r => sets.getD (pq sets r) 0) ls.length v = nLinks ls (tree sets) v ls.length := by
        unfold links nLinks
        refine count_bij hplt hpinj _ _ (fun r hr => ?_)
        rw [Bool.eq_iff_iff, hts r hr]
        simp only [Bool.and_eq_true, decide_eq_true_eq, Nat.testBit_and]
        rw [hbit _ (hplt r hr)]
        constructor
        · rintro ⟨h1, h2, h3⟩
          obtain ⟨s', hs', e⟩ := hR.par r h1 (by omega)
          have hpql : pq sets r < ls.length := by rw [e]; exact hplt s' (by omega)
          have hw : 0 < pw sets r := by
            unfold pw size
            refine List.length_pos_of_mem (a := v) (mem_verts.2 ⟨by omega, ?_⟩)
            rw [Nat.testBit_and, (hbit _ (hplt r hr) v).2 h2, h3]; rfl
          rw [if_pos ⟨h1, hw⟩]
          refine ⟨h2, by omega, ?_⟩
          rw [Int.toNat_natCast]
          exact (hbit _ hpql v).1 h3
        · rintro ⟨h1, h2, h3⟩
          split at h2
          · rename_i hh
            rw [if_pos hh, Int.toNat_natCast] at h3
            obtain ⟨s', hs', e⟩ := hR.par r hh.1 (by omega)
            have hpql : pq sets r < ls.length := by rw [e]; exact hplt s' (by omega)
            exact ⟨hh.1, h1, (hbit _ hpql v).2 h3⟩
          · omega
      rw [← c1, ← c2]
      exact hmain.symm
  · have hz : ls.length = 0 := by omega
    have hn0 := hQ.zero hz
    have hnil : ls = [] := List.length_eq_zero_iff.1 hz
    subst hnil
    exact ⟨rfl, fun i hi => by simp at hi, fun v hv => by omega⟩
end Go.Gr
end
section
/- Plain: the reference finds chordal graphs and their maximal cliques as the library does. -/
namespace Go.Gr
open Go.Chordal
theorem cmpL_antisymm : ∀ x y : List Int, ¬ cmpL x y < 0 → ¬ cmpL y x < 0 → x = y
  | [], [], _, _ => rfl
  | [], _ :: _, h, _ => by simp [cmpL] at h
  | _ :: _, [], _, h => by simp [cmpL] at h
  | a :: l, b :: m, h1, h2 => by
    unfold cmpL at h1 h2
    by_cases p : a < b
    · rw [if_pos p] at h1; omega
    · rw [if_neg p] at h1
      by_cases q : b < a
      · rw [if_pos q] at h2; omega
      · rw [if_neg q] at h1 h2
        rw [if_neg p] at h2
        have : a = b := by omega
        rw [this, cmpL_antisymm l m h1 h2]
theorem sorted_same : ∀ {l m : List (List Int)}, l.Perm m → l.Pairwise (fun a b => ¬ cmpL b a < 0) → m.Pairwise (fun a b => ¬ cmpL b a < 0) → l = m
  | [], m, h, _, _ => by rw [List.nil_perm.1 h]
  | x :: l, [], h, _, _ => by have := h.length_eq; simp at this
  | x :: l, y :: m, h, h1, h2 => by
    rw [List.pairwise_cons] at h1 h2
    have hxy : x = y := by
      have a : x ∈ y :: m := h.mem_iff.1 (by simp)
      have b : y ∈ x :: l := h.mem_iff.2 (by simp)
      rcases List.mem_cons.1 a with e | e
      · exact e
      · rcases List.mem_cons.1 b with e2 | e2
        · exact e2.symm
        · exact cmpL_antisymm x y (h2.1 x e) (h1.1 y e2)
    subst hxy
    rw [sorted_same (h.cons_inv) h1.2 h2.2]
theorem pair_of_sortedL {l : List (List Int)} (h : Go.Proofs.Tg.Gx.sortedL l) : l.Pairwise (fun a b => ¬ cmpL b a < 0) := by
  rw [List.pairwise_iff_getElem]
  intro i j hi hj hij
  have := h i j hij hj
  rw [List.getD_eq_getElem?_getD, List.getD_eq_getElem?_getD, List.getElem?_eq_getElem hi, List.getElem?_eq_getElem hj] at this
  exact this
theorem peo_suffix {adj : Nat → Nat → Prop} : ∀ (l1 : List Nat) {l2 : List Nat}, Peo adj (l1 ++ l2) → Peo adj l2
  | [], _, h => h
  | _ :: l1, _, h => peo_suffix l1 h.2
/-- The first of l that is not gone. -/
theorem first_left {p : Nat → Bool} : ∀ {l : List Nat}, (∃ v ∈ l, p v = false) → ∃ l1 v l2, l = l1 ++ v :: l2 ∧ p v = false ∧ ∀ x ∈ l1, p x = true
  | [], ⟨v, hv, _⟩ => by simp at hv
  | x :: l, h => by
    by_cases hx : p x = false
    · exact ⟨[], x, l, rfl, hx, by simp⟩
    · obtain ⟨v, hv, hp⟩ := h
      have hv2 : v ∈ l := by
        rcases List.mem_cons.1 hv with rfl | hv
        · exact absurd hp hx
        · exact hv
      obtain ⟨l1, u, l2, e, h1, h2⟩ := first_left (l := l) ⟨v, hv2, hp⟩
      refine ⟨x :: l1, u, l2, by rw [e]; rfl, h1, fun y hy => ?_⟩
      rcases List.mem_cons.1 hy with rfl | hy
      · simpa using hx
      · exact h2 y hy
section
variable {t : Nat → Nat → Bool} {n : Nat}
theorem simp_of {gone : Nat → Bool} {i : Nat} (h : ∀ a b, a < n → b < n → gone a = false → gone b = false → t i a = true → t i b = true → a ≠ b → t a b = true) : simpB t n gone i = true := by
  rw [simpB_iff]
  intro a ha b hb
  unfold okp
  cases h1 : gone a <;> cases h2 : gone b <;> cases h3 : t i a <;> cases h4 : t i b <;> simp
  exact h a b ha (by omega) h1 h2 h3 h4 (by omega)
theorem of_simp (hN : Nice t n) {gone : Nat → Bool} {i : Nat} (h : simpB t n gone i = true) : ∀ a b, a < n → b < n → gone a = false → gone b = false → t i a = true → t i b = true → a ≠ b → t a b = true := by
  rw [simpB_iff] at h
  have half : ∀ a b, a < n → b < a → gone a = false → gone b = false → t i a = true → t i b = true → t a b = true := by
    intro a b ha hb h1 h2 h3 h4
    have := h a ha b hb
    unfold okp at this
    rw [h1, h2, h3, h4] at this
    simpa using this
  intro a b ha hb h1 h2 h3 h4 hne
  rcases Nat.lt_or_gt_of_ne hne with hh | hh
  · exact hN.sym _ _ (half b a hb hh h2 h1 h4 h3)
  · exact half a b ha hh h1 h2 h3 h4
theorem okV_exists (hN : Nice t n) (hC : Chord t n) {gone : Nat → Bool} (hex : ∃ v, v < n ∧ gone v = false) : ∃ i, (List.range n).find? (okV t n gone) = some i := by
  obtain ⟨l, hl1, hl2, hl3⟩ := hC
  obtain ⟨v0, hv0, hg0⟩ := hex
  obtain ⟨l1, v, l2, e, hgv, hbef⟩ := first_left (p := gone) (l := l) ⟨v0, (hl1 v0).2 hv0, hg0⟩
  have hvn : v < n := (hl1 v).1 (by rw [e]; simp)
  have hpeo := peo_suffix l1 (by rw [← e]; exact hl3)
  have hok : okV t n gone v = true := by
    unfold okV
    rw [hgv]
    have : simpB t n gone v = true := by
      refine simp_of (fun a b ha hb h1 h2 h3 h4 hne => ?_)
      have hin : ∀ x, x < n → gone x = false → t v x = true → x ∈ l2 := by
        intro x hx hgx htx
        have : x ∈ l1 ++ v :: l2 := by rw [← e]; exact (hl1 x).2 hx
        rcases List.mem_append.1 this with hh | hh
        · rw [hbef x hh] at hgx; cases hgx
        · rcases List.mem_cons.1 hh with rfl | hh
          · rw [hN.irr] at htx; cases htx
          · exact hh
      exact hpeo.1 a (hin a ha h1 h3) b (hin b hb h2 h4) h3 h4 hne
    rw [this]; rfl
  cases hf : (List.range n).find? (okV t n gone) with
  | none =>
    rw [List.find?_eq_none] at hf
    exact absurd hok (hf v (by simpa using hvn))
  | some i => exact ⟨i, rfl⟩
/-- What the steps have done: the vertices in the order in which they went, and the sets. -/
structure Steps (t : Nat → Nat → Bool) (n r : Nat) (l : List Nat) (gone : Nat → Bool) (sets : List (List Int)) : Prop where
  len : l.length = r
  nd : l.Nodup
  lt : ∀ v ∈ l, v < n
  gone : ∀ v, gone v = true ↔ v ∈ l
  elim : ∀ j (hj : j < l.length), ∀ a b, a < n → b < n → a ∉ l.take j → b ∉ l.take j → a ≠ b → t l[j] a = true → t l[j] b = true → t a b = true
  slen : sets.length = r
  sets : ∀ j (hj : j < l.length) (hs : j < sets.length), ∃ s : List Nat, sets[j] = natsI s ∧ s.Pairwise (· < ·) ∧ ∀ x, x ∈ s ↔ x < n ∧ (x = l[j] ∨ (t l[j] x = true ∧ x ∉ l.take j))
theorem steps_zero : Steps t n 0 [] (fun _ => false) [] := ⟨rfl, by simp, by simp, by simp, fun j hj => by simp at hj, rfl, fun j hj => by simp at hj⟩
theorem steps_succ (hN : Nice t n) {r i : Nat} {l : List Nat} {gone : Nat → Bool} {sets : List (List Int)} (h : Steps t n r l gone sets) (hf : (List.range n).find? (okV t n gone) = some i) :
    Steps t n (r + 1) (l ++ [i]) (updF gone i true) (sets ++ [natsI (rowSet t n gone i)]) := by
  have hok := List.find?_some hf
  have hin : i < n := by simpa using List.mem_of_find?_eq_some hf
  unfold okV at hok
  simp only [Bool.and_eq_true, Bool.not_eq_true'] at hok
  have hil : i ∉ l := fun hm => by rw [(h.gone i).2 hm] at hok; cases hok.1
  have hng : ∀ v, gone v = false ↔ v ∉ l := by
    intro v
    rw [← h.gone]
    simp
  refine ⟨by simp [h.len], ?_, fun v hv => ?_, fun v => ?_, fun j hj a b ha hb h1 h2 hne h3 h4 => ?_, by simp [h.slen], fun j hj hs => ?_⟩
  · rw [List.nodup_append]
    exact ⟨h.nd, by simp, fun a ha b hb e => by simp at hb; subst hb e; exact hil ha⟩
  · rcases List.mem_append.1 hv with hv | hv
    · exact h.lt v hv
    · simp at hv; subst hv; exact hin
  · unfold updF
    by_cases e : v = i
    · rw [if_pos e]; simp [e]
    · rw [if_neg e, h.gone]; simp [e]
  · rw [List.length_append, List.length_singleton] at hj
    by_cases hjl : j < l.length
    · rw [List.take_append_of_le_length (by omega)] at h1 h2
      rw [List.getElem_append_left hjl] at h3 h4
      exact h.elim j hjl a b ha hb h1 h2 hne h3 h4
    · have ej : j = l.length := by omega
      subst ej
      rw [List.take_left'] at h1 h2
      · rw [List.getElem_append_right (Nat.le_refl _)] at h3 h4
        simp at h3 h4
        exact of_simp hN hok.2 a b ha hb ((hng a).2 h1) ((hng b).2 h2) h3 h4 hne
      · rfl
      · rfl
  · rw [List.length_append, List.length_singleton] at hj
    by_cases hjl : j < l.length
    · obtain ⟨s, e, h1, h2⟩ := h.sets j hjl (by rw [h.slen, ← h.len]; exact hjl)
      refine ⟨s, ?_, h1, fun x => ?_⟩
      · rw [List.getElem_append_left (by rw [h.slen, ← h.len]; exact hjl)]; exact e
      · rw [h2, List.getElem_append_left hjl, List.take_append_of_le_length (by omega)]
    · have ej : j = l.length := by omega
      subst ej
      refine ⟨rowSet t n gone i, ?_, ?_, fun x => ?_⟩
      · rw [List.getElem_append_right (by rw [h.slen, h.len]; exact Nat.le_refl _)]
        simp
      · unfold rowSet
        exact List.Pairwise.filter _ List.pairwise_lt_range
      · rw [List.take_left' rfl, List.getElem_append_right (Nat.le_refl _)]
        unfold rowSet
        simp only [List.mem_filter, List.mem_range, Bool.or_eq_true, decide_eq_true_eq, Bool.and_eq_true, Bool.not_eq_true', hng]
        simp
theorem left_exists {r : Nat} {l : List Nat} {gone : Nat → Bool} {sets : List (List Int)} (h : Steps t n r l gone sets) (hr : r < n) : ∃ v, v < n ∧ gone v = false := by
  by_cases hex : ∃ v, v < n ∧ gone v = false
  · exact hex
  · exfalso
    have : n ≤ l.length := cover_le n l (fun v hv => by
      rw [← h.gone]
      cases hg : gone v
      · exact absurd ⟨v, hv, hg⟩ hex
      · rfl)
    have := h.len
    omega
theorem chord_steps (hN : Nice t n) (hC : Chord t n) : ∀ r, r ≤ n → ∃ l, triTo t n r = some (maxTo t n r).1 ∧ Steps t n r l (maxTo t n r).1 (maxTo t n r).2
  | 0, _ => ⟨[], rfl, steps_zero⟩
  | r + 1, hr => by
    obtain ⟨l, h1, h2⟩ := chord_steps hN hC r (by omega)
    obtain ⟨i, hi⟩ := okV_exists hN hC (left_exists h2 (by omega))
    refine ⟨l ++ [i], ?_, ?_⟩
    · rw [maxTo_some hi]
      show (match triTo t n r with | none => none | some gone => _) = _
      rw [h1]
      show (match (List.range n).find? (okV t n (maxTo t n r).1) with | none => none | some i => _) = _
      rw [hi]
    · rw [maxTo_some hi]
      exact steps_succ hN h2 hi
theorem tri_steps (hN : Nice t n) : ∀ r gone, triTo t n r = some gone → ∃ l sets, Steps t n r l gone sets
  | 0, gone, h => by
    have : gone = fun _ => false := by
      have : some (fun _ => false) = some gone := h
      injection this with this; exact this.symm
    subst this
    exact ⟨[], [], steps_zero⟩
  | r + 1, gone, h => by
    have h' : (match triTo t n r with
      | none => none
      | some gone => match (List.range n).find? (okV t n gone) with
        | none => none
        | some i => some (updF gone i true)) = some gone := h
    cases h1 : triTo t n r with
    | none => rw [h1] at h'; cases h'
    | some g0 =>
      rw [h1] at h'
      simp only at h'
      cases h2 : (List.range n).find? (okV t n g0) with
      | none => rw [h2] at h'; cases h'
      | some i =>
        rw [h2] at h'
        simp only at h'
        injection h' with h'
        subst h'
        obtain ⟨l, sets, hs⟩ := tri_steps hN r g0 h1
        exact ⟨_, _, steps_succ hN hs h2⟩
theorem steps_all {l : List Nat} {gone : Nat → Bool} {sets : List (List Int)} (h : Steps t n n l gone sets) : ∀ v, v ∈ l ↔ v < n := by
  intro v
  refine ⟨h.lt v, fun hv => ?_⟩
  by_cases hm : v ∈ l
  · exact hm
  · exfalso
    have := Go.Jt.inj_len (f := fun x => x) (l := v :: l) (l' := List.range n) (List.nodup_cons.2 ⟨hm, h.nd⟩) (fun x hx => by
      rcases List.mem_cons.1 hx with rfl | hx
      · simpa using hv
      · simpa using h.lt x hx) (fun _ _ _ _ e => e)
    rw [List.length_range, List.length_cons, h.len] at this
    omega
theorem steps_chord {l : List Nat} {gone : Nat → Bool} {sets : List (List Int)} (h : Steps t n n l gone sets) : Chord t n := by
  refine ⟨l, steps_all h, h.nd, ?_⟩
  have : ∀ (l2 l1 : List Nat), l = l1 ++ l2 → Peo (fun a b => t a b = true) l2 := by
    intro l2
    induction l2 with
    | nil => intro _ _; exact trivial
    | cons v l2 ih =>
      intro l1 e
      refine ⟨fun a ha b hb h1 h2 hne => ?_, ih (l1 ++ [v]) (by rw [e]; simp)⟩
      have hj : l1.length < l.length := by rw [e]; simp
      have ev : l[l1.length] = v := by simp [e]
      have htk : l.take l1.length = l1 := by rw [e]; simp
      have hnd := h.nd
      rw [e, List.nodup_append] at hnd
      have hnot : ∀ x ∈ l2, x ∉ l1 := fun x hx hx1 => hnd.2.2 x hx1 x (by simp [hx]) rfl
      refine h.elim l1.length hj a b (h.lt a (by rw [e]; simp [ha])) (h.lt b (by rw [e]; simp [hb])) (by rw [htk]; exact hnot a ha) (by rw [htk]; exact hnot b hb) hne (by rw [ev]; exact h1) (by rw [ev]; exact h2)
  exact this l [] rfl
theorem triang_iff (hN : Nice t n) : triang t n = true ↔ Chord t n := by
  unfold triang
  constructor
  · intro h
    cases h1 : triTo t n n with
    | none => rw [h1] at h; cases h
    | some gone =>
      obtain ⟨l, sets, hs⟩ := tri_steps hN n gone h1
      exact steps_chord hs
  · intro hC
    obtain ⟨l, h1, _⟩ := chord_steps hN hC n (Nat.le_refl _)
    rw [h1]; rfl
end
end Go.Gr
end
section
/- Plain: the reference's maximal cliques are the library's. -/
namespace Go.Gr
theorem common_sub {a b : List Int} (hb : b.Nodup) : common a b = a.length ↔ ∀ x ∈ a, x ∈ b := by
  have h1 : common a b = (a.filter fun x => decide (x ∈ b)).length := by
    unfold common
    induction a with
    | nil => rfl
    | cons x l ih =>
      rw [List.map_cons, List.sum_cons, ih]
      by_cases hx : x ∈ b
      · rw [List.filter_cons_of_pos (by simpa using hx), List.Nodup.count hb, if_pos hx]; simp; omega
      · rw [List.filter_cons_of_neg (by simpa using hx), List.count_eq_zero_of_not_mem hx]; simp
  rw [h1, List.length_filter_eq_length_iff]
  simp
theorem natsI_mem {l : List Nat} {x : Nat} : (x : Int) ∈ natsI l ↔ x ∈ l := by
  unfold natsI
  rw [List.mem_map]
  exact ⟨fun ⟨y, hy, e⟩ => by rwa [show x = y by omega], fun h => ⟨x, h, rfl⟩⟩
theorem natsI_sub {a b : List Nat} : (∀ x ∈ natsI a, x ∈ natsI b) ↔ ∀ x ∈ a, x ∈ b := by
  constructor
  · intro h x hx
    exact natsI_mem.1 (h _ (natsI_mem.2 hx))
  · intro h x hx
    unfold natsI at hx
    obtain ⟨y, hy, rfl⟩ := List.mem_map.1 hx
    exact natsI_mem.2 (h y hy)
section
variable {n : Nat} {es : List (Int × Int)}
theorem kept_mem (h : valid n es) (hC : Chord (readT es) n) : ((keptI (maxTo (readT es) n n).2 (maxTo (readT es) n n).2.length).map fun i => (maxTo (readT es) n n).2.getD i []).Nodup ∧
    ∀ X, X ∈ ((keptI (maxTo (readT es) n n).2 (maxTo (readT es) n n).2.length).map fun i => (maxTo (readT es) n n).2.getD i []) ↔ ∃ s, s < 18446744073709551616 ∧ MaxClq (readT es) n s ∧ vertsI s = X := by
  have hN := valid_nice h
  have hn : n ≤ 64 := by have := h.2.1; omega
  obtain ⟨l, _, hS⟩ := chord_steps hN hC n (Nat.le_refl _)
  generalize (maxTo (readT es) n n).2 = sets at hS ⊢
  have hall := steps_all hS
  have hsl := hS.slen
  -- the sets as lists of numbers
  have hex : ∀ j, j < n → ∃ s : List Nat, sets.getD j [] = natsI s ∧ s.Pairwise (· < ·) ∧ ∀ x, x ∈ s ↔ x < n ∧ (x = l.getD j 0 ∨ (readT es (l.getD j 0) x = true ∧ x ∉ l.take j)) := by
    intro j hj
    obtain ⟨s, e, h1, h2⟩ := hS.sets j (by rw [hS.len]; exact hj) (by omega)
    have e1 : l[j]'(by rw [hS.len]; exact hj) = l.getD j 0 := by simp [show j < l.length by rw [hS.len]; exact hj]
    refine ⟨s, ?_, h1, fun x => by rw [h2, e1]⟩
    rw [List.getD_eq_getElem?_getD, List.getElem?_eq_getElem (by omega)]
    exact e
  obtain ⟨S, hSS⟩ : ∃ S : Nat → List Nat, ∀ j, j < n → sets.getD j [] = natsI (S j) ∧ (S j).Pairwise (· < ·) ∧ ∀ x, x ∈ S j ↔ x < n ∧ (x = l.getD j 0 ∨ (readT es (l.getD j 0) x = true ∧ x ∉ l.take j)) :=
    ⟨fun j => if hj : j < n then Classical.choose (hex j hj) else [], fun j hj => by simp only [hj, dite_true]; exact Classical.choose_spec (hex j hj)⟩
  have hgm : ∀ j, j < n → l.getD j 0 ∈ l := fun j hj => Go.Proofs.Tg.Gx.getD_mem (by rw [hS.len]; exact hj)
  have hglt : ∀ j, j < n → l.getD j 0 < n := fun j hj => hS.lt _ (hgm j hj)
  have hself : ∀ j, j < n → l.getD j 0 ∈ S j := fun j hj => ((hSS j hj).2.2 _).2 ⟨hglt j hj, .inl rfl⟩
  have hidx : ∀ v, v < n → ∃ j, j < n ∧ l.getD j 0 = v := by
    intro v hv
    obtain ⟨j, hj, e⟩ := List.getElem_of_mem ((hall v).2 hv)
    exact ⟨j, by rw [← hS.len]; exact hj, by simp [hj, e]⟩
  have htake : ∀ i j, i < n → j < n → (l.getD i 0 ∈ l.take j ↔ i < j) := by
    intro i j hi hj
    have hil : i < l.length := by rw [hS.len]; exact hi
    constructor
    · intro hm
      obtain ⟨k, hk, e⟩ := List.getElem_of_mem hm
      rw [List.length_take] at hk
      rw [List.getElem_take] at e
      have e1 : l.getD i 0 = l[i] := by simp [hil]
      rw [e1] at e
      rcases Nat.lt_trichotomy k i with h1 | h1 | h1
      · exact absurd e (List.pairwise_iff_getElem.1 hS.nd k i (by omega) hil h1)
      · omega
      · exact absurd e.symm (List.pairwise_iff_getElem.1 hS.nd i k hil (by omega) h1)
    · intro hij
      have e1 : l.getD i 0 = l[i] := by simp [hil]
      rw [e1]
      exact List.mem_take_iff_getElem.2 ⟨i, by omega, rfl⟩
  have hclq : ∀ j, j < n → ∀ a b, a ∈ S j → b ∈ S j → a ≠ b → readT es a b = true := by
    intro j hj a b ha hb hne
    obtain ⟨ha1, ha2⟩ := ((hSS j hj).2.2 a).1 ha
    obtain ⟨hb1, hb2⟩ := ((hSS j hj).2.2 b).1 hb
    rcases ha2 with rfl | ⟨ha2, ha3⟩
    · rcases hb2 with rfl | ⟨hb2, _⟩
      · exact absurd rfl hne
      · exact hb2
    · rcases hb2 with rfl | ⟨hb2, hb3⟩
      · exact hN.sym _ _ ha2
      · have e1 : l[j]'(by rw [hS.len]; exact hj) = l.getD j 0 := by simp [show j < l.length by rw [hS.len]; exact hj]
        exact hS.elim j (by rw [hS.len]; exact hj) a b ha1 hb1 ha3 hb3 hne (by rw [e1]; exact ha2) (by rw [e1]; exact hb2)
  have hnd : ∀ j, j < n → (natsI (S j)).Nodup := by
    intro j hj
    unfold natsI
    rw [List.nodup_iff_pairwise_ne, List.pairwise_map]
    exact (hSS j hj).2.1.imp (fun h e => by omega)
  have hkeep : ∀ i, i < n → (keepI sets i = true ↔ ∀ k, k < n → k ≠ i → ¬ ∀ x ∈ S i, x ∈ S k) := by
    intro i hi
    unfold keepI
    rw [List.all_eq_true]
    have hone : ∀ k, k < n → (keepP sets i k = true ↔ (k ≠ i → ¬ ∀ x ∈ S i, x ∈ S k)) := by
      intro k hk
      unfold keepP
      rw [(hSS i hi).1, (hSS k hk).1, Bool.or_eq_true, Bool.not_eq_true', decide_eq_true_eq, decide_eq_false_iff_not, common_sub (hnd k hk), natsI_sub]
      by_cases e : k = i
      · simp [e]
      · simp [e]
    constructor
    · intro hh k hk
      exact (hone k hk).1 (hh k (by simp; omega))
    · intro hh k hk
      have hk : k < n := by have : k < sets.length := by simpa using hk
                            omega
      exact (hone k hk).2 (hh k hk)
  have hset : ∀ j, j < n → asc (natsI (S j)) := by
    intro j hj
    have hp : (natsI (S j)).Pairwise (· < ·) := by
      unfold natsI
      rw [List.pairwise_map]
      exact (hSS j hj).2.1.imp (fun h => by omega)
    have hr : ∀ x ∈ natsI (S j), 0 ≤ x ∧ x < 64 := by
      intro x hx
      unfold natsI at hx
      obtain ⟨y, hy, rfl⟩ := List.mem_map.1 hx
      have := (((hSS j hj).2.2 y).1 hy).1
      omega
    intro i hi _
    exact ⟨hr _ (List.getElem_mem _), fun h0 => List.pairwise_iff_getElem.1 hp (i - 1) i (by omega) hi (by omega)⟩
  have hbit : ∀ j, j < n → ∀ v : Nat, (setOf (natsI (S j))).testBit v = true ↔ v ∈ S j := by
    intro j hj v
    rw [setOf_bit (fun x hx => (asc_range (hset j hj) x hx).1), natsI_mem]
  have hmemK : ∀ X, X ∈ ((keptI sets sets.length).map fun i => sets.getD i []) ↔ ∃ i, i < n ∧ keepI sets i = true ∧ natsI (S i) = X := by
    intro X
    rw [List.mem_map]
    unfold keptI
    constructor
    · rintro ⟨i, hi, e⟩
      rw [List.mem_filter, List.mem_range] at hi
      have hin : i < n := by omega
      exact ⟨i, hin, hi.2, by rw [← e]; exact (hSS i hin).1.symm⟩
    · rintro ⟨i, hi, h1, e⟩
      exact ⟨i, List.mem_filter.2 ⟨by simp; omega, h1⟩, by simp only [(hSS i hi).1]; exact e⟩
  refine ⟨?_, fun X => ?_⟩
  · rw [List.nodup_iff_pairwise_ne, List.pairwise_map]
    have hnk : (keptI sets sets.length).Nodup := by
      unfold keptI
      exact List.Pairwise.filter _ List.nodup_range
    refine List.Pairwise.imp_of_mem (fun {a b} ha hb hne e => ?_) hnk
    unfold keptI at ha hb
    rw [List.mem_filter, List.mem_range] at ha hb
    have han : a < n := by omega
    have hbn : b < n := by omega
    rw [(hSS a han).1, (hSS b hbn).1] at e
    refine (hkeep a han).1 ha.2 b hbn (fun e2 => hne e2.symm) (fun x hx => ?_)
    exact natsI_mem.1 (by rw [← e]; exact natsI_mem.2 hx)
  · rw [hmemK]
    constructor
    · rintro ⟨i, hi, hk, rfl⟩
      refine ⟨setOf (natsI (S i)), setOf_small (hset i hi), ⟨fun v hv => ?_, fun u v hu hv hne => ?_, fun v hv hadj => ?_, ?_⟩, vertsZ_setOf (hset i hi)⟩
      · exact (((hSS i hi).2.2 v).1 ((hbit i hi v).1 hv)).1
      · exact hclq i hi u v ((hbit i hi u).1 hu) ((hbit i hi v).1 hv) hne
      · rw [hbit i hi]
        obtain ⟨j, hj, rfl⟩ := hidx v hv
        have hadj' : ∀ u ∈ S i, u ≠ l.getD j 0 → readT es u (l.getD j 0) = true := fun u hu hne => hadj u ((hbit i hi u).2 hu) hne
        rcases Nat.lt_trichotomy j i with hji | hji | hji
        · exfalso
          refine (hkeep i hi).1 hk j hj (by omega) (fun x hx => ?_)
          rw [(hSS j hj).2.2]
          obtain ⟨hx1, hx2⟩ := ((hSS i hi).2.2 x).1 hx
          refine ⟨hx1, ?_⟩
          obtain ⟨q, hq, rfl⟩ := hidx x hx1
          by_cases e : l.getD q 0 = l.getD j 0
          · exact .inl e
          · right
            refine ⟨hN.sym _ _ (hadj' _ hx e), ?_⟩
            rw [htake q j hq hj]
            have : i ≤ q := by
              rcases hx2 with e2 | ⟨_, h3⟩
              · have : ¬ q < i := by rw [← htake q i hq hi, e2, htake i i hi hi]; omega
                omega
              · rw [htake q i hq hi] at h3; omega
            omega
        · subst hji; exact hself j hj
        · rw [(hSS i hi).2.2]
          refine ⟨hglt j hj, .inr ⟨?_, by rw [htake j i hj hi]; omega⟩⟩
          refine hadj' _ (hself i hi) (fun e => ?_)
          have : j < i ∨ ¬ j < i := Classical.em _
          have h1 : l.getD i 0 ∈ l.take j := (htake i j hi hj).2 hji
          rw [e] at h1
          have := (htake j j hj hj).1 h1
          omega
      · exact ⟨_, (hbit i hi _).2 (hself i hi)⟩
    · rintro ⟨s, hs, hM, rfl⟩
      have hleast : ∃ i, i < n ∧ s.testBit (l.getD i 0) = true ∧ ∀ j, j < i → s.testBit (l.getD j 0) = false := by
        obtain ⟨v, hv⟩ := hM.one
        obtain ⟨j, hj, rfl⟩ := hidx v (hM.lt v hv)
        have : ∀ j, j < n → s.testBit (l.getD j 0) = true → ∃ i, i < n ∧ s.testBit (l.getD i 0) = true ∧ ∀ j, j < i → s.testBit (l.getD j 0) = false := by
          intro j
          induction j using Nat.strongRecOn with
          | _ j ih =>
            intro hj hb
            by_cases hh : ∃ q, q < j ∧ s.testBit (l.getD q 0) = true
            · obtain ⟨q, h1, h2⟩ := hh
              exact ih q h1 (by omega) h2
            · refine ⟨j, hj, hb, fun q hq => ?_⟩
              cases hbq : s.testBit (l.getD q 0)
              · rfl
              · exact absurd ⟨q, hq, hbq⟩ hh
        exact this j hj hv
      obtain ⟨i, hi, hib, hbef⟩ := hleast
      have hsub : ∀ x, s.testBit x = true → x ∈ S i := by
        intro x hx
        rw [(hSS i hi).2.2]
        refine ⟨hM.lt x hx, ?_⟩
        by_cases e : x = l.getD i 0
        · exact .inl e
        · right
          refine ⟨hM.clq _ _ hib hx (fun e2 => e e2.symm), ?_⟩
          obtain ⟨q, hq, rfl⟩ := hidx x (hM.lt x hx)
          rw [htake q i hq hi]
          intro hqi
          rw [hbef q hqi] at hx
          cases hx
      have hsame : ∀ x, x ∈ S i ↔ s.testBit x = true := fun x => ⟨fun hx => hM.max x (((hSS i hi).2.2 x).1 hx).1 (fun u hu hne => hclq i hi u x (hsub u hu) hx hne), hsub x⟩
      have hes : setOf (natsI (S i)) = s := by
        apply Nat.eq_of_testBit_eq
        intro x
        rw [Bool.eq_iff_iff, hbit i hi, hsame]
      refine ⟨i, hi, (hkeep i hi).2 (fun k hk hki hin => ?_), ?_⟩
      · have hkS : l.getD k 0 ∈ S i := by
          rw [hsame]
          refine hM.max _ (hglt k hk) (fun u hu hne => ?_)
          exact hclq k hk u _ (hin u (hsub u hu)) (hself k hk) hne
        have hik : i < k := by
          obtain ⟨_, h2⟩ := ((hSS i hi).2.2 _).1 hkS
          have hnot : ¬ k < i := by
            rcases h2 with e | ⟨_, h3⟩
            · rw [← htake k i hk hi, e, htake i i hi hi]; omega
            · rw [htake k i hk hi] at h3; exact h3
          omega
        obtain ⟨_, h2⟩ := ((hSS k hk).2.2 _).1 (hin _ (hself i hi))
        have htk := (htake i k hi hk).2 hik
        rcases h2 with e | ⟨_, h3⟩
        · rw [e] at htk
          have := (htake k k hk hk).1 htk
          omega
        · exact h3 htk
      · rw [← hes]
        exact (vertsZ_setOf (hset i hi)).symm
/-- Both lists of cliques are one. -/
theorem max_same (h : valid n es) (hc : isChordal (readAll es) n = true) {lo ls : List (List Int)} (h1 : lo.Perm ((keptI (maxTo (readT es) n n).2 (maxTo (readT es) n n).2.length).map fun i => (maxTo (readT es) n n).2.getD i [])) (h2 : Go.Proofs.Tg.Gx.sortedL lo)
    (h3 : ls.Perm ((keepLast (cands (readAll es) n)).map vertsI)) (h4 : Go.Proofs.Tg.Gx.sortedL ls) : lo = ls := by
  have hn : n ≤ 64 := by have := h.2.1; omega
  obtain ⟨hnd, hmem⟩ := kept_mem h ((isChordal_chord h).1 hc)
  have hnd2 : ((keepLast (cands (readAll es) n)).map vertsI).Nodup := by
    rw [List.nodup_iff_pairwise_ne, List.pairwise_map]
    exact List.Pairwise.imp_of_mem (fun {a b} ha hb hne e => hne (vertsI_inj ((keep_iff h hc a).1 ha).1 ((keep_iff h hc b).1 hb).1 e)) ((cands_nodup (es := es) hn).sublist (keepLast_sub _))
  have hp : ((keptI (maxTo (readT es) n n).2 (maxTo (readT es) n n).2.length).map fun i => (maxTo (readT es) n n).2.getD i []).Perm ((keepLast (cands (readAll es) n)).map vertsI) := by
    rw [List.perm_ext_iff_of_nodup hnd hnd2]
    intro X
    rw [hmem, List.mem_map]
    constructor
    · rintro ⟨s, h1, h2, e⟩
      exact ⟨s, (keep_iff h hc s).2 ⟨h1, h2⟩, e⟩
    · rintro ⟨s, hs, e⟩
      have := (keep_iff h hc s).1 hs
      exact ⟨s, this.1, this.2, e⟩
  exact sorted_same ((h1.trans hp).trans h3.symm) (pair_of_sortedL h2) (pair_of_sortedL h4)
end
end Go.Gr
end
section
/- The reference's Extend and Cliques. -/
namespace Go.Gr
def fillEs (n : Nat) (es : List (Int × Int)) : List (Int × Int) := tableEdges (fillTo (readT es) n n).1 n n
theorem fillEs_valid {n : Nat} {es : List (Int × Int)} (hn : n ≤ 64) : valid n (fillEs n es) := tableEdges_valid _ hn
theorem fillEs_len {n : Nat} {es : List (Int × Int)} (hn : n ≤ 64) : (fillEs n es).length ≤ 4096 := by
  have := tableEdges_len (fillTo (readT es) n n).1 n n
  have h2 : n * n ≤ 64 * 64 := Nat.mul_le_mul hn hn
  unfold fillEs
  omega
end Go.Gr
namespace Go.Proofs.Tg.Gx
open Go.RowKit Go.Gr
set_option maxHeartbeats 4000000
set_option maxRecDepth 100000
def RetFill (n : Nat) (es : List (Int × Int)) (w : World) (e : Ending) (w' : World) : Prop :=
  ∃ xs F d, xs = fillEs n es ∧ e = .returned (.tuple #[.agg #[.int .i64 n, .slice F (List.length xs) d], .int .i64 0]) ∧ w'.ownsRow w.heap.size 83 2 (.slice F xs.length d) xs.length (ecells xs) ∧ Below w.heap.size w w'
/-- What Cliques of the reference returns. -/
def RetRef (n : Nat) (es : List (Int × Int)) (w : World) (e : Ending) (w' : World) : Prop :=
  ∃ lo V d er, e = .returned (.tuple #[.slice V (List.length lo) d, .int .i64 er]) ∧ Lists w' V lo ∧
    ((triang (readT es) n = false ∧ lo = [] ∧ er = 11) ∨ (triang (readT es) n = true ∧ er = 0 ∧ lo.Perm ((keptI (maxTo (readT es) n n).2 (maxTo (readT es) n n).2.length).map fun i => (maxTo (readT es) n n).2.getD i []) ∧ sortedL lo)) ∧ Below w.heap.size w w'
end Go.Proofs.Tg.Gx
end
