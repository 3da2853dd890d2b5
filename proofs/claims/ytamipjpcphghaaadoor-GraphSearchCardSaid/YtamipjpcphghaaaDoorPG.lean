/- Plain law of Cliques: what it keeps are the maximal cliques of a chordal graph. -/
import Derived.Test.YtamipjpcphghaaaDoorPF
import Derived.Test.YtamipjpcphghaaaDoorPB
import Derived.Test.YtamipjpcphghaaaDoorWN
namespace Go.Gr
open Go.Chordal
theorem bit_lt {s j : Nat} (hs : s < 18446744073709551616) (h : s.testBit j = true) : j < 64 := by
  by_cases hj : j < 64
  · exact hj
  · rw [high_bit hs (by omega)] at h; cases h
theorem andn_zero {s t : Nat} (hs : s < 18446744073709551616) (ht : t < 18446744073709551616) : andn s t = 0 ↔ ∀ j, s.testBit j = true → t.testBit j = true := by
  have hlt : andn s t < 18446744073709551616 := by unfold andn; exact and_lt _ hs
  constructor
  · intro h j hj
    have hj64 := bit_lt hs hj
    have := congrArg (fun x => x.testBit j) h
    simp only [andn_bit _ _ _ ht hj64, hj, Nat.zero_testBit] at this
    simpa using this
  · intro h
    apply Nat.eq_of_testBit_eq
    intro j
    rw [Nat.zero_testBit]
    by_cases hj : j < 64
    · rw [andn_bit _ _ _ ht hj]
      cases hb : s.testBit j
      · rfl
      · simp [h j hb]
    · exact high_bit hlt (by omega)
theorem keepLast_sub : ∀ l : List Nat, (keepLast l).Sublist l
  | [] => List.Sublist.slnil
  | s :: r => by
    unfold keepLast
    split
    · exact (keepLast_sub r).cons s
    · exact (keepLast_sub r).cons_cons s
/-- A set stays exactly if it is not within a later one. -/
theorem mem_keepLast : ∀ {l : List Nat} {s : Nat}, s ∈ keepLast l ↔ ∃ k, ∃ h : k < l.length, l[k] = s ∧ ∀ j, ∀ h2 : j < l.length, k < j → ¬ andn s l[j] = 0
  | [], s => by simp [keepLast]
  | x :: r, s => by
    have ih := @mem_keepLast r s
    have hshift : (∃ k, ∃ h : k < r.length, r[k] = s ∧ ∀ j, ∀ h2 : j < r.length, k < j → ¬ andn s r[j] = 0) → ∃ k, ∃ h : k < (x :: r).length, (x :: r)[k] = s ∧ ∀ j, ∀ h2 : j < (x :: r).length, k < j → ¬ andn s (x :: r)[j] = 0 := by
      rintro ⟨k, hk, e, h⟩
      refine ⟨k + 1, by simpa using hk, by simpa using e, fun j hj hkj => ?_⟩
      obtain ⟨j, rfl⟩ : ∃ i, j = i + 1 := ⟨j - 1, by omega⟩
      simpa using h j (by simpa using hj) (by omega)
    have hback : (∃ k, ∃ h : k < (x :: r).length, (x :: r)[k] = s ∧ ∀ j, ∀ h2 : j < (x :: r).length, k < j → ¬ andn s (x :: r)[j] = 0) → (x = s ∧ ∀ j, ∀ h2 : j < r.length, ¬ andn s r[j] = 0) ∨ ∃ k, ∃ h : k < r.length, r[k] = s ∧ ∀ j, ∀ h2 : j < r.length, k < j → ¬ andn s r[j] = 0 := by
      rintro ⟨k, hk, e, h⟩
      cases k with
      | zero => exact .inl ⟨by simpa using e, fun j hj => h (j + 1) (by simpa using hj) (by omega)⟩
      | succ k => exact .inr ⟨k, by simpa using hk, by simpa using e, fun j hj hkj => h (j + 1) (by simpa using hj) (by omega)⟩
    unfold keepLast
    by_cases hc : (r.any fun t => decide (andn x t = 0)) = true
    · rw [if_pos hc, ih]
      refine ⟨hshift, fun h => ?_⟩
      rcases hback h with ⟨rfl, h2⟩ | h2
      · exfalso
        rw [List.any_eq_true] at hc
        obtain ⟨t, ht, h3⟩ := hc
        obtain ⟨j, hj, rfl⟩ := List.getElem_of_mem ht
        exact h2 j hj (by simpa using h3)
      · exact h2
    · rw [if_neg hc, List.mem_cons, ih]
      constructor
      · rintro (rfl | h)
        · refine ⟨0, by simp, rfl, fun j hj hj0 => ?_⟩
          obtain ⟨j, rfl⟩ : ∃ i, j = i + 1 := ⟨j - 1, by omega⟩
          intro h3
          apply hc
          rw [List.any_eq_true]
          exact ⟨r[j]'(by simpa using hj), List.getElem_mem _, by simpa using h3⟩
        · exact hshift h
      · intro h
        rcases hback h with ⟨rfl, _⟩ | h2
        · exact .inl rfl
        · exact .inr h2
theorem keepLast_cover : ∀ (l : List Nat), (∀ s ∈ l, s < 18446744073709551616) → ∀ s ∈ l, ∃ s' ∈ keepLast l, ∀ j, s.testBit j = true → s'.testBit j = true
  | [], _, s, h => by simp at h
  | x :: r, hl, s, h => by
    have ih := keepLast_cover r (fun s h => hl s (by simp [h]))
    unfold keepLast
    by_cases hc : (r.any fun t => decide (andn x t = 0)) = true
    · rw [if_pos hc]
      rcases List.mem_cons.1 h with rfl | h
      · rw [List.any_eq_true] at hc
        obtain ⟨t, ht, h3⟩ := hc
        obtain ⟨s', h1, h2⟩ := ih t ht
        have := (andn_zero (hl s (by simp)) (hl t (by simp [ht]))).1 (by simpa using h3)
        exact ⟨s', h1, fun j hj => h2 j (this j hj)⟩
      · exact ih s h
    · rw [if_neg hc]
      rcases List.mem_cons.1 h with rfl | h
      · exact ⟨s, by simp, fun _ h => h⟩
      · obtain ⟨s', h1, h2⟩ := ih s h
        exact ⟨s', by simp [h1], h2⟩
/-- A clique that no further vertex fits. -/
structure MaxClq (t : Nat → Nat → Bool) (n s : Nat) : Prop where
  lt : ∀ v, s.testBit v = true → v < n
  clq : ∀ u v, s.testBit u = true → s.testBit v = true → u ≠ v → t u v = true
  max : ∀ v, v < n → (∀ u, s.testBit u = true → u ≠ v → t u v = true) → s.testBit v = true
  one : ∃ v, s.testBit v = true
theorem cands_len {A : Nat → Nat} {n : Nat} (hn : n ≤ 64) : (cands A n).length = n := by
  unfold cands
  rw [List.length_zipWith]
  unfold earlier
  rw [earlier_len, search_len hn]; omega
theorem cands_at {A : Nat → Nat} {n k : Nat} (hn : n ≤ 64) (hk : k < n) : (cands A n)[k]'(by rw [cands_len hn]; exact hk) = bset (A (ord A n k) &&& (searchTo A n k).1) (ord A n k) := by
  have h1 := earlier_at (A := A) hn hk
  have hl : (search A n).length = n := search_len hn
  have h2 : (search A n)[k]'(by omega) = ord A n k := by simp [ord, List.getElem?_eq_getElem (show k < (search A n).length by omega)]
  unfold cands
  rw [List.getElem_zipWith, h2]
  congr 1
  have := List.getElem?_eq_some_iff.1 h1
  exact this.2
theorem cand_bit {A : Nat → Nat} {n k : Nat} (hn : n ≤ 64) (hk : k < n) (v : Nat) : ((cands A n)[k]'(by rw [cands_len hn]; exact hk)).testBit v = true ↔ v = ord A n k ∨ (bt A (ord A n k) v = true ∧ ∃ j, j < k ∧ ord A n j = v) := by
  rw [cands_at hn hk, bset_bit, Nat.testBit_and]
  simp only [Bool.or_eq_true, Bool.and_eq_true, decide_eq_true_eq, vis_bit hn (show k ≤ n by omega)]
  constructor
  · rintro (h | h)
    · exact .inr h
    · exact .inl h.symm
  · rintro (h | h)
    · exact .inr h.symm
    · exact .inl h
theorem cands_small {A : Nat → Nat} (hS : Small A) {n : Nat} (hn : n ≤ 64) : ∀ s ∈ cands A n, s < 18446744073709551616 := by
  intro s hs
  obtain ⟨k, hk, rfl⟩ := List.getElem_of_mem hs
  have hk' : k < n := by rwa [cands_len hn] at hk
  rw [cands_at hn hk']
  exact bset_lt (and_lt _ (hS _)) (by have := ord_lt (A := A) hn hk'; omega)
section
variable {n : Nat} {es : List (Int × Int)}
theorem cand_clq (h : valid n es) (hc : isChordal (readAll es) n = true) {k : Nat} (hk : k < n) : ∀ u v, ((cands (readAll es) n)[k]'(by rw [cands_len (by have := h.2.1; omega)]; exact hk)).testBit u = true → ((cands (readAll es) n)[k]'(by rw [cands_len (by have := h.2.1; omega)]; exact hk)).testBit v = true → u ≠ v → readT es u v = true := by
  have hn : n ≤ 64 := by have := h.2.1; omega
  have hN := valid_nice h
  have hch := (chordal_iff (readAll_small es n h).1 hn).1 hc
  intro u v hu hv hne
  rw [cand_bit hn hk] at hu hv
  rw [← bt_read]
  rcases hu with rfl | ⟨hu, i, hi, rfl⟩
  · rcases hv with rfl | ⟨hv, j, hj, rfl⟩
    · exact absurd rfl hne
    · exact hv
  · rcases hv with rfl | ⟨hv, j, hj, rfl⟩
    · rw [bt_read] at hu ⊢; exact hN.sym _ _ hu
    · exact hch k i j hk hi hj (fun e => hne (by rw [e])) hu hv
/-- The sets that are kept are the maximal cliques. -/
theorem keep_iff (h : valid n es) (hc : isChordal (readAll es) n = true) (s : Nat) : s ∈ keepLast (cands (readAll es) n) ↔ s < 18446744073709551616 ∧ MaxClq (readT es) n s := by
  have hn : n ≤ 64 := by have := h.2.1; omega
  have hN := valid_nice h
  have hS := (readAll_small es n h).1
  have hsm := cands_small hS hn
  have hlen := cands_len (A := readAll es) hn
  rw [mem_keepLast]
  constructor
  · rintro ⟨k, hk, rfl, hlast⟩
    have hkn : k < n := by omega
    have hself : ∀ j (hj : j < n), ((cands (readAll es) n)[j]'(by omega)).testBit (ord (readAll es) n j) = true := fun j hj => (cand_bit hn hj _).2 (.inl rfl)
    refine ⟨hsm _ (List.getElem_mem _), ⟨fun v hv => ?_, cand_clq h hc hkn, fun v hv hall => ?_, ⟨_, hself k hkn⟩⟩⟩
    · rcases (cand_bit hn hkn v).1 hv with rfl | ⟨_, j, hj, rfl⟩
      · exact ord_lt hn hkn
      · exact ord_lt hn (by omega)
    · obtain ⟨j, hj, rfl⟩ := ord_onto (A := readAll es) hn hv
      rcases Nat.lt_trichotomy j k with hjk | hjk | hjk
      · rw [cand_bit hn hkn]
        refine .inr ⟨?_, j, hjk, rfl⟩
        rw [bt_read]
        exact hall _ (hself k hkn) (fun e => ord_inj hn hjk hkn e.symm)
      · subst hjk; exact hself j hj
      · exfalso
        refine hlast j (by omega) hjk ?_
        rw [andn_zero (hsm _ (List.getElem_mem _)) (hsm _ (List.getElem_mem _))]
        intro u hu
        have hidx : ∃ i, i ≤ k ∧ ord (readAll es) n i = u := by
          rcases (cand_bit hn hkn u).1 hu with rfl | ⟨_, i, hi, rfl⟩
          · exact ⟨k, Nat.le_refl _, rfl⟩
          · exact ⟨i, by omega, rfl⟩
        obtain ⟨i, hi, rfl⟩ := hidx
        rw [cand_bit hn hj]
        refine .inr ⟨?_, i, by omega, rfl⟩
        rw [bt_read]
        exact hN.sym _ _ (hall _ hu (ord_inj hn (by omega) hj))
  · rintro ⟨hs, hM⟩
    obtain ⟨v0, hv0⟩ := hM.one
    -- the last vertex of s
    have hmax : ∃ k, k < n ∧ s.testBit (ord (readAll es) n k) = true ∧ ∀ j, k < j → j < n → s.testBit (ord (readAll es) n j) = false := by
      obtain ⟨k0, hk0, e0⟩ := ord_onto (A := readAll es) hn (hM.lt v0 hv0)
      have : ∀ d, ∀ k, k < n → n - k = d → s.testBit (ord (readAll es) n k) = true → ∃ k, k < n ∧ s.testBit (ord (readAll es) n k) = true ∧ ∀ j, k < j → j < n → s.testBit (ord (readAll es) n j) = false := by
        intro d
        induction d using Nat.strongRecOn with
        | _ d ih =>
          intro k hk hd hb
          by_cases hex : ∃ j, k < j ∧ j < n ∧ s.testBit (ord (readAll es) n j) = true
          · obtain ⟨j, h1, h2, h3⟩ := hex
            exact ih (n - j) (by omega) j h2 rfl h3
          · refine ⟨k, hk, hb, fun j h1 h2 => ?_⟩
            cases hbj : s.testBit (ord (readAll es) n j)
            · rfl
            · exact absurd ⟨j, h1, h2, hbj⟩ hex
      exact this _ k0 hk0 rfl (by rw [e0]; exact hv0)
    obtain ⟨k, hk, hkb, hafter⟩ := hmax
    have hidx : ∀ u, s.testBit u = true → ∃ i, i ≤ k ∧ ord (readAll es) n i = u := by
      intro u hu
      obtain ⟨i, hi, rfl⟩ := ord_onto (A := readAll es) hn (hM.lt u hu)
      refine ⟨i, ?_, rfl⟩
      by_cases hik : i ≤ k
      · exact hik
      · rw [hafter i (by omega) hi] at hu; cases hu
    have hsub : ∀ u, s.testBit u = true → ((cands (readAll es) n)[k]'(by omega)).testBit u = true := by
      intro u hu
      obtain ⟨i, hi, rfl⟩ := hidx u hu
      rw [cand_bit hn hk]
      by_cases e : i = k
      · subst e; exact .inl rfl
      · refine .inr ⟨?_, i, by omega, rfl⟩
        rw [bt_read]
        exact hM.clq _ _ hkb hu (fun e2 => ord_inj hn (show i < k by omega) hk e2.symm)
    have heq : (cands (readAll es) n)[k]'(by omega) = s := by
      apply Nat.eq_of_testBit_eq
      intro u
      rw [Bool.eq_iff_iff]
      refine ⟨fun hu => ?_, hsub u⟩
      have hun : u < n := by
        rcases (cand_bit hn hk u).1 hu with rfl | ⟨_, j, hj, rfl⟩
        · exact ord_lt hn hk
        · exact ord_lt hn (by omega)
      exact hM.max u hun (fun w hw hne => cand_clq h hc hk w u (hsub w hw) hu hne)
    refine ⟨k, by omega, heq, fun j hj hkj h0 => ?_⟩
    have hjn : j < n := by omega
    have hin := (andn_zero hs (hsm _ (List.getElem_mem _))).1 h0
    have hoj : ((cands (readAll es) n)[j]'(by omega)).testBit (ord (readAll es) n j) = true := (cand_bit hn hjn _).2 (.inl rfl)
    have hne : ∀ u, s.testBit u = true → u ≠ ord (readAll es) n j := by
      intro u hu
      obtain ⟨i, hi, rfl⟩ := hidx u hu
      exact ord_inj hn (by omega) hjn
    have hm := hM.max (ord (readAll es) n j) (ord_lt hn hjn) (fun u hu _ => cand_clq h hc hjn _ _ (hin u hu) hoj (hne u hu))
    rw [hafter j hkj hjn] at hm
    cases hm
theorem cands_nodup (hn : n ≤ 64) : (cands (readAll es) n).Nodup := by
  rw [List.nodup_iff_pairwise_ne, List.pairwise_iff_getElem]
  intro i j hi hj hij e
  rw [cands_len hn] at hi hj
  have h1 : ((cands (readAll es) n)[j]'(by rw [cands_len hn]; exact hj)).testBit (ord (readAll es) n j) = true := (cand_bit hn hj _).2 (.inl rfl)
  rw [← e] at h1
  rcases (cand_bit hn hi _).1 h1 with h2 | ⟨_, k, hk, h2⟩
  · exact ord_inj hn hij hj h2.symm
  · exact ord_inj hn (by omega) hj h2
/-- What the statements ask of the cliques. -/
structure ClqEs (n : Nat) (es : List (Int × Int)) (ls : List (List Int)) : Prop where
  asc : ∀ l ∈ ls, l.Pairwise (· < ·)
  lt : ∀ l ∈ ls, ∀ x ∈ l, 0 ≤ x ∧ x < n
  one : ∀ l ∈ ls, 0 < l.length
  few : ls.length ≤ n
  zero : ls.length = 0 → n = 0
  cover : ∀ i j, readT es i j = true → ∃ l ∈ ls, (i : Int) ∈ l ∧ (j : Int) ∈ l
  all : ∀ i : Nat, i < n → ∃ l ∈ ls, (i : Int) ∈ l
  max : ∀ l ∈ ls, ∀ v : Nat, v < n → ((v : Int) ∈ l ↔ ∀ u ∈ l, u ≠ (v : Int) → readT es u.toNat v = true)
theorem mem_vertsI {s : Nat} {x : Int} : x ∈ vertsI s ↔ 0 ≤ x ∧ x < 64 ∧ s.testBit x.toNat = true := mem_vertsZ
theorem clq_es (h : valid n es) (hc : isChordal (readAll es) n = true) {ls : List (List Int)} (hp : ls.Perm ((keepLast (cands (readAll es) n)).map vertsI)) : ClqEs n es ls := by
  have hn : n ≤ 64 := by have := h.2.1; omega
  have hN := valid_nice h
  have hS := (readAll_small es n h).1
  have hsm := cands_small hS hn
  have hlen := cands_len (A := readAll es) hn
  have hmem : ∀ l, l ∈ ls ↔ ∃ s, s < 18446744073709551616 ∧ MaxClq (readT es) n s ∧ vertsI s = l := by
    intro l
    rw [hp.mem_iff, List.mem_map]
    constructor
    · rintro ⟨s, hs, e⟩
      have := (keep_iff h hc s).1 hs
      exact ⟨s, this.1, this.2, e⟩
    · rintro ⟨s, h1, h2, e⟩
      exact ⟨s, (keep_iff h hc s).2 ⟨h1, h2⟩, e⟩
  have hcov : ∀ s ∈ cands (readAll es) n, ∃ l ∈ ls, ∀ v : Nat, s.testBit v = true → (v : Int) ∈ l := by
    intro s hs
    obtain ⟨s', h1, h2⟩ := keepLast_cover _ hsm s hs
    have h3 := (keep_iff h hc s').1 h1
    refine ⟨vertsI s', (hmem _).2 ⟨s', h3.1, h3.2, rfl⟩, fun v hv => ?_⟩
    have := h2 v hv
    have hv64 := bit_lt h3.1 this
    rw [mem_vertsI]
    exact ⟨by omega, by omega, by simpa using this⟩
  refine ⟨fun l hl => ?_, fun l hl x hx => ?_, fun l hl => ?_, ?_, fun h0 => ?_, fun i j hij => ?_, fun i hi => ?_, fun l hl v hv => ?_⟩
  · obtain ⟨s, _, _, rfl⟩ := (hmem l).1 hl
    exact vertsZ_asc s
  · obtain ⟨s, _, hM, rfl⟩ := (hmem l).1 hl
    rw [mem_vertsI] at hx
    have := hM.lt _ hx.2.2
    omega
  · obtain ⟨s, hs, hM, rfl⟩ := (hmem l).1 hl
    obtain ⟨v, hv⟩ := hM.one
    have hv64 := bit_lt hs hv
    exact List.length_pos_of_mem (mem_vertsI.2 ⟨by omega, by omega, by simpa using hv⟩ : (v : Int) ∈ vertsI s)
  · rw [hp.length_eq, List.length_map]
    have := (keepLast_sub (cands (readAll es) n)).length_le
    omega
  · by_cases e : n = 0
    · exact e
    · exfalso
      obtain ⟨l, hl, _⟩ := hcov _ (List.getElem_mem (l := cands (readAll es) n) (n := 0) (by omega))
      rw [List.length_eq_zero_iff] at h0
      rw [h0] at hl
      simp at hl
  · obtain ⟨h1, h2⟩ := hN.lt i j hij
    obtain ⟨a, ha, rfl⟩ := ord_onto (A := readAll es) hn h1
    obtain ⟨b, hb, rfl⟩ := ord_onto (A := readAll es) hn h2
    have hne : a ≠ b := by rintro rfl; rw [hN.irr] at hij; cases hij
    rcases Nat.lt_or_gt_of_ne hne with hab | hab
    · obtain ⟨l, hl, hin⟩ := hcov _ (List.getElem_mem (l := cands (readAll es) n) (n := b) (by omega))
      refine ⟨l, hl, hin _ ((cand_bit hn hb _).2 (.inr ⟨?_, a, hab, rfl⟩)), hin _ ((cand_bit hn hb _).2 (.inl rfl))⟩
      rw [bt_read]; exact hN.sym _ _ hij
    · obtain ⟨l, hl, hin⟩ := hcov _ (List.getElem_mem (l := cands (readAll es) n) (n := a) (by omega))
      refine ⟨l, hl, hin _ ((cand_bit hn ha _).2 (.inl rfl)), hin _ ((cand_bit hn ha _).2 (.inr ⟨?_, b, hab, rfl⟩))⟩
      rw [bt_read]; exact hij
  · obtain ⟨a, ha, rfl⟩ := ord_onto (A := readAll es) hn hi
    obtain ⟨l, hl, hin⟩ := hcov _ (List.getElem_mem (l := cands (readAll es) n) (n := a) (by omega))
    exact ⟨l, hl, hin _ ((cand_bit hn ha _).2 (.inl rfl))⟩
  · obtain ⟨s, hs, hM, rfl⟩ := (hmem l).1 hl
    have hbit : ∀ u : Nat, (u : Int) ∈ vertsI s ↔ s.testBit u = true := by
      intro u
      rw [mem_vertsI]
      refine ⟨fun h => by simpa using h.2.2, fun h => ⟨by omega, by have := bit_lt hs h; omega, by simpa using h⟩⟩
    constructor
    · intro hv2 u hu hne
      rw [hbit] at hv2
      have hu2 := mem_vertsI.1 hu
      exact hM.clq _ _ hu2.2.2 hv2 (fun e => hne (by omega))
    · intro hall
      rw [hbit]
      refine hM.max v hv (fun u hu hne => ?_)
      have := hall u ((hbit u).2 hu) (by omega)
      simpa using this
end
end Go.Gr
