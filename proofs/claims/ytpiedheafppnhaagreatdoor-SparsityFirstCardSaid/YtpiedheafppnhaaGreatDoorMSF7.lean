/- Parts of the proof: GPF, GPG, GPH, GPK, GWU, GWX. -/
import Derived.Test.YtpiedheafppnhaaGreatDoorMSF4
import Derived.Test.YtpiedheafppnhaaGreatDoorMSF5
import Derived.Test.YtpiedheafppnhaaGreatDoorMSF6
section
/- Plain law: the extension of a valid graph is valid, chordal and contains it. -/
namespace Go.Gr
open Go.Chordal
theorem bt_read (es : List (Int × Int)) (i j : Nat) : bt (readAll es) i j = readT es i j := read_bits es i j
/-- A graph with a perfect elimination order of all its vertices. -/
def Chord (t : Nat → Nat → Bool) (n : Nat) : Prop := ∃ l : List Nat, (∀ v, v ∈ l ↔ v < n) ∧ l.Nodup ∧ Peo (fun a b => t a b = true) l
structure ExtOf (t u : Nat → Nat → Bool) (n : Nat) : Prop where
  nice : Nice u n
  more : ∀ i j, t i j = true → u i j = true
  chord : Chord u n
theorem extend_of {n : Nat} {es : List (Int × Int)} (h : valid n es) : ExtOf (readT es) (bt (extend (readAll es) n)) n := by
  have hn := valid_nice h
  have hn64 : n ≤ 64 := by have := h.2.1; omega
  obtain ⟨hS, hI⟩ := readAll_small es n h
  have hf : firstN n < 18446744073709551616 := by
    unfold firstN
    by_cases e : n = 64
    · subst e; decide
    · have := shl_lt n (by omega); omega
  have hx := extFrom_spec 65 (readAll es) (firstN n) (by have := size_le (firstN n); omega) hI hS hf
  have hsymA : SymA (readAll es) := by
    intro i j _ _
    have h1 := bt_read es i j
    have h2 := bt_read es j i
    unfold bt at h1 h2
    rw [h1, h2]
    exact hn.symm i j
  have hsymB := hx.sym hsymA
  have hlt : ∀ i j, bt (extend (readAll es) n) i j = true → i < n ∧ j < n := by
    intro i j hij
    rcases hx.new i j hij with h1 | ⟨_, _, h1, h2, _⟩
    · have h2 := bt_read es i j
      unfold bt at h2
      rw [h2] at h1
      exact hn.lt i j h1
    · rw [firstN_bit] at h1 h2
      simpa using And.intro h1 h2
  refine ⟨⟨fun i j hij => ?_, fun i => ?_, hlt⟩, fun i j hij => ?_, ?_⟩
  · obtain ⟨h1, h2⟩ := hlt i j hij
    have := hsymB i j (by omega) (by omega)
    unfold bt at hij ⊢
    exact this ▸ hij
  · cases hb : bt (extend (readAll es) n) i i with
    | false => rfl
    | true =>
      rcases hx.new i i hb with h1 | ⟨_, _, _, _, h1⟩
      · have h2 := bt_read es i i
        unfold bt at h2
        rw [h2, hn.irr] at h1
        cases h1
      · exact absurd rfl h1
  · refine hx.mono i j ?_
    have h2 := bt_read es i j
    unfold bt at h2
    rw [h2]; exact hij
  · obtain ⟨l, h1, h2, h3⟩ := hx.peo
    refine ⟨l, fun v => ?_, h2, h3⟩
    rw [h1, firstN_bit]
    simp
    omega
/-- What Extend writes. -/
theorem extend_edges {n : Nat} {es : List (Int × Int)} (h : valid n es) : writeEdges (extend (readAll es) n) n = tableEdges (bt (extend (readAll es) n)) n n := by
  have hx := extend_of h
  have hn64 : n ≤ 64 := by have := h.2.1; omega
  refine writeEdges_table hn64 (fun i j _ hij => ⟨(hx.nice.lt i j hij).2, fun e => ?_⟩)
  subst e
  have := hx.nice.irr i
  unfold bt at this
  rw [this] at hij
  cases hij
theorem isChordal_chord {n : Nat} {es : List (Int × Int)} (h : valid n es) : isChordal (readAll es) n = true ↔ Chord (readT es) n := by
  have hn := valid_nice h
  have hn64 : n ≤ 64 := by have := h.2.1; omega
  obtain ⟨hS, hI⟩ := readAll_small es n h
  have e : (fun a b => bt (readAll es) a b = true) = fun a b => readT es a b = true := by funext a b; rw [bt_read]
  constructor
  · intro hc
    refine ⟨(search (readAll es) n).reverse, fun v => ?_, ?_, ?_⟩
    · rw [List.mem_reverse, search_ord hn64, List.mem_map]
      constructor
      · rintro ⟨k, hk, rfl⟩; exact ord_lt hn64 (by simpa using hk)
      · intro hv
        obtain ⟨k, hk, e⟩ := ord_onto (A := readAll es) hn64 hv
        exact ⟨k, by simpa using hk, e⟩
    · exact List.pairwise_reverse.2 ((visits (A := readAll es) hn64 n (Nat.le_refl _)).nodup.imp fun h e => h e.symm)
    · have := peo_of_isChordal hS hn64 hc
      rwa [e] at this
  · rintro ⟨l, h1, _, h3⟩
    refine isChordal_of_peo hS hn64 (fun a b hab => ?_) (l := l) (by rw [e]; exact h3) (fun v hv => (h1 v).2 hv)
    rw [bt_read] at hab ⊢
    exact hn.sym a b hab
/-- The extension, written: all that the statements ask. -/
structure ExtEs (n : Nat) (es xs : List (Int × Int)) : Prop where
  valid : valid n xs
  more : ∀ e ∈ es, (0 ≤ e.1 ∧ e.1 < n ∧ 0 ≤ e.2 ∧ e.2 < n) ∧ (readAll xs e.1.toNat).testBit e.2.toNat = true
  chord : isChordal (readAll xs) n = true
theorem extend_es {n : Nat} {es : List (Int × Int)} (h : valid n es) : ExtEs n es (writeEdges (extend (readAll es) n) n) := by
  have hx := extend_of h
  have hn64 : n ≤ 64 := by have := h.2.1; omega
  rw [extend_edges h]
  have hv := tableEdges_valid (bt (extend (readAll es) n)) hn64
  have hr := fun i j => read_table hx.nice i j
  refine ⟨hv, fun e he => ?_, ?_⟩
  · obtain ⟨g1, g2, g3⟩ := valid_good h e he
    refine ⟨by omega, ?_⟩
    have h1 : (readAll (tableEdges (bt (extend (readAll es) n)) n n) e.1.toNat).testBit e.2.toNat = _ := bt_read (tableEdges (bt (extend (readAll es) n)) n n) e.1.toNat e.2.toNat
    have : readT es e.1.toNat e.2.toNat = true := (readT_iff _ _ _).2 ⟨e, he, .inl ⟨rfl, rfl⟩⟩
    rw [h1, hr]
    exact hx.more _ _ this
  · rw [isChordal_chord hv]
    obtain ⟨l, h1, h2, h3⟩ := hx.chord
    refine ⟨l, h1, h2, ?_⟩
    have : (fun a b => readT (tableEdges (bt (extend (readAll es) n)) n n) a b = true) = fun a b => bt (extend (readAll es) n) a b = true := by funext a b; rw [hr]
    rw [this]; exact h3
theorem ext_len (A : Nat → Nat) : ∀ m, (writeEdges A m).length ≤ 64 * m
  | 0 => by simp [writeEdges]
  | m + 1 => by
    rw [writeEdges_succ, List.length_append]
    have := rowEdges_len A m
    have := ext_len A m
    omega
end Go.Gr
end
section
/- Plain law of Cliques: what it keeps are the maximal cliques of a chordal graph. -/
namespace Go.Gr
open Go.Chordal
theorem bit_lt {s j : Nat} (hs : s < 18446744073709551616) (h : s.testBit j = true) : j < 64 := by
  by_cases hj : j < 64
  · exact hj
  · rw [high_bit hs (by omega)] at h; cases h
theorem andn_zero {s t : Nat} (hs : s < 18446744073709551616) (ht : t < 18446744073709551616) : andn s t = 0 ↔ ∀ j, s.testBit j = true → t.testBit j = true := by
  have hlt : andn s t < 18446744073709551616 := by unfold andn; exact and_lt _ hs
  constructor
  · intro h j hj
    have hj64 := bit_lt hs hj
    have := congrArg (fun x => x.testBit j) h
    simp only [andn_bit _ _ _ ht hj64, hj, Nat.zero_testBit] at this
    simpa using this
  · intro h
    apply Nat.eq_of_testBit_eq
    intro j
    rw [Nat.zero_testBit]
    by_cases hj : j < 64
    · rw [andn_bit _ _ _ ht hj]
      cases hb : s.testBit j
      · rfl
      · simp [h j hb]
    · exact high_bit hlt (by omega)
theorem keepLast_sub : ∀ l : List Nat, (keepLast l).Sublist l
  | [] => List.Sublist.slnil
  | s :: r => by
    unfold keepLast
    split
    · exact (keepLast_sub r).cons s
    · exact (keepLast_sub r).cons_cons s
/-- A set stays exactly if it is not within a later one. -/
theorem mem_keepLast : ∀ {l : List Nat} {s : Nat}, s ∈ keepLast l ↔ ∃ k, ∃ h : k < l.length, l[k] = s ∧ ∀ j, ∀ h2 : j < l.length, k < j → ¬ andn s l[j] = 0
  | [], s => by simp [keepLast]
  | x :: r, s => by
    have ih := @mem_keepLast r s
    have hshift : (∃ k, ∃ h : k < r.length, r[k] = s ∧ ∀ j, ∀ h2 : j < r.length, k < j → ¬ andn s r[j] = 0) → ∃ k, ∃ h : k < (x :: r).length, (x :: r)[k] = s ∧ ∀ j, ∀ h2 : j < (x :: r).length, k < j → ¬ andn s (x :: r)[j] = 0 := by
      rintro ⟨k, hk, e, h⟩
      refine ⟨k + 1, by simpa using hk, by simpa using e, fun j hj hkj => ?_⟩
      obtain ⟨j, rfl⟩ : ∃ i, j = i + 1 := ⟨j - 1, by omega⟩
      simpa using h j (by simpa using hj) (by omega)
    have hback : (∃ k, ∃ h : k < (x :: r).length, (x :: r)[k] = s ∧ ∀ j, ∀ h2 : j < (x :: r).length, k < j → ¬ andn s (x :: r)[j] = 0) → (x = s ∧ ∀ j, ∀ h2 : j < r.length, ¬ andn s r[j] = 0) ∨ ∃ k, ∃ h : k < r.length, r[k] = s ∧ ∀ j, ∀ h2 : j < r.length, k < j → ¬ andn s r[j] = 0 := by
      rintro ⟨k, hk, e, h⟩
      cases k with
      | zero => exact .inl ⟨by simpa using e, fun j hj => h (j + 1) (by simpa using hj) (by omega)⟩
      | succ k => exact .inr ⟨k, by simpa using hk, by simpa using e, fun j hj hkj => h (j + 1) (by simpa using hj) (by omega)⟩
    unfold keepLast
    by_cases hc : (r.any fun t => decide (andn x t = 0)) = true
    · rw [if_pos hc, ih]
      refine ⟨hshift, fun h => ?_⟩
      rcases hback h with ⟨rfl, h2⟩ | h2
      · exfalso
        rw [List.any_eq_true] at hc
        obtain ⟨t, ht, h3⟩ := hc
        obtain ⟨j, hj, rfl⟩ := List.getElem_of_mem ht
        exact h2 j hj (by simpa using h3)
      · exact h2
    · rw [if_neg hc, List.mem_cons, ih]
      constructor
      · rintro (rfl | h)
        · refine ⟨0, by simp, rfl, fun j hj hj0 => ?_⟩
          obtain ⟨j, rfl⟩ : ∃ i, j = i + 1 := ⟨j - 1, by omega⟩
          intro h3
          apply hc
          rw [List.any_eq_true]
          exact ⟨r[j]'(by simpa using hj), List.getElem_mem _, by simpa using h3⟩
        · exact hshift h
      · intro h
        rcases hback h with ⟨rfl, _⟩ | h2
        · exact .inl rfl
        · exact .inr h2
theorem keepLast_cover : ∀ (l : List Nat), (∀ s ∈ l, s < 18446744073709551616) → ∀ s ∈ l, ∃ s' ∈ keepLast l, ∀ j, s.testBit j = true → s'.testBit j = true
  | [], _, s, h => by simp at h
  | x :: r, hl, s, h => by
    have ih := keepLast_cover r (fun s h => hl s (by simp [h]))
    unfold keepLast
    by_cases hc : (r.any fun t => decide (andn x t = 0)) = true
    · rw [if_pos hc]
      rcases List.mem_cons.1 h with rfl | h
      · rw [List.any_eq_true] at hc
        obtain ⟨t, ht, h3⟩ := hc
        obtain ⟨s', h1, h2⟩ := ih t ht
        have := (andn_zero (hl s (by simp)) (hl t (by simp [ht]))).1 (by simpa using h3)
        exact ⟨s', h1, fun j hj => h2 j (this j hj)⟩
      · exact ih s h
    · rw [if_neg hc]
      rcases List.mem_cons.1 h with rfl | h
      · exact ⟨s, by simp, fun _ h => h⟩
      · obtain ⟨s', h1, h2⟩ := ih s h
        exact ⟨s', by simp [h1], h2⟩
/-- A clique that no further vertex fits. -/
structure MaxClq (t : Nat → Nat → Bool) (n s : Nat) : Prop where
  lt : ∀ v, s.testBit v = true → v < n
  clq : ∀ u v, s.testBit u = true → s.testBit v = true → u ≠ v → t u v = true
  max : ∀ v, v < n → (∀ u, s.testBit u = true → u ≠ v → t u v = true) → s.testBit v = true
  one : ∃ v, s.testBit v = true
theorem cands_len {A : Nat → Nat} {n : Nat} (hn : n ≤ 64) : (cands A n).length = n := by
  unfold cands
  rw [List.length_zipWith]
  unfold earlier
  rw [earlier_len, search_len hn]; omega
theorem cands_at {A : Nat → Nat} {n k : Nat} (hn : n ≤ 64) (hk : k < n) : (cands A n)[k]'(by rw [cands_len hn]; exact hk) = bset (A (ord A n k) &&& (searchTo A n k).1) (ord A n k) := by
  have h1 := earlier_at (A := A) hn hk
  have hl : (search A n).length = n := search_len hn
  have h2 : (search A n)[k]'(by omega) = ord A n k := by simp [ord, List.getElem?_eq_getElem (show k < (search A n).length by omega)]
  unfold cands
  rw [List.getElem_zipWith, h2]
  congr 1
  have := List.getElem?_eq_some_iff.1 h1
  exact this.2
theorem cand_bit {A : Nat → Nat} {n k : Nat} (hn : n ≤ 64) (hk : k < n) (v : Nat) : ((cands A n)[k]'(by rw [cands_len hn]; exact hk)).testBit v = true ↔ v = ord A n k ∨ (bt A (ord A n k) v = true ∧ ∃ j, j < k ∧ ord A n j = v) := by
  rw [cands_at hn hk, bset_bit, Nat.testBit_and]
  simp only [Bool.or_eq_true, Bool.and_eq_true, decide_eq_true_eq, vis_bit hn (show k ≤ n by omega)]
  constructor
  · rintro (h | h)
    · exact .inr h
    · exact .inl h.symm
  · rintro (h | h)
    · exact .inr h.symm
    · exact .inl h
theorem cands_small {A : Nat → Nat} (hS : Small A) {n : Nat} (hn : n ≤ 64) : ∀ s ∈ cands A n, s < 18446744073709551616 := by
  intro s hs
  obtain ⟨k, hk, rfl⟩ := List.getElem_of_mem hs
  have hk' : k < n := by rwa [cands_len hn] at hk
  rw [cands_at hn hk']
  exact bset_lt (and_lt _ (hS _)) (by have := ord_lt (A := A) hn hk'; omega)
section
variable {n : Nat} {es : List (Int × Int)}
theorem cand_clq (h : valid n es) (hc : isChordal (readAll es) n = true) {k : Nat} (hk : k < n) : ∀ u v, ((cands (readAll es) n)[k]'(by rw [cands_len (by have := h.2.1; omega)]; exact hk)).testBit u = true → ((cands (readAll es) n)[k]'(by rw [cands_len (by have := h.2.1; omega)]; exact hk)).testBit v = true → u ≠ v → readT es u v = true := by
  have hn : n ≤ 64 := by have := h.2.1; omega
  have hN := valid_nice h
  have hch := (chordal_iff (readAll_small es n h).1 hn).1 hc
  intro u v hu hv hne
  rw [cand_bit hn hk] at hu hv
  rw [← bt_read]
  rcases hu with rfl | ⟨hu, i, hi, rfl⟩
  · rcases hv with rfl | ⟨hv, j, hj, rfl⟩
    · exact absurd rfl hne
    · exact hv
  · rcases hv with rfl | ⟨hv, j, hj, rfl⟩
    · rw [bt_read] at hu ⊢; exact hN.sym _ _ hu
    · exact hch k i j hk hi hj (fun e => hne (by rw [e])) hu hv
/-- The sets that are kept are the maximal cliques. -/
theorem keep_iff (h : valid n es) (hc : isChordal (readAll es) n = true) (s : Nat) : s ∈ keepLast (cands (readAll es) n) ↔ s < 18446744073709551616 ∧ MaxClq (readT es) n s := by
  have hn : n ≤ 64 := by have := h.2.1; omega
  have hN := valid_nice h
  have hS := (readAll_small es n h).1
  have hsm := cands_small hS hn
  have hlen := cands_len (A := readAll es) hn
  rw [mem_keepLast]
  constructor
  · rintro ⟨k, hk, rfl, hlast⟩
    have hkn : k < n := by omega
    have hself : ∀ j (hj : j < n), ((cands (readAll es) n)[j]'(by omega)).testBit (ord (readAll es) n j) = true := fun j hj => (cand_bit hn hj _).2 (.inl rfl)
    refine ⟨hsm _ (List.getElem_mem _), ⟨fun v hv => ?_, cand_clq h hc hkn, fun v hv hall => ?_, ⟨_, hself k hkn⟩⟩⟩
    · rcases (cand_bit hn hkn v).1 hv with rfl | ⟨_, j, hj, rfl⟩
      · exact ord_lt hn hkn
      · exact ord_lt hn (by omega)
    · obtain ⟨j, hj, rfl⟩ := ord_onto (A := readAll es) hn hv
      rcases Nat.lt_trichotomy j k with hjk | hjk | hjk
      · rw [cand_bit hn hkn]
        refine .inr ⟨?_, j, hjk, rfl⟩
        rw [bt_read]
        exact hall _ (hself k hkn) (fun e => ord_inj hn hjk hkn e.symm)
      · subst hjk; exact hself j hj
      · exfalso
        refine hlast j (by omega) hjk ?_
        rw [andn_zero (hsm _ (List.getElem_mem _)) (hsm _ (List.getElem_mem _))]
        intro u hu
        have hidx : ∃ i, i ≤ k ∧ ord (readAll es) n i = u := by
          rcases (cand_bit hn hkn u).1 hu with rfl | ⟨_, i, hi, rfl⟩
          · exact ⟨k, Nat.le_refl _, rfl⟩
          · exact ⟨i, by omega, rfl⟩
        obtain ⟨i, hi, rfl⟩ := hidx
        rw [cand_bit hn hj]
        refine .inr ⟨?_, i, by omega, rfl⟩
        rw [bt_read]
        exact hN.sym _ _ (hall _ hu (ord_inj hn (by omega) hj))
  · rintro ⟨hs, hM⟩
    obtain ⟨v0, hv0⟩ := hM.one
    -- the last vertex of s
    have hmax : ∃ k, k < n ∧ s.testBit (ord (readAll es) n k) = true ∧ ∀ j, k < j → j < n → s.testBit (ord (readAll es) n j) = false := by
      obtain ⟨k0, hk0, e0⟩ := ord_onto (A := readAll es) hn (hM.lt v0 hv0)
      have : ∀ d, ∀ k, k < n → n - k = d → s.testBit (ord (readAll es) n k) = true → ∃ k, k < n ∧ s.testBit (ord (readAll es) n k) = true ∧ ∀ j, k < j → j < n → s.testBit (ord (readAll es) n j) = false := by
        intro d
        induction d using Nat.strongRecOn with
        | _ d ih =>
          intro k hk hd hb
          by_cases hex : ∃ j, k < j ∧ j < n ∧ s.testBit (ord (readAll es) n j) = true
          · obtain ⟨j, h1, h2, h3⟩ := hex
            exact ih (n - j) (by omega) j h2 rfl h3
          · refine ⟨k, hk, hb, fun j h1 h2 => ?_⟩
            cases hbj : s.testBit (ord (readAll es) n j)
            · rfl
            · exact absurd ⟨j, h1, h2, hbj⟩ hex
      exact this _ k0 hk0 rfl (by rw [e0]; exact hv0)
    obtain ⟨k, hk, hkb, hafter⟩ := hmax
    have hidx : ∀ u, s.testBit u = true → ∃ i, i ≤ k ∧ ord (readAll es) n i = u := by
      intro u hu
      obtain ⟨i, hi, rfl⟩ := ord_onto (A := readAll es) hn (hM.lt u hu)
      refine ⟨i, ?_, rfl⟩
      by_cases hik : i ≤ k
      · exact hik
      · rw [hafter i (by omega) hi] at hu; cases hu
    have hsub : ∀ u, s.testBit u = true → ((cands (readAll es) n)[k]'(by omega)).testBit u = true := by
      intro u hu
      obtain ⟨i, hi, rfl⟩ := hidx u hu
      rw [cand_bit hn hk]
      by_cases e : i = k
      · subst e; exact .inl rfl
      · refine .inr ⟨?_, i, by omega, rfl⟩
        rw [bt_read]
        exact hM.clq _ _ hkb hu (fun e2 => ord_inj hn (show i < k by omega) hk e2.symm)
    have heq : (cands (readAll es) n)[k]'(by omega) = s := by
      apply Nat.eq_of_testBit_eq
      intro u
      rw [Bool.eq_iff_iff]
      refine ⟨fun hu => ?_, hsub u⟩
      have hun : u < n := by
        rcases (cand_bit hn hk u).1 hu with rfl | ⟨_, j, hj, rfl⟩
        · exact ord_lt hn hk
        · exact ord_lt hn (by omega)
      exact hM.max u hun (fun w hw hne => cand_clq h hc hk w u (hsub w hw) hu hne)
    refine ⟨k, by omega, heq, fun j hj hkj h0 => ?_⟩
    have hjn : j < n := by omega
    have hin := (andn_zero hs (hsm _ (List.getElem_mem _))).1 h0
    have hoj : ((cands (readAll es) n)[j]'(by omega)).testBit (ord (readAll es) n j) = true := (cand_bit hn hjn _).2 (.inl rfl)
    have hne : ∀ u, s.testBit u = true → u ≠ ord (readAll es) n j := by
      intro u hu
      obtain ⟨i, hi, rfl⟩ := hidx u hu
      exact ord_inj hn (by omega) hjn
    have hm := hM.max (ord (readAll es) n j) (ord_lt hn hjn) (fun u hu _ => cand_clq h hc hjn _ _ (hin u hu) hoj (hne u hu))
    rw [hafter j hkj hjn] at hm
    cases hm
theorem cands_nodup (hn : n ≤ 64) : (cands (readAll es) n).Nodup := by
  rw [List.nodup_iff_pairwise_ne, List.pairwise_iff_getElem]
  intro i j hi hj hij e
  rw [cands_len hn] at hi hj
  have h1 : ((cands (readAll es) n)[j]'(by rw [cands_len hn]; exact hj)).testBit (ord (readAll es) n j) = true := (cand_bit hn hj _).2 (.inl rfl)
  rw [← e] at h1
  rcases (cand_bit hn hi _).1 h1 with h2 | ⟨_, k, hk, h2⟩
  · exact ord_inj hn hij hj h2.symm
  · exact ord_inj hn (by omega) hj h2
/-- What the statements ask of the cliques. -/
structure ClqEs (n : Nat) (es : List (Int × Int)) (ls : List (List Int)) : Prop where
  asc : ∀ l ∈ ls, l.Pairwise (· < ·)
  lt : ∀ l ∈ ls, ∀ x ∈ l, 0 ≤ x ∧ x < n
  one : ∀ l ∈ ls, 0 < l.length
  few : ls.length ≤ n
  zero : ls.length = 0 → n = 0
  cover : ∀ i j, readT es i j = true → ∃ l ∈ ls, (i : Int) ∈ l ∧ (j : Int) ∈ l
  all : ∀ i : Nat, i < n → ∃ l ∈ ls, (i : Int) ∈ l
  max : ∀ l ∈ ls, ∀ v : Nat, v < n → ((v : Int) ∈ l ↔ ∀ u ∈ l, u ≠ (v : Int) → readT es u.toNat v = true)
theorem mem_vertsI {s : Nat} {x : Int} : x ∈ vertsI s ↔ 0 ≤ x ∧ x < 64 ∧ s.testBit x.toNat = true := mem_vertsZ
theorem clq_es (h : valid n es) (hc : isChordal (readAll es) n = true) {ls : List (List Int)} (hp : ls.Perm ((keepLast (cands (readAll es) n)).map vertsI)) : ClqEs n es ls := by
  have hn : n ≤ 64 := by have := h.2.1; omega
  have hN := valid_nice h
  have hS := (readAll_small es n h).1
  have hsm := cands_small hS hn
  have hlen := cands_len (A := readAll es) hn
  have hmem : ∀ l, l ∈ ls ↔ ∃ s, s < 18446744073709551616 ∧ MaxClq (readT es) n s ∧ vertsI s = l := by
    intro l
    rw [hp.mem_iff, List.mem_map]
    constructor
    · rintro ⟨s, hs, e⟩
      have := (keep_iff h hc s).1 hs
      exact ⟨s, this.1, this.2, e⟩
    · rintro ⟨s, h1, h2, e⟩
      exact ⟨s, (keep_iff h hc s).2 ⟨h1, h2⟩, e⟩
  have hcov : ∀ s ∈ cands (readAll es) n, ∃ l ∈ ls, ∀ v : Nat, s.testBit v = true → (v : Int) ∈ l := by
    intro s hs
    obtain ⟨s', h1, h2⟩ := keepLast_cover _ hsm s hs
    have h3 := (keep_iff h hc s').1 h1
    refine ⟨vertsI s', (hmem _).2 ⟨s', h3.1, h3.2, rfl⟩, fun v hv => ?_⟩
    have := h2 v hv
    have hv64 := bit_lt h3.1 this
    rw [mem_vertsI]
    exact ⟨by omega, by omega, by simpa using this⟩
  refine ⟨fun l hl => ?_, fun l hl x hx => ?_, fun l hl => ?_, ?_, fun h0 => ?_, fun i j hij => ?_, fun i hi => ?_, fun l hl v hv => ?_⟩
  · obtain ⟨s, _, _, rfl⟩ := (hmem l).1 hl
    exact vertsZ_asc s
  · obtain ⟨s, _, hM, rfl⟩ := (hmem l).1 hl
    rw [mem_vertsI] at hx
    have := hM.lt _ hx.2.2
    omega
  · obtain ⟨s, hs, hM, rfl⟩ := (hmem l).1 hl
    obtain ⟨v, hv⟩ := hM.one
    have hv64 := bit_lt hs hv
    exact List.length_pos_of_mem (mem_vertsI.2 ⟨by omega, by omega, by simpa using hv⟩ : (v : Int) ∈ vertsI s)
  · rw [hp.length_eq, List.length_map]
    have := (keepLast_sub (cands (readAll es) n)).length_le
    omega
  · by_cases e : n = 0
    · exact e
    · exfalso
      obtain ⟨l, hl, _⟩ := hcov _ (List.getElem_mem (l := cands (readAll es) n) (n := 0) (by omega))
      rw [List.length_eq_zero_iff] at h0
      rw [h0] at hl
      simp at hl
  · obtain ⟨h1, h2⟩ := hN.lt i j hij
    obtain ⟨a, ha, rfl⟩ := ord_onto (A := readAll es) hn h1
    obtain ⟨b, hb, rfl⟩ := ord_onto (A := readAll es) hn h2
    have hne : a ≠ b := by rintro rfl; rw [hN.irr] at hij; cases hij
    rcases Nat.lt_or_gt_of_ne hne with hab | hab
    · obtain ⟨l, hl, hin⟩ := hcov _ (List.getElem_mem (l := cands (readAll es) n) (n := b) (by omega))
      refine ⟨l, hl, hin _ ((cand_bit hn hb _).2 (.inr ⟨?_, a, hab, rfl⟩)), hin _ ((cand_bit hn hb _).2 (.inl rfl))⟩
      rw [bt_read]; exact hN.sym _ _ hij
    · obtain ⟨l, hl, hin⟩ := hcov _ (List.getElem_mem (l := cands (readAll es) n) (n := a) (by omega))
      refine ⟨l, hl, hin _ ((cand_bit hn ha _).2 (.inl rfl)), hin _ ((cand_bit hn ha _).2 (.inr ⟨?_, b, hab, rfl⟩))⟩
      rw [bt_read]; exact hij
  · obtain ⟨a, ha, rfl⟩ := ord_onto (A := readAll es) hn hi
    obtain ⟨l, hl, hin⟩ := hcov _ (List.getElem_mem (l := cands (readAll es) n) (n := a) (by omega))
    exact ⟨l, hl, hin _ ((cand_bit hn ha _).2 (.inl rfl))⟩
  · obtain ⟨s, hs, hM, rfl⟩ := (hmem l).1 hl
    have hbit : ∀ u : Nat, (u : Int) ∈ vertsI s ↔ s.testBit u = true := by
      intro u
      rw [mem_vertsI]
      refine ⟨fun h => by simpa using h.2.2, fun h => ⟨by omega, by have := bit_lt hs h; omega, by simpa using h⟩⟩
    constructor
    · intro hv2 u hu hne
      rw [hbit] at hv2
      have hu2 := mem_vertsI.1 hu
      exact hM.clq _ _ hu2.2.2 hv2 (fun e => hne (by omega))
    · intro hall
      rw [hbit]
      refine hM.max v hv (fun u hu hne => ?_)
      have := hall u ((hbit u).2 hu) (by omega)
      simpa using this
end
end Go.Gr
end
section
/- Plain mathematics of clique trees: a tree that grows by a heaviest edge each time is a clique tree, if there is one. No program in sight. -/
namespace Go.Jt
open Go.Gr
/-- b is reached from a by steps of R. -/
def Conn (R : Nat → Nat → Prop) (a b : Nat) : Prop := ∀ P : Nat → Prop, P a → (∀ x y, P x → R x y → P y) → P b
section
variable {R : Nat → Nat → Prop}
theorem Conn.refl (a : Nat) : Conn R a a := fun _ h _ => h
theorem Conn.step {a b : Nat} (h : R a b) : Conn R a b := fun _ ha hs => hs a b ha h
theorem Conn.trans {a b c : Nat} (h : Conn R a b) (k : Conn R b c) : Conn R a c := fun P ha hs => k P (h P ha hs) hs
theorem Conn.symm (hR : ∀ x y, R x y → R y x) {a b : Nat} (h : Conn R a b) : Conn R b a :=
  h (fun x => Conn R x a) (Conn.refl a) (fun x y hx hxy => (Conn.step (hR x y hxy)).trans hx)
theorem Conn.cross {a b : Nat} (h : Conn R a b) (I : Nat → Prop) (ha : I a) (hb : ¬ I b) : ∃ x y, R x y ∧ I x ∧ ¬ I y := by
  by_cases hex : ∃ x y, R x y ∧ I x ∧ ¬ I y
  · exact hex
  · exact absurd (h I ha (fun x y hx hxy => Classical.byContradiction fun hy => hex ⟨x, y, hxy, hx, hy⟩)) hb
end
theorem len_mono {p q : Nat → Bool} : ∀ {l : List Nat}, (∀ x ∈ l, p x = true → q x = true) → (l.filter p).length ≤ (l.filter q).length
  | [], _ => by simp
  | x :: l, h => by
    have ih := len_mono (l := l) (fun y hy => h y (by simp [hy]))
    by_cases hp : p x = true
    · have := h x (by simp) hp
      simp [hp, this]; omega
    · by_cases hq : q x = true <;> simp [hp, hq] <;> omega
theorem len_not (p : Nat → Bool) : ∀ l : List Nat, (l.filter p).length + (l.filter fun x => !p x).length = l.length
  | [] => by simp
  | x :: l => by
    have ih := len_not p l
    cases hp : p x <;> simp [hp] <;> omega
theorem inj_len {f : Nat → Nat} : ∀ {l l' : List Nat}, l.Nodup → (∀ x ∈ l, f x ∈ l') → (∀ x ∈ l, ∀ y ∈ l, f x = f y → x = y) → l.length ≤ l'.length
  | [], _, _, _, _ => by simp
  | x :: l, l', hn, hm, hi => by
    rw [List.nodup_cons] at hn
    have hx := hm x (by simp)
    have ih := inj_len (f := f) (l := l) (l' := l'.erase (f x)) hn.2 (fun y hy => by
      refine (List.mem_erase_of_ne ?_).2 (hm y (by simp [hy]))
      intro e
      have := hi y (by simp [hy]) x (by simp) e
      subst this
      exact hn.1 hy) (fun y hy z hz e => hi y (by simp [hy]) z (by simp [hz]) e)
    rw [List.length_erase_of_mem hx] at ih
    have : 0 < l'.length := List.length_pos_of_mem hx
    simp; omega
theorem sum_add (f g : Nat → Nat) : ∀ l : List Nat, (l.map fun x => f x + g x).sum = (l.map f).sum + (l.map g).sum
  | [] => by simp
  | x :: l => by simp [sum_add f g l]; omega
theorem sum_ind (p : Nat → Bool) : ∀ l : List Nat, (l.map fun x => if p x = true then 1 else 0).sum = (l.filter p).length
  | [] => by simp
  | x :: l => by
    rw [List.map_cons, List.sum_cons, sum_ind p l]
    cases h : p x <;> simp [h]; omega
theorem sum_mono {f g : Nat → Nat} : ∀ {l : List Nat}, (∀ x ∈ l, f x ≤ g x) → (l.map f).sum ≤ (l.map g).sum
  | [], _ => by simp
  | x :: l, h => by
    have h1 := h x (by simp)
    have h2 := sum_mono (l := l) (fun y hy => h y (by simp [hy]))
    simp; omega
theorem sum_same {f g : Nat → Nat} : ∀ {l : List Nat}, (∀ x ∈ l, f x ≤ g x) → (l.map g).sum ≤ (l.map f).sum → ∀ x ∈ l, f x = g x
  | [], _, _, x, hx => by simp at hx
  | y :: l, h, hs, x, hx => by
    have h1 := h y (by simp)
    have h2 := sum_mono (l := l) (fun z hz => h z (by simp [hz]))
    simp only [List.map_cons, List.sum_cons] at hs
    rcases List.mem_cons.1 hx with rfl | hx
    · omega
    · exact sum_same (l := l) (fun z hz => h z (by simp [hz])) (by omega) x hx
/-- Pairs are counted by rows and by columns. -/
theorem double (f : Nat → Nat → Bool) (n : Nat) : ∀ m, ((List.range m).map fun r => ((List.range n).filter (f r)).length).sum = ((List.range n).map fun v => ((List.range m).filter fun r => f r v).length).sum
  | 0 => by
    have : ((List.range n).map fun v => ((List.range 0).filter fun r => f r v).length) = (List.range n).map fun _ => 0 := by simp
    rw [this]
    have h0 : ∀ l : List Nat, (l.map fun _ => 0).sum = 0 := by intro l; induction l <;> simp_all
    simp [h0]
  | m + 1 => by
    rw [List.range_succ, List.map_append, List.sum_append, double f n m]
    have : (fun v => ((List.range m ++ [m]).filter fun r => f r v).length) = fun v => ((List.range m).filter fun r => f r v).length + if f m v = true then 1 else 0 := by
      funext v
      rw [List.filter_append, List.length_append]
      cases h : f m v <;> simp [h]
    rw [this, sum_add, sum_ind]
    simp
/-- How often v is in one of the sets; how often it is in a set and in its parent. -/
def occ (T : Nat → Nat) (m v : Nat) : Nat := ((List.range m).filter fun r => (T r).testBit v).length
def links (T q : Nat → Nat) (m v : Nat) : Nat := ((List.range m).filter fun r => decide (0 < r) && (T r &&& q r).testBit v).length
def wt (T q : Nat → Nat) (r : Nat) : Nat := if 0 < r then size (T r &&& q r) else 0
structure Prim (T q : Nat → Nat) (m : Nat) : Prop where
  inj : ∀ a b, a < b → b < m → T a ≠ T b
  par : ∀ r, 0 < r → r < m → ∃ s, s < r ∧ q r = T s
  most : ∀ r, 0 < r → r < m → ∀ i k, r ≤ i → i < m → k < r → size (T i &&& T k) ≤ size (T r &&& q r)
structure Jtree (L q : Nat → Nat) (m : Nat) : Prop where
  inj : ∀ a b, a < b → b < m → L a ≠ L b
  par : ∀ r, 0 < r → r < m → ∃ s, s < r ∧ q r = L s
  run : ∀ v, (∃ r, r < m ∧ (L r).testBit v = true) → links L q m v + 1 = occ L m v
theorem inj_of {T : Nat → Nat} {m : Nat} (h : ∀ a b, a < b → b < m → T a ≠ T b) {a b : Nat} (ha : a < m) (hb : b < m) (e : T a = T b) : a = b := by
  rcases Nat.lt_trichotomy a b with h1 | h1 | h1
  · exact absurd e (h a b h1 hb)
  · exact h1
  · exact absurd e.symm (h b a h1 ha)
theorem total (T q : Nat → Nat) (m : Nat) : ((List.range m).map (wt T q)).sum = ((List.range 64).map (links T q m)).sum := by
  have h := double (fun r v => decide (0 < r) && (T r &&& q r).testBit v) 64 m
  have e : (fun r => ((List.range 64).filter fun v => decide (0 < r) && (T r &&& q r).testBit v).length) = wt T q := by
    funext r
    unfold wt size verts
    by_cases hr : 0 < r
    · rw [if_pos hr]; simp only [hr, decide_true, Bool.true_and]
    · rw [if_neg hr]; simp [hr]
  rw [e] at h
  exact h
theorem thresh (x : Nat → Nat) (N m : Nat) (h : ∀ r, r < m → x r ≤ N) : ((List.range m).map x).sum = ((List.range N).map fun t => ((List.range m).filter fun r => decide (t < x r)).length).sum := by
  rw [← double (fun r t => decide (t < x r)) N m]
  congr 1
  apply List.map_congr_left
  intro r hr
  have hr : r < m := by simpa using hr
  have hx := h r hr
  have : ∀ N, x r ≤ N → ((List.range N).filter fun t => decide (t < x r)).length = x r := by
    intro N
    induction N with
    | zero => intro h; simp; omega
    | succ N ih =>
      intro h
      rw [List.range_succ, List.filter_append, List.length_append]
      by_cases e : x r = N + 1
      · have h1 : (List.range N).filter (fun t => decide (t < x r)) = List.range N := List.filter_eq_self.2 (fun t ht => by
          have : t < N := by simpa using ht
          simp; omega)
        rw [h1]; simp [e]
      · rw [ih (by omega)]
        have : ¬ N < x r := by omega
        simp [this]
  exact (this N hx).symm
/-- Those of a sequence that are the first of their part. -/
noncomputable def fstB (R : Nat → Nat → Prop) (T : Nat → Nat) (r : Nat) : Bool := @decide (∀ s, s < r → ¬ Conn R (T s) (T r)) (Classical.propDecidable _)
theorem fstB_iff {R : Nat → Nat → Prop} {T : Nat → Nat} {r : Nat} : fstB R T r = true ↔ ∀ s, s < r → ¬ Conn R (T s) (T r) := @decide_eq_true_iff _ (Classical.propDecidable _)
noncomputable def firsts (R : Nat → Nat → Prop) (T : Nat → Nat) (m : Nat) : List Nat := (List.range m).filter (fstB R T)
theorem mem_firsts {R : Nat → Nat → Prop} {T : Nat → Nat} {m r : Nat} : r ∈ firsts R T m ↔ r < m ∧ ∀ s, s < r → ¬ Conn R (T s) (T r) := by
  unfold firsts
  rw [List.mem_filter, List.mem_range, fstB_iff]
theorem firsts_le {R : Nat → Nat → Prop} (hR : ∀ x y, R x y → R y x) {T L : Nat → Nat} {m : Nat} (hp : ∀ r, r < m → ∃ s, s < m ∧ L s = T r) : (firsts R T m).length ≤ (firsts R L m).length := by
  have hleast : ∀ r, r < m → ∃ s, s ∈ firsts R L m ∧ Conn R (L s) (T r) := by
    intro r hr
    obtain ⟨s0, hs0, e0⟩ := hp r hr
    have : ∀ s, s < m → Conn R (L s) (T r) → ∃ s, s ∈ firsts R L m ∧ Conn R (L s) (T r) := by
      intro s
      induction s using Nat.strongRecOn with
      | _ s ih =>
        intro hs hc
        by_cases hf : ∀ s', s' < s → ¬ Conn R (L s') (L s)
        · exact ⟨s, mem_firsts.2 ⟨hs, hf⟩, hc⟩
        · obtain ⟨s', h1⟩ := Classical.not_forall.1 hf
          obtain ⟨h2, h3⟩ := Classical.not_imp.1 h1
          exact ih s' h2 (by omega) ((Classical.not_not.1 h3).trans hc)
    exact this s0 hs0 (by rw [e0]; exact Conn.refl _)
  have hnd : (firsts R T m).Nodup := by
    unfold firsts
    exact List.Pairwise.filter _ List.nodup_range
  refine inj_len (f := fun r => if h : r < m then Classical.choose (hleast r h) else 0) hnd (fun r hr => ?_) (fun r hr r' hr' e => ?_)
  · have hrm := (mem_firsts.1 hr).1
    simp only [hrm, dite_true]
    exact (Classical.choose_spec (hleast r hrm)).1
  · have h1 := mem_firsts.1 hr
    have h2 := mem_firsts.1 hr'
    simp only [h1.1, h2.1, dite_true] at e
    have c1 := (Classical.choose_spec (hleast r h1.1)).2
    have c2 := (Classical.choose_spec (hleast r' h2.1)).2
    rw [e] at c1
    have c : Conn R (T r) (T r') := (c1.symm hR).trans c2
    rcases Nat.lt_trichotomy r r' with h | h | h
    · exact absurd c (h2.2 r h)
    · exact h
    · exact absurd (c.symm hR) (h1.2 r' h)
/-- The greedy tree is a clique tree. -/
theorem prim_jt {T q L q' : Nat → Nat} {m : Nat} (hP : Prim T q m) (hJ : Jtree L q' m) (h1 : ∀ r, r < m → ∃ s, s < m ∧ L s = T r) (h2 : ∀ r, r < m → ∃ s, s < m ∧ T s = L r)
    (hs : ∀ r, r < m → T r < 18446744073709551616) : ∀ v, (∃ r, r < m ∧ (T r).testBit v = true) → links T q m v + 1 = occ T m v := by
  -- the sets are the same
  have hocc : ∀ v, occ T m v = occ L m v := by
    have half : ∀ {T L : Nat → Nat}, (∀ r, r < m → ∃ s, s < m ∧ L s = T r) → (∀ a b, a < b → b < m → T a ≠ T b) → ∀ v, occ T m v ≤ occ L m v := by
      intro T L h hi v
      unfold occ
      refine inj_len (f := fun r => if h' : r < m then Classical.choose (h r h') else 0) (List.Pairwise.filter _ List.nodup_range) (fun r hr => ?_) (fun r hr r' hr' e => ?_)
      · rw [List.mem_filter, List.mem_range] at hr
        simp only [hr.1, dite_true]
        have := Classical.choose_spec (h r hr.1)
        rw [List.mem_filter, List.mem_range, this.2]
        exact ⟨this.1, hr.2⟩
      · rw [List.mem_filter, List.mem_range] at hr hr'
        simp only [hr.1, hr'.1, dite_true] at e
        have c1 := (Classical.choose_spec (h r hr.1)).2
        have c2 := (Classical.choose_spec (h r' hr'.1)).2
        rw [e] at c1
        exact inj_of hi hr.1 hr'.1 (c1.symm.trans c2)
    exact fun v => Nat.le_antisymm (half h1 hP.inj v) (half h2 hJ.inj v)
  -- the weights
  have hw : ∀ t, ((List.range m).filter fun r => !decide (t < wt T q r)).length ≤ ((List.range m).filter fun r => !decide (t < wt L q' r)).length := by
    intro t
    let R : Nat → Nat → Prop := fun a b => (∃ r, r < m ∧ T r = a) ∧ (∃ r, r < m ∧ T r = b) ∧ t < size (a &&& b)
    have hR : ∀ x y, R x y → R y x := fun x y ⟨ha, hb, hc⟩ => ⟨hb, ha, by rw [Nat.and_comm]; exact hc⟩
    have a1 : ((List.range m).filter fun r => !decide (t < wt T q r)).length ≤ (firsts R T m).length := by
      unfold firsts
      refine len_mono (fun r hr h => ?_)
      have hr : r < m := by simpa using hr
      rw [fstB_iff]
      intro s hsr hc
      obtain ⟨x, y, ⟨⟨i, hi, rfl⟩, ⟨k, hk, rfl⟩, hxy⟩, hx, hy⟩ := hc.cross (fun z => ∃ s, s < r ∧ T s = z) ⟨s, hsr, rfl⟩ (by
        rintro ⟨s', hs', e⟩
        exact hP.inj s' r hs' hr e)
      obtain ⟨i', hi', e⟩ := hx
      have hkr : r ≤ k := by
        by_cases hkr : r ≤ k
        · exact hkr
        · exact absurd ⟨k, by omega, rfl⟩ hy
      have := hP.most r (by omega) hr k i' hkr hk hi'
      rw [e, Nat.and_comm] at this
      have hh : ¬ t < wt T q r := by simpa using h
      apply hh
      unfold wt
      rw [if_pos (by omega)]
      omega
    have a2 := firsts_le hR h1
    have a3 : (firsts R L m).length ≤ ((List.range m).filter fun r => !decide (t < wt L q' r)).length := by
      unfold firsts
      refine len_mono (fun r hr h => ?_)
      have hr : r < m := by simpa using hr
      rw [fstB_iff] at h
      simp only [Bool.not_eq_true', decide_eq_false_iff_not]
      intro hlt
      unfold wt at hlt
      by_cases h0 : 0 < r
      · rw [if_pos h0] at hlt
        obtain ⟨s, hsr, e⟩ := hJ.par r h0 hr
        rw [e, Nat.and_comm] at hlt
        obtain ⟨i, hi, ei⟩ := h2 s (by omega)
        obtain ⟨k, hk, ek⟩ := h2 r hr
        exact h s hsr (Conn.step ⟨⟨i, hi, ei⟩, ⟨k, hk, ek⟩, hlt⟩)
      · rw [if_neg h0] at hlt; omega
    omega
  have hle : ∀ (T q : Nat → Nat) r, r < m → wt T q r ≤ 64 := by
    intro T q r _
    unfold wt
    split
    · exact size_le _
    · omega
  have hsum : ((List.range 64).map (links L q' m)).sum ≤ ((List.range 64).map (links T q m)).sum := by
    rw [← total, ← total, thresh _ 64 m (hle L q'), thresh _ 64 m (hle T q)]
    refine sum_mono (fun t _ => ?_)
    have e1 := len_not (fun r => decide (t < wt L q' r)) (List.range m)
    have e2 := len_not (fun r => decide (t < wt T q r)) (List.range m)
    have := hw t
    omega
  have hno : ∀ v, ¬ (∃ r, r < m ∧ (T r).testBit v = true) → links T q m v = 0 ∧ links L q' m v = 0 := by
    intro v hno
    have z : ∀ (T q : Nat → Nat), (∀ r, r < m → (T r).testBit v = false) → links T q m v = 0 := by
      intro T q h
      unfold links
      rw [List.length_eq_zero_iff, List.filter_eq_nil_iff]
      intro r hr
      rw [Nat.testBit_and, h r (by simpa using hr)]
      simp
    refine ⟨z T q (fun r hr => ?_), z L q' (fun r hr => ?_)⟩
    · cases hb : (T r).testBit v
      · rfl
      · exact absurd ⟨r, hr, hb⟩ hno
    · cases hb : (L r).testBit v
      · rfl
      · obtain ⟨s, hsm, e⟩ := h2 r hr
        exact absurd ⟨s, hsm, by rw [e]; exact hb⟩ hno
  have hup : ∀ v, (∃ r, r < m ∧ (T r).testBit v = true) → links T q m v + 1 ≤ occ T m v := by
    rintro v ⟨r, hr, hb⟩
    have hleast : ∃ r, r < m ∧ (T r).testBit v = true ∧ ∀ s, s < r → (T s).testBit v = false := by
      have : ∀ r, r < m → (T r).testBit v = true → ∃ r, r < m ∧ (T r).testBit v = true ∧ ∀ s, s < r → (T s).testBit v = false := by
        intro r
        induction r using Nat.strongRecOn with
        | _ r ih =>
          intro hr hb
          by_cases hex : ∃ s, s < r ∧ (T s).testBit v = true
          · obtain ⟨s, h1, h2⟩ := hex
            exact ih s h1 (by omega) h2
          · refine ⟨r, hr, hb, fun s hs => ?_⟩
            cases hbs : (T s).testBit v
            · rfl
            · exact absurd ⟨s, hs, hbs⟩ hex
      exact this r hr hb
    obtain ⟨r0, hr0, hb0, hfst⟩ := hleast
    have hnl : (decide (0 < r0) && (T r0 &&& q r0).testBit v) = false := by
      by_cases h0 : 0 < r0
      · obtain ⟨s, hs, e⟩ := hP.par r0 h0 hr0
        rw [Nat.testBit_and, e, hfst s hs]; simp
      · simp [h0]
    unfold links occ
    have key : ∀ l : List Nat, l.Nodup → r0 ∈ l → (l.filter fun r => decide (0 < r) && (T r &&& q r).testBit v).length + 1 ≤ (l.filter fun r => (T r).testBit v).length := by
      intro l
      induction l with
      | nil => simp
      | cons x l ih =>
        intro hn hm
        rw [List.nodup_cons] at hn
        by_cases e : x = r0
        · subst e
          have := len_mono (p := fun r => decide (0 < r) && (T r &&& q r).testBit v) (q := fun r => (T r).testBit v) (l := l) (fun y _ h => by
            rw [Nat.testBit_and] at h
            simp only [Bool.and_eq_true] at h
            exact h.2.1)
          rw [List.filter_cons_of_neg (by rw [hnl]; simp), List.filter_cons_of_pos (by simpa using hb0), List.length_cons]
          omega
        · have := ih hn.2 ((List.mem_cons.1 hm).resolve_left (fun e2 => e e2.symm))
          by_cases hp : (decide (0 < x) && (T x &&& q x).testBit v) = true
          · have hq : (T x).testBit v = true := by
              rw [Nat.testBit_and] at hp
              simp only [Bool.and_eq_true] at hp
              exact hp.2.1
            rw [List.filter_cons_of_pos (by simpa using hp), List.filter_cons_of_pos (by simpa using hq), List.length_cons, List.length_cons]
            omega
          · rw [List.filter_cons_of_neg (by simpa using hp)]
            by_cases hq : (T x).testBit v = true
            · rw [List.filter_cons_of_pos (by simpa using hq), List.length_cons]; omega
            · rw [List.filter_cons_of_neg (by simpa using hq)]; exact this
    exact key _ List.nodup_range (by simpa using hr0)
  have hvle : ∀ v ∈ List.range 64, links T q m v ≤ links L q' m v := by
    intro v _
    by_cases hex : ∃ r, r < m ∧ (T r).testBit v = true
    · have e1 := hup v hex
      obtain ⟨r, hr, hb⟩ := hex
      obtain ⟨s, hsm, e⟩ := h1 r hr
      have e2 := hJ.run v ⟨s, hsm, by rw [e]; exact hb⟩
      rw [hocc] at e1
      omega
    · rw [(hno v hex).1]; omega
  intro v hex
  have hv64 : v < 64 := by
    obtain ⟨r, hr, hb⟩ := hex
    by_cases h64 : v < 64
    · exact h64
    · rw [high_bit (hs r hr) (by omega)] at hb; cases hb
  have e1 := sum_same hvle hsum v (by simpa using hv64)
  obtain ⟨r, hr, hb⟩ := hex
  obtain ⟨s, hsm, e⟩ := h1 r hr
  have e2 := hJ.run v ⟨s, hsm, by rw [e]; exact hb⟩
  rw [e1, hocc]
  exact e2
end Go.Jt
end
section
/- Plain law of Components: the classes of the vertices that chains of edges connect. -/
namespace Go.Gr
open Go.Jt
def orAll (A : Nat → Nat) (l : List Nat) : Nat := l.foldl (fun x v => x ||| A v) 0
theorem orAll_snoc (A : Nat → Nat) (l : List Nat) (v : Nat) : orAll A (l ++ [v]) = orAll A l ||| A v := by simp [orAll]
theorem orAll_bit (A : Nat → Nat) (l : List Nat) (j : Nat) : (orAll A l).testBit j = true ↔ ∃ v ∈ l, (A v).testBit j = true := by
  unfold orAll
  have : ∀ (l : List Nat) (s : Nat), (l.foldl (fun x v => x ||| A v) s).testBit j = true ↔ s.testBit j = true ∨ ∃ v ∈ l, (A v).testBit j = true := by
    intro l
    induction l with
    | nil => intro s; simp
    | cons x l ih =>
      intro s
      rw [List.foldl_cons, ih, Nat.testBit_or, Bool.or_eq_true]
      simp only [List.mem_cons, exists_eq_or_imp]
      rw [or_assoc]
  have := this l 0
  simpa using this
theorem orAll_lt {A : Nat → Nat} (hS : Small A) (l : List Nat) : orAll A l < 18446744073709551616 := by
  unfold orAll
  have : ∀ (l : List Nat) (s : Nat), s < 18446744073709551616 → l.foldl (fun x v => x ||| A v) s < 18446744073709551616 := by
    intro l
    induction l with
    | nil => exact fun s h => h
    | cons x l ih => exact fun s h => ih _ (or_lt h (hS x))
  exact this l 0 (by omega)
def Rel (es : List (Int × Int)) (a b : Nat) : Prop := readT es a b = true
structure CInv (es : List (Int × Int)) (i comp fresh : Nat) : Prop where
  start : comp.testBit i = true
  conn : ∀ v, comp.testBit v = true → Conn (Rel es) i v
  sub : ∀ v, fresh.testBit v = true → comp.testBit v = true
  closed : ∀ v, comp.testBit v = true → fresh.testBit v = false → ∀ u, readT es v u = true → comp.testBit u = true
theorem cinv_start (es : List (Int × Int)) (i : Nat) : CInv es i (bset 0 i) (bset 0 i) := by
  have hb : ∀ v, (bset 0 i).testBit v = true ↔ i = v := by intro v; rw [bset_bit]; simp
  refine ⟨(hb i).2 rfl, fun v hv => ?_, fun v hv => hv, fun v hv hf => ?_⟩
  · rw [hb] at hv; subst hv; exact Conn.refl _
  · rw [hv] at hf; cases hf
theorem fresh_bit {a b j : Nat} (ha : a < 18446744073709551616) (hb : b < 18446744073709551616) : (andn a b).testBit j = true ↔ a.testBit j = true ∧ b.testBit j = false := by
  have hlt : andn a b < 18446744073709551616 := by unfold andn; exact and_lt _ ha
  by_cases hj : j < 64
  · rw [andn_bit _ _ _ hb hj]; simp
  · rw [high_bit hlt (by omega), high_bit ha (by omega)]; simp
theorem cinv_step {n : Nat} {es : List (Int × Int)} (h : valid n es) {i comp fresh : Nat} (hc : comp < 18446744073709551616) (hf : fresh < 18446744073709551616) (hI : CInv es i comp fresh) :
    CInv es i (comp ||| orAll (readAll es) (verts fresh)) (andn (orAll (readAll es) (verts fresh)) comp) := by
  have hS := (readAll_small es n h).1
  have hn := orAll_lt hS (verts fresh)
  have hnb : ∀ u, (orAll (readAll es) (verts fresh)).testBit u = true ↔ ∃ v, fresh.testBit v = true ∧ readT es v u = true := by
    intro u
    rw [orAll_bit]
    constructor
    · rintro ⟨v, hv, hb⟩
      exact ⟨v, (mem_verts.1 hv).2, by rw [← bt_read]; exact hb⟩
    · rintro ⟨v, hv, hb⟩
      exact ⟨v, mem_verts.2 ⟨bit_lt hf hv, hv⟩, by rw [← bt_read] at hb; exact hb⟩
  refine ⟨by rw [Nat.testBit_or, hI.start]; rfl, fun v hv => ?_, fun v hv => ?_, fun v hv hfv u hu => ?_⟩
  · rw [Nat.testBit_or, Bool.or_eq_true] at hv
    rcases hv with hv | hv
    · exact hI.conn v hv
    · obtain ⟨x, hx, hxv⟩ := (hnb v).1 hv
      exact (hI.conn x (hI.sub x hx)).trans (Conn.step hxv)
  · have := (fresh_bit hn hc).1 hv
    rw [Nat.testBit_or, this.1]; simp
  · rw [Nat.testBit_or, Bool.or_eq_true] at hv ⊢
    by_cases hvc : comp.testBit v = true
    · by_cases hvf : fresh.testBit v = true
      · exact .inr ((hnb u).2 ⟨v, hvf, hu⟩)
      · exact .inl (hI.closed v hvc (by simpa using hvf) u hu)
    · have hvn := hv.resolve_left hvc
      have := (fresh_bit (j := v) hn hc).2 ⟨hvn, by simpa using hvc⟩
      rw [hfv] at this
      cases this
theorem cinv_end {es : List (Int × Int)} {i comp : Nat} (hI : CInv es i comp 0) : ∀ v, comp.testBit v = true ↔ Conn (Rel es) i v := by
  intro v
  refine ⟨hI.conn v, fun hc => ?_⟩
  exact hc (fun x => comp.testBit x = true) hI.start (fun x y hx hxy => hI.closed x hx (by simp) y hxy)
theorem size_grows {a b : Nat} (hb : b ≠ 0) (hb64 : b < 18446744073709551616) (hd : ∀ j, b.testBit j = true → a.testBit j = false) {c : Nat} (hc : ∀ j, c.testBit j = true ↔ a.testBit j = true ∨ b.testBit j = true) : size a < size c := by
  have : verts b ≠ [] := fun e => hb (verts_empty hb64 e)
  obtain ⟨x, hx⟩ := List.exists_mem_of_ne_nil _ this
  obtain ⟨hx64, hxb⟩ := mem_verts.1 hx
  unfold size verts
  exact Go.Chordal.filter_len_lt _ _ _ (fun j _ h => (hc j).2 (.inl h)) x (by simpa using hx64) ((hc x).2 (.inr hxb)) (hd x hxb)
structure OInv (es : List (Int × Int)) (n i seen : Nat) (l : List Nat) : Prop where
  bits : ∀ v, seen.testBit v = true ↔ ∃ s ∈ l, s.testBit v = true
  cls : ∀ s ∈ l, s < 18446744073709551616 ∧ ∃ u, u < n ∧ ∀ v, s.testBit v = true ↔ Conn (Rel es) u v
  dis : l.Pairwise (fun s s' => ∀ v, s.testBit v = true → s'.testBit v = false)
  all : ∀ v, v < i → seen.testBit v = true
theorem rel_sym {n : Nat} {es : List (Int × Int)} (h : valid n es) : ∀ x y, Rel es x y → Rel es y x := fun x y => (valid_nice h).sym x y
theorem conn_lt {n : Nat} {es : List (Int × Int)} (h : valid n es) {u v : Nat} (hu : u < n) (hc : Conn (Rel es) u v) : v < n :=
  hc (· < n) hu (fun _ y _ hxy => ((valid_nice h).lt _ y hxy).2)
theorem oinv_skip {es : List (Int × Int)} {n i seen : Nat} {l : List Nat} (hI : OInv es n i seen l) (hs : seen.testBit i = true) : OInv es n (i + 1) seen l :=
  ⟨hI.bits, hI.cls, hI.dis, fun v hv => by
    by_cases e : v = i
    · rw [e]; exact hs
    · exact hI.all v (by omega)⟩
theorem oinv_add {es : List (Int × Int)} {n i seen comp : Nat} {l : List Nat} (h : valid n es) (hI : OInv es n i seen l) (hi : i < n) (hs : seen.testBit i = false) (hc : comp < 18446744073709551616) (hcc : ∀ v, comp.testBit v = true ↔ Conn (Rel es) i v) :
    OInv es n (i + 1) (seen ||| comp) (l ++ [comp]) := by
  refine ⟨fun v => ?_, fun s hs' => ?_, ?_, fun v hv => ?_⟩
  · rw [Nat.testBit_or, Bool.or_eq_true, hI.bits]
    constructor
    · rintro (⟨s, h1, h2⟩ | h1)
      · exact ⟨s, by simp [h1], h2⟩
      · exact ⟨comp, by simp, h1⟩
    · rintro ⟨s, h1, h2⟩
      rcases List.mem_append.1 h1 with h1 | h1
      · exact .inl ⟨s, h1, h2⟩
      · simp at h1; subst h1; exact .inr h2
  · rcases List.mem_append.1 hs' with h1 | h1
    · exact hI.cls s h1
    · simp at h1; subst h1; exact ⟨hc, i, hi, hcc⟩
  · rw [List.pairwise_append]
    refine ⟨hI.dis, by simp, fun s h1 s' h2 v hv => ?_⟩
    simp at h2
    subst h2
    cases hb : s'.testBit v
    · rfl
    · exfalso
      obtain ⟨_, u, _, hu⟩ := hI.cls s h1
      have c1 := (hu v).1 hv
      have c2 := (hcc v).1 hb
      have := (hI.bits i).2 ⟨s, h1, (hu i).2 (c1.trans (c2.symm (rel_sym h)))⟩
      rw [hs] at this
      cases this
  · rw [Nat.testBit_or, Bool.or_eq_true]
    by_cases e : v = i
    · right; rw [e, hcc]; exact Conn.refl _
    · exact .inl (hI.all v (by omega))
/-- What the statements ask of the components. -/
structure CompEs (n : Nat) (es : List (Int × Int)) (ls : List (List Int)) : Prop where
  asc : ∀ l ∈ ls, l.Pairwise (· < ·)
  lt : ∀ l ∈ ls, ∀ x ∈ l, 0 ≤ x ∧ x < n
  dis : ls.Pairwise (fun l l' => ∀ x ∈ l, x ∉ l')
  all : ∀ v : Nat, v < n → ∃ l ∈ ls, (v : Int) ∈ l
  conn : ∀ l ∈ ls, ∀ u ∈ l, ∀ v : Nat, (v : Int) ∈ l ↔ Conn (Rel es) u.toNat v
theorem comp_es {es : List (Int × Int)} {n seen : Nat} {l : List Nat} (h : valid n es) (hI : OInv es n n seen l) : CompEs n es (l.map vertsI) := by
  have hbit : ∀ s ∈ l, ∀ v : Nat, (v : Int) ∈ vertsI s ↔ s.testBit v = true := by
    intro s hs v
    rw [mem_vertsI]
    exact ⟨fun h => by simpa using h.2.2, fun hb => ⟨by omega, by have := bit_lt (hI.cls s hs).1 hb; omega, by simpa using hb⟩⟩
  refine ⟨fun m hm => ?_, fun m hm x hx => ?_, ?_, fun v hv => ?_, fun m hm u hu v => ?_⟩
  · obtain ⟨s, _, rfl⟩ := List.mem_map.1 hm
    exact vertsZ_asc s
  · obtain ⟨s, hs, rfl⟩ := List.mem_map.1 hm
    have h1 := mem_vertsI.1 hx
    obtain ⟨_, u, hu, hc⟩ := hI.cls s hs
    have := conn_lt h hu ((hc _).1 h1.2.2)
    omega
  · rw [List.pairwise_map]
    refine List.Pairwise.imp_of_mem (fun {s s'} _ _ hd x hx hx' => ?_) hI.dis
    have h1 := mem_vertsI.1 hx
    have h2 := mem_vertsI.1 hx'
    rw [hd _ h1.2.2] at h2
    cases h2.2.2
  · obtain ⟨s, hs, hb⟩ := (hI.bits v).1 (hI.all v hv)
    exact ⟨vertsI s, List.mem_map.2 ⟨s, hs, rfl⟩, (hbit s hs v).2 hb⟩
  · obtain ⟨s, hs, rfl⟩ := List.mem_map.1 hm
    have h1 := mem_vertsI.1 hu
    obtain ⟨_, r, hr, hc⟩ := hI.cls s hs
    have c1 := (hc _).1 h1.2.2
    rw [hbit s hs, hc]
    exact ⟨fun c => (c1.symm (rel_sym h)).trans c, fun c => c1.trans c⟩
end Go.Gr
end
section
/- Valid, Adjacent, Neighbors, Order; Extend and Cliques where they refuse; the statements' has. -/
namespace Go.Proofs.Tg.Gx
open Go.RowKit Go.Gr
set_option maxHeartbeats 1000000
set_option maxRecDepth 100000
theorem components_bad (n : Int) (E : Option Addr) (c : Nat) (es : List (Int × Int)) (w : World) (hE : EdgesAt w E es) (hl : es.length ≤ 1000000) (hv : ¬ valid n es) :
    Calls Tryz.prog 9 #[.agg #[.int .i64 n, .slice E es.length c]] w fun e w' => e = .returned (.tuple #[.slice none 0 0, .int .i64 1]) ∧ Below w.heap.size w w' := by
  have hr := read_all n E c es false (w.alloc (.cells #[.int .i64 n, .slice E es.length c] 30)) (hE.keep ((Below.refl _ _).alloc (Nat.le_refl _) _)) hl (by simp [hv])
  have hbA : Below w.heap.size w (w.alloc (.cells #[.int .i64 n, .slice E es.length c] 30)) := (Below.refl _ _).alloc (Nat.le_refl _) _
  have HR := Lib.hid hr
  clear hr hv
  go_enter Tryz.func9, Tryz.ntmps9
  go_wp2_with (first
    | (go_at_call 27; refine HR.out.mono ?_; rintro e w1 ⟨A, hAs, rfl, -, hb1⟩)
    | (refine adj_alloc _ _ _ _ ?_)
    | (refine wpList_store_row rfl 76 (.tmp 4) (.tmp 17) rfl w1.heap.size (adjA A) rfl rfl 76 (adjA fun _ => 0) (Blk.new w1 76 _) (size56 _) (by simp only [adjA_size]) (adj_one _) ?_
       have hbw := below_setRow ((hbA.trans (hb1.mono (by simp))).alloc (by have := hb1.size; simp at this; omega) (.cells (adjA fun _ => 0) 76)) (g := w1.heap.size) (by have := hb1.size; simp at this; omega) (adjA A)
       generalize (w1.alloc (.cells (adjA fun _ => 0) 76)).setRow w1.heap.size (adjA A) = W at hbw ⊢))
  go_ret2
  exact ⟨rfl, hbw⟩
end Go.Proofs.Tg.Gx
end
section
/- Components. -/
namespace Go.Proofs.Tg.Gx
open Go.RowKit Go.Gr
set_option maxHeartbeats 4000000
set_option maxRecDepth 100000
theorem with_zero (i : Nat) (w : World) (hi : i < 64) : Calls Tryz.prog 29 #[.int .u64 0, .int .i64 i] w fun e w' => e = .returned (.int .u64 (bset 0 i : Nat)) ∧ w = w' := with_any 0 i w (by omega) hi
/-- What Components returns of a valid graph. -/
def RetComp (n : Nat) (es : List (Int × Int)) (w : World) (e : Ending) (w' : World) : Prop :=
  ∃ ls V d seen sets, OInv es n n seen sets ∧ ls = sets.map vertsI ∧ e = .returned (.tuple #[.slice V (List.length ls) d, .int .i64 0]) ∧ Lists w' V ls ∧ ls.length ≤ n ∧ Below w.heap.size w w'
theorem lists_of_rows {w : World} {base m cr : Nat} {R : Option Addr} {F : Nat → Option Addr × Nat} {ls : Nat → List Int} (hR : w.ownsRow base 50 1 (.slice R m cr) m ((List.range m).map (enc F ls))) (hRows : RowsIn w base m F ls) : Lists w R ((List.range m).map ls) := by
  have hg : ∀ i, i < m → ((List.range m).map ls).getD i [] = ls i := by intro i hi; simp [hi]
  refine ⟨F, ?_, fun i hi => ?_⟩
  · have := Sl.own hR
    have e : (List.range ((List.range m).map ls).length).map (fun i => Value.slice (F i).1 (((List.range m).map ls).getD i []).length (F i).2) = (List.range m).map (enc F ls) := by
      rw [List.length_map, List.length_range]
      apply List.map_congr_left
      intro i hi
      rw [hg i (by simpa using hi)]; rfl
    rw [e, List.length_map, List.length_range]
    exact this
  · have hi' : i < m := by simpa using hi
    rw [hg i hi']
    exact Sl.own (hRows i hi')
theorem components_ok (n : Nat) (E : Option Addr) (c : Nat) (es : List (Int × Int)) (w : World) (hE : EdgesAt w E es) (hl : es.length ≤ 1000000) (hv : valid n es) (hT : Tab w) :
    Calls Tryz.prog 9 #[.agg #[.int .i64 n, .slice E es.length c]] w (RetComp n es w) := by
  obtain ⟨j0, hj, hjz0, hjz1, hjz2⟩ := info_parts rows_info
  have hr := read_all n E c es true (w.alloc (.cells #[.int .i64 n, .slice E es.length c] 30)) (hE.keep ((Below.refl _ _).alloc (Nat.le_refl _) _)) hl (by simp [hv])
  have hsm := (readAll_small es n hv).1
  have hn : n ≤ 64 := by have := hv.2.1; omega
  have hbA : Below w.heap.size w (w.alloc (.cells #[.int .i64 n, .slice E es.length c] 30)) := (Below.refl _ _).alloc (Nat.le_refl _) _
  have hB := Blk.new w 30 #[.int .i64 n, .slice E es.length c]
  have HR := Lib.hid hr
  have HB := Lib.hid hB
  have HV := Lib.hid hv
  clear hr hv hB
  go_enter Tryz.func9, Tryz.ntmps9
  go_wp2_with (first
    | (go_at_call 27; refine HR.out.mono ?_; rintro e w1 ⟨A, hAs, rfl, hAe, hb1⟩; obtain rfl := hAe rfl; clear hAe)
    | (refine adj_alloc _ _ _ _ ?_)
    | (refine wpList_store_row rfl 76 (.tmp 4) (.tmp 17) rfl w1.heap.size (adjA (readAll es)) rfl rfl 76 (adjA fun _ => 0) (Blk.new w1 76 _) (size56 _) (by simp only [adjA_size]) (adj_one _) ?_
       have hz1 : w.heap.size + 1 ≤ w1.heap.size := by have := hb1.size; simp at this; omega
       have hA1 := blk_setRow (Blk.new w1 76 (adjA fun _ => 0)) (adjA (readAll es))
       have hB1 := blk_setRow_far (Blk.alloc (HB.out.keep hb1 (Blk.lt HB.out)) (.cells (adjA fun _ => 0) 76)) (g' := w1.heap.size) (by omega) (adjA (readAll es))
       have hbw := below_setRow ((hbA.trans (hb1.mono (by simp))).alloc (by omega) (.cells (adjA fun _ => 0) 76)) (g := w1.heap.size) (by omega) (adjA (readAll es))
       have c0 := hB1.cell 0
       simp at c0
       generalize (w1.alloc (.cells (adjA fun _ => 0) 76)).setRow w1.heap.size (adjA (readAll es)) = W at hA1 hB1 hbw c0 ⊢
       generalize w1.heap.size = g at hA1 hz1 ⊢
       clear hb1))
  clear HR HB hbA c0 hB1
  have HA : Hid (∀ i, readAll es i < 18446744073709551616) := Lib.hid hsm
  go_loopw [23, 7, 6] (fun i t v wr => ∃ (k seen m : Nat) (R : Option Addr) (cr : Nat) (F : Nat → Option Addr × Nat) (ls : Nat → List Int) (d : List Nat), i = .int .i64 k ∧ k ≤ n ∧ t = .int .u64 seen ∧ seen < 18446744073709551616 ∧ v = .slice R m cr ∧ m ≤ cr ∧ m ≤ k ∧
      wr.ownsRow W.heap.size 50 1 (.slice R m cr) m ((List.range m).map (enc F ls)) ∧ RowsIn wr W.heap.size m F ls ∧ Hid (OInv es n k seen d) ∧ Hid ((List.range m).map ls = d.map vertsI) ∧ Below W.heap.size W wr) (fun i _ _ _ => n - (intOf i).toNat)
  case atStart => exact ⟨0, 0, 0, none, 0, fun _ => (none, 0), fun _ => [], [], rfl, Nat.zero_le _, rfl, by omega, rfl, Nat.le_refl _, Nat.le_refl _, World.ownsRow_nil _ _ _ _, fun i hi => by omega, Lib.hid ⟨by simp, by simp, by simp, fun v hv => by omega⟩, Lib.hid rfl, Below.refl _ _⟩
  case round =>
    obtain ⟨wo, rfl⟩ : ∃ wo : World, wo = wr := ⟨_, rfl⟩
    obtain ⟨k, seen, m, R, cr, F, ls, d, rfl, hk, rfl, hsl, rfl, hmc, hmk, hR, hRows, HO, HL, hb⟩ := hrel
    by_cases hkn : k < n
    · have hkb : decide ((k : Int) < (n : Int)) = true := by simp; omega
      cases hsk : seen.testBit k
      · have HSK := Lib.hid hsk
        have hgW := Blk.lt hA1
        have hA2 := hA1.keep hb hgW
        clear hsk
        go_wp2_with (first
          | (go_at_call 28; refine (has_any _ _ _ hsl (by omega)).mono ?_; rintro e w' ⟨he, rfl⟩; rw [HSK.out] at he; subst he)
          | (go_at_call 29; refine (with_zero _ _ (by omega)).mono ?_; rintro e w' ⟨rfl, rfl⟩))
        have hb0 : bset 0 k < 18446744073709551616 := bset_lt (by omega) (by omega)
        have HI0 := Lib.hid (cinv_start es k)
        generalize bset 0 k = b0 at hb0 HI0 ⊢
        go_loopw [10, 9] (fun f s wr => ∃ fresh comp : Nat, f = .int .u64 fresh ∧ s = .int .u64 comp ∧ fresh < 18446744073709551616 ∧ comp < 18446744073709551616 ∧ Hid (CInv es k comp fresh) ∧ Below wo.heap.size wo wr) (fun f s _ => 2 * (64 - size (intOf s).toNat) + (if (intOf f).toNat = 0 then 0 else 1))
        case atStart => exact ⟨b0, b0, rfl, rfl, hb0, hb0, HI0, Below.refl _ _⟩
        case round =>
          clear HI0 hb0
          obtain ⟨fresh, comp, rfl, rfl, hfl, hcl, HI, hb2⟩ := hrel
          by_cases hf0 : fresh = 0
          · subst hf0
            have hbe : (((0 : Nat) : Int) != 0) = false := rfl
            have HE := Lib.hid (cinv_end HI.out)
            have hor := u64_or_nat seen comp hsl hcl
            have hsz := hb.size
            have hsz2 := hb2.size
            clear HI
            go_wp2_with (first
              | (go_at_call 30; refine (verts_any _ _ hcl (hT.below (below_all (below_all hbw hb) hb2) hT.1)).mono ?_; rintro e w6 ⟨V3, c3, rfl, hVc3, hV3, hb6⟩
                 have hR6 := own_below (own_below hR hb2 (Nat.le_refl _)) hb6 (Nat.le_refl _)
                 have hz6 : W.heap.size ≤ w6.heap.size := by have := hb6.size; omega
                 clear hVc3)
              | (at_builtin; refine wpList_append_own _ rfl _ _ 25 rfl W.heap.size 50 j0 (.slice none 0 0) 1 24 Tryz.underlying25 hj hjz0 hjz1 hjz2 rfl (by decide) (.slice R m cr) m _ rfl (hR6.alloc _) ⟨w6.heap.size, 0, none⟩ 1 1 [.slice V3 (verts comp).length c3] rfl rfl ?c1 ?c2 ?c3 ?c4 ?c5 ?_
                 case c1 => exact cell_one_new _ _ _
                 case c2 => simp [Value.oneCell']
                 case c3 => simp only [maxLen]; omega
                 case c4 => omega
                 case c5 => simp; omega
                 intro v' w7 hR7 hg7 _
                 obtain ⟨R2, cr2, hv2, hle2, _⟩ := Sl.of_own hR7
                 subst hv2))
            go_roundw
            case rel =>
              have hVI : ((verts comp).map vn) = (vertsI comp).map vi := by simp [vertsI, vn, vi]
              have hvl : (verts comp).length = (vertsI comp).length := by simp [vertsI]
              have hV7 : w7.ownsRow W.heap.size 3 1 (.slice V3 (vertsI comp).length c3) (vertsI comp).length ((vertsI comp).map vi) := by
                rw [← hvl, ← hVI]
                exact own_base ((hV3.alloc (.cells #[.slice V3 (verts comp).length c3] 50)).kept hg7 (own_ne hV3 hR6 (by decide))) (by omega)
              have hRw0 : RowsIn w6 W.heap.size m F ls := (hRows.below hb2 (Nat.le_refl _)).below hb6 (Nat.le_refl _)
              have hRw : RowsIn w7 W.heap.size m F ls := (hRw0.alloc (.cells #[.slice V3 (verts comp).length c3] 50)).kept hg7 (fun i hi => own_ne (hRw0 i hi) hR6 (by decide))
              refine ⟨k + 1, seen ||| comp, m + 1, R2, cr2, snocF F m (V3, c3), snocF ls m (vertsI comp), d ++ [comp], by go_num, by omega, rfl, or_lt hsl hcl, rfl, hle2, by omega, ?_, RowsIn.snoc (x := (V3, c3)) hRw hV7, Lib.hid (oinv_add HV.out HO.out hkn HSK.out hcl HE.out), Lib.hid ?_, ?_⟩
              · rw [map_snoc, ← hvl]; exact hR7
              · rw [List.range_succ, List.map_append, List.map_append, ← HL.out]
                congr 1
                · apply List.map_congr_left
                  intro i hi
                  have : i < m := by simpa using hi
                  simp [snocF]; omega
                · simp [snocF]
              · exact ((below_all (below_all hb hb2) hb6).alloc (by have := hb6.size; omega) _).grown hg7 (by simp; omega) (fun q hq => by have := (hR6.lt q hq).1; omega)
            case measure => simp [intOf]; omega
          · have hbe : ((fresh : Int) != 0) = true := by simp; exact hf0
            have hA3 := hA2.keep hb2 (Nat.lt_of_lt_of_le hgW hb.size)
            have hsz := hb.size
            have hsz2 := hb2.size
            have HF0 := Lib.hid hf0
            clear hf0
            go_wp2_with (go_at_call 30; refine (verts_any _ _ hfl (hT.below (below_all (below_all hbw hb) hb2) hT.1)).mono ?_; rintro e w6 ⟨V3, c3, rfl, hVc3, hV3, hb6⟩)
            have hA6 := hA3.keep hb6 (by omega)
            have hV6 := Sl.own hV3
            have HVM : Hid (∀ x ∈ verts fresh, x < 64) := Lib.hid (fun x hx => (mem_verts.1 hx).1)
            have HVL : Hid ((verts fresh).length ≤ 64) := Lib.hid (size_le fresh)
            obtain ⟨vl, hvl⟩ : ∃ vl, verts fresh = vl := ⟨_, rfl⟩
            rw [hvl] at hV6 HVM HVL
            have HVE := Lib.hid hvl
            rw [hvl]
            clear hvl hV3 hA3 hVc3
            have hvl64 := HVL.out
            go_loop [38, 11] (fun i x => ∃ q : Nat, i = .int .i64 q ∧ q ≤ vl.length ∧ x = .int .u64 (orAll (readAll es) (vl.take q) : Nat)) (fun i _ => vl.length - (intOf i).toNat)
            case atStart => exact ⟨0, rfl, Nat.zero_le _, rfl⟩
            case round =>
              obtain ⟨q, rfl, hq, rfl⟩ := hrel
              by_cases hql : q < vl.length
              · obtain ⟨ad, rfl, hcx⟩ := Nats.at hV6 hql
                have HT : Hid (orAll (readAll es) (vl.take (q + 1)) = orAll (readAll es) (vl.take q) ||| readAll es vl[q]) := Lib.hid (by rw [List.take_succ_eq_append_getElem hql, orAll_snoc])
                have hx64 := HVM.out vl[q] (List.getElem_mem _)
                have hol := orAll_lt HA.out (vl.take q)
                generalize vl[q] = x at hcx HT hx64
                have hcA := AdjAt.cell hA6 hx64
                have hox := u64_or_nat _ _ hol (HA.out x)
                generalize orAll (readAll es) (vl.take q) = o at HT hol hox ⊢
                generalize readAll es x = ax at HT hcA hox
                go_wp2
                go_round
                case rel => exact ⟨q + 1, by go_num, by omega, by rw [HT.out]⟩
                case measure => simp [intOf]; omega
              · obtain rfl : q = vl.length := by omega
                rw [List.take_length]
                have HI2 := cinv_step HV.out hcl hfl HI.out
                rw [HVE.out] at HI2
                have hol := orAll_lt HA.out vl
                have HI2 := Lib.hid HI2
                generalize orAll (readAll es) vl = o at HI2 hol ⊢
                have hor := u64_or_nat comp o hcl hol
                have han := u64_andNot_nat o comp hol hcl
                have hanl : andn o comp < 18446744073709551616 := by unfold andn; exact and_lt _ hol
                have hoc := or_lt hcl hol
                have HME : Hid (2 * (64 - size (comp ||| o)) + (if andn o comp = 0 then 0 else 1) < 2 * (64 - size comp) + 1) := Lib.hid (by
                  by_cases e : andn o comp = 0
                  · rw [if_pos e]
                    have : size comp ≤ size (comp ||| o) := by
                      unfold size verts
                      exact Go.Jt.len_mono (fun x _ h => by rw [Nat.testBit_or, h]; rfl)
                    omega
                  · rw [if_neg e]
                    have := size_grows (a := comp) (b := andn o comp) (c := comp ||| o) e hanl (fun j h => ((fresh_bit hol hcl).1 h).2) (fun j => by
                      rw [Nat.testBit_or, Bool.or_eq_true, fresh_bit hol hcl]
                      constructor
                      · rintro (h | h)
                        · exact .inl h
                        · by_cases h2 : comp.testBit j = true
                          · exact .inl h2
                          · exact .inr ⟨h, by simpa using h2⟩
                      · rintro (h | h)
                        · exact .inl h
                        · exact .inr h.1)
                    have h3 := size_le (comp ||| o)
                    omega)
                clear HI
                go_wp2
                go_roundw
                case rel => exact ⟨andn o comp, comp ||| o, rfl, rfl, hanl, hoc, HI2, below_all hb2 hb6⟩
                case measure =>
                  have h1 := HME.out
                  have h2 := HF0.out
                  unfold andn at h1
                  simp only [intOf] at *
                  simp [h2]
                  exact h1
      · have HSK := Lib.hid hsk
        clear hsk
        go_wp2_with (go_at_call 28; refine (has_any _ _ _ hsl (by omega)).mono ?_; rintro e w' ⟨he, rfl⟩; rw [HSK.out] at he; subst he)
        go_roundw
        case rel => exact ⟨k + 1, seen, m, R, cr, F, ls, d, by go_num, by omega, rfl, hsl, rfl, hmc, by omega, hR, hRows, Lib.hid (oinv_skip HO.out HSK.out), HL, hb⟩
        case measure => simp [intOf]; omega
    · obtain rfl : k = n := by omega
      have hkb : decide ((k : Int) < (k : Int)) = false := by simp
      go_wp2
      go_ret2
      have hLs := lists_of_rows hR hRows
      refine ⟨(List.range m).map ls, R, cr, seen, d, HO.out, HL.out, ?_, hLs, by simpa using hmk, below_all hbw hb⟩
      rw [List.length_map, List.length_range]
      rfl
end Go.Proofs.Tg.Gx
end
