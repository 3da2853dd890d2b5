/- Parts of the proof: GPN, GXO, GPO, SP3, SP4, SM3, WK1. -/
import Derived.ChangeKeys
import Derived.Test.YtpiedheafppnhaaGreatDoorMSF2
import Derived.Test.YtpiedheafppnhaaGreatDoorMSF3
import Derived.Test.YtpiedheafppnhaaGreatDoorMSF4
import Derived.Test.YtpiedheafppnhaaGreatDoorMSF5
import Derived.Test.YtpiedheafppnhaaGreatDoorMSF6
import Derived.Test.YtpiedheafppnhaaGreatDoorMSF8
section
/- Plain: the reference's maximal cliques are the library's. -/
namespace Go.Gr
theorem common_sub {a b : List Int} (hb : b.Nodup) : common a b = a.length ↔ ∀ x ∈ a, x ∈ b := by
  have h1 : common a b = (a.filter fun x => decide (x ∈ b)).length := by
    unfold common
    induction a with
    | nil => rfl
    | cons x l ih =>
      rw [List.map_cons, List.sum_cons, ih]
      by_cases hx : x ∈ b
      · rw [List.filter_cons_of_pos (by simpa using hx), List.Nodup.count hb, if_pos hx]; simp; omega
      · rw [List.filter_cons_of_neg (by simpa using hx), List.count_eq_zero_of_not_mem hx]; simp
  rw [h1, List.length_filter_eq_length_iff]
  simp
theorem natsI_mem {l : List Nat} {x : Nat} : (x : Int) ∈ natsI l ↔ x ∈ l := by
  unfold natsI
  rw [List.mem_map]
  exact ⟨fun ⟨y, hy, e⟩ => by rwa [show x = y by omega], fun h => ⟨x, h, rfl⟩⟩
theorem natsI_sub {a b : List Nat} : (∀ x ∈ natsI a, x ∈ natsI b) ↔ ∀ x ∈ a, x ∈ b := by
  constructor
  · intro h x hx
    exact natsI_mem.1 (h _ (natsI_mem.2 hx))
  · intro h x hx
    unfold natsI at hx
    obtain ⟨y, hy, rfl⟩ := List.mem_map.1 hx
    exact natsI_mem.2 (h y hy)
section
variable {n : Nat} {es : List (Int × Int)}
theorem kept_mem (h : valid n es) (hC : Chord (readT es) n) : ((keptI (maxTo (readT es) n n).2 (maxTo (readT es) n n).2.length).map fun i => (maxTo (readT es) n n).2.getD i []).Nodup ∧
    ∀ X, X ∈ ((keptI (maxTo (readT es) n n).2 (maxTo (readT es) n n).2.length).map fun i => (maxTo (readT es) n n).2.getD i []) ↔ ∃ s, s < 18446744073709551616 ∧ MaxClq (readT es) n s ∧ vertsI s = X := by
  have hN := valid_nice h
  have hn : n ≤ 64 := by have := h.2.1; omega
  obtain ⟨l, _, hS⟩ := chord_steps hN hC n (Nat.le_refl _)
  generalize (maxTo (readT es) n n).2 = sets at hS ⊢
  have hall := steps_all hS
  have hsl := hS.slen
  -- the sets as lists of numbers
  have hex : ∀ j, j < n → ∃ s : List Nat, sets.getD j [] = natsI s ∧ s.Pairwise (· < ·) ∧ ∀ x, x ∈ s ↔ x < n ∧ (x = l.getD j 0 ∨ (readT es (l.getD j 0) x = true ∧ x ∉ l.take j)) := by
    intro j hj
    obtain ⟨s, e, h1, h2⟩ := hS.sets j (by rw [hS.len]; exact hj) (by omega)
    have e1 : l[j]'(by rw [hS.len]; exact hj) = l.getD j 0 := by simp [show j < l.length by rw [hS.len]; exact hj]
    refine ⟨s, ?_, h1, fun x => by rw [h2, e1]⟩
    rw [List.getD_eq_getElem?_getD, List.getElem?_eq_getElem (by omega)]
    exact e
  obtain ⟨S, hSS⟩ : ∃ S : Nat → List Nat, ∀ j, j < n → sets.getD j [] = natsI (S j) ∧ (S j).Pairwise (· < ·) ∧ ∀ x, x ∈ S j ↔ x < n ∧ (x = l.getD j 0 ∨ (readT es (l.getD j 0) x = true ∧ x ∉ l.take j)) :=
    ⟨fun j => if hj : j < n then Classical.choose (hex j hj) else [], fun j hj => by simp only [hj, dite_true]; exact Classical.choose_spec (hex j hj)⟩
  have hgm : ∀ j, j < n → l.getD j 0 ∈ l := fun j hj => Go.Proofs.Tg.Gx.getD_mem (by rw [hS.len]; exact hj)
  have hglt : ∀ j, j < n → l.getD j 0 < n := fun j hj => hS.lt _ (hgm j hj)
  have hself : ∀ j, j < n → l.getD j 0 ∈ S j := fun j hj => ((hSS j hj).2.2 _).2 ⟨hglt j hj, .inl rfl⟩
  have hidx : ∀ v, v < n → ∃ j, j < n ∧ l.getD j 0 = v := by
    intro v hv
    obtain ⟨j, hj, e⟩ := List.getElem_of_mem ((hall v).2 hv)
    exact ⟨j, by rw [← hS.len]; exact hj, by simp [hj, e]⟩
  have htake : ∀ i j, i < n → j < n → (l.getD i 0 ∈ l.take j ↔ i < j) := by
    intro i j hi hj
    have hil : i < l.length := by rw [hS.len]; exact hi
    constructor
    · intro hm
      obtain ⟨k, hk, e⟩ := List.getElem_of_mem hm
      rw [List.length_take] at hk
      rw [List.getElem_take] at e
      have e1 : l.getD i 0 = l[i] := by simp [hil]
      rw [e1] at e
      rcases Nat.lt_trichotomy k i with h1 | h1 | h1
      · exact absurd e (List.pairwise_iff_getElem.1 hS.nd k i (by omega) hil h1)
      · omega
      · exact absurd e.symm (List.pairwise_iff_getElem.1 hS.nd i k hil (by omega) h1)
    · intro hij
      have e1 : l.getD i 0 = l[i] := by simp [hil]
      rw [e1]
      exact List.mem_take_iff_getElem.2 ⟨i, by omega, rfl⟩
  have hclq : ∀ j, j < n → ∀ a b, a ∈ S j → b ∈ S j → a ≠ b → readT es a b = true := by
    intro j hj a b ha hb hne
    obtain ⟨ha1, ha2⟩ := ((hSS j hj).2.2 a).1 ha
    obtain ⟨hb1, hb2⟩ := ((hSS j hj).2.2 b).1 hb
    rcases ha2 with rfl | ⟨ha2, ha3⟩
    · rcases hb2 with rfl | ⟨hb2, _⟩
      · exact absurd rfl hne
      · exact hb2
    · rcases hb2 with rfl | ⟨hb2, hb3⟩
      · exact hN.sym _ _ ha2
      · have e1 : l[j]'(by rw [hS.len]; exact hj) = l.getD j 0 := by simp [show j < l.length by rw [hS.len]; exact hj]
        exact hS.elim j (by rw [hS.len]; exact hj) a b ha1 hb1 ha3 hb3 hne (by rw [e1]; exact ha2) (by rw [e1]; exact hb2)
  have hnd : ∀ j, j < n → (natsI (S j)).Nodup := by
    intro j hj
    unfold natsI
    rw [List.nodup_iff_pairwise_ne, List.pairwise_map]
    exact (hSS j hj).2.1.imp (fun h e => by omega)
  have hkeep : ∀ i, i < n → (keepI sets i = true ↔ ∀ k, k < n → k ≠ i → ¬ ∀ x ∈ S i, x ∈ S k) := by
    intro i hi
    unfold keepI
    rw [List.all_eq_true]
    have hone : ∀ k, k < n → (keepP sets i k = true ↔ (k ≠ i → ¬ ∀ x ∈ S i, x ∈ S k)) := by
      intro k hk
      unfold keepP
      rw [(hSS i hi).1, (hSS k hk).1, Bool.or_eq_true, Bool.not_eq_true', decide_eq_true_eq, decide_eq_false_iff_not, common_sub (hnd k hk), natsI_sub]
      by_cases e : k = i
      · simp [e]
      · simp [e]
    constructor
    · intro hh k hk
      exact (hone k hk).1 (hh k (by simp; omega))
    · intro hh k hk
      have hk : k < n := by have : k < sets.length := by simpa using hk
                            omega
      exact (hone k hk).2 (hh k hk)
  have hset : ∀ j, j < n → asc (natsI (S j)) := by
    intro j hj
    have hp : (natsI (S j)).Pairwise (· < ·) := by
      unfold natsI
      rw [List.pairwise_map]
      exact (hSS j hj).2.1.imp (fun h => by omega)
    have hr : ∀ x ∈ natsI (S j), 0 ≤ x ∧ x < 64 := by
      intro x hx
      unfold natsI at hx
      obtain ⟨y, hy, rfl⟩ := List.mem_map.1 hx
      have := (((hSS j hj).2.2 y).1 hy).1
      omega
    intro i hi _
    exact ⟨hr _ (List.getElem_mem _), fun h0 => List.pairwise_iff_getElem.1 hp (i - 1) i (by omega) hi (by omega)⟩
  have hbit : ∀ j, j < n → ∀ v : Nat, (setOf (natsI (S j))).testBit v = true ↔ v ∈ S j := by
    intro j hj v
    rw [setOf_bit (fun x hx => (asc_range (hset j hj) x hx).1), natsI_mem]
  have hmemK : ∀ X, X ∈ ((keptI sets sets.length).map fun i => sets.getD i []) ↔ ∃ i, i < n ∧ keepI sets i = true ∧ natsI (S i) = X := by
    intro X
    rw [List.mem_map]
    unfold keptI
    constructor
    · rintro ⟨i, hi, e⟩
      rw [List.mem_filter, List.mem_range] at hi
      have hin : i < n := by omega
      exact ⟨i, hin, hi.2, by rw [← e]; exact (hSS i hin).1.symm⟩
    · rintro ⟨i, hi, h1, e⟩
      exact ⟨i, List.mem_filter.2 ⟨by simp; omega, h1⟩, by simp only [(hSS i hi).1]; exact e⟩
  refine ⟨?_, fun X => ?_⟩
  · rw [List.nodup_iff_pairwise_ne, List.pairwise_map]
    have hnk : (keptI sets sets.length).Nodup := by
      unfold keptI
      exact List.Pairwise.filter _ List.nodup_range
    refine List.Pairwise.imp_of_mem (fun {a b} ha hb hne e => ?_) hnk
    unfold keptI at ha hb
    rw [List.mem_filter, List.mem_range] at ha hb
    have han : a < n := by omega
    have hbn : b < n := by omega
    rw [(hSS a han).1, (hSS b hbn).1] at e
    refine (hkeep a han).1 ha.2 b hbn (fun e2 => hne e2.symm) (fun x hx => ?_)
    exact natsI_mem.1 (by rw [← e]; exact natsI_mem.2 hx)
  · rw [hmemK]
    constructor
    · rintro ⟨i, hi, hk, rfl⟩
      refine ⟨setOf (natsI (S i)), setOf_small (hset i hi), ⟨fun v hv => ?_, fun u v hu hv hne => ?_, fun v hv hadj => ?_, ?_⟩, vertsZ_setOf (hset i hi)⟩
      · exact (((hSS i hi).2.2 v).1 ((hbit i hi v).1 hv)).1
      · exact hclq i hi u v ((hbit i hi u).1 hu) ((hbit i hi v).1 hv) hne
      · rw [hbit i hi]
        obtain ⟨j, hj, rfl⟩ := hidx v hv
        have hadj' : ∀ u ∈ S i, u ≠ l.getD j 0 → readT es u (l.getD j 0) = true := fun u hu hne => hadj u ((hbit i hi u).2 hu) hne
        rcases Nat.lt_trichotomy j i with hji | hji | hji
        · exfalso
          refine (hkeep i hi).1 hk j hj (by omega) (fun x hx => ?_)
          rw [(hSS j hj).2.2]
          obtain ⟨hx1, hx2⟩ := ((hSS i hi).2.2 x).1 hx
          refine ⟨hx1, ?_⟩
          obtain ⟨q, hq, rfl⟩ := hidx x hx1
          by_cases e : l.getD q 0 = l.getD j 0
          · exact .inl e
          · right
            refine ⟨hN.sym _ _ (hadj' _ hx e), ?_⟩
            rw [htake q j hq hj]
            have : i ≤ q := by
              rcases hx2 with e2 | ⟨_, h3⟩
              · have : ¬ q < i := by rw [← htake q i hq hi, e2, htake i i hi hi]; omega
                omega
              · rw [htake q i hq hi] at h3; omega
            omega
        · subst hji; exact hself j hj
        · rw [(hSS i hi).2.2]
          refine ⟨hglt j hj, .inr ⟨?_, by rw [htake j i hj hi]; omega⟩⟩
          refine hadj' _ (hself i hi) (fun e => ?_)
          have : j < i ∨ ¬ j < i := Classical.em _
          have h1 : l.getD i 0 ∈ l.take j := (htake i j hi hj).2 hji
          rw [e] at h1
          have := (htake j j hj hj).1 h1
          omega
      · exact ⟨_, (hbit i hi _).2 (hself i hi)⟩
    · rintro ⟨s, hs, hM, rfl⟩
      have hleast : ∃ i, i < n ∧ s.testBit (l.getD i 0) = true ∧ ∀ j, j < i → s.testBit (l.getD j 0) = false := by
        obtain ⟨v, hv⟩ := hM.one
        obtain ⟨j, hj, rfl⟩ := hidx v (hM.lt v hv)
        have : ∀ j, j < n → s.testBit (l.getD j 0) = true → ∃ i, i < n ∧ s.testBit (l.getD i 0) = true ∧ ∀ j, j < i → s.testBit (l.getD j 0) = false := by
          intro j
          induction j using Nat.strongRecOn with
          | _ j ih =>
            intro hj hb
            by_cases hh : ∃ q, q < j ∧ s.testBit (l.getD q 0) = true
            · obtain ⟨q, h1, h2⟩ := hh
              exact ih q h1 (by omega) h2
            · refine ⟨j, hj, hb, fun q hq => ?_⟩
              cases hbq : s.testBit (l.getD q 0)
              · rfl
              · exact absurd ⟨q, hq, hbq⟩ hh
        exact this j hj hv
      obtain ⟨i, hi, hib, hbef⟩ := hleast
      have hsub : ∀ x, s.testBit x = true → x ∈ S i := by
        intro x hx
        rw [(hSS i hi).2.2]
        refine ⟨hM.lt x hx, ?_⟩
        by_cases e : x = l.getD i 0
        · exact .inl e
        · right
          refine ⟨hM.clq _ _ hib hx (fun e2 => e e2.symm), ?_⟩
          obtain ⟨q, hq, rfl⟩ := hidx x (hM.lt x hx)
          rw [htake q i hq hi]
          intro hqi
          rw [hbef q hqi] at hx
          cases hx
      have hsame : ∀ x, x ∈ S i ↔ s.testBit x = true := fun x => ⟨fun hx => hM.max x (((hSS i hi).2.2 x).1 hx).1 (fun u hu hne => hclq i hi u x (hsub u hu) hx hne), hsub x⟩
      have hes : setOf (natsI (S i)) = s := by
        apply Nat.eq_of_testBit_eq
        intro x
        rw [Bool.eq_iff_iff, hbit i hi, hsame]
      refine ⟨i, hi, (hkeep i hi).2 (fun k hk hki hin => ?_), ?_⟩
      · have hkS : l.getD k 0 ∈ S i := by
          rw [hsame]
          refine hM.max _ (hglt k hk) (fun u hu hne => ?_)
          exact hclq k hk u _ (hin u (hsub u hu)) (hself k hk) hne
        have hik : i < k := by
          obtain ⟨_, h2⟩ := ((hSS i hi).2.2 _).1 hkS
          have hnot : ¬ k < i := by
            rcases h2 with e | ⟨_, h3⟩
            · rw [← htake k i hk hi, e, htake i i hi hi]; omega
            · rw [htake k i hk hi] at h3; exact h3
          omega
        obtain ⟨_, h2⟩ := ((hSS k hk).2.2 _).1 (hin _ (hself i hi))
        have htk := (htake i k hi hk).2 hik
        rcases h2 with e | ⟨_, h3⟩
        · rw [e] at htk
          have := (htake k k hk hk).1 htk
          omega
        · exact h3 htk
      · rw [← hes]
        exact (vertsZ_setOf (hset i hi)).symm
/-- Both lists of cliques are one. -/
theorem max_same (h : valid n es) (hc : isChordal (readAll es) n = true) {lo ls : List (List Int)} (h1 : lo.Perm ((keptI (maxTo (readT es) n n).2 (maxTo (readT es) n n).2.length).map fun i => (maxTo (readT es) n n).2.getD i [])) (h2 : Go.Proofs.Tg.Gx.sortedL lo)
    (h3 : ls.Perm ((keepLast (cands (readAll es) n)).map vertsI)) (h4 : Go.Proofs.Tg.Gx.sortedL ls) : lo = ls := by
  have hn : n ≤ 64 := by have := h.2.1; omega
  obtain ⟨hnd, hmem⟩ := kept_mem h ((isChordal_chord h).1 hc)
  have hnd2 : ((keepLast (cands (readAll es) n)).map vertsI).Nodup := by
    rw [List.nodup_iff_pairwise_ne, List.pairwise_map]
    exact List.Pairwise.imp_of_mem (fun {a b} ha hb hne e => hne (vertsI_inj ((keep_iff h hc a).1 ha).1 ((keep_iff h hc b).1 hb).1 e)) ((cands_nodup (es := es) hn).sublist (keepLast_sub _))
  have hp : ((keptI (maxTo (readT es) n n).2 (maxTo (readT es) n n).2.length).map fun i => (maxTo (readT es) n n).2.getD i []).Perm ((keepLast (cands (readAll es) n)).map vertsI) := by
    rw [List.perm_ext_iff_of_nodup hnd hnd2]
    intro X
    rw [hmem, List.mem_map]
    constructor
    · rintro ⟨s, h1, h2, e⟩
      exact ⟨s, (keep_iff h hc s).2 ⟨h1, h2⟩, e⟩
    · rintro ⟨s, hs, e⟩
      have := (keep_iff h hc s).1 hs
      exact ⟨s, this.1, this.2, e⟩
  exact sorted_same ((h1.trans hp).trans h3.symm) (pair_of_sortedL h2) (pair_of_sortedL h4)
end
end Go.Gr
end
section
/- The reference's Extend and Cliques. -/
namespace Go.Gr
def fillEs (n : Nat) (es : List (Int × Int)) : List (Int × Int) := tableEdges (fillTo (readT es) n n).1 n n
theorem fillEs_valid {n : Nat} {es : List (Int × Int)} (hn : n ≤ 64) : valid n (fillEs n es) := tableEdges_valid _ hn
theorem fillEs_len {n : Nat} {es : List (Int × Int)} (hn : n ≤ 64) : (fillEs n es).length ≤ 4096 := by
  have := tableEdges_len (fillTo (readT es) n n).1 n n
  have h2 : n * n ≤ 64 * 64 := Nat.mul_le_mul hn hn
  unfold fillEs
  omega
end Go.Gr
namespace Go.Proofs.Tg.Gx
open Go.RowKit Go.Gr
set_option maxHeartbeats 4000000
set_option maxRecDepth 100000
def RetFill (n : Nat) (es : List (Int × Int)) (w : World) (e : Ending) (w' : World) : Prop :=
  ∃ xs F d, xs = fillEs n es ∧ e = .returned (.tuple #[.agg #[.int .i64 n, .slice F (List.length xs) d], .int .i64 0]) ∧ w'.ownsRow w.heap.size 94 2 (.slice F xs.length d) xs.length (ecells xs) ∧ Below w.heap.size w w'
/-- What Cliques of the reference returns. -/
def RetRef (n : Nat) (es : List (Int × Int)) (w : World) (e : Ending) (w' : World) : Prop :=
  ∃ lo V d er, e = .returned (.tuple #[.slice V (List.length lo) d, .int .i64 er]) ∧ Lists w' V lo ∧
    ((triang (readT es) n = false ∧ lo = [] ∧ er = 11) ∨ (triang (readT es) n = true ∧ er = 0 ∧ lo.Perm ((keptI (maxTo (readT es) n n).2 (maxTo (readT es) n n).2.length).map fun i => (maxTo (readT es) n n).2.getD i []) ∧ sortedL lo)) ∧ Below w.heap.size w w'
end Go.Proofs.Tg.Gx
end
section
/- What the reference fills is what the library fills; the count of its search; its parts. -/
namespace Go.Gr
open Go.Jt
def goodC (gone : Nat → Bool) (t : Nat → Nat → Bool) (best x : Nat) : Prop := gone x = false ∧ t best x = true
theorem rowF_at {gone : Nat → Bool} {best a : Nat} {u : Nat → Nat → Bool} (hb : u best best = false) : ∀ k i j, rowF gone best a u k i j = true ↔ u i j = true ∨ (goodC gone u best a ∧ ((i = a ∧ j < k ∧ goodC gone u best j) ∨ (j = a ∧ i < k ∧ goodC gone u best i)))
  | 0, i, j => by simp [rowF]
  | k + 1, i, j => by
    rw [rowF_succ]
    have ih := rowF_at (gone := gone) (a := a) hb k
    have hrow : ∀ x, rowF gone best a u k best x = u best x := by
      intro x
      rw [Bool.eq_iff_iff, ih]
      constructor
      · rintro (h | ⟨ha, ⟨e, _⟩ | ⟨_, _, h⟩⟩)
        · exact h
        · subst e; have := ha.2; rw [hb] at this; cases this
        · have := h.2; rw [hb] at this; cases this
      · exact .inl
    unfold stepF
    rw [hrow, hrow]
    by_cases hc : (!gone a && !gone k && u best a && u best k) = true
    · rw [if_pos hc, joinT_at]
      simp only [Bool.and_eq_true, Bool.not_eq_true'] at hc
      obtain ⟨⟨⟨h1, h2⟩, h3⟩, h4⟩ := hc
      rw [Bool.or_eq_true, Bool.or_eq_true, decide_eq_true_eq, decide_eq_true_eq, ih]
      constructor
      · rintro ((⟨e1, e2⟩ | ⟨e1, e2⟩) | h | ⟨ha, ⟨e, hj, g⟩ | ⟨e, hi, g⟩⟩)
        · exact .inr ⟨⟨h1, h3⟩, .inl ⟨e1, by omega, by rw [e2]; exact ⟨h2, h4⟩⟩⟩
        · exact .inr ⟨⟨h1, h3⟩, .inr ⟨e2, by omega, by rw [e1]; exact ⟨h2, h4⟩⟩⟩
        · exact .inl h
        · exact .inr ⟨ha, .inl ⟨e, by omega, g⟩⟩
        · exact .inr ⟨ha, .inr ⟨e, by omega, g⟩⟩
      · rintro (h | ⟨ha, ⟨e, hj, g⟩ | ⟨e, hi, g⟩⟩)
        · exact .inr (.inl h)
        · by_cases e2 : j = k
          · exact .inl (.inl ⟨e, e2⟩)
          · exact .inr (.inr ⟨ha, .inl ⟨e, by omega, g⟩⟩)
        · by_cases e2 : i = k
          · exact .inl (.inr ⟨e2, e⟩)
          · exact .inr (.inr ⟨ha, .inr ⟨e, by omega, g⟩⟩)
    · rw [if_neg hc, ih]
      have hno : goodC gone u best a → goodC gone u best k → False := fun h1 h2 => hc (by simp [h1.1, h1.2, h2.1, h2.2])
      constructor
      · rintro (h | ⟨ha, ⟨e, hj, g⟩ | ⟨e, hi, g⟩⟩)
        · exact .inl h
        · exact .inr ⟨ha, .inl ⟨e, by omega, g⟩⟩
        · exact .inr ⟨ha, .inr ⟨e, by omega, g⟩⟩
      · rintro (h | ⟨ha, ⟨e, hj, g⟩ | ⟨e, hi, g⟩⟩)
        · exact .inl h
        · by_cases e2 : j = k
          · subst e2; exact (hno ha g).elim
          · exact .inr ⟨ha, .inl ⟨e, by omega, g⟩⟩
        · by_cases e2 : i = k
          · subst e2; exact (hno ha g).elim
          · exact .inr ⟨ha, .inr ⟨e, by omega, g⟩⟩
theorem allF_at {gone : Nat → Bool} {best : Nat} {t : Nat → Nat → Bool} (hb : t best best = false) : ∀ k i j, allF gone best t k i j = true ↔ t i j = true ∨ (i ≠ j ∧ i < k ∧ j < k ∧ goodC gone t best i ∧ goodC gone t best j)
  | 0, i, j => by simp [allF]
  | k + 1, i, j => by
    have ih := allF_at (gone := gone) hb k
    have hrow : ∀ x, allF gone best t k best x = t best x := by
      intro x
      rw [Bool.eq_iff_iff, ih]
      constructor
      · rintro (h | ⟨_, _, _, h, _⟩)
        · exact h
        · have := h.2; rw [hb] at this; cases this
      · exact .inl
    have hC : ∀ x, goodC gone (allF gone best t k) best x ↔ goodC gone t best x := by
      intro x; unfold goodC; rw [hrow]
    rw [allF_succ, rowF_at (by rw [hrow]; exact hb), ih, hC, hC, hC]
    constructor
    · rintro ((h | ⟨h1, h2, h3, h4, h5⟩) | ⟨ha, ⟨e, hj, g⟩ | ⟨e, hi, g⟩⟩)
      · exact .inl h
      · exact .inr ⟨h1, by omega, by omega, h4, h5⟩
      · exact .inr ⟨by omega, by omega, by omega, by rw [e]; exact ha, g⟩
      · exact .inr ⟨by omega, by omega, by omega, g, by rw [e]; exact ha⟩
    · rintro (h | ⟨h1, h2, h3, h4, h5⟩)
      · exact .inl (.inl h)
      · by_cases e1 : i = k
        · exact .inr ⟨by rw [← e1]; exact h4, .inl ⟨e1, by omega, h5⟩⟩
        · by_cases e2 : j = k
          · exact .inr ⟨by rw [← e2]; exact h5, .inr ⟨e2, by omega, h4⟩⟩
          · exact .inl (.inr ⟨h1, by omega, by omega, h4, h5⟩)
/-- The reference's table and the library's sets, side by side. -/
structure Mat (n : Nat) (u : Nat → Nat → Bool) (gone : Nat → Bool) (A : Nat → Nat) (rest : Nat) : Prop where
  eq : ∀ i j, i < n → j < n → u i j = bt A i j
  bits : ∀ v, rest.testBit v = true ↔ v < n ∧ gone v = false
  irr : Irr A
  small : Small A
  lt : ∀ i j, i < n → bt A i j = true → j < n
  rl : rest < 18446744073709551616
theorem Mat.cnt {n : Nat} {u : Nat → Nat → Bool} {gone : Nat → Bool} {A : Nat → Nat} {rest : Nat} (h : Mat n u gone A rest) (hn : n ≤ 64) {i : Nat} (hi : i < n) : cntR u gone i n = size (A i &&& rest) := by
  unfold cntR size verts
  rw [filter_range_le hn (p := (A i &&& rest).testBit) (q := fun j => u i j && !gone j)]
  · intro k hk
    rw [Nat.testBit_and, h.eq i k hi hk]
    unfold bt
    congr 1
    rw [Bool.eq_iff_iff, h.bits]
    simp [hk]
  · intro k hk _
    rw [Nat.testBit_and]
    have : rest.testBit k = false := by
      cases hb : rest.testBit k
      · rfl
      · have := ((h.bits k).1 hb).1; omega
    rw [this]; simp
theorem Mat.step {n : Nat} {u : Nat → Nat → Bool} {gone : Nat → Bool} {A : Nat → Nat} {rest : Nat} (h : Mat n u gone A rest) (hn : n ≤ 64) (h0 : rest ≠ 0) :
    ∃ b, b < 64 ∧ rest.testBit b = true ∧ (elim A rest).2 = bclr rest b ∧ Mat n (allF gone (minR u n gone n).1.toNat u n) (updF gone (minR u n gone n).1.toNat true) (elim A rest).1 (elim A rest).2 := by
  obtain ⟨b, hb64, hbr, he, hmin, hfst⟩ := elim_at h.irr h.rl h0
  obtain ⟨hbn, hbg⟩ := (h.bits b).1 hbr
  refine ⟨b, hb64, hbr, by rw [he], ?_⟩
  have hm : (minR u n gone n).1.toNat = b := by
    rcases minR_spec u n gone n with ⟨_, h2⟩ | ⟨i, hi, hg, hmi, hle, hlt⟩
    · rw [h2 b hbn] at hbg; cases hbg
    · rw [hmi]
      simp only [Int.toNat_natCast]
      have hir : rest.testBit i = true := (h.bits i).2 ⟨hi, hg⟩
      have c1 := hle b hbn hbg
      rw [h.cnt hn hi, h.cnt hn hbn] at c1
      rcases Nat.lt_trichotomy i b with hlt' | e | hgt
      · have := hfst i hlt' hir; omega
      · exact e
      · have := hlt b hgt hbg
        rw [h.cnt hn hi, h.cnt hn hbn] at this
        have := hmin i (by omega) hir
        omega
  rw [hm, he]
  have har : (A b &&& rest) < 18446744073709551616 := and_lt rest (h.small b)
  have hlt : ∀ v ∈ verts (A b &&& rest), v < 64 := fun v hv => (mem_verts.1 hv).1
  have hbit := fill_bit (A b &&& rest) (verts (A b &&& rest)) A hlt (verts_nodup _)
  have hS1 : Small (fill (A b &&& rest) (verts (A b &&& rest)) A) := fill_small har _ h.small
  have hbb : u b b = false := by
    rw [h.eq b b hbn hbn]; exact h.irr b hb64
  have hgood : ∀ v, v < n → ((A b &&& rest).testBit v = true ↔ goodC gone u b v) := by
    intro v hv
    rw [Nat.testBit_and, Bool.and_eq_true, h.bits]
    unfold goodC
    rw [h.eq b v hbn hv]
    unfold bt
    constructor
    · rintro ⟨h1, _, h2⟩; exact ⟨h2, h1⟩
    · rintro ⟨h1, h2⟩; exact ⟨h2, hv, h1⟩
  refine ⟨fun i j hi hj => ?_, fun v => ?_, fill_irr _ hlt h.irr, hS1, fun i j hi hb => ?_, bclr_lt b h.rl⟩
  · rw [Bool.eq_iff_iff, allF_at hbb]
    unfold bt
    rw [hbit, Bool.or_eq_true, Bool.and_eq_true, decide_eq_true_eq, mem_verts, bclr_bit _ _ _ (by omega) (by omega), hgood i hi, Bool.and_eq_true, hgood j hj, h.eq i j hi hj]
    unfold bt
    constructor
    · rintro (h1 | ⟨h1, _, _, h2, h3⟩)
      · exact .inl h1
      · exact .inr ⟨⟨by omega, h2⟩, h3, by simpa using h1⟩
    · rintro (h1 | ⟨⟨_, h2⟩, h3, h4⟩)
      · exact .inl h1
      · exact .inr ⟨by simpa using h4, hi, hj, h2, h3⟩
  · have hu : updF gone b true v = false ↔ v ≠ b ∧ gone v = false := by
      unfold updF
      by_cases e : v = b
      · simp [e]
      · simp [e]
    rw [hu]
    by_cases hv : v < 64
    · rw [bclr_bit _ _ _ hb64 hv, Bool.and_eq_true, h.bits]
      constructor
      · rintro ⟨⟨h1, h2⟩, h3⟩
        exact ⟨h1, fun e => by simp [e] at h3, h2⟩
      · rintro ⟨h1, h2, h3⟩
        exact ⟨⟨h1, h3⟩, by simp; exact fun e => h2 e.symm⟩
    · rw [high_bit (bclr_lt b h.rl) (by omega)]
      simp
      intro h1; omega
  · unfold bt at hb
    have hj64 : j < 64 := bt_lt hS1 hb
    rw [hbit, Bool.or_eq_true, Bool.and_eq_true] at hb
    rcases hb with h1 | ⟨_, h1⟩
    · exact h.lt i j hi h1
    · rw [bclr_bit _ _ _ (by omega) hj64, Bool.and_eq_true, Nat.testBit_and, Bool.and_eq_true] at h1
      exact ((h.bits j).1 h1.1.2).1
theorem size_bclr {s i : Nat} (hi : i < 64) (h : s.testBit i = true) : size (bclr s i) + 1 = size s := by
  have e : verts (bclr s i) = (verts s).erase i := by
    rw [List.Nodup.erase_eq_filter (verts_nodup s)]
    unfold verts
    rw [List.filter_filter]
    apply List.filter_congr
    intro x hx
    rw [bclr_bit _ _ _ hi (by simpa using hx)]
    rw [Bool.and_comm]
    congr 1
    by_cases e : i = x
    · simp [e]
    · simp [e]; exact fun h => e h.symm
  have hm : i ∈ verts s := mem_verts.2 ⟨hi, h⟩
  have hp : 0 < (verts s).length := List.length_pos_of_mem hm
  unfold size
  rw [e, List.length_erase_of_mem hm]
  omega
theorem Mat.run {t : Nat → Nat → Bool} {n : Nat} (hn : n ≤ 64) : ∀ (d r f : Nat) (A : Nat → Nat) (rest : Nat), r + d = n → Mat n (fillTo t n r).1 (fillTo t n r).2 A rest → size rest = d → d < f → ∀ i j, i < n → j < n → (fillTo t n n).1 i j = bt (extFrom f A rest) i j
  | _, _, 0, _, _, _, _, _, hf => by omega
  | 0, r, f + 1, A, rest, hr, hM, hs, _ => by
    have h0 : rest = 0 := verts_empty hM.rl (List.eq_nil_of_length_eq_zero hs)
    obtain rfl : r = n := by omega
    unfold extFrom
    rw [if_pos h0]
    exact hM.eq
  | d + 1, r, f + 1, A, rest, hr, hM, hs, hf => by
    have h0 : rest ≠ 0 := by
      intro e
      rw [e] at hs
      unfold size at hs
      rw [verts_zero] at hs
      simp at hs
    obtain ⟨b, hb64, hbr, he, hM2⟩ := hM.step hn h0
    unfold extFrom
    rw [if_neg h0]
    refine Mat.run hn d (r + 1) f _ _ (by omega) hM2 ?_ (by omega)
    rw [he]
    have := size_bclr hb64 hbr
    omega
theorem tableEdges_congr {t u : Nat → Nat → Bool} {n : Nat} : ∀ m, m ≤ n → (∀ i j, i < n → j < n → t i j = u i j) → tableEdges t n m = tableEdges u n m
  | 0, _, _ => rfl
  | m + 1, hm, h => by
    rw [tableEdges_succ, tableEdges_succ, tableEdges_congr m (by omega) h]
    have e : rowT t m n = rowT u m n := by
      unfold rowT
      rw [List.filter_congr (fun x hx => by rw [h m x (by omega) (by simpa using hx)])]
    rw [e]
theorem fill_same {n : Nat} {es : List (Int × Int)} (h : valid n es) : fillEs n es = writeEdges (extend (readAll es) n) n := by
  have hn : n ≤ 64 := by have := h.2.1; omega
  obtain ⟨hS, hI⟩ := readAll_small es n h
  rw [extend_edges h]
  unfold fillEs
  refine tableEdges_congr n (Nat.le_refl _) ?_
  refine Mat.run hn n 0 65 (readAll es) (firstN n) (by omega) ⟨fun i j _ _ => (bt_read es i j).symm, fun v => ?_, hI, hS, fun i j hi hb => ?_, firstN_lt hn⟩ ?_ (by omega)
  · rw [firstN_bit]; simp [fillTo]
  · rw [bt_read] at hb; exact ((valid_nice h).lt _ _ hb).2
  · unfold size verts
    rw [filter_range_le hn (p := (firstN n).testBit) (q := fun _ => true)]
    · rw [List.filter_eq_self.2 (fun _ _ => rfl), List.length_range]
    · intro k hk; rw [firstN_bit]; simp [hk]
    · intro k hk _; rw [firstN_bit]; simp; omega
/-- The count of the search. -/
theorem search_cnt {A : Nat → Nat} (hS : Small A) {n r v : Nat} (hn : n ≤ 64) (hr : r ≤ n) : ((searchTo A n r).2.filter fun x => bt A v x).length = size (A v &&& (searchTo A n r).1) := by
  rw [← cnt_size hS hn hr, searchTo_ord hn hr, List.filter_map, List.length_map]
  rfl
/-- How both make the components. -/
inductive MadeL (es : List (Int × Int)) : Nat → List (List Int) → Prop
  | zero : MadeL es 0 []
  | skip {k : Nat} {ls : List (List Int)} : MadeL es k ls → (∃ l ∈ ls, (k : Int) ∈ l) → MadeL es (k + 1) ls
  | add {k : Nat} {ls : List (List Int)} {l : List Int} : MadeL es k ls → (∀ m ∈ ls, (k : Int) ∉ m) → l.Pairwise (· < ·) → (∀ x : Int, x ∈ l ↔ ∃ v : Nat, x = v ∧ Conn (Rel es) k v) → MadeL es (k + 1) (ls ++ [l])
theorem MadeL.same {es : List (Int × Int)} : ∀ {k : Nat} {ls ms : List (List Int)}, MadeL es k ls → MadeL es k ms → ls = ms := by
  intro k
  induction k with
  | zero =>
    intro ls ms h1 h2
    cases h1; cases h2; rfl
  | succ k ih =>
    intro ls ms h1 h2
    cases h1 with
    | skip h1 e1 =>
      cases h2 with
      | skip h2 e2 => exact ih h1 h2
      | add h2 e2 _ _ =>
        obtain ⟨l, hl, hk⟩ := e1
        rw [ih h1 h2] at hl
        exact absurd hk (e2 l hl)
    | add h1 e1 p1 q1 =>
      cases h2 with
      | skip h2 e2 =>
        obtain ⟨l, hl, hk⟩ := e2
        rw [← ih h1 h2] at hl
        exact absurd hk (e1 l hl)
      | add h2 e2 p2 q2 =>
        rw [ih h1 h2, asc_ext p1 p2 (fun x => (q1 x).trans (q2 x).symm)]
end Go.Gr
end
section
/- The rounds that a basis and a set of monomials make: plain. -/
namespace Go.Sp
open Go.Gr Go.Ev Go.Jt
theorem made_r {es : List (Int × Int)} {k : Nat} {ls : List (List Int)} (h : MadeL es k ls) : MadeR (Conn (Rel es)) k ls := by
  induction h with
  | zero => exact .zero
  | skip _ e ih => exact .skip ih e
  | add _ e p q ih => exact .add ih e p q
theorem conn_eqv {n : Nat} {es : List (Int × Int)} (h : valid n es) : Eqv (Conn (Rel es)) :=
  ⟨fun a => Conn.refl a, fun _ _ hc => Conn.symm (rel_sym h) hc, fun _ _ _ h1 h2 => h1.trans h2⟩
theorem conn_mono {es es' : List (Int × Int)} (h : ∀ e ∈ es, e ∈ es') {a b : Nat} (hc : Conn (Rel es) a b) : Conn (Rel es') a b := by
  refine hc (fun x => Conn (Rel es') a x) (Conn.refl a) (fun x y hx hxy => hx.trans (Conn.step ?_))
  obtain ⟨e, he, hh⟩ := (readT_iff _ _ _).1 hxy
  exact (readT_iff _ _ _).2 ⟨e, h e he, hh⟩
/-- There are components. -/
theorem made_ex {n : Nat} {es : List (Int × Int)} (h : valid n es) : ∀ k, k ≤ n → ∃ ls, MadeL es k ls
  | 0, _ => ⟨[], .zero⟩
  | k + 1, hk => by
    obtain ⟨ls, hls⟩ := made_ex h k (by omega)
    by_cases hc : ∃ l ∈ ls, (k : Int) ∈ l
    · exact ⟨ls, .skip hls hc⟩
    · refine ⟨ls ++ [((List.range n).filter fun v => @decide (Conn (Rel es) k v) (Classical.propDecidable _)).map fun v : Nat => (v : Int)], .add hls (fun m hm he => hc ⟨m, hm, he⟩) ?_ ?_⟩
      · rw [List.pairwise_map]
        exact ((List.pairwise_lt_range (n := n)).filter _).imp (fun hab => by omega)
      · intro x
        rw [List.mem_map]
        constructor
        · rintro ⟨v, hv, rfl⟩
          rw [List.mem_filter] at hv
          exact ⟨v, rfl, @of_decide_eq_true _ (Classical.propDecidable _) hv.2⟩
        · rintro ⟨v, rfl, hv⟩
          refine ⟨v, ?_, rfl⟩
          rw [List.mem_filter, List.mem_range]
          exact ⟨conn_lt h (by omega) hv, @decide_eq_true _ (Classical.propDecidable _) hv⟩
/-- The components of the graph of a set of monomials. -/
noncomputable def comps (b S : List (List Int)) : List (List Int) := @dite _ (∃ ls, MadeL (edTo b S b.length) b.length ls) (Classical.propDecidable _) (fun h => h.choose) (fun _ => [])
theorem comps_made {b S : List (List Int)} (h : valid b.length (edTo b S b.length)) : MadeL (edTo b S b.length) b.length (comps b S) := by
  have he := made_ex h b.length (Nat.le_refl _)
  unfold comps
  rw [dif_pos he]
  exact he.choose_spec
theorem edTo_mono {b S S' : List (List Int)} (h : ∀ v ∈ S, v ∈ S') : ∀ e ∈ edTo b S b.length, e ∈ edTo b S' b.length := by
  intro e he
  obtain ⟨i, j, h1, h2, h3, h4⟩ := edTo_mem.1 he
  exact edTo_mem.2 ⟨i, j, h1, h2, h3, h _ h4⟩
/-- The set of monomials behind t rounds. -/
noncomputable def setAt (b S : List (List Int)) : Nat → List (List Int)
  | 0 => S
  | t + 1 => setAt b S t ++ blockAll b (comps b (setAt b S t))
noncomputable def rounds (b S : List (List Int)) (hv : ∀ S', valid b.length (edTo b S' b.length)) : Rounds b.length where
  C t := Conn (Rel (edTo b (setAt b S t) b.length))
  B t := comps b (setAt b S t)
  eqv _ := conn_eqv (hv _)
  mono _ _ _ h := conn_mono (edTo_mono (fun _ hv => List.mem_append_left _ hv)) h
  lt _ _ _ ha h := conn_lt (hv _) ha h
  made _ := made_r (comps_made (hv _))
theorem cmpE_neg {p q : Int × Int} (h : p.1 < q.1 ∨ (p.1 = q.1 ∧ p.2 < q.2)) : cmpE p q < 0 := by
  rcases h with h | ⟨h1, h2⟩
  · have e : cmpI p.1 q.1 = -1 := if_pos h
    unfold cmpE orI
    rw [e, if_neg (by decide)]; decide
  · have e : cmpI p.1 q.1 = 0 := by unfold cmpI; rw [if_neg (by omega), if_neg (by omega)]
    have e2 : cmpI p.2 q.2 = -1 := if_pos h2
    unfold cmpE orI
    rw [e, if_pos rfl, e2]; decide
theorem edTo_asc (b S : List (List Int)) (k : Nat) : (edTo b S k).Pairwise fun p q => p.1 < q.1 ∨ (p.1 = q.1 ∧ p.2 < q.2) := by
  unfold edTo
  rw [List.pairwise_flatMap]
  refine ⟨fun i _ => ?_, ?_⟩
  · unfold edRow
    rw [List.pairwise_map]
    exact ((List.pairwise_lt_range (n := b.length)).filter _).imp (fun hab => .inr ⟨rfl, by omega⟩)
  · refine (List.pairwise_lt_range (n := k)).imp (fun {i i'} hlt x hx y hy => ?_)
    obtain ⟨_, rfl, _⟩ := edRow_mem.1 hx
    obtain ⟨_, rfl, _⟩ := edRow_mem.1 hy
    exact .inl (by simp only; omega)
theorem ed_valid (b S : List (List Int)) (h : b.length ≤ 64) : valid b.length (edTo b S b.length) := by
  refine ⟨by omega, by omega, fun i hi _ => ⟨?_, fun h0 => ?_⟩⟩
  · obtain ⟨x, y, e, h1, h2, _⟩ := edTo_mem.1 (List.getElem_mem hi)
    rw [e]
    exact ⟨by simp only; omega, by simp only; omega, by simp only; omega⟩
  · exact cmpE_neg (List.pairwise_iff_getElem.1 (edTo_asc b S b.length) (i - 1) i (by omega) hi (by omega))
theorem edTo_len (b S : List (List Int)) (k : Nat) : (edTo b S k).length ≤ k * b.length := by
  induction k with
  | zero => simp [edTo]
  | succ k ih =>
    rw [edTo_succ, List.length_append, Nat.succ_mul]
    have : (edRow b S k).length ≤ b.length := by
      unfold edRow
      rw [List.length_map]
      have := List.length_filter_le (fun j => decide (k < j) && decide (addL (b.getD k []) (b.getD j []) ∈ S)) (List.range b.length)
      rwa [List.length_range] at this
    omega
theorem blockAll_mem {b ls : List (List Int)} {v : List Int} : v ∈ blockAll b ls ↔ ∃ l ∈ ls, ∃ x ∈ l, ∃ y ∈ l, v = addL (b.getD x.toNat []) (b.getD y.toNat []) := by
  unfold blockAll
  simp only [List.mem_flatMap, List.mem_map]
  constructor
  · rintro ⟨l, hl, x, hx, y, hy, rfl⟩; exact ⟨l, hl, x, hx, y, hy, rfl⟩
  · rintro ⟨l, hl, x, hx, y, hy, rfl⟩; exact ⟨l, hl, x, hx, y, hy, rfl⟩
theorem setAt_low {b S : List (List Int)} {v : List Int} (h : v ∈ S) : ∀ t, v ∈ setAt b S t
  | 0 => h
  | t + 1 => List.mem_append_left _ (setAt_low h t)
theorem setAt_mem {b S : List (List Int)} {t : Nat} {v : List Int} : v ∈ setAt b S (t + 1) ↔ v ∈ setAt b S t ∨ ∃ l ∈ comps b (setAt b S t), ∃ x ∈ l, ∃ y ∈ l, v = addL (b.getD x.toNat []) (b.getD y.toNat []) := by
  rw [← blockAll_mem]
  exact List.mem_append
/-- The products of an element of a block before position q with one from it on. -/
def InB (b : List (List Int)) (l : List Int) (q : Nat) (v : List Int) : Prop := ∃ a c : Nat, a ≤ c ∧ a < q ∧ c < l.length ∧ v = addL (b.getD (l.getD a 0).toNat []) (b.getD (l.getD c 0).toNat [])
/-- The products of element q with the elements from q on, before position r. -/
def InR (b : List (List Int)) (l : List Int) (q r : Nat) (v : List Int) : Prop := ∃ c : Nat, q ≤ c ∧ c < r ∧ c < l.length ∧ v = addL (b.getD (l.getD q 0).toNat []) (b.getD (l.getD c 0).toNat [])
theorem inB_zero {b : List (List Int)} {l v : List Int} : ¬ InB b l 0 v := fun ⟨_, _, _, h, _⟩ => by omega
theorem inR_low {b : List (List Int)} {l v : List Int} {q : Nat} : ¬ InR b l q q v := fun ⟨_, h1, h2, _⟩ => by omega
theorem inB_succ {b : List (List Int)} {l v : List Int} {q : Nat} : InB b l (q + 1) v ↔ InB b l q v ∨ InR b l q l.length v := by
  constructor
  · rintro ⟨a, c, h1, h2, h3, h4⟩
    by_cases ha : a < q
    · exact .inl ⟨a, c, h1, ha, h3, h4⟩
    · obtain rfl : a = q := by omega
      exact .inr ⟨c, h1, h3, h3, h4⟩
  · rintro (⟨a, c, h1, h2, h3, h4⟩ | ⟨c, h1, h2, h3, h4⟩)
    · exact ⟨a, c, h1, by omega, h3, h4⟩
    · exact ⟨q, c, h1, by omega, h3, h4⟩
theorem inR_succ {b : List (List Int)} {l v : List Int} {q r : Nat} (h : q ≤ r) (hr : r < l.length) : InR b l q (r + 1) v ↔ InR b l q r v ∨ v = addL (b.getD (l.getD q 0).toNat []) (b.getD (l.getD r 0).toNat []) := by
  constructor
  · rintro ⟨c, h1, h2, h3, h4⟩
    by_cases hc : c < r
    · exact .inl ⟨c, h1, hc, h3, h4⟩
    · obtain rfl : c = r := by omega
      exact .inr h4
  · rintro (⟨c, h1, h2, h3, h4⟩ | h4)
    · exact ⟨c, h1, by omega, h3, h4⟩
    · exact ⟨r, h, by omega, hr, h4⟩
theorem inB_full {b : List (List Int)} {l v : List Int} : InB b l l.length v ↔ ∃ x ∈ l, ∃ y ∈ l, v = addL (b.getD x.toNat []) (b.getD y.toNat []) := by
  have hg : ∀ i, i < l.length → l.getD i 0 ∈ l := fun i h => by rw [List.getD_eq_getElem?_getD, List.getElem?_eq_getElem h, Option.getD_some]; exact List.getElem_mem h
  constructor
  · rintro ⟨a, c, h1, h2, h3, h4⟩
    exact ⟨_, hg a h2, _, hg c h3, h4⟩
  · rintro ⟨x, hx, y, hy, rfl⟩
    obtain ⟨a, ha, rfl⟩ := List.getElem_of_mem hx
    obtain ⟨c, hc, rfl⟩ := List.getElem_of_mem hy
    have e1 : l.getD a 0 = l[a] := by simp [ha]
    have e2 : l.getD c 0 = l[c] := by simp [hc]
    by_cases hac : a ≤ c
    · exact ⟨a, c, hac, ha, hc, by rw [e1, e2]⟩
    · exact ⟨c, a, by omega, hc, ha, by rw [e1, e2, addL_comm]⟩
end Go.Sp
end
section
/- The error of a polynomial and a basis; the number of rounds is one; what the reference adds to its set: plain. -/
namespace Go.Sp
open Go.Ev Go.Mo Go.Gr
section
variable {N : Nat} (R : Rounds N)
theorem Rounds.Final.uniq {R : Rounds N} {k m m' : Nat} (h : R.Final k m) (h' : R.Final k m') : m = m' := by
  have p := h.pos
  have p' := h'.pos
  rcases Nat.lt_trichotomy m m' with hlt | he | hlt
  · rcases h.fin with e | e
    · have := h'.le; omega
    · have := h'.fell (m - 1) (by omega)
      rw [show m - 1 + 1 = m by omega] at this
      exact absurd e this
  · exact he
  · rcases h'.fin with e | e
    · have := h.le; omega
    · have := h.fell (m' - 1) (by omega)
      rw [show m' - 1 + 1 = m' by omega] at this
      exact absurd e this
end
/-- The error of a polynomial and a basis. -/
def errS (ok : Bool) (v : Int) (b : List (List Int)) : Int :=
  if ok = true ∧ ∀ m ∈ b, vldM m = true then (if ∀ m ∈ b, (m.length : Int) = v then (if b.length ≤ 64 then (if b.Nodup then 0 else 10) else 2) else 4) else 1
theorem errS_bad {ok : Bool} {v : Int} {b : List (List Int)} (h : ok = false ∨ ∃ m ∈ b, vldM m = false) : errS ok v b = 1 := by
  unfold errS
  rw [if_neg]
  rintro ⟨h1, h2⟩
  rcases h with h | ⟨m, hm, h⟩
  · rw [h] at h1; cases h1
  · rw [h2 m hm] at h; cases h
theorem errS_shape {v : Int} {b : List (List Int)} (h : ∀ m ∈ b, vldM m = true) (h2 : ∃ m ∈ b, (m.length : Int) ≠ v) : errS true v b = 4 := by
  unfold errS
  rw [if_pos ⟨rfl, h⟩, if_neg]
  obtain ⟨m, hm, hne⟩ := h2
  exact fun h => hne (h m hm)
theorem errS_dup {v : Int} {b : List (List Int)} (h : ∀ m ∈ b, vldM m = true) (h2 : ∀ m ∈ b, (m.length : Int) = v) (h3 : b.length ≤ 64) (h4 : ¬ b.Nodup) : errS true v b = 10 := by
  unfold errS
  rw [if_pos ⟨rfl, h⟩, if_pos h2, if_pos h3, if_neg h4]
theorem errS_ok {v : Int} {b : List (List Int)} (h : ∀ m ∈ b, vldM m = true) (h2 : ∀ m ∈ b, (m.length : Int) = v) (h3 : b.length ≤ 64) (h4 : b.Nodup) : errS true v b = 0 := by
  unfold errS
  rw [if_pos ⟨rfl, h⟩, if_pos h2, if_pos h3, if_pos h4]
theorem errS_zero {ok : Bool} {v : Int} {b : List (List Int)} (h : errS ok v b = 0) : ok = true ∧ (∀ m ∈ b, vldM m = true) ∧ (∀ m ∈ b, (m.length : Int) = v) ∧ b.length ≤ 64 ∧ b.Nodup := by
  unfold errS at h
  split at h
  · rename_i h1
    split at h
    · rename_i h2
      split at h
      · rename_i h3
        split at h
        · rename_i h4
          exact ⟨h1.1, h1.2, h2, h3, h4⟩
        · cases h
      · cases h
    · cases h
  · cases h
/-- The monomials that are known before the first round. -/
def S0 (es b : List (List Int)) : List (List Int) := es ++ b.map fun m => addL m m
/-- A key that may be asked: a monomial in n variables. -/
def domK (n : Nat) (c : Int) (v : List Int) : Prop := v.length = n ∧ ∀ x ∈ v, 0 ≤ x ∧ x ≤ c
theorem addL_dom {n : Nat} {c : Int} {a b : List Int} (ha : domK n c a) (hb : domK n c b) : domK n (2 * c) (addL a b) := by
  refine ⟨?_, addL_bound ha.2 hb.2⟩
  unfold addL
  rw [List.length_zipWith, ha.1, hb.1, Nat.min_self]
theorem domK.mono {n : Nat} {c d : Int} {v : List Int} (h : domK n c v) (hcd : c ≤ d) : domK n d v := ⟨h.1, fun x hx => ⟨(h.2 x hx).1, by have := (h.2 x hx).2; omega⟩⟩
theorem vld_dom {m : List Int} (h : vldM m = true) : domK m.length 24 m := by
  have h := vldM_iff.1 h
  refine ⟨rfl, fun x hx => ⟨h.2.1 x hx, ?_⟩⟩
  have : ∀ (l : List Int), (∀ e ∈ l, 0 ≤ e) → x ∈ l → x ≤ l.sum ∧ 0 ≤ l.sum := by
    intro l
    induction l with
    | nil => intro _ h; cases h
    | cons y l ih =>
      intro h0 hx
      have h1 : 0 ≤ l.sum := by
        have : ∀ l : List Int, (∀ e ∈ l, 0 ≤ e) → 0 ≤ l.sum := by
          intro l
          induction l with
          | nil => intro _; simp
          | cons z l ih => intro h; rw [List.sum_cons]; have := h z (by simp); have := ih (fun e he => h e (by simp [he])); omega
        exact this l (fun e he => h0 e (by simp [he]))
      have hy := h0 y (by simp)
      rw [List.sum_cons]
      rcases List.mem_cons.1 hx with rfl | hx
      · omega
      · have := ih (fun e he => h0 e (by simp [he])) hx; omega
  have := (this m h.2.1 hx).1
  omega
/-- The products of a block's monomials, each two different ones, in the order of the reference; the list grows by those it lacks. -/
def addNew (s : List (List Int)) (v : List Int) : List (List Int) := if v ∈ s then s else s ++ [v]
theorem addNew_mem {s : List (List Int)} {v x : List Int} : x ∈ addNew s v ↔ x ∈ s ∨ x = v := by
  unfold addNew
  split
  · constructor
    · exact .inl
    · rintro (h | rfl)
      · exact h
      · assumption
  · simp
end Go.Sp
end
section
/- Different monomials have different keys. -/
namespace Go.Proofs.Tg
open Go.RowKit Go.Maps Go.WideShapes Go.Sp
theorem kl6_key (l : List Int) : WideAt.IsKeyLit (kl6 l) := trivial
theorem alike_ints : ∀ (l m : List Int), l.length = m.length → Go.Alike (l.map fun x => Lit.int .i64 x) (m.map fun x => Lit.int .i64 x)
  | [], [], _ => trivial
  | [], _ :: _, h => by simp at h
  | _ :: _, [], h => by simp at h
  | x :: l, y :: m, h => ⟨rfl, alike_ints l m (by simpa using h)⟩
theorem kl6_inj {l m : List Int} (h : l.length = m.length) (hl : ∀ x ∈ l, -1000000 ≤ x ∧ x ≤ 1000000) (hm : ∀ x ∈ m, -1000000 ≤ x ∧ x ≤ 1000000) (e : kl6 l = kl6 m) : l = m := by
  unfold kl6 at e
  injection e with e
  have := Go.keyBytes_inj (alike_ints l m h) (fun a ha => by obtain ⟨x, hx, rfl⟩ := List.mem_map.1 ha; exact wf_small (hl x hx)) (fun a ha => by obtain ⟨x, hx, rfl⟩ := List.mem_map.1 ha; exact wf_small (hm x hx)) e
  have inj : ∀ (l m : List Int), (l.map fun x => Lit.int .i64 x) = (m.map fun x => Lit.int .i64 x) → l = m := by
    intro l
    induction l with
    | nil => intro m h; cases m with
      | nil => rfl
      | cons _ _ => simp at h
    | cons x l ih => intro m h; cases m with
      | nil => simp at h
      | cons y m =>
        simp only [List.map_cons, List.cons.injEq] at h
        obtain ⟨h1, h2⟩ := h
        injection h1 with _ h1
        rw [h1, ih m h2]
  exact inj l m this
theorem kv_dom {n : Nat} {v : List Int} (h : domK n 48 v) : ∀ x ∈ kv v, -1000000 ≤ x ∧ x ≤ 1000000 := fun x hx => by
  have := kv_bound (by omega) h.2 x hx
  omega
theorem klv_inj {n : Nat} (hn : n ≤ 6) {u v : List Int} (hu : domK n 48 u) (hv : domK n 48 v) (e : kl6 (kv u) = kl6 (kv v)) : u = v :=
  kv_inj (by rw [hu.1, hv.1]) (by rw [hu.1]; exact hn) (kl6_inj (by rw [kv_len, kv_len]) (kv_dom hu) (kv_dom hv) e)
end Go.Proofs.Tg
end
section
/- The keys of monomials: the program's keyOf and product. -/
namespace Go.Proofs.Tg
open Go.RowKit Go.Gr Go.Sp Go.Ev
set_option maxHeartbeats 4000000
set_option maxRecDepth 100000
theorem Blk.six {w : World} {g : Nat} {t : TypeId} {a0 a1 a2 a3 a4 a5 : Value} (h : Blk w g t #[a0, a1, a2, a3, a4, a5]) :
    (w.cell? ⟨g, 0, none⟩ = some a0 ∧ w.cell? ⟨g, 1, none⟩ = some a1 ∧ w.cell? ⟨g, 2, none⟩ = some a2 ∧ w.cell? ⟨g, 3, none⟩ = some a3 ∧ w.cell? ⟨g, 4, none⟩ = some a4 ∧ w.cell? ⟨g, 5, none⟩ = some a5) ∧
    (w.frozen? ⟨g, 0, none⟩ = false ∧ w.frozen? ⟨g, 1, none⟩ = false ∧ w.frozen? ⟨g, 2, none⟩ = false ∧ w.frozen? ⟨g, 3, none⟩ = false ∧ w.frozen? ⟨g, 4, none⟩ = false ∧ w.frozen? ⟨g, 5, none⟩ = false) :=
  ⟨⟨h.cell 0, h.cell 1, h.cell 2, h.cell 3, h.cell 4, h.cell 5⟩, h.frozen 0, h.frozen 1, h.frozen 2, h.frozen 3, h.frozen 4, h.frozen 5⟩
theorem below_six {w w' : World} {B g : Nat} (h : Below B w w') (hg : B ≤ g) (a0 a1 a2 a3 a4 a5 : Value) :
    Below B w ((((((w'.setCell ⟨g, 0, none⟩ a0).setCell ⟨g, 1, none⟩ a1).setCell ⟨g, 2, none⟩ a2).setCell ⟨g, 3, none⟩ a3).setCell ⟨g, 4, none⟩ a4).setCell ⟨g, 5, none⟩ a5) :=
  below_far (below_far (below_far (below_far (below_far (below_far h hg _ _) hg _ _) hg _ _) hg _ _) hg _ _) hg _ _
/-- The value of a key. -/
def keyV (el : List Int) : Value := .agg ((kv el).map vi).toArray
def z6 : Array Value := #[.int .i64 0, .int .i64 0, .int .i64 0, .int .i64 0, .int .i64 0, .int .i64 0]
theorem keyV_eq (el : List Int) : keyV el = .agg #[.int .i64 (el.getD 0 0), .int .i64 (el.getD 1 0), .int .i64 (el.getD 2 0), .int .i64 (el.getD 3 0), .int .i64 (el.getD 4 0), .int .i64 (el.getD 5 0)] := rfl
theorem keyOf_any (A : Option Addr) (c : Nat) (el : List Int) (w : World) (hA : Ints w A el) (hl : el.length ≤ 6) :
    Calls Tryz.prog 38 #[.slice A el.length c] w fun e w' => e = .returned (keyV el) ∧ Below w.heap.size w w' := by
  have HK := Lib.hid (keyV_eq el)
  generalize keyV el = kk at *
  obtain ⟨W, hW⟩ : ∃ W, (w.alloc (.cells z6 89)).alloc (.cells z6 89) = W := ⟨_, rfl⟩
  have B2 : Blk W w.heap.size 89 z6 := by rw [← hW]; exact (Blk.new _ _ _).alloc _
  have B3 : Blk W (w.heap.size + 1) 89 z6 := by rw [← hW]; have := Blk.new (w.alloc (.cells z6 89)) 89 z6; simpa using this
  have hbW : Below w.heap.size w W := by rw [← hW]; exact ((Below.refl _ _).alloc (Nat.le_refl _) _).alloc (by simp) _
  have hAW := Sl.keep hA hbW
  have HWW := Lib.hid hW
  clear hW hA
  go_enter Tryz.func38, Tryz.ntmps38
  go_upto_region 2 with (fail)
  have hh := HWW.out
  unfold z6 at hh
  rw [hh]
  clear hh
  go_wp2_with (first
    | (refine wpList_copy6 rfl _ _ rfl (w.heap.size + 1) 89 A c el [] rfl rfl hAW hl B3 ?_
       intro W' E3 hbut
       have E2 := hbut.blk _ _ _ (by omega) B2
       have hb' := hbut.below _ _ hbW (by omega)
       obtain ⟨⟨a0, a1, a2, a3, a4, a5⟩, f0, f1, f2, f3, f4, f5⟩ := Blk.six E2
       obtain ⟨⟨j0, j1, j2, j3, j4, j5⟩, k0, k1, k2, k3, k4, k5⟩ := Blk.six E3
       have hz := E2.lt
       clear B2 B3 E2 E3 hbut hAW
       generalize el.getD 0 0 = v0 at *
       generalize el.getD 1 0 = v1 at *
       generalize el.getD 2 0 = v2 at *
       generalize el.getD 3 0 = v3 at *
       generalize el.getD 4 0 = v4 at *
       generalize el.getD 5 0 = v5 at *))
  refine bodyPost_ret (v := .agg #[.int .i64 v0, .int .i64 v1, .int .i64 v2, .int .i64 v3, .int .i64 v4, .int .i64 v5]) (by simp [results, Tryz.results38, go_sem, a0, a1, a2, a3, a4, a5]) rfl ⟨by rw [HK.out], ?_⟩
  exact below_six hb' (by omega) _ _ _ _ _ _
theorem kv_take_set {s : List Int} {k : Nat} (hk : k < s.length) : (kv (s.take k)).set k s[k] = kv (s.take (k + 1)) := by
  refine List.ext_getElem (by rw [List.length_set, kv_len, kv_len]) fun i h1 h2 => ?_
  rw [List.length_set, kv_len] at h1
  have e : ∀ m : List Int, (kv m)[i]'(by rw [kv_len]; exact h1) = m.getD i 0 := fun m => by
    have := kv_at m h1
    rw [List.getElem?_eq_getElem (by rw [kv_len]; exact h1)] at this
    injection this
  rw [e, List.getElem_set, e]
  by_cases hik : k = i
  · subst hik
    rw [if_pos rfl, List.getD_eq_getElem?_getD, List.getElem?_take, if_pos (by omega), List.getElem?_eq_getElem hk, Option.getD_some]
  · rw [if_neg hik, List.getD_eq_getElem?_getD, List.getD_eq_getElem?_getD, List.getElem?_take, List.getElem?_take]
    by_cases hlt : i < k
    · rw [if_pos hlt, if_pos (by omega)]
    · rw [if_neg hlt, if_neg (by omega)]
theorem product_any (A B : Option Addr) (c d n : Nat) (a b : List Int) (w : World) (hA : Ints w A a) (hB : Ints w B b) (ha : domK n 24 a) (hb : domK n 24 b) (hn : n ≤ 6) :
    Calls Tryz.prog 39 #[.slice A a.length c, .slice B b.length d] w fun e w' => e = .returned (keyV (addL a b)) ∧ Below w.heap.size w w' := by
  have HA := Lib.hid ha
  have HB := Lib.hid hb
  have HSL : Hid ((addL a b).length = n) := Lib.hid (addL_dom ha hb).1
  have HSA : Hid (∀ k (h1 : k < a.length) (h2 : k < b.length) (h3 : k < (addL a b).length), (addL a b)[k] = a[k] + b[k]) := Lib.hid (fun k h1 h2 h3 => by simp [addL])
  clear ha hb
  generalize addL a b = s at *
  obtain ⟨W, hW⟩ : ∃ W, (w.alloc (.cells z6 89)).alloc (.cells z6 89) = W := ⟨_, rfl⟩
  have B2 : Blk W w.heap.size 89 z6 := by rw [← hW]; exact (Blk.new _ _ _).alloc _
  have B3 : Blk W (w.heap.size + 1) 89 z6 := by rw [← hW]; have := Blk.new (w.alloc (.cells z6 89)) 89 z6; simpa using this
  have hbW : Below w.heap.size w W := by rw [← hW]; exact ((Below.refl _ _).alloc (Nat.le_refl _) _).alloc (by simp) _
  have hAW := Sl.keep hA hbW
  have hBW := Sl.keep hB hbW
  have HOA : Hid (Off A a.length (w.heap.size + 1)) := Lib.hid (Sl.off_new hA (by omega))
  have HOB : Hid (Off B b.length (w.heap.size + 1)) := Lib.hid (Sl.off_new hB (by omega))
  have HWW := Lib.hid hW
  clear hW hA hB
  go_enter Tryz.func39, Tryz.ntmps39
  go_upto_region 2 with (fail)
  have hh := HWW.out
  unfold z6 at hh
  rw [hh]
  clear hh
  go_wp2
  go_loopw [9] (fun i wr => ∃ k : Nat, k ≤ n ∧ i = .int .i64 k ∧ Blk wr w.heap.size 89 z6 ∧ Blk wr (w.heap.size + 1) 89 (iarr (kv (s.take k))) ∧ Below w.heap.size w wr ∧ Ints wr A a ∧ Ints wr B b) (fun i _ => n - (intOf i).toNat)
  case atStart => exact ⟨0, Nat.zero_le _, rfl, B2, B3, hbW, hAW, hBW⟩
  case round =>
    obtain ⟨wo, rfl⟩ : ∃ wo : World, wo = wr := ⟨_, rfl⟩
    obtain ⟨k, hk, rfl, C2, C3, hbr, hIA, hIB⟩ := hrel
    clear B2 B3 hbW hAW hBW
    by_cases hlt : k < n
    · have hka : k < a.length := by rw [HA.out.1]; exact hlt
      have hkb : k < b.length := by rw [HB.out.1]; exact hlt
      have hks : k < s.length := by rw [HSL.out]; exact hlt
      obtain ⟨ad, rfl, hca⟩ := Ints.at hIA hka
      obtain ⟨bd, rfl, hcb⟩ := Ints.at hIB hkb
      have hx := HA.out.2 a[k] (List.getElem_mem _)
      have hy := HB.out.2 b[k] (List.getElem_mem _)
      have HST : Hid ((kv (s.take k)).set k (a[k] + b[k]) = kv (s.take (k + 1))) := Lib.hid (by rw [← HSA.out k hka hkb hks]; exact kv_take_set hks)
      have c0 := C3.cell k
      have f0 := C3.frozen k
      rw [iarr_at _ (by rw [kv_len]; omega)] at c0
      generalize (kv (s.take k))[k]'(by rw [kv_len]; omega) = old at c0
      have HC3 := Lib.hid C3
      have HIA := Lib.hid hIA
      have HIB := Lib.hid hIB
      generalize b[k] = y at *
      generalize a[k] = x at *
      have hal : a.length = n := HA.out.1
      have hbl : b.length = n := HB.out.1
      have q0 : (0 : Int) ≤ (k : Int) := by omega
      have q1 : (k : Int) < (a.length : Int) := by omega
      have q2 : (k : Int) < (b.length : Int) := by omega
      have q4 : (k : Int) < 6 := by omega
      have q3 : ((k : Int)).toNat = k := by omega
      have w1 : IntKind.i64.wrap (x + y) = x + y := IntWalk.i64_in _ (by omega)
      have HAL := Lib.hid hal
      have HBL := Lib.hid hbl
      clear C3 hIA hIB hal hbl hx hy
      go_wp2
      go_region
      go_wp2
      go_roundw
      case rel =>
        refine ⟨k + 1, by omega, by go_num, (C2.far (by simp) _).drew, ?_, (below_far hbr (by omega) _ _).drew, (HIA.out.far HOA.out _ _).drewN 1, (HIB.out.far HOB.out _ _).drewN 1⟩
        have := HC3.out.set k (.int .i64 (x + y))
        rw [iarr_set, HST.out] at this
        exact this.drew
      case measure => simp [intOf]; omega
    · obtain rfl : k = n := by omega
      have hsl := HSL.out
      rw [List.take_of_length_le (by omega)] at C3
      have HK := Lib.hid (keyV_eq s)
      have C3' : Blk wo (w.heap.size + 1) 89 #[.int .i64 (s.getD 0 0), .int .i64 (s.getD 1 0), .int .i64 (s.getD 2 0), .int .i64 (s.getD 3 0), .int .i64 (s.getD 4 0), .int .i64 (s.getD 5 0)] := C3
      obtain ⟨⟨a0, a1, a2, a3, a4, a5⟩, f0, f1, f2, f3, f4, f5⟩ := Blk.six C2
      obtain ⟨⟨j0, j1, j2, j3, j4, j5⟩, k0, k1, k2, k3, k4, k5⟩ := Blk.six C3'
      have hz := C2.lt
      have hal : a.length = k := HA.out.1
      have HAL := Lib.hid hal
      have dd : decide ((k : Int) < (a.length : Int)) = false := decide_eq_false (by omega)
      have dd' : decide (k < a.length) = false := decide_eq_false (by omega)
      clear hsl C2 C3 C3' hal
      generalize s.getD 0 0 = v0 at *
      generalize s.getD 1 0 = v1 at *
      generalize s.getD 2 0 = v2 at *
      generalize s.getD 3 0 = v3 at *
      generalize s.getD 4 0 = v4 at *
      generalize s.getD 5 0 = v5 at *
      go_wp2
      refine bodyPost_ret (v := .agg #[.int .i64 v0, .int .i64 v1, .int .i64 v2, .int .i64 v3, .int .i64 v4, .int .i64 v5]) (by simp [results, Tryz.results39, go_sem, a0, a1, a2, a3, a4, a5]) rfl ⟨by rw [HK.out], ?_⟩
      exact below_six hbr (by omega) _ _ _ _ _ _
end Go.Proofs.Tg
end
