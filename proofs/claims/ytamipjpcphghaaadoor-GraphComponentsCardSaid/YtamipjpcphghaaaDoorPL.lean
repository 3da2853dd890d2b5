/- Plain: labels that go along the edges tell the components apart. -/
import Derived.Test.YtamipjpcphghaaaDoorPK
namespace Go.Gr
open Go.Jt
def stepR (f : Nat → Nat) (e : Int × Int) : Nat → Nat := updF (updF f e.1.toNat (min (f e.1.toNat) (f e.2.toNat))) e.2.toNat (min (f e.1.toNat) (f e.2.toNat))
def roundR (es : List (Int × Int)) (f : Nat → Nat) : Nat → Nat := es.foldl stepR f
def reachTo (es : List (Int × Int)) : Nat → Nat → Nat
  | 0 => fun v => v
  | r + 1 => roundR es (reachTo es r)
theorem roundR_snoc (es : List (Int × Int)) (e : Int × Int) (f : Nat → Nat) : roundR (es ++ [e]) f = stepR (roundR es f) e := by simp [roundR]
theorem stepR_le (f : Nat → Nat) (e : Int × Int) (v : Nat) : stepR f e v ≤ f v := by
  unfold stepR updF
  by_cases h1 : v = e.2.toNat
  · rw [if_pos h1, h1]; exact Nat.min_le_right _ _
  · rw [if_neg h1]
    by_cases h2 : v = e.1.toNat
    · rw [if_pos h2, h2]; exact Nat.min_le_left _ _
    · rw [if_neg h2]; exact Nat.le_refl _
theorem roundR_le : ∀ (es : List (Int × Int)) (f : Nat → Nat) (v : Nat), roundR es f v ≤ f v
  | [], _, _ => Nat.le_refl _
  | e :: es, f, v => Nat.le_trans (roundR_le es (stepR f e) v) (stepR_le f e v)
section
variable {n : Nat} {es : List (Int × Int)}
theorem edge_rel {e : Int × Int} (he : e ∈ es) : Rel es e.1.toNat e.2.toNat := (readT_iff _ _ _).2 ⟨e, he, .inl ⟨rfl, rfl⟩⟩
theorem stepR_conn (h : valid n es) {e : Int × Int} (he : e ∈ es) {f : Nat → Nat} (hf : ∀ v, Conn (Rel es) v (f v)) : ∀ v, Conn (Rel es) v (stepR f e v) := by
  have hr := edge_rel he
  have hr' := rel_sym h _ _ hr
  have hm : min (f e.1.toNat) (f e.2.toNat) = f e.1.toNat ∨ min (f e.1.toNat) (f e.2.toNat) = f e.2.toNat := by omega
  intro v
  unfold stepR updF
  by_cases h1 : v = e.2.toNat
  · rw [if_pos h1, h1]
    rcases hm with hm | hm
    · rw [hm]; exact (Conn.step hr').trans (hf _)
    · rw [hm]; exact hf _
  · rw [if_neg h1]
    by_cases h2 : v = e.1.toNat
    · rw [if_pos h2, h2]
      rcases hm with hm | hm
      · rw [hm]; exact hf _
      · rw [hm]; exact (Conn.step hr).trans (hf _)
    · rw [if_neg h2]; exact hf v
theorem roundR_conn (h : valid n es) : ∀ (l : List (Int × Int)), (∀ e ∈ l, e ∈ es) → ∀ f : Nat → Nat, (∀ v, Conn (Rel es) v (f v)) → ∀ v, Conn (Rel es) v (roundR l f v)
  | [], _, _, hf => hf
  | e :: l, hl, f, hf => roundR_conn h l (fun x hx => hl x (by simp [hx])) _ (stepR_conn h (hl e (by simp)) hf)
theorem reach_conn (h : valid n es) : ∀ r v, Conn (Rel es) v (reachTo es r v)
  | 0, v => Conn.refl v
  | r + 1, v => roundR_conn h es (fun _ h => h) _ (reach_conn h r) v
/-- A least vertex stays, and goes along each edge in one round. -/
theorem round_least (h : valid n es) {μ : Nat} (hμ : ∀ v, Conn (Rel es) μ v → μ ≤ v) {f : Nat → Nat} (hf : ∀ v, Conn (Rel es) v (f v)) {u v : Nat} (hu : Conn (Rel es) μ u) (hfu : f u = μ) :
    roundR es f u = μ ∧ (Rel es u v → roundR es f v = μ) := by
  have low : ∀ (l : List (Int × Int)), (∀ e ∈ l, e ∈ es) → ∀ (g : Nat → Nat), (∀ v, Conn (Rel es) v (g v)) → ∀ x, Conn (Rel es) μ x → μ ≤ roundR l g x :=
    fun l hl g hg x hx => hμ _ (hx.trans (roundR_conn h l hl g hg x))
  refine ⟨?_, fun huv => ?_⟩
  · have h1 := roundR_le es f u
    have h2 := low es (fun _ h => h) f hf u hu
    omega
  · have hv : Conn (Rel es) μ v := hu.trans (Conn.step huv)
    obtain ⟨e, he, hh⟩ := (readT_iff _ _ _).1 huv
    obtain ⟨l1, l2, hl⟩ := List.append_of_mem he
    have hsub1 : ∀ x ∈ l1, x ∈ es := fun x hx => by rw [hl]; simp [hx]
    have hsub2 : ∀ x ∈ l2, x ∈ es := fun x hx => by rw [hl]; simp [hx]
    have hg := roundR_conn h l1 hsub1 f hf
    have g1 : roundR l1 f u = μ := by
      have h1 := roundR_le l1 f u
      have h2 := low l1 hsub1 f hf u hu
      omega
    have g2 : μ ≤ roundR l1 f v := low l1 hsub1 f hf v hv
    have hg2 := stepR_conn h he hg
    have g3 : stepR (roundR l1 f) e v = μ := by
      have hm : min (roundR l1 f e.1.toNat) (roundR l1 f e.2.toNat) = μ := by
        rcases hh with ⟨e1, e2⟩ | ⟨e1, e2⟩
        · rw [e1, e2, g1]; omega
        · rw [e1, e2, g1]; omega
      unfold stepR updF
      rw [hm]
      rcases hh with ⟨e1, e2⟩ | ⟨e1, e2⟩
      · rw [if_pos e2.symm]
      · by_cases h1 : v = e.2.toNat
        · rw [if_pos h1]
        · rw [if_neg h1, if_pos e1.symm]
    have e4 : roundR es f = roundR l2 (stepR (roundR l1 f) e) := by rw [hl]; simp [roundR]
    rw [e4]
    have h1 := roundR_le l2 (stepR (roundR l1 f) e) v
    have h2 := low l2 hsub2 _ hg2 v hv
    omega
theorem reach_all (h : valid n es) {μ : Nat} (hμn : μ < n) (hμ : ∀ v, Conn (Rel es) μ v → μ ≤ v) : ∀ v, Conn (Rel es) μ v → reachTo es n v = μ := by
  have key : ∀ r, (∀ v, Conn (Rel es) μ v → reachTo es r v = μ) ∨ r + 1 ≤ ((List.range n).filter fun v => decide (reachTo es r v = μ)).length := by
    intro r
    induction r with
    | zero =>
      right
      have : 0 < ((List.range n).filter fun v => decide (reachTo es 0 v = μ)).length := List.length_pos_of_mem (a := μ) (by simp [reachTo, hμn])
      omega
    | succ r ih =>
      have hf := reach_conn h r
      have hself : reachTo es r μ = μ := by
        have h1 := hμ _ (hf μ)
        have h2 : ∀ r, reachTo es r μ ≤ μ := by
          intro r
          induction r with
          | zero => exact Nat.le_refl _
          | succ r ih2 => exact Nat.le_trans (roundR_le es _ μ) ih2
        have := h2 r
        omega
      rcases ih with hall | hmany
      · exact .inl (fun v hv => (round_least (v := v) h hμ hf hv (hall v hv)).1)
      · by_cases hall : ∀ v, Conn (Rel es) μ v → reachTo es r v = μ
        · exact .inl (fun v hv => (round_least (v := v) h hμ hf hv (hall v hv)).1)
        · right
          obtain ⟨v, hv⟩ := Classical.not_forall.1 hall
          obtain ⟨hcv, hne⟩ := Classical.not_imp.1 hv
          obtain ⟨x, y, hxy, ⟨hcx, hx⟩, hy⟩ := hcv.cross (fun z => Conn (Rel es) μ z ∧ reachTo es r z = μ) ⟨Conn.refl _, hself⟩ (fun hh => hne hh.2)
          have hcy : Conn (Rel es) μ y := hcx.trans (Conn.step hxy)
          have hyne : reachTo es r y ≠ μ := fun e => hy ⟨hcy, e⟩
          have hyn := ((valid_nice h).lt x y hxy).2
          have := filter_one_more (p := fun v => decide (reachTo es r v = μ)) (q := fun v => decide (reachTo es (r + 1) v = μ)) (b := y) (n := n) hyn (by simpa using hyne) (by
            rw [decide_eq_true_eq]
            exact (round_least h hμ hf hcx hx).2 hxy) (fun z hz => by
            rw [decide_eq_true_eq] at hz ⊢
            have hcz : Conn (Rel es) μ z := by
              have := hf z
              rw [hz] at this
              exact this.symm (rel_sym h)
            exact (round_least (v := z) h hμ hf hcz hz).1)
          omega
  rcases key n with h1 | h1
  · exact h1
  · have := List.length_filter_le (fun v => decide (reachTo es n v = μ)) (List.range n)
    rw [List.length_range] at this
    omega
theorem reach_iff (h : valid n es) {i k : Nat} (hi : i < n) : reachTo es n i = reachTo es n k ↔ Conn (Rel es) i k := by
  have hs := rel_sym h
  constructor
  · intro e
    have h1 := reach_conn h n i
    have h2 := reach_conn h n k
    rw [← e] at h2
    exact h1.trans (h2.symm hs)
  · intro hc
    have hex : ∃ μ, Conn (Rel es) i μ ∧ ∀ v, Conn (Rel es) i v → μ ≤ v := by
      have : ∀ v, Conn (Rel es) i v → ∃ μ, Conn (Rel es) i μ ∧ ∀ v, Conn (Rel es) i v → μ ≤ v := by
        intro v
        induction v using Nat.strongRecOn with
        | _ v ih =>
          intro hv
          by_cases hh : ∃ x, x < v ∧ Conn (Rel es) i x
          · obtain ⟨x, h1, h2⟩ := hh
            exact ih x h1 h2
          · refine ⟨v, hv, fun x hx => ?_⟩
            by_cases hxv : v ≤ x
            · exact hxv
            · exact absurd ⟨x, by omega, hx⟩ hh
      exact this i (Conn.refl i)
    obtain ⟨μ, hc1, hmin⟩ := hex
    have hμ : ∀ v, Conn (Rel es) μ v → μ ≤ v := fun v hv => hmin v (hc1.trans hv)
    have hμn := conn_lt h hi hc1
    rw [reach_all h hμn hμ i (hc1.symm hs), reach_all h hμn hμ k ((hc1.symm hs).trans hc)]
/-- Where the statement notes the component of each vertex: the lists before i, and the first q of list i. -/
structure PartInv (ls : List (List Int)) (i q : Nat) (P : Nat → Nat) : Prop where
  old : ∀ (v j : Nat), j < i → (v : Int) ∈ ls.getD j [] → P v = j + 1
  now : ∀ v : Nat, (v : Int) ∈ (ls.getD i []).take q → P v = i + 1
  zero : ∀ v : Nat, (∀ j, j < i → (v : Int) ∉ ls.getD j []) → (v : Int) ∉ (ls.getD i []).take q → P v = 0
theorem part_start (ls : List (List Int)) : PartInv ls 0 0 (fun _ => 0) := ⟨fun v j hj => by omega, fun v hv => by simp at hv, fun _ _ _ => rfl⟩
theorem part_row {ls : List (List Int)} {i : Nat} {P : Nat → Nat} (h : PartInv ls i (ls.getD i []).length P) : PartInv ls (i + 1) 0 P := by
  refine ⟨fun v j hj hv => ?_, fun v hv => by simp at hv, fun v hv _ => ?_⟩
  · by_cases e : j = i
    · subst e; exact h.now v (by rw [List.take_length]; exact hv)
    · exact h.old v j (by omega) hv
  · exact h.zero v (fun j hj => hv j (by omega)) (by rw [List.take_length]; exact hv i (by omega))
theorem getD_mem_ls {ls : List (List Int)} {i : Nat} (hi : i < ls.length) : ls.getD i [] ∈ ls := by
  rw [List.getD_eq_getElem?_getD, List.getElem?_eq_getElem hi]; exact List.getElem_mem _
theorem part_dis {ls : List (List Int)} (hd : ls.Pairwise (fun l l' => ∀ x ∈ l, x ∉ l')) {i j : Nat} (hij : i < j) (hj : j < ls.length) {x : Int} (hx : x ∈ ls.getD i []) : x ∉ ls.getD j [] := by
  have := List.pairwise_iff_getElem.1 hd i j (by omega) hj hij
  rw [List.getD_eq_getElem?_getD, List.getElem?_eq_getElem (by omega)] at hx
  rw [List.getD_eq_getElem?_getD, List.getElem?_eq_getElem hj]
  exact this x hx
theorem part_new {ls : List (List Int)} (hq : CompEs n es ls) {i q : Nat} {P : Nat → Nat} (h : PartInv ls i q P) (hi : i < ls.length) {x : Nat} (hql : q < (ls.getD i []).length) (hx : (ls.getD i [])[q] = (x : Int)) :
    P x = 0 ∧ PartInv ls i (q + 1) (updF P x (i + 1)) := by
  have hin : (x : Int) ∈ ls.getD i [] := by rw [← hx]; exact List.getElem_mem _
  have hold : ∀ j, j < i → (x : Int) ∉ ls.getD j [] := fun j hj hh => part_dis hq.dis hj hi hh hin
  have hnot : (x : Int) ∉ (ls.getD i []).take q := by
    intro hh
    obtain ⟨k, hk, e⟩ := List.getElem_of_mem hh
    rw [List.getElem_take] at e
    rw [List.length_take] at hk
    have := List.pairwise_iff_getElem.1 (hq.asc _ (getD_mem_ls hi)) k q (by omega) hql (by omega)
    rw [hx, e] at this
    omega
  have htake : (ls.getD i []).take (q + 1) = (ls.getD i []).take q ++ [(x : Int)] := by rw [List.take_succ_eq_append_getElem hql, hx]
  refine ⟨h.zero x hold hnot, fun v j hj hv => ?_, fun v hv => ?_, fun v hv1 hv2 => ?_⟩
  · unfold updF
    rw [if_neg (fun e => by subst e; exact hold j hj hv)]
    exact h.old v j hj hv
  · unfold updF
    by_cases e : v = x
    · rw [if_pos e]
    · rw [if_neg e]
      rw [htake] at hv
      rcases List.mem_append.1 hv with hv | hv
      · exact h.now v hv
      · simp at hv; omega
  · rw [htake] at hv2
    unfold updF
    rw [if_neg (fun e => hv2 (by simp [e]))]
    exact h.zero v hv1 (fun hh => hv2 (List.mem_append.2 (.inl hh)))
theorem part_iff {ls : List (List Int)} (hq : CompEs n es ls) {P : Nat → Nat} (hP : PartInv ls ls.length 0 P) {i k : Nat} (hi : i < n) (hk : k < n) : P i = P k ↔ Conn (Rel es) i k := by
  have hat : ∀ v, v < n → ∃ j, j < ls.length ∧ (v : Int) ∈ ls.getD j [] ∧ P v = j + 1 := by
    intro v hv
    obtain ⟨l, hl, hvl⟩ := hq.all v hv
    obtain ⟨j, hj, e⟩ := List.getElem_of_mem hl
    have : (v : Int) ∈ ls.getD j [] := by rw [List.getD_eq_getElem?_getD, List.getElem?_eq_getElem hj, Option.getD_some, e]; exact hvl
    exact ⟨j, hj, this, hP.old v j hj this⟩
  obtain ⟨a, ha, hia, ea⟩ := hat i hi
  obtain ⟨b, hb, hkb, eb⟩ := hat k hk
  have hconn := fun u hu v => hq.conn (ls.getD a []) (getD_mem_ls ha) u hu v
  have hc := hconn (i : Int) hia k
  rw [Int.toNat_natCast] at hc
  rw [← hc, ea, eb]
  constructor
  · intro e
    have : a = b := by omega
    rw [this]; exact hkb
  · intro hka
    rcases Nat.lt_trichotomy a b with h1 | h1 | h1
    · exact absurd hkb (part_dis hq.dis h1 hb hka)
    · rw [h1]
    · exact absurd hka (part_dis hq.dis h1 ha hkb)
/-- All lists together have n elements. -/
theorem comp_count {ls : List (List Int)} (hq : CompEs n es ls) : ls.flatten.length = n := by
  have hp : ls.flatten.Perm ((List.range n).map fun v : Nat => (v : Int)) := by
    rw [List.perm_ext_iff_of_nodup]
    · intro x
      rw [List.mem_flatten, List.mem_map]
      constructor
      · rintro ⟨l, hl, hx⟩
        have := hq.lt l hl x hx
        exact ⟨x.toNat, by simp; omega, by omega⟩
      · rintro ⟨v, hv, rfl⟩
        exact hq.all v (by simpa using hv)
    · rw [List.nodup_iff_pairwise_ne, List.pairwise_flatten]
      refine ⟨fun l hl => (hq.asc l hl).imp (fun h e => by omega), hq.dis.imp (fun h x hx y hy e => h x hx (by rw [e]; exact hy))⟩
    · rw [List.nodup_iff_pairwise_ne, List.pairwise_map]
      exact List.nodup_range.imp (fun h e => h (by omega))
  have := hp.length_eq
  simpa using this
end
end Go.Gr
