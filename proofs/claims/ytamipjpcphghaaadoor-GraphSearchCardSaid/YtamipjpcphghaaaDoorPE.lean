/- Plain law of isChordal: exactly the graphs with a perfect elimination order. -/
import Derived.Test.YtamipjpcphghaaaDoorPD
namespace Go.Gr
open Go.Chordal
theorem searchTo_take {A : Nat → Nat} {n : Nat} (hn : n ≤ 64) : ∀ d r, r + d = n → (searchTo A n r).2 = (search A n).take r := by
  intro d
  induction d with
  | zero =>
    intro r hr
    have hr : r = n := by omega
    subst hr
    have := (visits (A := A) hn r (Nat.le_refl _)).len
    unfold search
    rw [List.take_of_length_le (by omega)]
  | succ d ih =>
    intro r hr
    have h1 := ih (r + 1) (by omega)
    have h2 : (searchTo A n (r + 1)).2 = (searchTo A n r).2 ++ [(best A (searchTo A n r).1 n).1.toNat] := rfl
    have hl := (visits (A := A) hn r (by omega)).len
    rw [h2] at h1
    have h3 := congrArg (List.take r) h1
    rw [List.take_append_of_le_length (by omega), List.take_of_length_le (by omega), List.take_take, Nat.min_eq_left (by omega)] at h3
    exact h3
def ord (A : Nat → Nat) (n k : Nat) : Nat := (search A n).getD k 0
theorem searchTo_ord {A : Nat → Nat} {n r : Nat} (hn : n ≤ 64) (hr : r ≤ n) : (searchTo A n r).2 = (List.range r).map (ord A n) := by
  have hl : (search A n).length = n := (visits (A := A) hn n (Nat.le_refl _)).len
  rw [searchTo_take hn (n - r) r (by omega)]
  apply List.ext_getElem
  · simp; omega
  · intro i h1 h2
    have hi : i < r := by simpa using h2
    simp [ord, List.getElem?_eq_getElem (show i < (search A n).length by omega)]
theorem search_ord {A : Nat → Nat} {n : Nat} (hn : n ≤ 64) : search A n = (List.range n).map (ord A n) := searchTo_ord hn (Nat.le_refl _)
theorem vis_bit {A : Nat → Nat} {n r : Nat} (hn : n ≤ 64) (hr : r ≤ n) (i : Nat) : (searchTo A n r).1.testBit i = true ↔ ∃ k, k < r ∧ ord A n k = i := by
  rw [(visits hn r hr).bits, searchTo_ord hn hr]
  simp
theorem ord_lt {A : Nat → Nat} {n k : Nat} (hn : n ≤ 64) (hk : k < n) : ord A n k < n := by
  refine (visits (A := A) hn n (Nat.le_refl _)).lt _ ?_
  rw [searchTo_ord hn (Nat.le_refl _)]
  exact List.mem_map.2 ⟨k, by simpa using hk, rfl⟩
theorem ord_inj {A : Nat → Nat} {n a b : Nat} (hn : n ≤ 64) (hab : a < b) (hb : b < n) : ord A n a ≠ ord A n b := by
  have hnd := (visits (A := A) hn n (Nat.le_refl _)).nodup
  rw [searchTo_ord hn (Nat.le_refl _)] at hnd
  have := List.pairwise_iff_getElem.1 hnd a b (by simp; omega) (by simpa using hb) hab
  simpa using this
theorem ord_onto {A : Nat → Nat} {n v : Nat} (hn : n ≤ 64) (hv : v < n) : ∃ k, k < n ∧ ord A n k = v := by
  by_cases h : v ∈ (searchTo A n n).2
  · rw [searchTo_ord hn (Nat.le_refl _)] at h
    obtain ⟨k, hk, e⟩ := List.mem_map.1 h
    exact ⟨k, by simpa using hk, e⟩
  · exfalso
    have hV := visits (A := A) hn n (Nat.le_refl _)
    have hlen : n + 1 ≤ (v :: (searchTo A n n).2).length := by simp [hV.len]
    have hnd : (v :: (searchTo A n n).2).Nodup := List.nodup_cons.2 ⟨h, hV.nodup⟩
    have hsub : ∀ x ∈ v :: (searchTo A n n).2, x < n := by
      intro x hx
      rcases List.mem_cons.1 hx with rfl | hx
      · exact hv
      · exact hV.lt x hx
    have : ∀ (m : Nat) (l : List Nat), l.Nodup → (∀ x ∈ l, x < m) → l.length ≤ m := by
      intro m
      induction m with
      | zero => intro l _ h; cases l with
        | nil => simp
        | cons x l => have := h x (by simp); omega
      | succ m ih =>
        intro l hl h
        have h1 := ih (l.erase m) (hl.erase m) (fun x hx => by
          have h2 := h x (List.mem_of_mem_erase hx)
          have h3 : x ≠ m := fun e => by subst e; exact (List.Nodup.not_mem_erase hl) hx
          omega)
        have := List.length_erase_le (a := m) (l := l)
        have h4 : l.length ≤ (l.erase m).length + 1 := by
          by_cases hm : m ∈ l
          · rw [List.length_erase_of_mem hm]; omega
          · rw [List.erase_of_not_mem hm]; omega
        omega
    have := this n _ hnd hsub
    omega
theorem cnt_size {A : Nat → Nat} (hS : Small A) {n r v : Nat} (hn : n ≤ 64) (hr : r ≤ n) : cnt (bt A) (ord A n) r v = size (A v &&& (searchTo A n r).1) := by
  unfold cnt size
  have h1 : (((List.range r).filter fun k => bt A v (ord A n k)).map (ord A n)).Perm (verts (A v &&& (searchTo A n r).1)) := by
    rw [List.perm_ext_iff_of_nodup]
    · intro x
      rw [mem_verts, Nat.testBit_and, List.mem_map]
      simp only [List.mem_filter, List.mem_range, Bool.and_eq_true]
      constructor
      · rintro ⟨k, ⟨hk, hb⟩, rfl⟩
        exact ⟨bt_lt hS hb, hb, (vis_bit hn hr _).2 ⟨k, hk, rfl⟩⟩
      · rintro ⟨_, hb, hv⟩
        obtain ⟨k, hk, rfl⟩ := (vis_bit hn hr _).1 hv
        exact ⟨k, ⟨hk, hb⟩, rfl⟩
    · rw [List.nodup_iff_pairwise_ne, List.pairwise_map]
      refine List.Pairwise.filter _ ?_
      rw [List.pairwise_iff_getElem]
      intro i j hi hj hij
      simp only [List.length_range] at hi hj
      simp only [List.getElem_range]
      exact ord_inj hn hij (by omega)
    · exact verts_nodup _
  have := h1.length_eq
  rwa [List.length_map] at this
theorem mcs {A : Nat → Nat} (hS : Small A) {n : Nat} (hn : n ≤ 64) : Mcs (bt A) (ord A n) n where
  inj a b hab hb := ord_inj hn hab hb
  most y u hyu hu := by
    rw [cnt_size hS hn (by omega), cnt_size hS hn (by omega)]
    obtain ⟨v, hv, hf, he, hm, _⟩ := best_of (visits (A := A) hn y (by omega)) (by omega)
    have e1 : ord A n y = v := by
      have h1 := searchTo_ord (A := A) (r := y + 1) hn (by omega)
      have h2 : (searchTo A n (y + 1)).2 = (searchTo A n y).2 ++ [(best A (searchTo A n y).1 n).1.toNat] := rfl
      rw [h2, he, searchTo_ord hn (by omega), List.range_succ, List.map_append] at h1
      have := List.append_cancel_left h1
      simpa using this.symm
    rw [e1]
    refine hm _ (ord_lt hn hu) ?_
    cases hb : (searchTo A n y).1.testBit (ord A n u) with
    | false => rfl
    | true =>
      obtain ⟨k, hk, e⟩ := (vis_bit hn (by omega) _).1 hb
      exact absurd e (ord_inj hn (by omega) hu)
theorem isClique_iff {A : Nat → Nat} (hS : Small A) {s : Nat} (hs : s < 18446744073709551616) : isClique A s = true ↔ ∀ u v, s.testBit u = true → s.testBit v = true → u ≠ v → bt A v u = true := by
  unfold isClique
  rw [List.all_eq_true]
  have key : ∀ v, v < 64 → s.testBit v = true → (andn (bclr s v) (A v) = 0 ↔ ∀ u, s.testBit u = true → u ≠ v → bt A v u = true) := by
    intro v hv hsv
    constructor
    · intro h u hu hne
      have hu64 : u < 64 := by
        by_cases h64 : u < 64
        · exact h64
        · rw [high_bit hs (by omega)] at hu; cases hu
      have := congrArg (fun x => x.testBit u) h
      simp only [andn_bit _ _ _ (hS v) hu64, bclr_bit _ _ _ hv hu64, hu, Nat.zero_testBit] at this
      have hne2 : ¬ v = u := fun e => hne e.symm
      simp [hne2] at this
      exact this
    · intro h
      apply Nat.eq_of_testBit_eq
      intro u
      rw [Nat.zero_testBit]
      have hlt : andn (bclr s v) (A v) < 18446744073709551616 := by
        unfold andn
        exact and_lt _ (bclr_lt v hs)
      by_cases hu64 : u < 64
      · rw [andn_bit _ _ _ (hS v) hu64, bclr_bit _ _ _ hv hu64]
        cases hu : s.testBit u
        · simp
        · by_cases e : v = u
          · simp [e]
          · have := h u hu (fun e2 => e e2.symm)
            unfold bt at this
            simp [this]
      · exact high_bit hlt (by omega)
  constructor
  · intro h u v hu hv hne
    have hv64 : v < 64 := by
      by_cases h64 : v < 64
      · exact h64
      · rw [high_bit hs (by omega)] at hv; cases hv
    have := h v (mem_verts.2 ⟨hv64, hv⟩)
    rw [decide_eq_true_eq] at this
    exact (key v hv64 hv).1 this u hu hne
  · intro h v hv
    obtain ⟨h1, h2⟩ := mem_verts.1 hv
    rw [decide_eq_true_eq]
    exact (key v h1 h2).2 (fun u hu hne => h u v hu h2 hne)
theorem earlierFrom_at (A : Nat → Nat) : ∀ (l : List Nat) (vis k : Nat) (hk : k < l.length), (earlierFrom A vis l)[k]? = some (A l[k] &&& (l.take k).foldl bset vis)
  | v :: l, vis, 0, _ => by simp [earlierFrom]
  | v :: l, vis, k + 1, hk => by
    have := earlierFrom_at A l (bset vis v) k (by simpa using hk)
    simp only [earlierFrom, List.getElem?_cons_succ, List.getElem_cons_succ, List.take_succ_cons, List.foldl_cons]
    exact this
theorem vis_fold {A : Nat → Nat} {n : Nat} : ∀ r, (searchTo A n r).1 = (searchTo A n r).2.foldl bset 0
  | 0 => rfl
  | r + 1 => by
    show bset (searchTo A n r).1 _ = ((searchTo A n r).2 ++ [_]).foldl bset 0
    rw [List.foldl_append, ← vis_fold r]; rfl
theorem earlier_len (A : Nat → Nat) : ∀ (l : List Nat) (vis : Nat), (earlierFrom A vis l).length = l.length
  | [], _ => rfl
  | _ :: l, vis => by simp [earlierFrom, earlier_len A l]
theorem earlier_at {A : Nat → Nat} {n k : Nat} (hn : n ≤ 64) (hk : k < n) : (earlier A (search A n))[k]? = some (A (ord A n k) &&& (searchTo A n k).1) := by
  have hl : (search A n).length = n := (visits (A := A) hn n (Nat.le_refl _)).len
  have := earlierFrom_at A (search A n) 0 k (by omega)
  unfold earlier
  rw [this, vis_fold, searchTo_take hn (n - k) k (by omega)]
  congr 3
  simp [ord, List.getElem?_eq_getElem (show k < (search A n).length by omega)]
/-- isChordal: the neighbours ahead of each vertex of the search are pairwise adjacent. -/
theorem chordal_iff {A : Nat → Nat} (hS : Small A) {n : Nat} (hn : n ≤ 64) : isChordal A n = true ↔
    ∀ k a b, k < n → a < k → b < k → a ≠ b → bt A (ord A n k) (ord A n a) = true → bt A (ord A n k) (ord A n b) = true → bt A (ord A n a) (ord A n b) = true := by
  unfold isChordal
  rw [List.all_eq_true]
  have hl : (search A n).length = n := (visits (A := A) hn n (Nat.le_refl _)).len
  have hlt : ∀ k, (A (ord A n k) &&& (searchTo A n k).1) < 18446744073709551616 := fun k => and_lt _ (hS _)
  constructor
  · intro h k a b hk ha hb hab h1 h2
    have hm := h _ (List.mem_of_getElem? (earlier_at hn hk))
    rw [isClique_iff hS (hlt k)] at hm
    refine hm (ord A n b) (ord A n a) ?_ ?_ ?_
    · rw [Nat.testBit_and]
      simp only [Bool.and_eq_true]
      exact ⟨h2, (vis_bit hn (by omega) _).2 ⟨b, hb, rfl⟩⟩
    · rw [Nat.testBit_and]
      simp only [Bool.and_eq_true]
      exact ⟨h1, (vis_bit hn (by omega) _).2 ⟨a, ha, rfl⟩⟩
    · rcases Nat.lt_or_gt_of_ne hab with h | h
      · exact fun e => ord_inj hn h (by omega) e.symm
      · exact ord_inj hn h (by omega)
  · intro h s hs
    obtain ⟨k, hk⟩ := List.getElem?_of_mem hs
    have hkn : k < n := by
      have := (List.getElem?_eq_some_iff.1 hk).1
      unfold earlier at this
      rw [earlier_len] at this
      omega
    rw [earlier_at hn hkn] at hk
    injection hk with hk
    subst hk
    rw [isClique_iff hS (hlt k)]
    intro u v hu hv hne
    rw [Nat.testBit_and] at hu hv
    simp only [Bool.and_eq_true] at hu hv
    obtain ⟨b, hb, rfl⟩ := (vis_bit hn (by omega) _).1 hu.2
    obtain ⟨a, ha, rfl⟩ := (vis_bit hn (by omega) _).1 hv.2
    exact h k a b hkn ha hb (fun e => hne (by rw [e])) hv.1 hu.1
theorem isChordal_of_peo {A : Nat → Nat} (hS : Small A) {n : Nat} (hn : n ≤ 64) (hsym : ∀ a b, bt A a b = true → bt A b a = true) {l : List Nat} (hl : Peo (fun a b => bt A a b = true) l) (hm : ∀ v, v < n → v ∈ l) : isChordal A n = true := by
  rw [chordal_iff hS hn]
  intro k a b hk ha hb hab h1 h2
  exact mcs_clique hsym (mcs hS hn) hl (fun k hk => hm _ (ord_lt hn hk)) hk ha hb hab h1 h2
theorem peo_of_isChordal {A : Nat → Nat} (hS : Small A) {n : Nat} (hn : n ≤ 64) (h : isChordal A n = true) : Peo (fun a b => bt A a b = true) (search A n).reverse := by
  rw [chordal_iff hS hn] at h
  have : ∀ r, r ≤ n → Peo (fun a b => bt A a b = true) ((List.range r).map (ord A n)).reverse := by
    intro r
    induction r with
    | zero => intro _; exact trivial
    | succ r ih =>
      intro hr
      have e : ((List.range (r + 1)).map (ord A n)).reverse = ord A n r :: ((List.range r).map (ord A n)).reverse := by
        rw [List.range_succ, List.map_append, List.reverse_append]; rfl
      rw [e]
      refine ⟨fun a ha b hb h1 h2 hne => ?_, ih (by omega)⟩
      simp only [List.mem_reverse, List.mem_map, List.mem_range] at ha hb
      obtain ⟨i, hi, rfl⟩ := ha
      obtain ⟨j, hj, rfl⟩ := hb
      exact h r i j (by omega) hi hj (fun e => hne (by rw [e])) h1 h2
  rw [search_ord hn]
  exact this n (Nat.le_refl _)
end Go.Gr
