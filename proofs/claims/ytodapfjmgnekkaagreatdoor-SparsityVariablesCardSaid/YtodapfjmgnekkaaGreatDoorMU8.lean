/- Parts of the proof: GPD, GPE, GPF, GPG, GPH. -/
import Derived.Test.YtodapfjmgnekkaaGreatDoorMU2
import Derived.Test.YtodapfjmgnekkaaGreatDoorMU3
import Derived.Test.YtodapfjmgnekkaaGreatDoorMU5
import Derived.Test.YtodapfjmgnekkaaGreatDoorMU6
import Derived.Test.YtodapfjmgnekkaaGreatDoorMU7
section
/- Plain law of Extend: what it adds; its order of elimination is perfect. -/
namespace Go.Gr
open Go.Chordal
def bt (A : Nat → Nat) (i j : Nat) : Bool := (A i).testBit j
theorem bt_lt {A : Nat → Nat} (hS : Small A) {i j : Nat} (h : bt A i j = true) : j < 64 := by
  by_cases hj : j < 64
  · exact hj
  · have := high_bit (hS i) (show 64 ≤ j by omega)
    unfold bt at h
    rw [this] at h
    cases h
theorem fill_bit (ar : Nat) : ∀ (l : List Nat) (A : Nat → Nat), (∀ v ∈ l, v < 64) → l.Nodup → ∀ v j, (fill ar l A v).testBit j = ((A v).testBit j || (decide (v ∈ l) && (bclr ar v).testBit j))
  | [], A, _, _, v, j => by simp [fill]
  | x :: l, A, hl, hn, v, j => by
    rw [List.nodup_cons] at hn
    have e : fill ar (x :: l) A = fill ar l (fillStep ar A x) := by simp [fill]
    rw [e, fill_bit ar l _ (fun u hu => hl u (by simp [hu])) hn.2]
    by_cases h : v = x
    · subst h
      unfold fillStep
      rw [upd_same, Nat.testBit_or]
      simp [hn.1]
    · unfold fillStep
      rw [upd_other _ _ h]
      simp [h]
theorem verts_nodup (s : Nat) : (verts s).Nodup := by
  unfold verts
  exact List.Pairwise.filter _ List.nodup_range
theorem verts_empty {s : Nat} (hs : s < 18446744073709551616) (h : verts s = []) : s = 0 := by
  apply Nat.eq_of_testBit_eq
  intro i
  rw [Nat.zero_testBit]
  by_cases hi : i < 64
  · cases hb : s.testBit i with
    | false => rfl
    | true =>
      have : i ∈ verts s := mem_verts.2 ⟨hi, hb⟩
      rw [h] at this
      simp at this
  · exact high_bit hs (by omega)
theorem elim_at {A : Nat → Nat} {rest : Nat} (hI : Irr A) (hr : rest < 18446744073709551616) (h0 : rest ≠ 0) :
    ∃ b, b < 64 ∧ rest.testBit b = true ∧ elim A rest = (fill (A b &&& rest) (verts (A b &&& rest)) A, bclr rest b) ∧ (∀ u, u < 64 → rest.testBit u = true → size (A b &&& rest) ≤ size (A u &&& rest)) ∧
      (∀ u, u < b → rest.testBit u = true → size (A b &&& rest) < size (A u &&& rest)) := by
  rcases minOf_spec A rest hI (verts rest).reverse (verts rest) (fun v hv => (mem_verts.1 hv).1) rfl with h | ⟨b, l, m, hlm, hm, h1, h2⟩
  · exact absurd (verts_empty hr h) h0
  · have hb : b ∈ verts rest := by rw [hlm]; simp
    have hasc : (verts rest).Pairwise (· < ·) := by unfold verts; exact List.Pairwise.filter _ List.pairwise_lt_range
    refine ⟨b, (mem_verts.1 hb).1, (mem_verts.1 hb).2, by unfold elim; rw [hm]; rfl, fun u hu hub => ?_, fun u hu hub => ?_⟩
    · have hmem : u ∈ verts rest := mem_verts.2 ⟨hu, hub⟩
      rw [hlm] at hmem
      rcases List.mem_append.1 hmem with h | h
      · have := h1 u h; omega
      · rcases List.mem_cons.1 h with rfl | h
        · exact Nat.le_refl _
        · exact h2 u h
    · have hmem : u ∈ verts rest := mem_verts.2 ⟨by have := (mem_verts.1 hb).1; omega, hub⟩
      rw [hlm] at hmem hasc
      rw [List.pairwise_append, List.pairwise_cons] at hasc
      rcases List.mem_append.1 hmem with h | h
      · exact h1 u h
      · rcases List.mem_cons.1 h with rfl | h
        · omega
        · have := hasc.2.1.1 u h; omega
def SymA (A : Nat → Nat) : Prop := ∀ i j, i < 64 → j < 64 → (A i).testBit j = (A j).testBit i
structure Ext (A B : Nat → Nat) (rest : Nat) : Prop where
  mono : ∀ v j, (A v).testBit j = true → (B v).testBit j = true
  new : ∀ v j, (B v).testBit j = true → (A v).testBit j = true ∨ (v < 64 ∧ j < 64 ∧ rest.testBit v = true ∧ rest.testBit j = true ∧ v ≠ j)
  sym : SymA A → SymA B
  small : Small B
  peo : ∃ l, (∀ v, v ∈ l ↔ v < 64 ∧ rest.testBit v = true) ∧ l.Nodup ∧ Peo (fun a b => (B a).testBit b = true) l
theorem extFrom_spec : ∀ (f : Nat) (A : Nat → Nat) (rest : Nat), size rest < f → Irr A → Small A → rest < 18446744073709551616 → Ext A (extFrom f A rest) rest
  | 0, _, _, h, _, _, _ => by omega
  | f + 1, A, rest, h, hI, hS, hr => by
    unfold extFrom
    by_cases h0 : rest = 0
    · rw [if_pos h0]
      refine ⟨fun _ _ h => h, fun _ _ h => .inl h, fun h => h, hS, [], ?_, by simp, trivial⟩
      intro v; subst h0; simp
    · rw [if_neg h0]
      obtain ⟨b, hb64, hbr, he, _, _⟩ := elim_at hI hr h0
      rw [he]
      have har : (A b &&& rest) < 18446744073709551616 := and_lt rest (hS b)
      have hlt : ∀ v ∈ verts (A b &&& rest), v < 64 := fun v hv => (mem_verts.1 hv).1
      have hbit := fill_bit (A b &&& rest) (verts (A b &&& rest)) A hlt (verts_nodup _)
      have hI1 : Irr (fill (A b &&& rest) (verts (A b &&& rest)) A) := fill_irr _ hlt hI
      have hS1 : Small (fill (A b &&& rest) (verts (A b &&& rest)) A) := fill_small har _ hS
      have hr1 : bclr rest b < 18446744073709551616 := bclr_lt b hr
      have ih := extFrom_spec f _ (bclr rest b) (by have := (bclr_less hb64 hbr).2; omega) hI1 hS1 hr1
      have hsub : ∀ j, j < 64 → ((bclr rest b).testBit j = true ↔ rest.testBit j = true ∧ b ≠ j) := by
        intro j hj; rw [bclr_bit _ _ _ hb64 hj]; simp
      have hab : ∀ v j, v < 64 → j < 64 → ((bclr (A b &&& rest) v).testBit j = true ↔ (A b &&& rest).testBit j = true ∧ v ≠ j) := by
        intro v j hv hj; rw [bclr_bit _ _ _ hv hj]; simp
      generalize hA1 : fill (A b &&& rest) (verts (A b &&& rest)) A = A1 at *
      have hnew1 : ∀ v j, (A1 v).testBit j = true → (A v).testBit j = true ∨ (v < 64 ∧ j < 64 ∧ (A b &&& rest).testBit v = true ∧ (A b &&& rest).testBit j = true ∧ v ≠ j) := by
        intro v j hj
        have hj64 : j < 64 := bt_lt hS1 hj
        rw [hbit] at hj
        simp only [Bool.or_eq_true, Bool.and_eq_true, decide_eq_true_eq] at hj
        rcases hj with hj | ⟨hv, hj⟩
        · exact .inl hj
        · have hv2 := mem_verts.1 hv
          rw [hab v j hv2.1 hj64] at hj
          exact .inr ⟨hv2.1, hj64, hv2.2, hj.1, hj.2⟩
      have hmono1 : ∀ v j, (A v).testBit j = true → (A1 v).testBit j = true := by
        intro v j hj; rw [hbit, hj]; rfl
      have hadd1 : ∀ v j, v < 64 → j < 64 → (A b &&& rest).testBit v = true → (A b &&& rest).testBit j = true → v ≠ j → (A1 v).testBit j = true := by
        intro v j hv hj h1 h2 h3
        rw [hbit]
        have : (bclr (A b &&& rest) v).testBit j = true := (hab v j hv hj).2 ⟨h2, h3⟩
        rw [this]
        simp [mem_verts, hv, h1]
      have hsym1 : SymA A → SymA A1 := by
        intro hs i j hi hj
        rw [Bool.eq_iff_iff]
        have half : ∀ i j, i < 64 → j < 64 → (A1 i).testBit j = true → (A1 j).testBit i = true := by
          intro i j hi hj h
          rcases hnew1 i j h with h | ⟨_, _, h1, h2, h3⟩
          · exact hmono1 j i (by rw [← hs i j hi hj]; exact h)
          · exact hadd1 j i hj hi h2 h1 (fun e => h3 e.symm)
        exact ⟨half i j hi hj, half j i hj hi⟩
      refine ⟨fun v j hj => ih.mono v j (hmono1 v j hj), fun v j hj => ?_, fun hs => ih.sym (hsym1 hs), ih.small, ?_⟩
      · rcases ih.new v j hj with hj | ⟨h1, h2, h3, h4, h5⟩
        · rcases hnew1 v j hj with hj | ⟨h1, h2, h3, h4, h5⟩
          · exact .inl hj
          · rw [Nat.testBit_and] at h3 h4
            simp only [Bool.and_eq_true] at h3 h4
            exact .inr ⟨h1, h2, h3.2, h4.2, h5⟩
        · exact .inr ⟨h1, h2, ((hsub v h1).1 h3).1, ((hsub j h2).1 h4).1, h5⟩
      · obtain ⟨l, hl1, hl2, hl3⟩ := ih.peo
        have hbl : b ∉ l := fun hm => ((hsub b hb64).1 ((hl1 b).1 hm).2).2 rfl
        refine ⟨b :: l, fun v => ?_, List.nodup_cons.2 ⟨hbl, hl2⟩, ?_, hl3⟩
        · rw [List.mem_cons, hl1]
          constructor
          · rintro (rfl | ⟨h1, h2⟩)
            · exact ⟨hb64, hbr⟩
            · exact ⟨h1, ((hsub v h1).1 h2).1⟩
          · rintro ⟨h1, h2⟩
            by_cases e : v = b
            · exact .inl e
            · exact .inr ⟨h1, (hsub v h1).2 ⟨h2, fun e2 => e e2.symm⟩⟩
        · have key : ∀ a ∈ l, (extFrom f A1 (bclr rest b) b).testBit a = true → a < 64 ∧ (A b &&& rest).testBit a = true := by
            intro a ha h1
            have ha2 := (hl1 a).1 ha
            refine ⟨ha2.1, ?_⟩
            have hra := ((hsub a ha2.1).1 ha2.2).1
            have hA : (A b).testBit a = true := by
              rcases ih.new b a h1 with h | ⟨_, _, h, _, _⟩
              · rcases hnew1 b a h with h | ⟨_, _, h, _, _⟩
                · exact h
                · rw [Nat.testBit_and, hI b hb64] at h; cases h
              · exact absurd rfl ((hsub b hb64).1 h).2
            rw [Nat.testBit_and, hA, hra]; rfl
          intro a ha c hc h1 h2 hne
          have k1 := key a ha h1
          have k2 := key c hc h2
          exact ih.mono a c (hadd1 a c k1.1 k2.1 k1.2 k2.2 hne)
end Go.Gr
end
section
/- Plain law of isChordal: exactly the graphs with a perfect elimination order. -/
namespace Go.Gr
open Go.Chordal
theorem searchTo_take {A : Nat → Nat} {n : Nat} (hn : n ≤ 64) : ∀ d r, r + d = n → (searchTo A n r).2 = (search A n).take r := by
  intro d
  induction d with
  | zero =>
    intro r hr
    have hr : r = n := by omega
    subst hr
    have := (visits (A := A) hn r (Nat.le_refl _)).len
    unfold search
    rw [List.take_of_length_le (by omega)]
  | succ d ih =>
    intro r hr
    have h1 := ih (r + 1) (by omega)
    have h2 : (searchTo A n (r + 1)).2 = (searchTo A n r).2 ++ [(best A (searchTo A n r).1 n).1.toNat] := rfl
    have hl := (visits (A := A) hn r (by omega)).len
    rw [h2] at h1
    have h3 := congrArg (List.take r) h1
    rw [List.take_append_of_le_length (by omega), List.take_of_length_le (by omega), List.take_take, Nat.min_eq_left (by omega)] at h3
    exact h3
def ord (A : Nat → Nat) (n k : Nat) : Nat := (search A n).getD k 0
theorem searchTo_ord {A : Nat → Nat} {n r : Nat} (hn : n ≤ 64) (hr : r ≤ n) : (searchTo A n r).2 = (List.range r).map (ord A n) := by
  have hl : (search A n).length = n := (visits (A := A) hn n (Nat.le_refl _)).len
  rw [searchTo_take hn (n - r) r (by omega)]
  apply List.ext_getElem
  · simp; omega
  · intro i h1 h2
    have hi : i < r := by simpa using h2
    simp [ord, List.getElem?_eq_getElem (show i < (search A n).length by omega)]
theorem search_ord {A : Nat → Nat} {n : Nat} (hn : n ≤ 64) : search A n = (List.range n).map (ord A n) := searchTo_ord hn (Nat.le_refl _)
theorem vis_bit {A : Nat → Nat} {n r : Nat} (hn : n ≤ 64) (hr : r ≤ n) (i : Nat) : (searchTo A n r).1.testBit i = true ↔ ∃ k, k < r ∧ ord A n k = i := by
  rw [(visits hn r hr).bits, searchTo_ord hn hr]
  simp
theorem ord_lt {A : Nat → Nat} {n k : Nat} (hn : n ≤ 64) (hk : k < n) : ord A n k < n := by
  refine (visits (A := A) hn n (Nat.le_refl _)).lt _ ?_
  rw [searchTo_ord hn (Nat.le_refl _)]
  exact List.mem_map.2 ⟨k, by simpa using hk, rfl⟩
theorem ord_inj {A : Nat → Nat} {n a b : Nat} (hn : n ≤ 64) (hab : a < b) (hb : b < n) : ord A n a ≠ ord A n b := by
  have hnd := (visits (A := A) hn n (Nat.le_refl _)).nodup
  rw [searchTo_ord hn (Nat.le_refl _)] at hnd
  have := List.pairwise_iff_getElem.1 hnd a b (by simp; omega) (by simpa using hb) hab
  simpa using this
theorem ord_onto {A : Nat → Nat} {n v : Nat} (hn : n ≤ 64) (hv : v < n) : ∃ k, k < n ∧ ord A n k = v := by
  by_cases h : v ∈ (searchTo A n n).2
  · rw [searchTo_ord hn (Nat.le_refl _)] at h
    obtain ⟨k, hk, e⟩ := List.mem_map.1 h
    exact ⟨k, by simpa using hk, e⟩
  · exfalso
    have hV := visits (A := A) hn n (Nat.le_refl _)
    have hlen : n + 1 ≤ (v :: (searchTo A n n).2).length := by simp [hV.len]
    have hnd : (v :: (searchTo A n n).2).Nodup := List.nodup_cons.2 ⟨h, hV.nodup⟩
    have hsub : ∀ x ∈ v :: (searchTo A n n).2, x < n := by
      intro x hx
      rcases List.mem_cons.1 hx with rfl | hx
      · exact hv
      · exact hV.lt x hx
    have : ∀ (m : Nat) (l : List Nat), l.Nodup → (∀ x ∈ l, x < m) → l.length ≤ m := by
      intro m
      induction m with
      | zero => intro l _ h; cases l with
        | nil => simp
        | cons x l => have := h x (by simp); omega
      | succ m ih =>
        intro l hl h
        have h1 := ih (l.erase m) (hl.erase m) (fun x hx => by
          have h2 := h x (List.mem_of_mem_erase hx)
          have h3 : x ≠ m := fun e => by subst e; exact (List.Nodup.not_mem_erase hl) hx
          omega)
        have := List.length_erase_le (a := m) (l := l)
        have h4 : l.length ≤ (l.erase m).length + 1 := by
          by_cases hm : m ∈ l
          · rw [List.length_erase_of_mem hm]; omega
          · rw [List.erase_of_not_mem hm]; omega
        omega
    have := this n _ hnd hsub
    omega
theorem cnt_size {A : Nat → Nat} (hS : Small A) {n r v : Nat} (hn : n ≤ 64) (hr : r ≤ n) : cnt (bt A) (ord A n) r v = size (A v &&& (searchTo A n r).1) := by
  unfold cnt size
  have h1 : (((List.range r).filter fun k => bt A v (ord A n k)).map (ord A n)).Perm (verts (A v &&& (searchTo A n r).1)) := by
    rw [List.perm_ext_iff_of_nodup]
    · intro x
      rw [mem_verts, Nat.testBit_and, List.mem_map]
      simp only [List.mem_filter, List.mem_range, Bool.and_eq_true]
      constructor
      · rintro ⟨k, ⟨hk, hb⟩, rfl⟩
        exact ⟨bt_lt hS hb, hb, (vis_bit hn hr _).2 ⟨k, hk, rfl⟩⟩
      · rintro ⟨_, hb, hv⟩
        obtain ⟨k, hk, rfl⟩ := (vis_bit hn hr _).1 hv
        exact ⟨k, ⟨hk, hb⟩, rfl⟩
    · rw [List.nodup_iff_pairwise_ne, List.pairwise_map]
      refine List.Pairwise.filter _ ?_
      rw [List.pairwise_iff_getElem]
      intro i j hi hj hij
      simp only [List.length_range] at hi hj
      simp only [List.getElem_range]
      exact ord_inj hn hij (by omega)
    · exact verts_nodup _
  have := h1.length_eq
  rwa [List.length_map] at this
theorem mcs {A : Nat → Nat} (hS : Small A) {n : Nat} (hn : n ≤ 64) : Mcs (bt A) (ord A n) n where
  inj a b hab hb := ord_inj hn hab hb
  most y u hyu hu := by
    rw [cnt_size hS hn (by omega), cnt_size hS hn (by omega)]
    obtain ⟨v, hv, hf, he, hm, _⟩ := best_of (visits (A := A) hn y (by omega)) (by omega)
    have e1 : ord A n y = v := by
      have h1 := searchTo_ord (A := A) (r := y + 1) hn (by omega)
      have h2 : (searchTo A n (y + 1)).2 = (searchTo A n y).2 ++ [(best A (searchTo A n y).1 n).1.toNat] := rfl
      rw [h2, he, searchTo_ord hn (by omega), List.range_succ, List.map_append] at h1
      have := List.append_cancel_left h1
      simpa using this.symm
    rw [e1]
    refine hm _ (ord_lt hn hu) ?_
    cases hb : (searchTo A n y).1.testBit (ord A n u) with
    | false => rfl
    | true =>
      obtain ⟨k, hk, e⟩ := (vis_bit hn (by omega) _).1 hb
      exact absurd e (ord_inj hn (by omega) hu)
theorem isClique_iff {A : Nat → Nat} (hS : Small A) {s : Nat} (hs : s < 18446744073709551616) : isClique A s = true ↔ ∀ u v, s.testBit u = true → s.testBit v = true → u ≠ v → bt A v u = true := by
  unfold isClique
  rw [List.all_eq_true]
  have key : ∀ v, v < 64 → s.testBit v = true → (andn (bclr s v) (A v) = 0 ↔ ∀ u, s.testBit u = true → u ≠ v → bt A v u = true) := by
    intro v hv hsv
    constructor
    · intro h u hu hne
      have hu64 : u < 64 := by
        by_cases h64 : u < 64
        · exact h64
        · rw [high_bit hs (by omega)] at hu; cases hu
      have := congrArg (fun x => x.testBit u) h
      simp only [andn_bit _ _ _ (hS v) hu64, bclr_bit _ _ _ hv hu64, hu, Nat.zero_testBit] at this
      have hne2 : ¬ v = u := fun e => hne e.symm
      simp [hne2] at this
      exact this
    · intro h
      apply Nat.eq_of_testBit_eq
      intro u
      rw [Nat.zero_testBit]
      have hlt : andn (bclr s v) (A v) < 18446744073709551616 := by
        unfold andn
        exact and_lt _ (bclr_lt v hs)
      by_cases hu64 : u < 64
      · rw [andn_bit _ _ _ (hS v) hu64, bclr_bit _ _ _ hv hu64]
        cases hu : s.testBit u
        · simp
        · by_cases e : v = u
          · simp [e]
          · have := h u hu (fun e2 => e e2.symm)
            unfold bt at this
            simp [this]
      · exact high_bit hlt (by omega)
  constructor
  · intro h u v hu hv hne
    have hv64 : v < 64 := by
      by_cases h64 : v < 64
      · exact h64
      · rw [high_bit hs (by omega)] at hv; cases hv
    have := h v (mem_verts.2 ⟨hv64, hv⟩)
    rw [decide_eq_true_eq] at this
    exact (key v hv64 hv).1 this u hu hne
  · intro h v hv
    obtain ⟨h1, h2⟩ := mem_verts.1 hv
    rw [decide_eq_true_eq]
    exact (key v h1 h2).2 (fun u hu hne => h u v hu h2 hne)
theorem earlierFrom_at (A : Nat → Nat) : ∀ (l : List Nat) (vis k : Nat) (hk : k < l.length), (earlierFrom A vis l)[k]? = some (A l[k] &&& (l.take k).foldl bset vis)
  | v :: l, vis, 0, _ => by simp [earlierFrom]
  | v :: l, vis, k + 1, hk => by
    have := earlierFrom_at A l (bset vis v) k (by simpa using hk)
    simp only [earlierFrom, List.getElem?_cons_succ, List.getElem_cons_succ, List.take_succ_cons, List.foldl_cons]
    exact this
theorem vis_fold {A : Nat → Nat} {n : Nat} : ∀ r, (searchTo A n r).1 = (searchTo A n r).2.foldl bset 0
  | 0 => rfl
  | r + 1 => by
    show bset (searchTo A n r).1 _ = ((searchTo A n r).2 ++ [_]).foldl bset 0
    rw [List.foldl_append, ← vis_fold r]; rfl
theorem earlier_len (A : Nat → Nat) : ∀ (l : List Nat) (vis : Nat), (earlierFrom A vis l).length = l.length
  | [], _ => rfl
  | _ :: l, vis => by simp [earlierFrom, earlier_len A l]
theorem earlier_at {A : Nat → Nat} {n k : Nat} (hn : n ≤ 64) (hk : k < n) : (earlier A (search A n))[k]? = some (A (ord A n k) &&& (searchTo A n k).1) := by
  have hl : (search A n).length = n := (visits (A := A) hn n (Nat.le_refl _)).len
  have := earlierFrom_at A (search A n) 0 k (by omega)
  unfold earlier
  rw [this, vis_fold, searchTo_take hn (n - k) k (by omega)]
  congr 3
  simp [ord, List.getElem?_eq_getElem (show k < (search A n).length by omega)]
/-- isChordal: the neighbours ahead of each vertex of the search are pairwise adjacent. -/
theorem chordal_iff {A : Nat → Nat} (hS : Small A) {n : Nat} (hn : n ≤ 64) : isChordal A n = true ↔
    ∀ k a b, k < n → a < k → b < k → a ≠ b → bt A (ord A n k) (ord A n a) = true → bt A (ord A n k) (ord A n b) = true → bt A (ord A n a) (ord A n b) = true := by
  unfold isChordal
  rw [List.all_eq_true]
  have hl : (search A n).length = n := (visits (A := A) hn n (Nat.le_refl _)).len
  have hlt : ∀ k, (A (ord A n k) &&& (searchTo A n k).1) < 18446744073709551616 := fun k => and_lt _ (hS _)
  constructor
  · intro h k a b hk ha hb hab h1 h2
    have hm := h _ (List.mem_of_getElem? (earlier_at hn hk))
    rw [isClique_iff hS (hlt k)] at hm
    refine hm (ord A n b) (ord A n a) ?_ ?_ ?_
    · rw [Nat.testBit_and]
      simp only [Bool.and_eq_true]
      exact ⟨h2, (vis_bit hn (by omega) _).2 ⟨b, hb, rfl⟩⟩
    · rw [Nat.testBit_and]
      simp only [Bool.and_eq_true]
      exact ⟨h1, (vis_bit hn (by omega) _).2 ⟨a, ha, rfl⟩⟩
    · rcases Nat.lt_or_gt_of_ne hab with h | h
      · exact fun e => ord_inj hn h (by omega) e.symm
      · exact ord_inj hn h (by omega)
  · intro h s hs
    obtain ⟨k, hk⟩ := List.getElem?_of_mem hs
    have hkn : k < n := by
      have := (List.getElem?_eq_some_iff.1 hk).1
      unfold earlier at this
      rw [earlier_len] at this
      omega
    rw [earlier_at hn hkn] at hk
    injection hk with hk
    subst hk
    rw [isClique_iff hS (hlt k)]
    intro u v hu hv hne
    rw [Nat.testBit_and] at hu hv
    simp only [Bool.and_eq_true] at hu hv
    obtain ⟨b, hb, rfl⟩ := (vis_bit hn (by omega) _).1 hu.2
    obtain ⟨a, ha, rfl⟩ := (vis_bit hn (by omega) _).1 hv.2
    exact h k a b hkn ha hb (fun e => hne (by rw [e])) hv.1 hu.1
theorem isChordal_of_peo {A : Nat → Nat} (hS : Small A) {n : Nat} (hn : n ≤ 64) (hsym : ∀ a b, bt A a b = true → bt A b a = true) {l : List Nat} (hl : Peo (fun a b => bt A a b = true) l) (hm : ∀ v, v < n → v ∈ l) : isChordal A n = true := by
  rw [chordal_iff hS hn]
  intro k a b hk ha hb hab h1 h2
  exact mcs_clique hsym (mcs hS hn) hl (fun k hk => hm _ (ord_lt hn hk)) hk ha hb hab h1 h2
theorem peo_of_isChordal {A : Nat → Nat} (hS : Small A) {n : Nat} (hn : n ≤ 64) (h : isChordal A n = true) : Peo (fun a b => bt A a b = true) (search A n).reverse := by
  rw [chordal_iff hS hn] at h
  have : ∀ r, r ≤ n → Peo (fun a b => bt A a b = true) ((List.range r).map (ord A n)).reverse := by
    intro r
    induction r with
    | zero => intro _; exact trivial
    | succ r ih =>
      intro hr
      have e : ((List.range (r + 1)).map (ord A n)).reverse = ord A n r :: ((List.range r).map (ord A n)).reverse := by
        rw [List.range_succ, List.map_append, List.reverse_append]; rfl
      rw [e]
      refine ⟨fun a ha b hb h1 h2 hne => ?_, ih (by omega)⟩
      simp only [List.mem_reverse, List.mem_map, List.mem_range] at ha hb
      obtain ⟨i, hi, rfl⟩ := ha
      obtain ⟨j, hj, rfl⟩ := hb
      exact h r i j (by omega) hi hj (fun e => hne (by rw [e])) h1 h2
  rw [search_ord hn]
  exact this n (Nat.le_refl _)
end Go.Gr
end
section
/- Plain law: the extension of a valid graph is valid, chordal and contains it. -/
namespace Go.Gr
open Go.Chordal
theorem bt_read (es : List (Int × Int)) (i j : Nat) : bt (readAll es) i j = readT es i j := read_bits es i j
/-- A graph with a perfect elimination order of all its vertices. -/
def Chord (t : Nat → Nat → Bool) (n : Nat) : Prop := ∃ l : List Nat, (∀ v, v ∈ l ↔ v < n) ∧ l.Nodup ∧ Peo (fun a b => t a b = true) l
structure ExtOf (t u : Nat → Nat → Bool) (n : Nat) : Prop where
  nice : Nice u n
  more : ∀ i j, t i j = true → u i j = true
  chord : Chord u n
theorem extend_of {n : Nat} {es : List (Int × Int)} (h : valid n es) : ExtOf (readT es) (bt (extend (readAll es) n)) n := by
  have hn := valid_nice h
  have hn64 : n ≤ 64 := by have := h.2.1; omega
  obtain ⟨hS, hI⟩ := readAll_small es n h
  have hf : firstN n < 18446744073709551616 := by
    unfold firstN
    by_cases e : n = 64
    · subst e; decide
    · have := shl_lt n (by omega); omega
  have hx := extFrom_spec 65 (readAll es) (firstN n) (by have := size_le (firstN n); omega) hI hS hf
  have hsymA : SymA (readAll es) := by
    intro i j _ _
    have h1 := bt_read es i j
    have h2 := bt_read es j i
    unfold bt at h1 h2
    rw [h1, h2]
    exact hn.symm i j
  have hsymB := hx.sym hsymA
  have hlt : ∀ i j, bt (extend (readAll es) n) i j = true → i < n ∧ j < n := by
    intro i j hij
    rcases hx.new i j hij with h1 | ⟨_, _, h1, h2, _⟩
    · have h2 := bt_read es i j
      unfold bt at h2
      rw [h2] at h1
      exact hn.lt i j h1
    · rw [firstN_bit] at h1 h2
      simpa using And.intro h1 h2
  refine ⟨⟨fun i j hij => ?_, fun i => ?_, hlt⟩, fun i j hij => ?_, ?_⟩
  · obtain ⟨h1, h2⟩ := hlt i j hij
    have := hsymB i j (by omega) (by omega)
    unfold bt at hij ⊢
    exact this ▸ hij
  · cases hb : bt (extend (readAll es) n) i i with
    | false => rfl
    | true =>
      rcases hx.new i i hb with h1 | ⟨_, _, _, _, h1⟩
      · have h2 := bt_read es i i
        unfold bt at h2
        rw [h2, hn.irr] at h1
        cases h1
      · exact absurd rfl h1
  · refine hx.mono i j ?_
    have h2 := bt_read es i j
    unfold bt at h2
    rw [h2]; exact hij
  · obtain ⟨l, h1, h2, h3⟩ := hx.peo
    refine ⟨l, fun v => ?_, h2, h3⟩
    rw [h1, firstN_bit]
    simp
    omega
/-- What Extend writes. -/
theorem extend_edges {n : Nat} {es : List (Int × Int)} (h : valid n es) : writeEdges (extend (readAll es) n) n = tableEdges (bt (extend (readAll es) n)) n n := by
  have hx := extend_of h
  have hn64 : n ≤ 64 := by have := h.2.1; omega
  refine writeEdges_table hn64 (fun i j _ hij => ⟨(hx.nice.lt i j hij).2, fun e => ?_⟩)
  subst e
  have := hx.nice.irr i
  unfold bt at this
  rw [this] at hij
  cases hij
theorem isChordal_chord {n : Nat} {es : List (Int × Int)} (h : valid n es) : isChordal (readAll es) n = true ↔ Chord (readT es) n := by
  have hn := valid_nice h
  have hn64 : n ≤ 64 := by have := h.2.1; omega
  obtain ⟨hS, hI⟩ := readAll_small es n h
  have e : (fun a b => bt (readAll es) a b = true) = fun a b => readT es a b = true := by funext a b; rw [bt_read]
  constructor
  · intro hc
    refine ⟨(search (readAll es) n).reverse, fun v => ?_, ?_, ?_⟩
    · rw [List.mem_reverse, search_ord hn64, List.mem_map]
      constructor
      · rintro ⟨k, hk, rfl⟩; exact ord_lt hn64 (by simpa using hk)
      · intro hv
        obtain ⟨k, hk, e⟩ := ord_onto (A := readAll es) hn64 hv
        exact ⟨k, by simpa using hk, e⟩
    · exact List.pairwise_reverse.2 ((visits (A := readAll es) hn64 n (Nat.le_refl _)).nodup.imp fun h e => h e.symm)
    · have := peo_of_isChordal hS hn64 hc
      rwa [e] at this
  · rintro ⟨l, h1, _, h3⟩
    refine isChordal_of_peo hS hn64 (fun a b hab => ?_) (l := l) (by rw [e]; exact h3) (fun v hv => (h1 v).2 hv)
    rw [bt_read] at hab ⊢
    exact hn.sym a b hab
/-- The extension, written: all that the statements ask. -/
structure ExtEs (n : Nat) (es xs : List (Int × Int)) : Prop where
  valid : valid n xs
  more : ∀ e ∈ es, (0 ≤ e.1 ∧ e.1 < n ∧ 0 ≤ e.2 ∧ e.2 < n) ∧ (readAll xs e.1.toNat).testBit e.2.toNat = true
  chord : isChordal (readAll xs) n = true
theorem extend_es {n : Nat} {es : List (Int × Int)} (h : valid n es) : ExtEs n es (writeEdges (extend (readAll es) n) n) := by
  have hx := extend_of h
  have hn64 : n ≤ 64 := by have := h.2.1; omega
  rw [extend_edges h]
  have hv := tableEdges_valid (bt (extend (readAll es) n)) hn64
  have hr := fun i j => read_table hx.nice i j
  refine ⟨hv, fun e he => ?_, ?_⟩
  · obtain ⟨g1, g2, g3⟩ := valid_good h e he
    refine ⟨by omega, ?_⟩
    have h1 : (readAll (tableEdges (bt (extend (readAll es) n)) n n) e.1.toNat).testBit e.2.toNat = _ := bt_read (tableEdges (bt (extend (readAll es) n)) n n) e.1.toNat e.2.toNat
    have : readT es e.1.toNat e.2.toNat = true := (readT_iff _ _ _).2 ⟨e, he, .inl ⟨rfl, rfl⟩⟩
    rw [h1, hr]
    exact hx.more _ _ this
  · rw [isChordal_chord hv]
    obtain ⟨l, h1, h2, h3⟩ := hx.chord
    refine ⟨l, h1, h2, ?_⟩
    have : (fun a b => readT (tableEdges (bt (extend (readAll es) n)) n n) a b = true) = fun a b => bt (extend (readAll es) n) a b = true := by funext a b; rw [hr]
    rw [this]; exact h3
theorem ext_len (A : Nat → Nat) : ∀ m, (writeEdges A m).length ≤ 64 * m
  | 0 => by simp [writeEdges]
  | m + 1 => by
    rw [writeEdges_succ, List.length_append]
    have := rowEdges_len A m
    have := ext_len A m
    omega
end Go.Gr
end
section
/- Plain law of Cliques: what it keeps are the maximal cliques of a chordal graph. -/
namespace Go.Gr
open Go.Chordal
theorem bit_lt {s j : Nat} (hs : s < 18446744073709551616) (h : s.testBit j = true) : j < 64 := by
  by_cases hj : j < 64
  · exact hj
  · rw [high_bit hs (by omega)] at h; cases h
theorem andn_zero {s t : Nat} (hs : s < 18446744073709551616) (ht : t < 18446744073709551616) : andn s t = 0 ↔ ∀ j, s.testBit j = true → t.testBit j = true := by
  have hlt : andn s t < 18446744073709551616 := by unfold andn; exact and_lt _ hs
  constructor
  · intro h j hj
    have hj64 := bit_lt hs hj
    have := congrArg (fun x => x.testBit j) h
    simp only [andn_bit _ _ _ ht hj64, hj, Nat.zero_testBit] at this
    simpa using this
  · intro h
    apply Nat.eq_of_testBit_eq
    intro j
    rw [Nat.zero_testBit]
    by_cases hj : j < 64
    · rw [andn_bit _ _ _ ht hj]
      cases hb : s.testBit j
      · rfl
      · simp [h j hb]
    · exact high_bit hlt (by omega)
theorem keepLast_sub : ∀ l : List Nat, (keepLast l).Sublist l
  | [] => List.Sublist.slnil
  | s :: r => by
    unfold keepLast
    split
    · exact (keepLast_sub r).cons s
    · exact (keepLast_sub r).cons_cons s
/-- A set stays exactly if it is not within a later one. -/
theorem mem_keepLast : ∀ {l : List Nat} {s : Nat}, s ∈ keepLast l ↔ ∃ k, ∃ h : k < l.length, l[k] = s ∧ ∀ j, ∀ h2 : j < l.length, k < j → ¬ andn s l[j] = 0
  | [], s => by simp [keepLast]
  | x :: r, s => by
    have ih := @mem_keepLast r s
    have hshift : (∃ k, ∃ h : k < r.length, r[k] = s ∧ ∀ j, ∀ h2 : j < r.length, k < j → ¬ andn s r[j] = 0) → ∃ k, ∃ h : k < (x :: r).length, (x :: r)[k] = s ∧ ∀ j, ∀ h2 : j < (x :: r).length, k < j → ¬ andn s (x :: r)[j] = 0 := by
      rintro ⟨k, hk, e, h⟩
      refine ⟨k + 1, by simpa using hk, by simpa using e, fun j hj hkj => ?_⟩
      obtain ⟨j, rfl⟩ : ∃ i, j = i + 1 := ⟨j - 1, by omega⟩
      simpa using h j (by simpa using hj) (by omega)
    have hback : (∃ k, ∃ h : k < (x :: r).length, (x :: r)[k] = s ∧ ∀ j, ∀ h2 : j < (x :: r).length, k < j → ¬ andn s (x :: r)[j] = 0) → (x = s ∧ ∀ j, ∀ h2 : j < r.length, ¬ andn s r[j] = 0) ∨ ∃ k, ∃ h : k < r.length, r[k] = s ∧ ∀ j, ∀ h2 : j < r.length, k < j → ¬ andn s r[j] = 0 := by
      rintro ⟨k, hk, e, h⟩
      cases k with
      | zero => exact .inl ⟨by simpa using e, fun j hj => h (j + 1) (by simpa using hj) (by omega)⟩
      | succ k => exact .inr ⟨k, by simpa using hk, by simpa using e, fun j hj hkj => h (j + 1) (by simpa using hj) (by omega)⟩
    unfold keepLast
    by_cases hc : (r.any fun t => decide (andn x t = 0)) = true
    · rw [if_pos hc, ih]
      refine ⟨hshift, fun h => ?_⟩
      rcases hback h with ⟨rfl, h2⟩ | h2
      · exfalso
        rw [List.any_eq_true] at hc
        obtain ⟨t, ht, h3⟩ := hc
        obtain ⟨j, hj, rfl⟩ := List.getElem_of_mem ht
        exact h2 j hj (by simpa using h3)
      · exact h2
    · rw [if_neg hc, List.mem_cons, ih]
      constructor
      · rintro (rfl | h)
        · refine ⟨0, by simp, rfl, fun j hj hj0 => ?_⟩
          obtain ⟨j, rfl⟩ : ∃ i, j = i + 1 := ⟨j - 1, by omega⟩
          intro h3
          apply hc
          rw [List.any_eq_true]
          exact ⟨r[j]'(by simpa using hj), List.getElem_mem _, by simpa using h3⟩
        · exact hshift h
      · intro h
        rcases hback h with ⟨rfl, _⟩ | h2
        · exact .inl rfl
        · exact .inr h2
theorem keepLast_cover : ∀ (l : List Nat), (∀ s ∈ l, s < 18446744073709551616) → ∀ s ∈ l, ∃ s' ∈ keepLast l, ∀ j, s.testBit j = true → s'.testBit j = true
  | [], _, s, h => by simp at h
  | x :: r, hl, s, h => by
    have ih := keepLast_cover r (fun s h => hl s (by simp [h]))
    unfold keepLast
    by_cases hc : (r.any fun t => decide (andn x t = 0)) = true
    · rw [if_pos hc]
      rcases List.mem_cons.1 h with rfl | h
      · rw [List.any_eq_true] at hc
        obtain ⟨t, ht, h3⟩ := hc
        obtain ⟨s', h1, h2⟩ := ih t ht
        have := (andn_zero (hl s (by simp)) (hl t (by simp [ht]))).1 (by simpa using h3)
        exact ⟨s', h1, fun j hj => h2 j (this j hj)⟩
      · exact ih s h
    · rw [if_neg hc]
      rcases List.mem_cons.1 h with rfl | h
      · exact ⟨s, by simp, fun _ h => h⟩
      · obtain ⟨s', h1, h2⟩ := ih s h
        exact ⟨s', by simp [h1], h2⟩
/-- A clique that no further vertex fits. -/
structure MaxClq (t : Nat → Nat → Bool) (n s : Nat) : Prop where
  lt : ∀ v, s.testBit v = true → v < n
  clq : ∀ u v, s.testBit u = true → s.testBit v = true → u ≠ v → t u v = true
  max : ∀ v, v < n → (∀ u, s.testBit u = true → u ≠ v → t u v = true) → s.testBit v = true
  one : ∃ v, s.testBit v = true
theorem cands_len {A : Nat → Nat} {n : Nat} (hn : n ≤ 64) : (cands A n).length = n := by
  unfold cands
  rw [List.length_zipWith]
  unfold earlier
  rw [earlier_len, search_len hn]; omega
theorem cands_at {A : Nat → Nat} {n k : Nat} (hn : n ≤ 64) (hk : k < n) : (cands A n)[k]'(by rw [cands_len hn]; exact hk) = bset (A (ord A n k) &&& (searchTo A n k).1) (ord A n k) := by
  have h1 := earlier_at (A := A) hn hk
  have hl : (search A n).length = n := search_len hn
  have h2 : (search A n)[k]'(by omega) = ord A n k := by simp [ord, List.getElem?_eq_getElem (show k < (search A n).length by omega)]
  unfold cands
  rw [List.getElem_zipWith, h2]
  congr 1
  have := List.getElem?_eq_some_iff.1 h1
  exact this.2
theorem cand_bit {A : Nat → Nat} {n k : Nat} (hn : n ≤ 64) (hk : k < n) (v : Nat) : ((cands A n)[k]'(by rw [cands_len hn]; exact hk)).testBit v = true ↔ v = ord A n k ∨ (bt A (ord A n k) v = true ∧ ∃ j, j < k ∧ ord A n j = v) := by
  rw [cands_at hn hk, bset_bit, Nat.testBit_and]
  simp only [Bool.or_eq_true, Bool.and_eq_true, decide_eq_true_eq, vis_bit hn (show k ≤ n by omega)]
  constructor
  · rintro (h | h)
    · exact .inr h
    · exact .inl h.symm
  · rintro (h | h)
    · exact .inr h.symm
    · exact .inl h
theorem cands_small {A : Nat → Nat} (hS : Small A) {n : Nat} (hn : n ≤ 64) : ∀ s ∈ cands A n, s < 18446744073709551616 := by
  intro s hs
  obtain ⟨k, hk, rfl⟩ := List.getElem_of_mem hs
  have hk' : k < n := by rwa [cands_len hn] at hk
  rw [cands_at hn hk']
  exact bset_lt (and_lt _ (hS _)) (by have := ord_lt (A := A) hn hk'; omega)
section
variable {n : Nat} {es : List (Int × Int)}
theorem cand_clq (h : valid n es) (hc : isChordal (readAll es) n = true) {k : Nat} (hk : k < n) : ∀ u v, ((cands (readAll es) n)[k]'(by rw [cands_len (by have := h.2.1; omega)]; exact hk)).testBit u = true → ((cands (readAll es) n)[k]'(by rw [cands_len (by have := h.2.1; omega)]; exact hk)).testBit v = true → u ≠ v → readT es u v = true := by
  have hn : n ≤ 64 := by have := h.2.1; omega
  have hN := valid_nice h
  have hch := (chordal_iff (readAll_small es n h).1 hn).1 hc
  intro u v hu hv hne
  rw [cand_bit hn hk] at hu hv
  rw [← bt_read]
  rcases hu with rfl | ⟨hu, i, hi, rfl⟩
  · rcases hv with rfl | ⟨hv, j, hj, rfl⟩
    · exact absurd rfl hne
    · exact hv
  · rcases hv with rfl | ⟨hv, j, hj, rfl⟩
    · rw [bt_read] at hu ⊢; exact hN.sym _ _ hu
    · exact hch k i j hk hi hj (fun e => hne (by rw [e])) hu hv
/-- The sets that are kept are the maximal cliques. -/
theorem keep_iff (h : valid n es) (hc : isChordal (readAll es) n = true) (s : Nat) : s ∈ keepLast (cands (readAll es) n) ↔ s < 18446744073709551616 ∧ MaxClq (readT es) n s := by
  have hn : n ≤ 64 := by have := h.2.1; omega
  have hN := valid_nice h
  have hS := (readAll_small es n h).1
  have hsm := cands_small hS hn
  have hlen := cands_len (A := readAll es) hn
  rw [mem_keepLast]
  constructor
  · rintro ⟨k, hk, rfl, hlast⟩
    have hkn : k < n := by omega
    have hself : ∀ j (hj : j < n), ((cands (readAll es) n)[j]'(by omega)).testBit (ord (readAll es) n j) = true := fun j hj => (cand_bit hn hj _).2 (.inl rfl)
    refine ⟨hsm _ (List.getElem_mem _), ⟨fun v hv => ?_, cand_clq h hc hkn, fun v hv hall => ?_, ⟨_, hself k hkn⟩⟩⟩
    · rcases (cand_bit hn hkn v).1 hv with rfl | ⟨_, j, hj, rfl⟩
      · exact ord_lt hn hkn
      · exact ord_lt hn (by omega)
    · obtain ⟨j, hj, rfl⟩ := ord_onto (A := readAll es) hn hv
      rcases Nat.lt_trichotomy j k with hjk | hjk | hjk
      · rw [cand_bit hn hkn]
        refine .inr ⟨?_, j, hjk, rfl⟩
        rw [bt_read]
        exact hall _ (hself k hkn) (fun e => ord_inj hn hjk hkn e.symm)
      · subst hjk; exact hself j hj
      · exfalso
        refine hlast j (by omega) hjk ?_
        rw [andn_zero (hsm _ (List.getElem_mem _)) (hsm _ (List.getElem_mem _))]
        intro u hu
        have hidx : ∃ i, i ≤ k ∧ ord (readAll es) n i = u := by
          rcases (cand_bit hn hkn u).1 hu with rfl | ⟨_, i, hi, rfl⟩
          · exact ⟨k, Nat.le_refl _, rfl⟩
          · exact ⟨i, by omega, rfl⟩
        obtain ⟨i, hi, rfl⟩ := hidx
        rw [cand_bit hn hj]
        refine .inr ⟨?_, i, by omega, rfl⟩
        rw [bt_read]
        exact hN.sym _ _ (hall _ hu (ord_inj hn (by omega) hj))
  · rintro ⟨hs, hM⟩
    obtain ⟨v0, hv0⟩ := hM.one
    -- the last vertex of s
    have hmax : ∃ k, k < n ∧ s.testBit (ord (readAll es) n k) = true ∧ ∀ j, k < j → j < n → s.testBit (ord (readAll es) n j) = false := by
      obtain ⟨k0, hk0, e0⟩ := ord_onto (A := readAll es) hn (hM.lt v0 hv0)
      have : ∀ d, ∀ k, k < n → n - k = d → s.testBit (ord (readAll es) n k) = true → ∃ k, k < n ∧ s.testBit (ord (readAll es) n k) = true ∧ ∀ j, k < j → j < n → s.testBit (ord (readAll es) n j) = false := by
        intro d
        induction d using Nat.strongRecOn with
        | _ d ih =>
          intro k hk hd hb
          by_cases hex : ∃ j, k < j ∧ j < n ∧ s.testBit (ord (readAll es) n j) = true
          · obtain ⟨j, h1, h2, h3⟩ := hex
            exact ih (n - j) (by omega) j h2 rfl h3
          · refine ⟨k, hk, hb, fun j h1 h2 => ?_⟩
            cases hbj : s.testBit (ord (readAll es) n j)
            · rfl
            · exact absurd ⟨j, h1, h2, hbj⟩ hex
      exact this _ k0 hk0 rfl (by rw [e0]; exact hv0)
    obtain ⟨k, hk, hkb, hafter⟩ := hmax
    have hidx : ∀ u, s.testBit u = true → ∃ i, i ≤ k ∧ ord (readAll es) n i = u := by
      intro u hu
      obtain ⟨i, hi, rfl⟩ := ord_onto (A := readAll es) hn (hM.lt u hu)
      refine ⟨i, ?_, rfl⟩
      by_cases hik : i ≤ k
      · exact hik
      · rw [hafter i (by omega) hi] at hu; cases hu
    have hsub : ∀ u, s.testBit u = true → ((cands (readAll es) n)[k]'(by omega)).testBit u = true := by
      intro u hu
      obtain ⟨i, hi, rfl⟩ := hidx u hu
      rw [cand_bit hn hk]
      by_cases e : i = k
      · subst e; exact .inl rfl
      · refine .inr ⟨?_, i, by omega, rfl⟩
        rw [bt_read]
        exact hM.clq _ _ hkb hu (fun e2 => ord_inj hn (show i < k by omega) hk e2.symm)
    have heq : (cands (readAll es) n)[k]'(by omega) = s := by
      apply Nat.eq_of_testBit_eq
      intro u
      rw [Bool.eq_iff_iff]
      refine ⟨fun hu => ?_, hsub u⟩
      have hun : u < n := by
        rcases (cand_bit hn hk u).1 hu with rfl | ⟨_, j, hj, rfl⟩
        · exact ord_lt hn hk
        · exact ord_lt hn (by omega)
      exact hM.max u hun (fun w hw hne => cand_clq h hc hk w u (hsub w hw) hu hne)
    refine ⟨k, by omega, heq, fun j hj hkj h0 => ?_⟩
    have hjn : j < n := by omega
    have hin := (andn_zero hs (hsm _ (List.getElem_mem _))).1 h0
    have hoj : ((cands (readAll es) n)[j]'(by omega)).testBit (ord (readAll es) n j) = true := (cand_bit hn hjn _).2 (.inl rfl)
    have hne : ∀ u, s.testBit u = true → u ≠ ord (readAll es) n j := by
      intro u hu
      obtain ⟨i, hi, rfl⟩ := hidx u hu
      exact ord_inj hn (by omega) hjn
    have hm := hM.max (ord (readAll es) n j) (ord_lt hn hjn) (fun u hu _ => cand_clq h hc hjn _ _ (hin u hu) hoj (hne u hu))
    rw [hafter j hkj hjn] at hm
    cases hm
theorem cands_nodup (hn : n ≤ 64) : (cands (readAll es) n).Nodup := by
  rw [List.nodup_iff_pairwise_ne, List.pairwise_iff_getElem]
  intro i j hi hj hij e
  rw [cands_len hn] at hi hj
  have h1 : ((cands (readAll es) n)[j]'(by rw [cands_len hn]; exact hj)).testBit (ord (readAll es) n j) = true := (cand_bit hn hj _).2 (.inl rfl)
  rw [← e] at h1
  rcases (cand_bit hn hi _).1 h1 with h2 | ⟨_, k, hk, h2⟩
  · exact ord_inj hn hij hj h2.symm
  · exact ord_inj hn (by omega) hj h2
/-- What the statements ask of the cliques. -/
structure ClqEs (n : Nat) (es : List (Int × Int)) (ls : List (List Int)) : Prop where
  asc : ∀ l ∈ ls, l.Pairwise (· < ·)
  lt : ∀ l ∈ ls, ∀ x ∈ l, 0 ≤ x ∧ x < n
  one : ∀ l ∈ ls, 0 < l.length
  few : ls.length ≤ n
  zero : ls.length = 0 → n = 0
  cover : ∀ i j, readT es i j = true → ∃ l ∈ ls, (i : Int) ∈ l ∧ (j : Int) ∈ l
  all : ∀ i : Nat, i < n → ∃ l ∈ ls, (i : Int) ∈ l
  max : ∀ l ∈ ls, ∀ v : Nat, v < n → ((v : Int) ∈ l ↔ ∀ u ∈ l, u ≠ (v : Int) → readT es u.toNat v = true)
theorem mem_vertsI {s : Nat} {x : Int} : x ∈ vertsI s ↔ 0 ≤ x ∧ x < 64 ∧ s.testBit x.toNat = true := mem_vertsZ
theorem clq_es (h : valid n es) (hc : isChordal (readAll es) n = true) {ls : List (List Int)} (hp : ls.Perm ((keepLast (cands (readAll es) n)).map vertsI)) : ClqEs n es ls := by
  have hn : n ≤ 64 := by have := h.2.1; omega
  have hN := valid_nice h
  have hS := (readAll_small es n h).1
  have hsm := cands_small hS hn
  have hlen := cands_len (A := readAll es) hn
  have hmem : ∀ l, l ∈ ls ↔ ∃ s, s < 18446744073709551616 ∧ MaxClq (readT es) n s ∧ vertsI s = l := by
    intro l
    rw [hp.mem_iff, List.mem_map]
    constructor
    · rintro ⟨s, hs, e⟩
      have := (keep_iff h hc s).1 hs
      exact ⟨s, this.1, this.2, e⟩
    · rintro ⟨s, h1, h2, e⟩
      exact ⟨s, (keep_iff h hc s).2 ⟨h1, h2⟩, e⟩
  have hcov : ∀ s ∈ cands (readAll es) n, ∃ l ∈ ls, ∀ v : Nat, s.testBit v = true → (v : Int) ∈ l := by
    intro s hs
    obtain ⟨s', h1, h2⟩ := keepLast_cover _ hsm s hs
    have h3 := (keep_iff h hc s').1 h1
    refine ⟨vertsI s', (hmem _).2 ⟨s', h3.1, h3.2, rfl⟩, fun v hv => ?_⟩
    have := h2 v hv
    have hv64 := bit_lt h3.1 this
    rw [mem_vertsI]
    exact ⟨by omega, by omega, by simpa using this⟩
  refine ⟨fun l hl => ?_, fun l hl x hx => ?_, fun l hl => ?_, ?_, fun h0 => ?_, fun i j hij => ?_, fun i hi => ?_, fun l hl v hv => ?_⟩
  · obtain ⟨s, _, _, rfl⟩ := (hmem l).1 hl
    exact vertsZ_asc s
  · obtain ⟨s, _, hM, rfl⟩ := (hmem l).1 hl
    rw [mem_vertsI] at hx
    have := hM.lt _ hx.2.2
    omega
  · obtain ⟨s, hs, hM, rfl⟩ := (hmem l).1 hl
    obtain ⟨v, hv⟩ := hM.one
    have hv64 := bit_lt hs hv
    exact List.length_pos_of_mem (mem_vertsI.2 ⟨by omega, by omega, by simpa using hv⟩ : (v : Int) ∈ vertsI s)
  · rw [hp.length_eq, List.length_map]
    have := (keepLast_sub (cands (readAll es) n)).length_le
    omega
  · by_cases e : n = 0
    · exact e
    · exfalso
      obtain ⟨l, hl, _⟩ := hcov _ (List.getElem_mem (l := cands (readAll es) n) (n := 0) (by omega))
      rw [List.length_eq_zero_iff] at h0
      rw [h0] at hl
      simp at hl
  · obtain ⟨h1, h2⟩ := hN.lt i j hij
    obtain ⟨a, ha, rfl⟩ := ord_onto (A := readAll es) hn h1
    obtain ⟨b, hb, rfl⟩ := ord_onto (A := readAll es) hn h2
    have hne : a ≠ b := by rintro rfl; rw [hN.irr] at hij; cases hij
    rcases Nat.lt_or_gt_of_ne hne with hab | hab
    · obtain ⟨l, hl, hin⟩ := hcov _ (List.getElem_mem (l := cands (readAll es) n) (n := b) (by omega))
      refine ⟨l, hl, hin _ ((cand_bit hn hb _).2 (.inr ⟨?_, a, hab, rfl⟩)), hin _ ((cand_bit hn hb _).2 (.inl rfl))⟩
      rw [bt_read]; exact hN.sym _ _ hij
    · obtain ⟨l, hl, hin⟩ := hcov _ (List.getElem_mem (l := cands (readAll es) n) (n := a) (by omega))
      refine ⟨l, hl, hin _ ((cand_bit hn ha _).2 (.inl rfl)), hin _ ((cand_bit hn ha _).2 (.inr ⟨?_, b, hab, rfl⟩))⟩
      rw [bt_read]; exact hij
  · obtain ⟨a, ha, rfl⟩ := ord_onto (A := readAll es) hn hi
    obtain ⟨l, hl, hin⟩ := hcov _ (List.getElem_mem (l := cands (readAll es) n) (n := a) (by omega))
    exact ⟨l, hl, hin _ ((cand_bit hn ha _).2 (.inl rfl))⟩
  · obtain ⟨s, hs, hM, rfl⟩ := (hmem l).1 hl
    have hbit : ∀ u : Nat, (u : Int) ∈ vertsI s ↔ s.testBit u = true := by
      intro u
      rw [mem_vertsI]
      refine ⟨fun h => by simpa using h.2.2, fun h => ⟨by omega, by have := bit_lt hs h; omega, by simpa using h⟩⟩
    constructor
    · intro hv2 u hu hne
      rw [hbit] at hv2
      have hu2 := mem_vertsI.1 hu
      exact hM.clq _ _ hu2.2.2 hv2 (fun e => hne (by omega))
    · intro hall
      rw [hbit]
      refine hM.max v hv (fun u hu hne => ?_)
      have := hall u ((hbit u).2 hu) (by omega)
      simpa using this
end
end Go.Gr
end
section
/- Plain mathematics of clique trees: a tree that grows by a heaviest edge each time is a clique tree, if there is one. No program in sight. -/
namespace Go.Jt
open Go.Gr
/-- b is reached from a by steps of R. -/
def Conn (R : Nat → Nat → Prop) (a b : Nat) : Prop := ∀ P : Nat → Prop, P a → (∀ x y, P x → R x y → P y) → P b
section
variable {R : Nat → Nat → Prop}
theorem Conn.refl (a : Nat) : Conn R a a := fun _ h _ => h
theorem Conn.step {a b : Nat} (h : R a b) : Conn R a b := fun _ ha hs => hs a b ha h
theorem Conn.trans {a b c : Nat} (h : Conn R a b) (k : Conn R b c) : Conn R a c := fun P ha hs => k P (h P ha hs) hs
theorem Conn.symm (hR : ∀ x y, R x y → R y x) {a b : Nat} (h : Conn R a b) : Conn R b a :=
  h (fun x => Conn R x a) (Conn.refl a) (fun x y hx hxy => (Conn.step (hR x y hxy)).trans hx)
theorem Conn.cross {a b : Nat} (h : Conn R a b) (I : Nat → Prop) (ha : I a) (hb : ¬ I b) : ∃ x y, R x y ∧ I x ∧ ¬ I y := by
  by_cases hex : ∃ x y, R x y ∧ I x ∧ ¬ I y
  · exact hex
  · exact absurd (h I ha (fun x y hx hxy => Classical.byContradiction fun hy => hex ⟨x, y, hxy, hx, hy⟩)) hb
end
theorem len_mono {p q : Nat → Bool} : ∀ {l : List Nat}, (∀ x ∈ l, p x = true → q x = true) → (l.filter p).length ≤ (l.filter q).length
  | [], _ => by simp
  | x :: l, h => by
    have ih := len_mono (l := l) (fun y hy => h y (by simp [hy]))
    by_cases hp : p x = true
    · have := h x (by simp) hp
      simp [hp, this]; omega
    · by_cases hq : q x = true <;> simp [hp, hq] <;> omega
theorem len_not (p : Nat → Bool) : ∀ l : List Nat, (l.filter p).length + (l.filter fun x => !p x).length = l.length
  | [] => by simp
  | x :: l => by
    have ih := len_not p l
    cases hp : p x <;> simp [hp] <;> omega
theorem inj_len {f : Nat → Nat} : ∀ {l l' : List Nat}, l.Nodup → (∀ x ∈ l, f x ∈ l') → (∀ x ∈ l, ∀ y ∈ l, f x = f y → x = y) → l.length ≤ l'.length
  | [], _, _, _, _ => by simp
  | x :: l, l', hn, hm, hi => by
    rw [List.nodup_cons] at hn
    have hx := hm x (by simp)
    have ih := inj_len (f := f) (l := l) (l' := l'.erase (f x)) hn.2 (fun y hy => by
      refine (List.mem_erase_of_ne ?_).2 (hm y (by simp [hy]))
      intro e
      have := hi y (by simp [hy]) x (by simp) e
      subst this
      exact hn.1 hy) (fun y hy z hz e => hi y (by simp [hy]) z (by simp [hz]) e)
    rw [List.length_erase_of_mem hx] at ih
    have : 0 < l'.length := List.length_pos_of_mem hx
    simp; omega
theorem sum_add (f g : Nat → Nat) : ∀ l : List Nat, (l.map fun x => f x + g x).sum = (l.map f).sum + (l.map g).sum
  | [] => by simp
  | x :: l => by simp [sum_add f g l]; omega
theorem sum_ind (p : Nat → Bool) : ∀ l : List Nat, (l.map fun x => if p x = true then 1 else 0).sum = (l.filter p).length
  | [] => by simp
  | x :: l => by
    rw [List.map_cons, List.sum_cons, sum_ind p l]
    cases h : p x <;> simp [h]; omega
theorem sum_mono {f g : Nat → Nat} : ∀ {l : List Nat}, (∀ x ∈ l, f x ≤ g x) → (l.map f).sum ≤ (l.map g).sum
  | [], _ => by simp
  | x :: l, h => by
    have h1 := h x (by simp)
    have h2 := sum_mono (l := l) (fun y hy => h y (by simp [hy]))
    simp; omega
theorem sum_same {f g : Nat → Nat} : ∀ {l : List Nat}, (∀ x ∈ l, f x ≤ g x) → (l.map g).sum ≤ (l.map f).sum → ∀ x ∈ l, f x = g x
  | [], _, _, x, hx => by simp at hx
  | y :: l, h, hs, x, hx => by
    have h1 := h y (by simp)
    have h2 := sum_mono (l := l) (fun z hz => h z (by simp [hz]))
    simp only [List.map_cons, List.sum_cons] at hs
    rcases List.mem_cons.1 hx with rfl | hx
    · omega
    · exact sum_same (l := l) (fun z hz => h z (by simp [hz])) (by omega) x hx
/-- Pairs are counted by rows and by columns. -/
theorem double (f : Nat → Nat → Bool) (n : Nat) : ∀ m, ((List.range m).map fun r => ((List.range n).filter (f r)).length).sum = ((List.range n).map fun v => ((List.range m).filter fun r => f r v).length).sum
  | 0 => by
    have : ((List.range n).map fun v => ((List.range 0).filter fun r => f r v).length) = (List.range n).map fun _ => 0 := by simp
    rw [this]
    have h0 : ∀ l : List Nat, (l.map fun _ => 0).sum = 0 := by intro l; induction l <;> simp_all
    simp [h0]
  | m + 1 => by
    rw [List.range_succ, List.map_append, List.sum_append, double f n m]
    have : (fun v => ((List.range m ++ [m]).filter fun r => f r v).length) = fun v => ((List.range m).filter fun r => f r v).length + if f m v = true then 1 else 0 := by
      funext v
      rw [List.filter_append, List.length_append]
      cases h : f m v <;> simp [h]
    rw [this, sum_add, sum_ind]
    simp
/-- How often v is in one of the sets; how often it is in a set and in its parent. -/
def occ (T : Nat → Nat) (m v : Nat) : Nat := ((List.range m).filter fun r => (T r).testBit v).length
def links (T q : Nat → Nat) (m v : Nat) : Nat := ((List.range m).filter fun r => decide (0 < r) && (T r &&& q r).testBit v).length
def wt (T q : Nat → Nat) (r : Nat) : Nat := if 0 < r then size (T r &&& q r) else 0
structure Prim (T q : Nat → Nat) (m : Nat) : Prop where
  inj : ∀ a b, a < b → b < m → T a ≠ T b
  par : ∀ r, 0 < r → r < m → ∃ s, s < r ∧ q r = T s
  most : ∀ r, 0 < r → r < m → ∀ i k, r ≤ i → i < m → k < r → size (T i &&& T k) ≤ size (T r &&& q r)
structure Jtree (L q : Nat → Nat) (m : Nat) : Prop where
  inj : ∀ a b, a < b → b < m → L a ≠ L b
  par : ∀ r, 0 < r → r < m → ∃ s, s < r ∧ q r = L s
  run : ∀ v, (∃ r, r < m ∧ (L r).testBit v = true) → links L q m v + 1 = occ L m v
theorem inj_of {T : Nat → Nat} {m : Nat} (h : ∀ a b, a < b → b < m → T a ≠ T b) {a b : Nat} (ha : a < m) (hb : b < m) (e : T a = T b) : a = b := by
  rcases Nat.lt_trichotomy a b with h1 | h1 | h1
  · exact absurd e (h a b h1 hb)
  · exact h1
  · exact absurd e.symm (h b a h1 ha)
theorem total (T q : Nat → Nat) (m : Nat) : ((List.range m).map (wt T q)).sum = ((List.range 64).map (links T q m)).sum := by
  have h := double (fun r v => decide (0 < r) && (T r &&& q r).testBit v) 64 m
  have e : (fun r => ((List.range 64).filter fun v => decide (0 < r) && (T r &&& q r).testBit v).length) = wt T q := by
    funext r
    unfold wt size verts
    by_cases hr : 0 < r
    · rw [if_pos hr]; simp only [hr, decide_true, Bool.true_and]
    · rw [if_neg hr]; simp [hr]
  rw [e] at h
  exact h
theorem thresh (x : Nat → Nat) (N m : Nat) (h : ∀ r, r < m → x r ≤ N) : ((List.range m).map x).sum = ((List.range N).map fun t => ((List.range m).filter fun r => decide (t < x r)).length).sum := by
  rw [← double (fun r t => decide (t < x r)) N m]
  congr 1
  apply List.map_congr_left
  intro r hr
  have hr : r < m := by simpa using hr
  have hx := h r hr
  have : ∀ N, x r ≤ N → ((List.range N).filter fun t => decide (t < x r)).length = x r := by
    intro N
    induction N with
    | zero => intro h; simp; omega
    | succ N ih =>
      intro h
      rw [List.range_succ, List.filter_append, List.length_append]
      by_cases e : x r = N + 1
      · have h1 : (List.range N).filter (fun t => decide (t < x r)) = List.range N := List.filter_eq_self.2 (fun t ht => by
          have : t < N := by simpa using ht
          simp; omega)
        rw [h1]; simp [e]
      · rw [ih (by omega)]
        have : ¬ N < x r := by omega
        simp [this]
  exact (this N hx).symm
/-- Those of a sequence that are the first of their part. -/
noncomputable def fstB (R : Nat → Nat → Prop) (T : Nat → Nat) (r : Nat) : Bool := @decide (∀ s, s < r → ¬ Conn R (T s) (T r)) (Classical.propDecidable _)
theorem fstB_iff {R : Nat → Nat → Prop} {T : Nat → Nat} {r : Nat} : fstB R T r = true ↔ ∀ s, s < r → ¬ Conn R (T s) (T r) := @decide_eq_true_iff _ (Classical.propDecidable _)
noncomputable def firsts (R : Nat → Nat → Prop) (T : Nat → Nat) (m : Nat) : List Nat := (List.range m).filter (fstB R T)
theorem mem_firsts {R : Nat → Nat → Prop} {T : Nat → Nat} {m r : Nat} : r ∈ firsts R T m ↔ r < m ∧ ∀ s, s < r → ¬ Conn R (T s) (T r) := by
  unfold firsts
  rw [List.mem_filter, List.mem_range, fstB_iff]
theorem firsts_le {R : Nat → Nat → Prop} (hR : ∀ x y, R x y → R y x) {T L : Nat → Nat} {m : Nat} (hp : ∀ r, r < m → ∃ s, s < m ∧ L s = T r) : (firsts R T m).length ≤ (firsts R L m).length := by
  have hleast : ∀ r, r < m → ∃ s, s ∈ firsts R L m ∧ Conn R (L s) (T r) := by
    intro r hr
    obtain ⟨s0, hs0, e0⟩ := hp r hr
    have : ∀ s, s < m → Conn R (L s) (T r) → ∃ s, s ∈ firsts R L m ∧ Conn R (L s) (T r) := by
      intro s
      induction s using Nat.strongRecOn with
      | _ s ih =>
        intro hs hc
        by_cases hf : ∀ s', s' < s → ¬ Conn R (L s') (L s)
        · exact ⟨s, mem_firsts.2 ⟨hs, hf⟩, hc⟩
        · obtain ⟨s', h1⟩ := Classical.not_forall.1 hf
          obtain ⟨h2, h3⟩ := Classical.not_imp.1 h1
          exact ih s' h2 (by omega) ((Classical.not_not.1 h3).trans hc)
    exact this s0 hs0 (by rw [e0]; exact Conn.refl _)
  have hnd : (firsts R T m).Nodup := by
    unfold firsts
    exact List.Pairwise.filter _ List.nodup_range
  refine inj_len (f := fun r => if h : r < m then Classical.choose (hleast r h) else 0) hnd (fun r hr => ?_) (fun r hr r' hr' e => ?_)
  · have hrm := (mem_firsts.1 hr).1
    simp only [hrm, dite_true]
    exact (Classical.choose_spec (hleast r hrm)).1
  · have h1 := mem_firsts.1 hr
    have h2 := mem_firsts.1 hr'
    simp only [h1.1, h2.1, dite_true] at e
    have c1 := (Classical.choose_spec (hleast r h1.1)).2
    have c2 := (Classical.choose_spec (hleast r' h2.1)).2
    rw [e] at c1
    have c : Conn R (T r) (T r') := (c1.symm hR).trans c2
    rcases Nat.lt_trichotomy r r' with h | h | h
    · exact absurd c (h2.2 r h)
    · exact h
    · exact absurd (c.symm hR) (h1.2 r' h)
/-- The greedy tree is a clique tree. -/
theorem prim_jt {T q L q' : Nat → Nat} {m : Nat} (hP : Prim T q m) (hJ : Jtree L q' m) (h1 : ∀ r, r < m → ∃ s, s < m ∧ L s = T r) (h2 : ∀ r, r < m → ∃ s, s < m ∧ T s = L r)
    (hs : ∀ r, r < m → T r < 18446744073709551616) : ∀ v, (∃ r, r < m ∧ (T r).testBit v = true) → links T q m v + 1 = occ T m v := by
  -- the sets are the same
  have hocc : ∀ v, occ T m v = occ L m v := by
    have half : ∀ {T L : Nat → Nat}, (∀ r, r < m → ∃ s, s < m ∧ L s = T r) → (∀ a b, a < b → b < m → T a ≠ T b) → ∀ v, occ T m v ≤ occ L m v := by
      intro T L h hi v
      unfold occ
      refine inj_len (f := fun r => if h' : r < m then Classical.choose (h r h') else 0) (List.Pairwise.filter _ List.nodup_range) (fun r hr => ?_) (fun r hr r' hr' e => ?_)
      · rw [List.mem_filter, List.mem_range] at hr
        simp only [hr.1, dite_true]
        have := Classical.choose_spec (h r hr.1)
        rw [List.mem_filter, List.mem_range, this.2]
        exact ⟨this.1, hr.2⟩
      · rw [List.mem_filter, List.mem_range] at hr hr'
        simp only [hr.1, hr'.1, dite_true] at e
        have c1 := (Classical.choose_spec (h r hr.1)).2
        have c2 := (Classical.choose_spec (h r' hr'.1)).2
        rw [e] at c1
        exact inj_of hi hr.1 hr'.1 (c1.symm.trans c2)
    exact fun v => Nat.le_antisymm (half h1 hP.inj v) (half h2 hJ.inj v)
  -- the weights
  have hw : ∀ t, ((List.range m).filter fun r => !decide (t < wt T q r)).length ≤ ((List.range m).filter fun r => !decide (t < wt L q' r)).length := by
    intro t
    let R : Nat → Nat → Prop := fun a b => (∃ r, r < m ∧ T r = a) ∧ (∃ r, r < m ∧ T r = b) ∧ t < size (a &&& b)
    have hR : ∀ x y, R x y → R y x := fun x y ⟨ha, hb, hc⟩ => ⟨hb, ha, by rw [Nat.and_comm]; exact hc⟩
    have a1 : ((List.range m).filter fun r => !decide (t < wt T q r)).length ≤ (firsts R T m).length := by
      unfold firsts
      refine len_mono (fun r hr h => ?_)
      have hr : r < m := by simpa using hr
      rw [fstB_iff]
      intro s hsr hc
      obtain ⟨x, y, ⟨⟨i, hi, rfl⟩, ⟨k, hk, rfl⟩, hxy⟩, hx, hy⟩ := hc.cross (fun z => ∃ s, s < r ∧ T s = z) ⟨s, hsr, rfl⟩ (by
        rintro ⟨s', hs', e⟩
        exact hP.inj s' r hs' hr e)
      obtain ⟨i', hi', e⟩ := hx
      have hkr : r ≤ k := by
        by_cases hkr : r ≤ k
        · exact hkr
        · exact absurd ⟨k, by omega, rfl⟩ hy
      have := hP.most r (by omega) hr k i' hkr hk hi'
      rw [e, Nat.and_comm] at this
      have hh : ¬ t < wt T q r := by simpa using h
      apply hh
      unfold wt
      rw [if_pos (by omega)]
      omega
    have a2 := firsts_le hR h1
    have a3 : (firsts R L m).length ≤ ((List.range m).filter fun r => !decide (t < wt L q' r)).length := by
      unfold firsts
      refine len_mono (fun r hr h => ?_)
      have hr : r < m := by simpa using hr
      rw [fstB_iff] at h
      simp only [Bool.not_eq_true', decide_eq_false_iff_not]
      intro hlt
      unfold wt at hlt
      by_cases h0 : 0 < r
      · rw [if_pos h0] at hlt
        obtain ⟨s, hsr, e⟩ := hJ.par r h0 hr
        rw [e, Nat.and_comm] at hlt
        obtain ⟨i, hi, ei⟩ := h2 s (by omega)
        obtain ⟨k, hk, ek⟩ := h2 r hr
        exact h s hsr (Conn.step ⟨⟨i, hi, ei⟩, ⟨k, hk, ek⟩, hlt⟩)
      · rw [if_neg h0] at hlt; omega
    omega
  have hle : ∀ (T q : Nat → Nat) r, r < m → wt T q r ≤ 64 := by
    intro T q r _
    unfold wt
    split
    · exact size_le _
    · omega
  have hsum : ((List.range 64).map (links L q' m)).sum ≤ ((List.range 64).map (links T q m)).sum := by
    rw [← total, ← total, thresh _ 64 m (hle L q'), thresh _ 64 m (hle T q)]
    refine sum_mono (fun t _ => ?_)
    have e1 := len_not (fun r => decide (t < wt L q' r)) (List.range m)
    have e2 := len_not (fun r => decide (t < wt T q r)) (List.range m)
    have := hw t
    omega
  have hno : ∀ v, ¬ (∃ r, r < m ∧ (T r).testBit v = true) → links T q m v = 0 ∧ links L q' m v = 0 := by
    intro v hno
    have z : ∀ (T q : Nat → Nat), (∀ r, r < m → (T r).testBit v = false) → links T q m v = 0 := by
      intro T q h
      unfold links
      rw [List.length_eq_zero_iff, List.filter_eq_nil_iff]
      intro r hr
      rw [Nat.testBit_and, h r (by simpa using hr)]
      simp
    refine ⟨z T q (fun r hr => ?_), z L q' (fun r hr => ?_)⟩
    · cases hb : (T r).testBit v
      · rfl
      · exact absurd ⟨r, hr, hb⟩ hno
    · cases hb : (L r).testBit v
      · rfl
      · obtain ⟨s, hsm, e⟩ := h2 r hr
        exact absurd ⟨s, hsm, by rw [e]; exact hb⟩ hno
  have hup : ∀ v, (∃ r, r < m ∧ (T r).testBit v = true) → links T q m v + 1 ≤ occ T m v := by
    rintro v ⟨r, hr, hb⟩
    have hleast : ∃ r, r < m ∧ (T r).testBit v = true ∧ ∀ s, s < r → (T s).testBit v = false := by
      have : ∀ r, r < m → (T r).testBit v = true → ∃ r, r < m ∧ (T r).testBit v = true ∧ ∀ s, s < r → (T s).testBit v = false := by
        intro r
        induction r using Nat.strongRecOn with
        | _ r ih =>
          intro hr hb
          by_cases hex : ∃ s, s < r ∧ (T s).testBit v = true
          · obtain ⟨s, h1, h2⟩ := hex
            exact ih s h1 (by omega) h2
          · refine ⟨r, hr, hb, fun s hs => ?_⟩
            cases hbs : (T s).testBit v
            · rfl
            · exact absurd ⟨s, hs, hbs⟩ hex
      exact this r hr hb
    obtain ⟨r0, hr0, hb0, hfst⟩ := hleast
    have hnl : (decide (0 < r0) && (T r0 &&& q r0).testBit v) = false := by
      by_cases h0 : 0 < r0
      · obtain ⟨s, hs, e⟩ := hP.par r0 h0 hr0
        rw [Nat.testBit_and, e, hfst s hs]; simp
      · simp [h0]
    unfold links occ
    have key : ∀ l : List Nat, l.Nodup → r0 ∈ l → (l.filter fun r => decide (0 < r) && (T r &&& q r).testBit v).length + 1 ≤ (l.filter fun r => (T r).testBit v).length := by
      intro l
      induction l with
      | nil => simp
      | cons x l ih =>
        intro hn hm
        rw [List.nodup_cons] at hn
        by_cases e : x = r0
        · subst e
          have := len_mono (p := fun r => decide (0 < r) && (T r &&& q r).testBit v) (q := fun r => (T r).testBit v) (l := l) (fun y _ h => by
            rw [Nat.testBit_and] at h
            simp only [Bool.and_eq_true] at h
            exact h.2.1)
          rw [List.filter_cons_of_neg (by rw [hnl]; simp), List.filter_cons_of_pos (by simpa using hb0), List.length_cons]
          omega
        · have := ih hn.2 ((List.mem_cons.1 hm).resolve_left (fun e2 => e e2.symm))
          by_cases hp : (decide (0 < x) && (T x &&& q x).testBit v) = true
          · have hq : (T x).testBit v = true := by
              rw [Nat.testBit_and] at hp
              simp only [Bool.and_eq_true] at hp
              exact hp.2.1
            rw [List.filter_cons_of_pos (by simpa using hp), List.filter_cons_of_pos (by simpa using hq), List.length_cons, List.length_cons]
            omega
          · rw [List.filter_cons_of_neg (by simpa using hp)]
            by_cases hq : (T x).testBit v = true
            · rw [List.filter_cons_of_pos (by simpa using hq), List.length_cons]; omega
            · rw [List.filter_cons_of_neg (by simpa using hq)]; exact this
    exact key _ List.nodup_range (by simpa using hr0)
  have hvle : ∀ v ∈ List.range 64, links T q m v ≤ links L q' m v := by
    intro v _
    by_cases hex : ∃ r, r < m ∧ (T r).testBit v = true
    · have e1 := hup v hex
      obtain ⟨r, hr, hb⟩ := hex
      obtain ⟨s, hsm, e⟩ := h1 r hr
      have e2 := hJ.run v ⟨s, hsm, by rw [e]; exact hb⟩
      rw [hocc] at e1
      omega
    · rw [(hno v hex).1]; omega
  intro v hex
  have hv64 : v < 64 := by
    obtain ⟨r, hr, hb⟩ := hex
    by_cases h64 : v < 64
    · exact h64
    · rw [high_bit (hs r hr) (by omega)] at hb; cases hb
  have e1 := sum_same hvle hsum v (by simpa using hv64)
  obtain ⟨r, hr, hb⟩ := hex
  obtain ⟨s, hsm, e⟩ := h1 r hr
  have e2 := hJ.run v ⟨s, hsm, by rw [e]; exact hb⟩
  rw [e1, hocc]
  exact e2
end Go.Jt
end
