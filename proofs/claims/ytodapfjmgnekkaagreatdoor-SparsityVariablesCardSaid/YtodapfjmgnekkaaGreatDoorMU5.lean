/- Parts of the proof: GPA, GPC, GXI, GSpecT, GPB, GXE, GWJ. -/
import Derived.Test.YtodapfjmgnekkaaGreatDoorMU2
import Derived.Test.YtodapfjmgnekkaaGreatDoorMU3
section
/- Plain law of Make: the edges that the library writes are the edges of the reference's table. -/
namespace Go.Gr
theorem connect_bit (A : Nat → Nat) (a b k m : Nat) : (connect A a b k).testBit m = (decide (k = a ∧ m = b) || decide (k = b ∧ m = a) || (A k).testBit m) := by
  unfold connect upd
  by_cases h1 : k = b
  · subst h1
    by_cases h2 : k = a
    · subst h2
      by_cases h3 : m = k
      · subst h3; simp [bset_bit]
      · have : ¬ k = m := fun e => h3 e.symm
        simp [bset_bit, h3, this]
    · by_cases h3 : m = a
      · subst h3; simp [bset_bit, h2]
      · have : ¬ a = m := fun e => h3 e.symm
        simp [bset_bit, h2, h3, this]
  · by_cases h2 : k = a
    · subst h2
      by_cases h3 : m = b
      · subst h3; simp [bset_bit, h1]
      · have : ¬ b = m := fun e => h3 e.symm
        simp [bset_bit, h1, h3, this]
    · simp [h1, h2]
theorem joinT_at (t : Nat → Nat → Bool) (a b k m : Nat) : joinT t a b k m = (decide (k = a ∧ m = b) || decide (k = b ∧ m = a) || t k m) := by
  unfold joinT setT
  by_cases h1 : k = b ∧ m = a
  · simp [h1]
  · by_cases h2 : k = a ∧ m = b
    · simp [h2]
    · simp [h1, h2]
theorem read_bits (es : List (Int × Int)) (k m : Nat) : (readAll es k).testBit m = readT es k m := by
  unfold readAll readT
  have : ∀ (es : List (Int × Int)) (A : Nat → Nat) (t : Nat → Nat → Bool), (∀ k m, (A k).testBit m = t k m) → ∀ k m, (es.foldl (fun A e => connect A e.1.toNat e.2.toNat) A k).testBit m = es.foldl (fun t e => joinT t e.1.toNat e.2.toNat) t k m := by
    intro es
    induction es with
    | nil => exact fun A t h => h
    | cons e es ih =>
      intro A t h
      simp only [List.foldl_cons]
      exact ih _ _ (fun k m => by rw [connect_bit, joinT_at, h])
  exact this es _ _ (fun k m => by simp) k m
theorem readT_from (es : List (Int × Int)) {k m : Nat} (h : readT es k m = true) : ∃ e ∈ es, (e.1.toNat = k ∧ e.2.toNat = m) ∨ (e.1.toNat = m ∧ e.2.toNat = k) := by
  unfold readT at h
  have : ∀ (es : List (Int × Int)) (t : Nat → Nat → Bool), es.foldl (fun t e => joinT t e.1.toNat e.2.toNat) t k m = true → t k m = true ∨ ∃ e ∈ es, (e.1.toNat = k ∧ e.2.toNat = m) ∨ (e.1.toNat = m ∧ e.2.toNat = k) := by
    intro es
    induction es with
    | nil => exact fun t h => .inl h
    | cons e es ih =>
      intro t h
      simp only [List.foldl_cons] at h
      rcases ih _ h with h1 | ⟨e', he, h1⟩
      · rw [joinT_at] at h1
        simp only [Bool.or_eq_true, decide_eq_true_eq] at h1
        rcases h1 with (h1 | h1) | h1
        · exact .inr ⟨e, by simp, .inl ⟨h1.1.symm, h1.2.symm⟩⟩
        · exact .inr ⟨e, by simp, .inr ⟨h1.2.symm, h1.1.symm⟩⟩
        · exact .inl h1
      · exact .inr ⟨e', by simp [he], h1⟩
  rcases this es _ h with h1 | h1
  · cases h1
  · exact h1
theorem filter_range_le {n N : Nat} (hn : n ≤ N) {p q : Nat → Bool} (h1 : ∀ k, k < n → p k = q k) (h2 : ∀ k, n ≤ k → k < N → p k = false) : (List.range N).filter p = (List.range n).filter q := by
  obtain ⟨d, rfl⟩ := Nat.le.dest hn
  rw [List.range_add, List.filter_append, List.filter_congr (fun x hx => h1 x (by simpa using hx))]
  rw [show ((List.range d).map (n + ·)).filter p = [] from List.filter_eq_nil_iff.2 (fun a ha => by
    obtain ⟨x, hx, rfl⟩ := List.mem_map.1 ha
    have : x < d := by simpa using hx
    simp [h2 (n + x) (by omega) (by omega)])]
  simp
theorem make_edges {n : Int} {es : List (Int × Int)} (h : rangeOk n es) (hne : ∀ e ∈ es, e.1 ≠ e.2) : writeEdges (readAll es) n.toNat = tableEdges (readT es) n.toNat n.toNat := by
  obtain ⟨⟨hn0, hn1⟩, hr⟩ := h
  have hb : ∀ k m, readT es k m = true → m < n.toNat ∧ k ≠ m := by
    intro k m h
    obtain ⟨e, he, h1⟩ := readT_from es h
    have := hr e he
    have := hne e he
    unfold inR at *
    omega
  unfold writeEdges tableEdges
  rw [List.flatMap_def, List.flatMap_def]
  congr 1
  apply List.map_congr_left
  intro i hi
  have hi : i < n.toNat := by simpa using hi
  unfold rowEdges rowT verts
  congr 1
  have hf : firstN i < 18446744073709551616 := by
    unfold firstN
    have := shl_lt i (by omega)
    omega
  apply filter_range_le (by omega)
  · intro k hk
    rw [andn_bit _ _ _ hf (by omega), firstN_bit, read_bits]
    cases hh : readT es i k
    · simp
    · have := (hb i k hh).2
      by_cases hik : i < k
      · simp [hik]; omega
      · simp [hik]; omega
  · intro k h1 h2
    rw [andn_bit _ _ _ hf h2, read_bits]
    cases hh : readT es i k
    · simp
    · have := (hb i k hh).1
      omega
end Go.Gr
end
section
/- Plain facts on lists of edges: those of a table are valid; what is read back. -/
namespace Go.Gr
def lexLt (e f : Int × Int) : Prop := e.1 < f.1 ∨ (e.1 = f.1 ∧ e.2 < f.2)
theorem cmpE_lex (e f : Int × Int) : cmpE e f < 0 ↔ lexLt e f := by
  unfold cmpE lexLt orI cmpI
  by_cases h1 : e.1 < f.1 <;> by_cases h2 : f.1 < e.1 <;> by_cases h3 : e.2 < f.2 <;> by_cases h4 : f.2 < e.2 <;> simp [h1, h2, h3, h4] <;> omega
theorem mem_tableEdges {t : Nat → Nat → Bool} {n m : Nat} {e : Int × Int} : e ∈ tableEdges t n m ↔ ∃ i k : Nat, i < m ∧ k < n ∧ i < k ∧ t i k = true ∧ e = ((i : Int), (k : Int)) := by
  unfold tableEdges rowT
  simp only [List.mem_flatMap, List.mem_range, List.mem_map, List.mem_filter, Bool.and_eq_true, decide_eq_true_eq]
  constructor
  · rintro ⟨i, hi, k, ⟨hk, h1, h2⟩, rfl⟩
    exact ⟨i, k, hi, hk, h1, h2, rfl⟩
  · rintro ⟨i, k, hi, hk, h1, h2, rfl⟩
    exact ⟨i, hi, k, ⟨hk, h1, h2⟩, rfl⟩
theorem tableEdges_pairwise (t : Nat → Nat → Bool) (n : Nat) : ∀ m, (tableEdges t n m).Pairwise lexLt
  | 0 => by simp [tableEdges]
  | m + 1 => by
    rw [tableEdges_succ, List.pairwise_append]
    refine ⟨tableEdges_pairwise t n m, ?_, ?_⟩
    · unfold rowT
      rw [List.pairwise_map]
      refine List.Pairwise.filter _ ?_
      exact List.Pairwise.imp (fun h => .inr ⟨rfl, by simpa using h⟩) List.pairwise_lt_range
    · intro a ha b hb
      obtain ⟨i, k, hi, _, _, _, rfl⟩ := mem_tableEdges.1 ha
      unfold rowT at hb
      obtain ⟨k', _, rfl⟩ := List.mem_map.1 hb
      left
      show (i : Int) < (m : Int)
      omega
theorem valid_of {n : Int} {es : List (Int × Int)} (h0 : 0 ≤ n) (hn : n ≤ 64) (hg : ∀ e ∈ es, goodEdge n e) (hp : es.Pairwise lexLt) : valid n es := by
  refine ⟨h0, hn, fun i hi _ => ⟨hg _ (List.getElem_mem _), fun h => ?_⟩⟩
  rw [cmpE_lex]
  exact List.pairwise_iff_getElem.1 hp (i - 1) i (by omega) hi (by omega)
theorem valid_good {n : Int} {es : List (Int × Int)} (h : valid n es) : ∀ e ∈ es, goodEdge n e := by
  intro e he
  obtain ⟨i, hi, rfl⟩ := List.getElem_of_mem he
  exact (h.2.2 i hi hi).1
theorem tableEdges_valid (t : Nat → Nat → Bool) {n : Nat} (hn : n ≤ 64) : valid n (tableEdges t n n) := by
  refine valid_of (by omega) (by omega) (fun e he => ?_) (tableEdges_pairwise t n n)
  obtain ⟨i, k, hi, hk, hik, _, rfl⟩ := mem_tableEdges.1 he
  refine ⟨?_, ?_, ?_⟩ <;> simp <;> omega
theorem tableEdges_len (t : Nat → Nat → Bool) (n : Nat) : ∀ m, (tableEdges t n m).length ≤ n * m
  | 0 => by simp [tableEdges]
  | m + 1 => by
    rw [tableEdges_succ, List.length_append]
    have := tableEdges_len t n m
    have h2 : (rowT t m n).length ≤ n := by
      unfold rowT
      rw [List.length_map]
      exact Nat.le_trans (List.length_filter_le _ _) (by simp)
    rw [Nat.mul_succ]; omega
theorem readT_iff (es : List (Int × Int)) (k m : Nat) : readT es k m = true ↔ ∃ e ∈ es, (e.1.toNat = k ∧ e.2.toNat = m) ∨ (e.1.toNat = m ∧ e.2.toNat = k) := by
  refine ⟨readT_from es, ?_⟩
  unfold readT
  have : ∀ (es : List (Int × Int)) (t : Nat → Nat → Bool), (t k m = true ∨ ∃ e ∈ es, (e.1.toNat = k ∧ e.2.toNat = m) ∨ (e.1.toNat = m ∧ e.2.toNat = k)) → es.foldl (fun t e => joinT t e.1.toNat e.2.toNat) t k m = true := by
    intro es
    induction es with
    | nil => rintro t (h | ⟨e, he, _⟩); exact h; simp at he
    | cons e es ih =>
      intro t h
      simp only [List.foldl_cons]
      refine ih _ ?_
      rw [joinT_at]
      rcases h with h | ⟨e', he, h⟩
      · exact .inl (by simp [h])
      · rcases List.mem_cons.1 he with rfl | he
        · refine .inl ?_
          rcases h with ⟨rfl, rfl⟩ | ⟨rfl, rfl⟩ <;> simp
        · exact .inr ⟨e', he, h⟩
  exact fun h => this es _ (.inr h)
theorem readT_table (t : Nat → Nat → Bool) (n i j : Nat) : readT (tableEdges t n n) i j = true ↔ (i < j ∧ j < n ∧ t i j = true) ∨ (j < i ∧ i < n ∧ t j i = true) := by
  rw [readT_iff]
  constructor
  · rintro ⟨e, he, h⟩
    obtain ⟨a, b, ha, hb, hab, ht, rfl⟩ := mem_tableEdges.1 he
    simp only [Int.toNat_natCast] at h
    rcases h with ⟨rfl, rfl⟩ | ⟨rfl, rfl⟩
    · exact .inl ⟨hab, hb, ht⟩
    · exact .inr ⟨hab, hb, ht⟩
  · rintro (⟨h1, h2, h3⟩ | ⟨h1, h2, h3⟩)
    · exact ⟨_, mem_tableEdges.2 ⟨i, j, by omega, h2, h1, h3, rfl⟩, .inl ⟨by simp, by simp⟩⟩
    · exact ⟨_, mem_tableEdges.2 ⟨j, i, by omega, h2, h1, h3, rfl⟩, .inr ⟨by simp, by simp⟩⟩
/-- A table that reads a valid graph: symmetric, no loop, all within. -/
structure Nice (t : Nat → Nat → Bool) (n : Nat) : Prop where
  sym : ∀ i j, t i j = true → t j i = true
  irr : ∀ i, t i i = false
  lt : ∀ i j, t i j = true → i < n ∧ j < n
theorem Nice.symm {t : Nat → Nat → Bool} {n : Nat} (h : Nice t n) (i j : Nat) : t i j = t j i := by
  rw [Bool.eq_iff_iff]; exact ⟨h.sym i j, h.sym j i⟩
theorem valid_nice {n : Nat} {es : List (Int × Int)} (h : valid n es) : Nice (readT es) n := by
  have hg := valid_good h
  refine ⟨fun i j hh => ?_, fun i => ?_, fun i j hh => ?_⟩
  · rw [readT_iff] at hh ⊢
    obtain ⟨e, he, h1⟩ := hh
    exact ⟨e, he, h1.elim .inr .inl⟩
  · cases hh : readT es i i with
    | false => rfl
    | true =>
      obtain ⟨e, he, h1⟩ := (readT_iff _ _ _).1 hh
      obtain ⟨g1, g2, g3⟩ := hg e he
      omega
  · obtain ⟨e, he, h1⟩ := (readT_iff _ _ _).1 hh
    obtain ⟨g1, g2, g3⟩ := hg e he
    omega
/-- What is written and read again. -/
theorem read_table {t : Nat → Nat → Bool} {n : Nat} (h : Nice t n) (i j : Nat) : readT (tableEdges t n n) i j = t i j := by
  rw [Bool.eq_iff_iff, readT_table]
  constructor
  · rintro (⟨_, _, h3⟩ | ⟨_, _, h3⟩)
    · exact h3
    · exact h.sym _ _ h3
  · intro hh
    have := h.lt i j hh
    rcases Nat.lt_trichotomy i j with h1 | h1 | h1
    · exact .inl ⟨h1, this.2, hh⟩
    · subst h1; rw [h.irr] at hh; cases hh
    · exact .inr ⟨h1, this.1, h.sym _ _ hh⟩
/-- The library writes what the reference writes. -/
theorem writeEdges_table {A : Nat → Nat} {n : Nat} (hn : n ≤ 64) (h : ∀ i j, i < n → (A i).testBit j = true → j < n ∧ i ≠ j) : writeEdges A n = tableEdges (fun i j => (A i).testBit j) n n := by
  unfold writeEdges tableEdges
  rw [List.flatMap_def, List.flatMap_def]
  congr 1
  apply List.map_congr_left
  intro i hi
  have hi : i < n := by simpa using hi
  unfold rowEdges rowT verts
  congr 1
  have hf : firstN i < 18446744073709551616 := by
    unfold firstN
    have := shl_lt i (by omega)
    omega
  apply filter_range_le (by omega)
  · intro k hk
    rw [andn_bit _ _ _ hf (by omega), firstN_bit]
    cases hh : (A i).testBit k
    · simp [hh]
    · have := (h i k hi hh).2
      by_cases hik : i < k
      · simp [hik, hh]; omega
      · simp [hik, hh]; omega
  · intro k h1 h2
    rw [andn_bit _ _ _ hf h2]
    cases hh : (A i).testBit k
    · simp
    · have := (h i k hi hh).1
      omega
end Go.Gr
end
section
/- The reference's Valid and Read. -/
namespace Go.Gr
theorem validTo_prev {n : Int} {es : List (Int × Int)} {k : Nat} (h : validTo n es (k + 1)) (hk : k < es.length) : goodEdge n es[k] ∧ (0 < k → lexLt (es[k - 1]'(by omega)) es[k]) :=
  ⟨(h k hk (by omega)).1, fun h0 => (cmpE_lex _ _).1 ((h k hk (by omega)).2 h0)⟩
end Go.Gr
namespace Go.Proofs.Tg.Gx
open Go.RowKit Go.Gr
set_option maxHeartbeats 4000000
set_option maxRecDepth 100000
def RetTable (n : Nat) (t : Nat → Nat → Bool) (w : World) (e : Ending) (w' : World) : Prop :=
  ∃ g, w.heap.size ≤ g ∧ e = .returned (.slice (some ⟨g, 0, none⟩) n n) ∧ TableAt w' g n t ∧ Below w.heap.size w w'
theorem rread_any (n : Nat) (E : Option Addr) (c : Nat) (es : List (Int × Int)) (w : World) (hE : EdgesAt w E es) (hl : es.length ≤ 1000000) (hv : valid n es) :
    Calls Tryz.prog 65 #[.agg #[.int .i64 n, .slice E es.length c]] w (RetTable n (readT es) w) := by
  have hn : n ≤ 64 := by have := hv.2.1; omega
  have HG := Lib.hid (valid_good hv)
  clear hv
  have hbA : Below w.heap.size w (w.alloc (.cells #[.int .i64 n, .slice E es.length c] 40)) := (Below.refl _ _).alloc (Nat.le_refl _) _
  have hB0 := Blk.new w 40 #[.int .i64 n, .slice E es.length c]
  go_enter Tryz.func65, Tryz.ntmps65
  go_wp2_with (go_at_call 59; refine (blank_any n _ (by omega)).mono ?_; rintro e w1 ⟨rfl, hTb, hb1⟩)
  have hB1 := hB0.keep hb1 hB0.lt
  have hbw1 : Below w.heap.size w w1 := below_all hbA hb1
  have hgl : w.heap.size < w.heap.size + 1 := by omega
  rw [show (w.alloc (.cells #[.int .i64 n, .slice E es.length c] 40)).heap.size = w.heap.size + 1 from by simp] at hTb
  clear hB0 hb1
  generalize w.heap.size + 1 = g at hTb hgl ⊢
  go_loopw [4] (fun i wr => ∃ (k : Nat) (t : Nat → Nat → Bool), i = .int .i64 k ∧ k ≤ es.length ∧ TableAt wr g n t ∧ Hid (t = readT (es.take k)) ∧ Blk wr w.heap.size 40 #[.int .i64 n, .slice E es.length c] ∧ Below w.heap.size w wr) (fun i _ => es.length - (intOf i).toNat)
  case atStart => exact ⟨0, _, rfl, Nat.zero_le _, hTb, Lib.hid (by simp [readT]), hB1, hbw1⟩
  case round =>
    clear hB1 hbw1 hTb
    obtain ⟨k, t, rfl, hk, hT, HT, hB, hb⟩ := hrel
    have b1 := hB.cell 1
    simp at b1
    by_cases hkl : k < es.length
    · have hkb : decide ((k : Int) < (es.length : Int)) = true := by simp; omega
      obtain ⟨ad, rfl, hc1, hc2⟩ := EdgesAt.at (hE.keep hb) hkl
      have hgood := HG.out es[k] (List.getElem_mem _)
      have HA2 : Hid (readT (es.take (k + 1)) = joinT (readT (es.take k)) es[k].1.toNat es[k].2.toNat) := Lib.hid (readT_succ hkl)
      obtain ⟨x, y, hp⟩ : ∃ x y, es[k] = (x, y) := ⟨_, _, rfl⟩
      rw [hp] at hc1 hc2 HA2 hgood
      have HPE := Lib.hid hp
      clear hp
      obtain ⟨g1, g2, g3⟩ := hgood
      simp only at hc1 hc2 g1 g2 g3
      obtain ⟨i, rfl⟩ := Int.eq_ofNat_of_zero_le g1
      obtain ⟨j, rfl⟩ := Int.eq_ofNat_of_zero_le (show 0 ≤ y by omega)
      have k0 : (0 : Int) ≤ (k : Int) := by omega
      have k1 : (k : Int) < (es.length : Int) := by omega
      have hin2 : i < n := by omega
      have hjn2 : j < n := by omega
      have ci := (hT.head.cell i).trans (farr_at n _ hin2)
      have cj := (hT.head.cell j).trans (farr_at n _ hjn2)
      unfold rowV at ci cj
      have cij := ((hT.row i hin2).cell j).trans (farr_at n _ hjn2)
      have cji := ((hT.row j hjn2).cell i).trans (farr_at n _ hin2)
      have fij := (hT.row i hin2).frozen j
      have fji := (hT.row j hjn2).frozen i
      have i0 : (0 : Int) ≤ (i : Int) := by omega
      have i1 : (i : Int) < (n : Int) := by omega
      have j0 : (0 : Int) ≤ (j : Int) := by omega
      have j1 : (j : Int) < (n : Int) := by omega
      have HT1 := Lib.hid (hT.set (b := j) hin2)
      have HB1 := Lib.hid (hB.far (p := ⟨g + 1 + i, j, none⟩) (by simp; omega) (.bool true))
      have HBL1 := Lib.hid (hb.setCell (p := ⟨g + 1 + i, j, none⟩) (by simp; omega) (.bool true))
      have HTT := Lib.hid hT
      generalize t i j = tij at cij
      clear hT cji fji cj
      go_upto_region 5 with fail
      go_cut [4] (fun s wx => s = .int .i64 k ∧ TableAt wx g n (setT t i j) ∧ Blk wx w.heap.size 40 #[.int .i64 n, .slice (some ad) es.length c] ∧ Below w.heap.size w wx)
      case first =>
        clear hE
        go_region
        go_wp2_with fail
        go_meet
        exact ⟨rfl, ⟨HT1.out.head, HT1.out.row⟩, HB1.out, below_drewN HBL1.out _⟩
      case rest =>
        obtain ⟨rfl, hT, hB2, hb2⟩ := hcut
        clear hc1 hc2 ci cij fij HTT HT1 HB1 HBL1
        obtain ⟨ad', ead, hc1, hc2⟩ := EdgesAt.at (hE.keep hb2) hkl
        injection ead with ead
        subst ead
        rw [HPE.out] at hc1 hc2
        simp only at hc1 hc2
        have ci := (hT.head.cell j).trans (farr_at n _ hjn2)
        unfold rowV at ci
        have cij := ((hT.row j hjn2).cell i).trans (farr_at n _ hin2)
        have fij := (hT.row j hjn2).frozen i
        have b1 := hB2.cell 1
        simp at b1
        have HT1 := Lib.hid (hT.set (b := i) hjn2)
        have HB1 := Lib.hid (hB2.far (p := ⟨g + 1 + j, i, none⟩) (by simp; omega) (.bool true))
        have HBL1 := Lib.hid (hb2.setCell (p := ⟨g + 1 + j, i, none⟩) (by simp; omega) (.bool true))
        have HTN : Hid (setT (setT t i j) j i = readT (es.take (k + 1))) := Lib.hid (by rw [HA2.out, ← HT.out]; rfl)
        generalize setT t i j j i = tij at cij
        clear hT HA2
        go_wp2
        go_region
        go_wp2
        go_roundw
        case rel => exact ⟨k + 1, _, by go_num, by omega, ⟨HT1.out.head, HT1.out.row⟩, HTN, HB1.out, below_drewN HBL1.out _⟩
        case measure => simp [intOf]; omega
    · obtain rfl : k = es.length := by omega
      have hkb : decide ((es.length : Int) < (es.length : Int)) = false := by simp
      have HA2 : Hid (t = readT es) := Lib.hid (by rw [HT.out, List.take_length])
      go_wp2
      go_ret
      refine ⟨g, by omega, rfl, ?_, hb⟩
      rw [← HA2.out]; exact hT
end Go.Proofs.Tg.Gx
end
section
/- Plain functions for the tree of cliques. -/
namespace Go.Gr
/-- The first k numbers are from 0 to 63 and ascend. -/
def ascTo (l : List Int) (k : Nat) : Prop := ∀ i (h : i < l.length), i < k → (0 ≤ l[i] ∧ l[i] < 64) ∧ (0 < i → l[i - 1]'(by omega) < l[i])
def asc (l : List Int) : Prop := ascTo l l.length
def setOf (l : List Int) : Nat := l.foldl (fun s v => bset s v.toNat) 0
theorem setOf_snoc (l : List Int) (v : Int) : setOf (l ++ [v]) = bset (setOf l) v.toNat := by simp [setOf]
theorem ascTo_succ {l : List Int} {k : Nat} (hk : k < l.length) (h : ascTo l k) (h1 : 0 ≤ l[k] ∧ l[k] < 64) (h2 : 0 < k → l[k - 1]'(by omega) < l[k]) : ascTo l (k + 1) := by
  intro i hi hik
  by_cases e : i = k
  · subst e; exact ⟨h1, h2⟩
  · exact h i hi (by omega)
theorem setOf_small {l : List Int} (h : asc l) : setOf l < 18446744073709551616 := by
  have : ∀ k, k ≤ l.length → setOf (l.take k) < 18446744073709551616 := by
    intro k
    induction k with
    | zero => intro _; simp [setOf]
    | succ k ih =>
      intro hk
      rw [List.take_succ_eq_append_getElem (by omega), setOf_snoc]
      have := (h k (by omega) (by omega)).1
      exact bset_lt (ih (by omega)) (by omega)
  have := this l.length (Nat.le_refl _)
  rwa [List.take_length] at this
/-- One pair of sets is looked at: i outside the tree, k inside. -/
def pairStep (sets : List Nat) (inT i : Nat) (b : Int × Int × Int) (k : Nat) : Int × Int × Int :=
  if inT.testBit i = false ∧ inT.testBit k = true ∧ b.2.2 < ((size (sets.getD i 0 &&& sets.getD k 0) : Nat) : Int) then ((i : Int), (k : Int), ((size (sets.getD i 0 &&& sets.getD k 0) : Nat) : Int)) else b
def rowTo (sets : List Nat) (inT i : Nat) (b : Int × Int × Int) (k : Nat) : Int × Int × Int := (List.range k).foldl (pairStep sets inT i) b
theorem rowTo_succ (sets : List Nat) (inT i : Nat) (b : Int × Int × Int) (k : Nat) : rowTo sets inT i b (k + 1) = pairStep sets inT i (rowTo sets inT i b k) k := by
  simp [rowTo, List.range_succ, List.foldl_append]
def allTo (sets : List Nat) (inT m : Nat) : Nat → Int × Int × Int
  | 0 => (-1, -1, -1)
  | i + 1 => rowTo sets inT i (allTo sets inT m i) m
/-- Whatever is chosen is a set outside the tree with one inside; and something is chosen if there is a pair. -/
def okBest (inT m : Nat) (b : Int × Int × Int) : Prop := b = (-1, -1, -1) ∨ ∃ i k c : Nat, i < m ∧ k < m ∧ inT.testBit i = false ∧ inT.testBit k = true ∧ b = ((i : Int), (k : Int), (c : Int))
theorem okBest_pair {sets : List Nat} {inT m i k : Nat} {b : Int × Int × Int} (h : okBest inT m b) (hi : i < m) (hk : k < m) : okBest inT m (pairStep sets inT i b k) := by
  unfold pairStep
  split
  · rename_i hc
    exact .inr ⟨i, k, _, hi, hk, hc.1, hc.2.1, rfl⟩
  · exact h
theorem okBest_row {sets : List Nat} {inT m i : Nat} {b : Int × Int × Int} (h : okBest inT m b) (hi : i < m) : ∀ k, k ≤ m → okBest inT m (rowTo sets inT i b k)
  | 0, _ => h
  | k + 1, hk => by rw [rowTo_succ]; exact okBest_pair (okBest_row h hi k (by omega)) hi (by omega)
theorem okBest_all {sets : List Nat} {inT m : Nat} : ∀ i, i ≤ m → okBest inT m (allTo sets inT m i)
  | 0, _ => .inl rfl
  | i + 1, hi => okBest_row (okBest_all i (by omega)) (by omega) m (Nat.le_refl _)
theorem pair_mono {sets : List Nat} {inT i k : Nat} {b : Int × Int × Int} : b.2.2 ≤ (pairStep sets inT i b k).2.2 := by
  unfold pairStep
  split
  · rename_i hc; have := hc.2.2; dsimp only; omega
  · exact Int.le_refl _
theorem row_mono {sets : List Nat} {inT i : Nat} {b : Int × Int × Int} : ∀ k, b.2.2 ≤ (rowTo sets inT i b k).2.2
  | 0 => Int.le_refl _
  | k + 1 => by rw [rowTo_succ]; exact Int.le_trans (row_mono k) pair_mono
theorem row_finds {sets : List Nat} {inT i k : Nat} {b : Int × Int × Int} (hi : inT.testBit i = false) (hk : inT.testBit k = true) : ∀ m, k < m → 0 ≤ (rowTo sets inT i b m).2.2
  | 0, h => by omega
  | m + 1, h => by
    rw [rowTo_succ]
    by_cases e : k = m
    · subst e
      unfold pairStep
      split
      · dsimp only; omega
      · rename_i hc
        by_cases h2 : (rowTo sets inT i b k).2.2 < ((size (sets.getD i 0 &&& sets.getD k 0) : Nat) : Int)
        · exact absurd ⟨hi, hk, h2⟩ hc
        · omega
    · exact Int.le_trans (row_finds hi hk m (by omega)) pair_mono
theorem all_mono {sets : List Nat} {inT m : Nat} (i : Nat) : (allTo sets inT m i).2.2 ≤ (allTo sets inT m (i + 1)).2.2 := row_mono m
theorem all_finds {sets : List Nat} {inT m i k : Nat} (hi : inT.testBit i = false) (hk : inT.testBit k = true) (hkm : k < m) : ∀ q, i < q → 0 ≤ (allTo sets inT m q).2.2
  | 0, h => by omega
  | q + 1, h => by
    by_cases e : i = q
    · subst e; exact row_finds hi hk m hkm
    · exact Int.le_trans (all_finds hi hk hkm q (by omega)) (all_mono q)
/-- The sets in the tree, and the parents, after r rounds. -/
def treeTo (sets : List Nat) : Nat → Nat × List Int
  | 0 => (bset 0 0, List.replicate sets.length (-1))
  | r + 1 =>
    let b := allTo sets (treeTo sets r).1 sets.length sets.length
    (bset (treeTo sets r).1 b.1.toNat, if 0 < b.2.2 then (treeTo sets r).2.set b.1.toNat b.2.1 else (treeTo sets r).2)
def tree (sets : List Nat) : List Int := (treeTo sets (sets.length - 1)).2
structure Grows (sets : List Nat) (r : Nat) : Prop where
  zero : (treeTo sets r).1.testBit 0 = true
  lt : ∀ i, (treeTo sets r).1.testBit i = true → i < sets.length
  few : ((List.range sets.length).filter (treeTo sets r).1.testBit).length ≤ r + 1
  small : (treeTo sets r).1 < 18446744073709551616
  len : (treeTo sets r).2.length = sets.length
theorem filter_more {p q : Nat → Bool} {b : Nat} (hq : ∀ i, q i = (p i || decide (b = i))) : ∀ n, ((List.range n).filter q).length ≤ ((List.range n).filter p).length + 1 := by
  have key : ∀ n, ((List.range n).filter q).length ≤ ((List.range n).filter p).length + (if b < n then 1 else 0) := by
    intro n
    induction n with
    | zero => simp
    | succ n ih =>
      rw [List.range_succ, List.filter_append, List.filter_append, List.length_append, List.length_append]
      by_cases e : b = n
      · subst e
        have h1 : (List.filter q [b]).length ≤ 1 := List.length_filter_le _ _
        simp only [Nat.lt_irrefl, if_false, show b < b + 1 from by omega, if_true] at ih ⊢
        omega
      · have : q n = p n := by rw [hq]; simp [e]
        have h2 : (List.filter q [n]).length = (List.filter p [n]).length := by simp [List.filter_cons, this]
        by_cases hb : b < n
        · simp only [hb, if_true, show b < n + 1 from by omega] at ih ⊢; omega
        · simp only [hb, if_false, show ¬ b < n + 1 from by omega] at ih ⊢; omega
  intro n
  have := key n
  split at this <;> omega
theorem tree_best {sets : List Nat} {r : Nat} (h : Grows sets r) (hr : r + 1 < sets.length) : ∃ i k c : Nat, i < sets.length ∧ k < sets.length ∧ (treeTo sets r).1.testBit i = false ∧ (treeTo sets r).1.testBit k = true ∧
    allTo sets (treeTo sets r).1 sets.length sets.length = ((i : Int), (k : Int), (c : Int)) := by
  rcases okBest_all (sets := sets) (inT := (treeTo sets r).1) (m := sets.length) sets.length (Nat.le_refl _) with h2 | h2
  · exfalso
    have hex : ∃ i, i < sets.length ∧ (treeTo sets r).1.testBit i = false := by
      by_cases hh : ∃ i, i < sets.length ∧ (treeTo sets r).1.testBit i = false
      · exact hh
      · exfalso
        have : (List.range sets.length).filter (treeTo sets r).1.testBit = List.range sets.length := List.filter_eq_self.2 (fun i hi => by
          by_cases hb : (treeTo sets r).1.testBit i = true
          · exact hb
          · exact absurd ⟨i, by simpa using hi, by simpa using hb⟩ hh)
        have hf := h.few
        rw [this, List.length_range] at hf
        omega
    obtain ⟨i, hi, hf⟩ := hex
    have := all_finds (sets := sets) hf h.zero (m := sets.length) (by omega) sets.length hi
    rw [h2] at this
    simp at this
  · exact h2
theorem grows {sets : List Nat} (hm : sets.length ≤ 64) (h0 : 0 < sets.length) : ∀ r, r + 1 ≤ sets.length → Grows sets r
  | 0, _ => by
    refine ⟨by unfold treeTo; rw [bset_bit]; simp, ?_, ?_, ?_, by simp [treeTo]⟩
    · intro i hi
      simp [treeTo, bset_bit] at hi
      omega
    · have := filter_more (p := fun _ => false) (q := (treeTo sets 0).1.testBit) (b := 0) (fun i => by simp [treeTo, bset_bit]) sets.length
      have e : ((List.range sets.length).filter fun _ => false) = [] := List.filter_eq_nil_iff.2 (by simp)
      rw [e] at this
      simpa using this
    · exact bset_lt (by omega) (by omega)
  | r + 1, hr => by
    have ih := grows hm h0 r (by omega)
    obtain ⟨i, k, c, hi, hk, hf, ht, he⟩ := tree_best ih (by omega)
    have e1 : (treeTo sets (r + 1)).1 = bset (treeTo sets r).1 i := by simp only [treeTo, he]; rfl
    refine ⟨?_, ?_, ?_, ?_, ?_⟩
    · rw [e1, bset_bit, ih.zero]; rfl
    · intro j hj
      rw [e1, bset_bit] at hj
      simp only [Bool.or_eq_true, decide_eq_true_eq] at hj
      rcases hj with h | h
      · exact ih.lt j h
      · omega
    · have := filter_more (p := (treeTo sets r).1.testBit) (q := (treeTo sets (r + 1)).1.testBit) (b := i) (fun j => by rw [e1, bset_bit]) sets.length
      have := ih.few
      omega
    · rw [e1]; exact bset_lt ih.small (by omega)
    · simp only [treeTo]
      split
      · simp [ih.len]
      · exact ih.len
end Go.Gr
end
section
/- Plain law of Tree: the library's parents are the reference's. -/
namespace Go.Gr
/-- Two ascending lists with the same members are one. -/
theorem asc_ext : ∀ {l m : List Int}, l.Pairwise (· < ·) → m.Pairwise (· < ·) → (∀ x, x ∈ l ↔ x ∈ m) → l = m
  | [], [], _, _, _ => rfl
  | [], y :: m, _, _, h => by have := (h y).2 (by simp); simp at this
  | x :: l, [], _, _, h => by have := (h x).1 (by simp); simp at this
  | x :: l, y :: m, h1, h2, h => by
    rw [List.pairwise_cons] at h1 h2
    have hxy : x = y := by
      have a := (h x).1 (by simp)
      have b := (h y).2 (by simp)
      rcases List.mem_cons.1 a with e | e
      · exact e
      · rcases List.mem_cons.1 b with e2 | e2
        · exact e2.symm
        · have := h1.1 y e2
          have := h2.1 x e
          omega
    subst hxy
    congr 1
    refine asc_ext h1.2 h2.2 (fun z => ⟨fun hz => ?_, fun hz => ?_⟩)
    · rcases List.mem_cons.1 ((h z).1 (by simp [hz])) with e | e
      · subst e; have := h1.1 z hz; omega
      · exact e
    · rcases List.mem_cons.1 ((h z).2 (by simp [hz])) with e | e
      · subst e; have := h2.1 z hz; omega
      · exact e
theorem asc_pairwise {l : List Int} (h : asc l) : l.Pairwise (· < ·) := by
  rw [List.pairwise_iff_getElem]
  intro i j hi hj hij
  have : ∀ d, ∀ j (hj : j < l.length), j = i + d + 1 → l[i] < l[j] := by
    intro d
    induction d with
    | zero =>
      intro j hj e
      have := (h j hj hj).2 (by omega)
      subst e
      simpa using this
    | succ d ih =>
      intro j hj e
      have h1 := ih (j - 1) (by omega) (by omega)
      have h2 := (h j hj hj).2 (by omega)
      omega
  exact this (j - i - 1) j hj (by omega)
theorem asc_range {l : List Int} (h : asc l) : ∀ x ∈ l, 0 ≤ x ∧ x < 64 := by
  intro x hx
  obtain ⟨i, hi, rfl⟩ := List.getElem_of_mem hx
  exact (h i hi hi).1
theorem setOf_bit : ∀ {l : List Int}, (∀ x ∈ l, 0 ≤ x) → ∀ j : Nat, (setOf l).testBit j = true ↔ (j : Int) ∈ l := by
  intro l
  have : ∀ (l : List Int) (s : Nat), (∀ x ∈ l, 0 ≤ x) → ∀ j : Nat, (l.foldl (fun s v => bset s v.toNat) s).testBit j = true ↔ s.testBit j = true ∨ (j : Int) ∈ l := by
    intro l
    induction l with
    | nil => intro s _ j; simp
    | cons x l ih =>
      intro s h j
      have hx := h x (by simp)
      rw [List.foldl_cons, ih _ (fun y hy => h y (by simp [hy])), bset_bit]
      simp only [Bool.or_eq_true, decide_eq_true_eq, List.mem_cons]
      have : (x.toNat = j) ↔ ((j : Int) = x) := by omega
      rw [this, or_assoc]
  intro h j
  have := this l 0 h j
  simpa [setOf] using this
def vertsZ (s : Nat) : List Int := (verts s).map fun v : Nat => (v : Int)
theorem vertsZ_asc (s : Nat) : (vertsZ s).Pairwise (· < ·) := by
  unfold vertsZ verts
  rw [List.pairwise_map]
  refine List.Pairwise.filter _ ?_
  exact List.Pairwise.imp (fun h => by omega) List.pairwise_lt_range
theorem mem_vertsZ {s : Nat} {x : Int} : x ∈ vertsZ s ↔ 0 ≤ x ∧ x < 64 ∧ s.testBit x.toNat = true := by
  unfold vertsZ
  rw [List.mem_map]
  constructor
  · rintro ⟨v, hv, rfl⟩
    rw [mem_verts] at hv
    exact ⟨by omega, by omega, by simpa using hv.2⟩
  · rintro ⟨h1, h2, h3⟩
    exact ⟨x.toNat, by rw [mem_verts]; exact ⟨by omega, h3⟩, by omega⟩
theorem vertsZ_setOf {l : List Int} (h : asc l) : vertsZ (setOf l) = l := by
  refine asc_ext (vertsZ_asc _) (asc_pairwise h) (fun x => ?_)
  rw [mem_vertsZ]
  constructor
  · rintro ⟨h1, h2, h3⟩
    have := (setOf_bit (fun y hy => (asc_range h y hy).1) _).1 h3
    rwa [show ((x.toNat : Nat) : Int) = x from by omega] at this
  · intro hx
    have := asc_range h x hx
    exact ⟨this.1, this.2, (setOf_bit (fun y hy => (asc_range h y hy).1) _).2 (by rwa [show ((x.toNat : Nat) : Int) = x from by omega])⟩
/-- How many pairs of equal elements two lists have. -/
def common (a b : List Int) : Nat := (a.map fun x => b.count x).sum
theorem common_snoc (a b : List Int) (x : Int) : common (a ++ [x]) b = common a b + b.count x := by simp [common]
theorem count_snoc (b : List Int) (y x : Int) : (b ++ [y]).count x = b.count x + if y = x then 1 else 0 := by
  rw [List.count_append, List.count_singleton]
  by_cases h : y = x <;> simp [h]
theorem common_size {a b : List Int} (ha : asc a) (hb : asc b) : common a b = size (setOf a &&& setOf b) := by
  have hnd : b.Nodup := (asc_pairwise hb).imp (fun h => by omega)
  have h1 : ∀ l : List Int, (l.map fun x => b.count x).sum = (l.filter fun x => decide (x ∈ b)).length := by
    intro l
    induction l with
    | nil => rfl
    | cons x l ih =>
      rw [List.map_cons, List.sum_cons, ih]
      by_cases hx : x ∈ b
      · rw [List.filter_cons_of_pos (by simpa using hx), List.Nodup.count hnd, if_pos hx]; simp; omega
      · rw [List.filter_cons_of_neg (by simpa using hx), List.count_eq_zero_of_not_mem hx]; simp
  unfold common
  rw [h1]
  conv => lhs; rw [← vertsZ_setOf ha]
  unfold vertsZ size verts
  rw [List.filter_map, List.length_map, List.filter_filter]
  congr 1
  apply List.filter_congr
  intro j hj
  simp only [Function.comp, Nat.testBit_and]
  rw [Bool.and_comm]
  congr 1
  rw [Bool.eq_iff_iff, setOf_bit (fun y hy => (asc_range hb y hy).1)]
  simp
/-- One pair of lists is looked at by the reference. -/
def rpair (ls : List (List Int)) (inn : Nat → Bool) (i : Nat) (b : Int × Int × Int) (k : Nat) : Int × Int × Int :=
  if inn i = false ∧ inn k = true ∧ b.2.2 < ((common (ls.getD i []) (ls.getD k []) : Nat) : Int) then ((i : Int), (k : Int), ((common (ls.getD i []) (ls.getD k []) : Nat) : Int)) else b
def rrow (ls : List (List Int)) (inn : Nat → Bool) (i : Nat) (b : Int × Int × Int) (k : Nat) : Int × Int × Int := (List.range k).foldl (rpair ls inn i) b
theorem rrow_succ (ls : List (List Int)) (inn : Nat → Bool) (i : Nat) (b : Int × Int × Int) (k : Nat) : rrow ls inn i b (k + 1) = rpair ls inn i (rrow ls inn i b k) k := by
  simp [rrow, List.range_succ, List.foldl_append]
def rall (ls : List (List Int)) (inn : Nat → Bool) (m : Nat) : Nat → Int × Int × Int
  | 0 => (0, -1, -1)
  | i + 1 => rrow ls inn i (rall ls inn m i) m
def updF {α : Type} (f : Nat → α) (i : Nat) (x : α) : Nat → α := fun k => if k = i then x else f k
/-- What the reference has after r rounds: which lists are in the tree, and the parents. -/
def rtree (ls : List (List Int)) : Nat → (Nat → Bool) × (Nat → Int)
  | 0 => (fun _ => false, fun _ => 0)
  | r + 1 =>
    let b := rall ls (rtree ls r).1 ls.length ls.length
    (updF (rtree ls r).1 b.1.toNat true, updF (rtree ls r).2 b.1.toNat (if b.2.2 ≤ 0 then -1 else b.2.1))
/-- The reference's choice is a list of the table. -/
theorem rall_lt {ls : List (List Int)} {inn : Nat → Bool} {m : Nat} (hm : 0 < m) : ∀ i, i ≤ m → 0 ≤ (rall ls inn m i).1 ∧ (rall ls inn m i).1 < m := by
  have hrow : ∀ i (b : Int × Int × Int), i < m → (0 ≤ b.1 ∧ b.1 < m) → ∀ k, 0 ≤ (rrow ls inn i b k).1 ∧ (rrow ls inn i b k).1 < m := by
    intro i b hi hb k
    induction k with
    | zero => exact hb
    | succ k ih =>
      rw [rrow_succ]
      unfold rpair
      split
      · dsimp only; omega
      · exact ih
  intro i
  induction i with
  | zero => intro _; simp [rall]; omega
  | succ i ih => intro hi; exact hrow i _ (by omega) (ih (by omega)) m
theorem rall_none {ls : List (List Int)} {inn : Nat → Bool} {m : Nat} (h : ∀ k, inn k = false) : ∀ i, rall ls inn m i = (0, -1, -1)
  | 0 => rfl
  | i + 1 => by
    have : ∀ k, rrow ls inn i (rall ls inn m i) k = rall ls inn m i := by
      intro k
      induction k with
      | zero => rfl
      | succ k ih => rw [rrow_succ, ih]; unfold rpair; rw [if_neg (fun hc => by rw [h k] at hc; cases hc.2.1)]
    show rrow ls inn i (rall ls inn m i) m = _
    rw [this, rall_none h i]
/-- Both choose alike, as long as the reference has chosen something. -/
theorem rall_all {ls : List (List Int)} (ha : ∀ l ∈ ls, asc l) {inn : Nat → Bool} {inT m : Nat} (hm : m = ls.length) (hi : ∀ i, i < m → inn i = inT.testBit i) :
    ∀ i, i ≤ m → (rall ls inn m i = allTo (ls.map setOf) inT m i) ∨ (rall ls inn m i = (0, -1, -1) ∧ allTo (ls.map setOf) inT m i = (-1, -1, -1)) := by
  have hpair : ∀ i k, i < m → k < m → ∀ b c : Int × Int × Int, (b = c ∨ (b = (0, -1, -1) ∧ c = (-1, -1, -1))) →
      (rpair ls inn i b k = pairStep (ls.map setOf) inT i c k ∨ (rpair ls inn i b k = (0, -1, -1) ∧ pairStep (ls.map setOf) inT i c k = (-1, -1, -1))) := by
    intro i k hii hk b c hbc
    have e1 : ls.getD i [] = ls[i] := by simp [show i < ls.length by omega]
    have e2 : ls.getD k [] = ls[k] := by simp [show k < ls.length by omega]
    have e3 : (ls.map setOf).getD i 0 = setOf ls[i] := by simp [show i < ls.length by omega]
    have e4 : (ls.map setOf).getD k 0 = setOf ls[k] := by simp [show k < ls.length by omega]
    have hc := common_size (ha ls[i] (List.getElem_mem _)) (ha ls[k] (List.getElem_mem _))
    have h22 : b.2.2 = c.2.2 := by rcases hbc with rfl | ⟨rfl, rfl⟩ <;> rfl
    unfold rpair pairStep
    rw [e1, e2, e3, e4, hc, hi i hii, hi k hk, h22]
    split
    · exact .inl rfl
    · exact hbc
  have hrow : ∀ i, i < m → ∀ b c : Int × Int × Int, (b = c ∨ (b = (0, -1, -1) ∧ c = (-1, -1, -1))) → ∀ k, k ≤ m →
      (rrow ls inn i b k = rowTo (ls.map setOf) inT i c k ∨ (rrow ls inn i b k = (0, -1, -1) ∧ rowTo (ls.map setOf) inT i c k = (-1, -1, -1))) := by
    intro i hii b c hbc k
    induction k with
    | zero => intro _; exact hbc
    | succ k ih =>
      intro hk
      rw [rrow_succ, rowTo_succ]
      exact hpair i k hii (by omega) _ _ (ih (by omega))
  intro i
  induction i with
  | zero => intro _; exact .inr ⟨rfl, rfl⟩
  | succ i ih => intro hi2; exact hrow i (by omega) _ _ (ih (by omega)) m (Nat.le_refl _)
structure Alike (ls : List (List Int)) (r : Nat) : Prop where
  inn : ∀ i, i < ls.length → (rtree ls (r + 1)).1 i = (treeTo (ls.map setOf) r).1.testBit i
  out : ∀ i, i < ls.length → (rtree ls (r + 1)).1 i = true → (rtree ls (r + 1)).2 i = (treeTo (ls.map setOf) r).2.getD i 0
  rest : ∀ i, i < ls.length → (rtree ls (r + 1)).1 i = false → (treeTo (ls.map setOf) r).2.getD i 0 = -1
  many : r + 1 ≤ ((List.range ls.length).filter (rtree ls (r + 1)).1).length
theorem filter_one_more {p q : Nat → Bool} {b n : Nat} (hb : b < n) (h0 : p b = false) (h1 : q b = true) (h2 : ∀ i, p i = true → q i = true) : ((List.range n).filter p).length + 1 ≤ ((List.range n).filter q).length := by
  have hle : ∀ l : List Nat, (l.filter p).length ≤ (l.filter q).length := by
    intro l
    induction l with
    | nil => simp
    | cons x l ih =>
      by_cases hp : p x = true
      · simp [hp, h2 x hp]; omega
      · by_cases hq : q x = true <;> simp [hp, hq] <;> omega
  have : ∀ l : List Nat, b ∈ l → (l.filter p).length + 1 ≤ (l.filter q).length := by
    intro l
    induction l with
    | nil => simp
    | cons x l ih =>
      intro hm
      by_cases e : x = b
      · subst e
        have := hle l
        simp [h0, h1]; omega
      · have := ih ((List.mem_cons.1 hm).resolve_left (fun e2 => e e2.symm))
        by_cases hp : p x = true
        · simp [hp, h2 x hp]; omega
        · by_cases hq : q x = true <;> simp [hp, hq] <;> omega
  exact this _ (by simpa using hb)
theorem alike {ls : List (List Int)} (ha : ∀ l ∈ ls, asc l) (hm : ls.length ≤ 64) (h0 : 0 < ls.length) : ∀ r, r + 1 ≤ ls.length → Alike ls r
  | 0, _ => by
    have e : rtree ls 1 = (updF (fun _ => false) 0 true, updF (fun _ => 0) 0 (-1)) := by
      simp only [rtree, rall_none (ls := ls) (inn := fun _ => false) (m := ls.length) (fun _ => rfl)]
      rfl
    refine ⟨fun i hi => ?_, fun i hi h => ?_, fun i hi h => ?_, ?_⟩
    · rw [e]; simp only [treeTo, updF, bset_bit]
      by_cases h : i = 0
      · simp [h]
      · have : ¬ 0 = i := fun e => h e.symm
        simp [h, this]
    · rw [e] at h ⊢
      simp only [updF] at h ⊢
      by_cases h2 : i = 0
      · subst h2; simp [treeTo, h0]
      · rw [if_neg h2] at h; cases h
    · simp [treeTo, hi]
    · rw [e]
      have := filter_one_more (p := fun _ => false) (q := updF (fun _ => false) 0 true) (b := 0) (n := ls.length) h0 rfl rfl (by simp)
      simp only at this ⊢
      omega
  | r + 1, hr => by
    have ih := alike ha hm h0 r (by omega)
    have hg := grows (sets := ls.map setOf) (by simpa using hm) (by simpa using h0) r (by simp; omega)
    obtain ⟨i0, k0, c0, hi0, hk0, hf, ht, he⟩ := tree_best hg (by simp; omega)
    rw [List.length_map] at hi0 hk0 he
    have hra : rall ls (rtree ls (r + 1)).1 ls.length ls.length = ((i0 : Int), (k0 : Int), (c0 : Int)) := by
      rcases rall_all ha (inn := (rtree ls (r + 1)).1) (inT := (treeTo (ls.map setOf) r).1) rfl ih.inn ls.length (Nat.le_refl _) with h | ⟨_, h⟩
      · rw [h, he]
      · rw [he] at h
        have := congrArg (fun x => x.1) h
        simp at this
    have e1 : rtree ls (r + 1 + 1) = (updF (rtree ls (r + 1)).1 i0 true, updF (rtree ls (r + 1)).2 i0 (if (c0 : Int) ≤ 0 then -1 else (k0 : Int))) := by
      show (let b := rall ls (rtree ls (r + 1)).1 ls.length ls.length
            (updF (rtree ls (r + 1)).1 b.1.toNat true, updF (rtree ls (r + 1)).2 b.1.toNat (if b.2.2 ≤ 0 then -1 else b.2.1))) = _
      rw [hra]; rfl
    have e2 : treeTo (ls.map setOf) (r + 1) = (bset (treeTo (ls.map setOf) r).1 i0, if (0 : Int) < (c0 : Int) then (treeTo (ls.map setOf) r).2.set i0 (k0 : Int) else (treeTo (ls.map setOf) r).2) := by
      simp only [treeTo, List.length_map, he]; rfl
    have hlen := hg.len
    rw [List.length_map] at hlen
    have hfi : (rtree ls (r + 1)).1 i0 = false := by rw [ih.inn i0 hi0]; exact hf
    have hrest := ih.rest i0 hi0 hfi
    refine ⟨fun i hi => ?_, fun i hi h => ?_, fun i hi h => ?_, ?_⟩
    · rw [e1, e2]; simp only [updF, bset_bit]
      by_cases h : i = i0
      · simp [h]
      · have : ¬ i0 = i := fun e => h e.symm
        simp [h, this, ih.inn i hi]
    · rw [e1] at h ⊢
      rw [e2]
      simp only [updF] at h ⊢
      by_cases h2 : i = i0
      · subst h2
        rw [if_pos rfl]
        by_cases hc : (0 : Int) < (c0 : Int)
        · rw [if_pos hc, if_neg (by omega)]; simp [hlen, hi]
        · rw [if_neg hc, if_pos (by omega), hrest]
      · rw [if_neg h2] at h ⊢
        have := ih.out i hi h
        rw [this]
        split
        · rw [List.getD_eq_getElem?_getD, List.getD_eq_getElem?_getD, List.getElem?_set_ne (fun e => h2 e.symm)]
        · rfl
    · rw [e1] at h
      rw [e2]
      simp only [updF] at h ⊢
      by_cases h2 : i = i0
      · rw [if_pos h2] at h; cases h
      · rw [if_neg h2] at h
        have := ih.rest i hi h
        split
        · rw [List.getD_eq_getElem?_getD, List.getElem?_set_ne (fun e => h2 e.symm), ← List.getD_eq_getElem?_getD]; exact this
        · exact this
    · rw [e1]
      have := filter_one_more (p := (rtree ls (r + 1)).1) (q := updF (rtree ls (r + 1)).1 i0 true) (b := i0) (n := ls.length) hi0 hfi (by simp [updF]) (by
        intro i h; unfold updF; split
        · rfl
        · exact h)
      have := ih.many
      dsimp only
      omega
theorem filter_full {p : Nat → Bool} {n : Nat} (h : n ≤ ((List.range n).filter p).length) : ∀ i, i < n → p i = true := by
  intro i hi
  have h1 : ((List.range n).filter p).length ≤ (List.range n).length := List.length_filter_le _ _
  rw [List.length_range] at h1
  have := List.length_filter_eq_length_iff.1 (show ((List.range n).filter p).length = (List.range n).length by rw [List.length_range]; omega)
  exact this i (by simpa using hi)
/-- The reference's parents are the library's. -/
theorem rtree_tree {ls : List (List Int)} (ha : ∀ l ∈ ls, asc l) (hm : ls.length ≤ 64) : (List.range ls.length).map (rtree ls ls.length).2 = tree (ls.map setOf) := by
  by_cases h0 : 0 < ls.length
  · have hA := alike ha hm h0 (ls.length - 1) (by omega)
    have hg := grows (sets := ls.map setOf) (by simpa using hm) (by simpa using h0) (ls.length - 1) (by simp; omega)
    have e : ls.length - 1 + 1 = ls.length := by omega
    obtain ⟨_, ho, _, hmany⟩ := hA
    rw [e] at ho hmany
    have hall := filter_full hmany
    unfold tree
    rw [List.length_map]
    have hl := hg.len
    rw [List.length_map] at hl
    apply List.ext_getElem
    · simp [hl]
    · intro i h1 h2
      have hi : i < ls.length := by simpa using h1
      rw [List.getElem_map, List.getElem_range, ho i hi (hall i hi)]
      simp [List.getD_eq_getElem?_getD, List.getElem?_eq_getElem h2]
  · have : ls = [] := List.eq_nil_of_length_eq_zero (by omega)
    subst this
    rfl
end Go.Gr
end
section
/- The reference's Common. -/
namespace Go.Proofs.Tg.Gx
open Go.RowKit Go.Gr
set_option maxHeartbeats 1000000
set_option maxRecDepth 100000
theorem drew_more {w wr : World} (h : Hid (∃ n, wr = w.drewN n)) (k : Nat) : Hid (∃ n, wr.drewN k = w.drewN n) := by
  obtain ⟨n, hn⟩ := h.out
  exact Lib.hid ⟨n + k, by rw [hn, World.drewN_drewN]⟩
theorem common_any (A B : Option Addr) (a b : List Int) (c d : Nat) (w : World) (hA : Ints w A a) (hB : Ints w B b) (hal : a.length ≤ 1000) (hbl : b.length ≤ 1000) :
    Calls Tryz.prog 121 #[.slice A a.length c, .slice B b.length d] w fun e w' => e = .returned (.int .i64 (common a b : Nat)) ∧ ∃ n, w' = w.drewN n := by
  go_enter Tryz.func121, Tryz.ntmps121
  go_wp2
  go_loopw [6, 5] (fun i s wr => ∃ k x : Nat, i = .int .i64 k ∧ k ≤ a.length ∧ s = .int .i64 x ∧ x ≤ 1000 * k ∧ Hid (x = common (a.take k) b) ∧ Below w.heap.size w wr ∧ Hid (∃ n, wr = w.drewN n)) (fun i _ _ => a.length - (intOf i).toNat)
  case atStart => exact ⟨0, 0, rfl, Nat.zero_le _, rfl, Nat.zero_le _, Lib.hid (by simp [common]), Below.refl _ _, Lib.hid ⟨0, rfl⟩⟩
  case round =>
    obtain ⟨wo, rfl⟩ : ∃ wo : World, wo = wr := ⟨_, rfl⟩
    obtain ⟨k, x, rfl, hk, rfl, hx, HX, hb, HD⟩ := hrel
    by_cases hkl : k < a.length
    · have hkb : decide ((k : Int) < (a.length : Int)) = true := by simp; omega
      have HS : Hid (common (a.take (k + 1)) b = common (a.take k) b + b.count a[k]) := Lib.hid (by rw [List.take_succ_eq_append_getElem hkl, common_snoc])
      obtain ⟨ad, rfl, hc⟩ := Ints.at hA hkl
      generalize a[k] = v at HS hc
      go_wp2
      go_loopw [7, 5] (fun j s wr => ∃ q y : Nat, j = .int .i64 q ∧ q ≤ b.length ∧ s = .int .i64 y ∧ y ≤ x + q ∧ Hid (y = x + (b.take q).count v) ∧ Below w.heap.size w wr ∧ Hid (∃ n, wr = w.drewN n)) (fun j _ _ => b.length - (intOf j).toNat)
      case atStart => exact ⟨0, x, rfl, Nat.zero_le _, rfl, by omega, Lib.hid (by simp), hb, HD⟩
      case round =>
        clear hb HD
        obtain ⟨q, y, rfl, hq, rfl, hy, HY, hb, HD⟩ := hrel
        by_cases hql : q < b.length
        · have hqb : decide ((q : Int) < (b.length : Int)) = true := by simp; omega
          have HT : Hid ((b.take (q + 1)).count v = (b.take q).count v + if b[q] = v then 1 else 0) := Lib.hid (by rw [List.take_succ_eq_append_getElem hql, count_snoc])
          obtain ⟨bd, rfl, hd⟩ := Ints.at hB hql
          generalize b[q] = u at HT hd
          have hc' := (hb.cell (World.block_lt_of_cell? w _ hc)).trans hc
          have hd' := (hb.cell (World.block_lt_of_cell? w _ hd)).trans hd
          have k0 : (0 : Int) ≤ (k : Int) := by omega
          have k1 : (k : Int) < (a.length : Int) := by omega
          have q0 : (0 : Int) ≤ (q : Int) := by omega
          have q1 : (q : Int) < (b.length : Int) := by omega
          clear hc hd hA hB
          by_cases huv : u = v
          · subst huv
            have HT2 : Hid (y + 1 = x + (b.take (q + 1)).count u) := Lib.hid (by rw [HT.out, if_pos rfl, HY.out]; omega)
            clear HT HY
            go_wp2
            go_quiet (fail)
            go_wp2
            go_roundw
            case rel => exact ⟨q + 1, y + 1, by go_num, by omega, by go_num, by omega, HT2, below_drewN hb _, drew_more HD _⟩
            case measure => simp [intOf]; omega
          · have hbe : (v == u) = false := by simp; omega
            have HT2 : Hid (y = x + (b.take (q + 1)).count v) := Lib.hid (by rw [HT.out, if_neg huv, HY.out]; omega)
            clear HT HY huv
            go_wp2
            go_quiet (fail)
            go_wp2
            go_roundw
            case rel => exact ⟨q + 1, y, by go_num, by omega, rfl, by omega, HT2, below_drewN hb _, drew_more HD _⟩
            case measure => simp [intOf]; omega
        · obtain rfl : q = b.length := by omega
          have hqb : decide ((b.length : Int) < (b.length : Int)) = false := by simp
          have HF : Hid (y = common (a.take (k + 1)) b) := Lib.hid (by rw [HS.out, ← HX.out, HY.out, List.take_length])
          clear HS HY HX
          go_wp2
          go_roundw
          case rel => exact ⟨k + 1, y, by go_num, by omega, rfl, by omega, HF, hb, HD⟩
          case measure => simp [intOf]; omega
    · obtain rfl : k = a.length := by omega
      have HF : Hid (x = common a b) := Lib.hid (by rw [HX.out, List.take_length])
      go_wp2
      go_ret
      exact ⟨by rw [HF.out]; rfl, HD.out⟩
end Go.Proofs.Tg.Gx
end
section
/- Extend. -/
namespace Go.Gr
theorem extFrom_zero (f : Nat) (A : Nat → Nat) : extFrom f A 0 = A := by cases f <;> simp [extFrom]
end Go.Gr
namespace Go.Proofs.Tg.Gx
open Go.RowKit Go.Gr
set_option maxHeartbeats 1000000
set_option maxRecDepth 100000
theorem own_setFar {w : World} {b g n c : Nat} {t : TypeId} {V : Option Addr} {xs : List Value} (h : w.ownsRow b t 1 (.slice V n c) n xs) (hg : g < b) (i : Nat) (u : Value) : (w.setCell ⟨g, i, none⟩ u).ownsRow b t 1 (.slice V n c) n xs :=
  own_far h (fun e => by have := (h.lt g e.symm).1; omega) u
theorem extend_ok (n : Nat) (E : Option Addr) (c : Nat) (es : List (Int × Int)) (w : World) (hE : EdgesAt w E es) (hl : es.length ≤ 1000000) (hv : valid n es) (hT : Tab w) :
    Calls Tryz.prog 61 #[.agg #[.int .i64 n, .slice E es.length c]] w fun e w' => ∃ F d, e = .returned (.tuple #[.agg #[.int .i64 n, .slice F (writeEdges (extend (readAll es) n) n).length d], .int .i64 0]) ∧
      w'.ownsRow w.heap.size 83 2 (.slice F (writeEdges (extend (readAll es) n) n).length d) (writeEdges (extend (readAll es) n) n).length (ecells (writeEdges (extend (readAll es) n) n)) ∧ Below w.heap.size w w' := by
  have hr := read_all n E c es true ((w.alloc (.cells #[.int .i64 n, .slice E es.length c] 40)).alloc (.cells #[.int .i64 0, .slice none 0 0] 40)) (hE.keep (((Below.refl _ _).alloc (Nat.le_refl _) _).alloc (by simp) _)) hl (by simp [hv])
  obtain ⟨hsm, hirr⟩ := readAll_small es n hv
  have hn : n ≤ 64 := by have := hv.2.1; omega
  have hbA : Below w.heap.size w ((w.alloc (.cells #[.int .i64 n, .slice E es.length c] 40)).alloc (.cells #[.int .i64 0, .slice none 0 0] 40)) := ((Below.refl _ _).alloc (Nat.le_refl _) _).alloc (by simp) _
  have hB := (Blk.new w 40 #[.int .i64 n, .slice E es.length c]).alloc (.cells #[.int .i64 0, .slice none 0 0] 40)
  have hB2 : Blk ((w.alloc (.cells #[.int .i64 n, .slice E es.length c] 40)).alloc (.cells #[.int .i64 0, .slice none 0 0] 40)) (w.heap.size + 1) 40 #[.int .i64 0, .slice none 0 0] := by
    have := Blk.new (w.alloc (.cells #[.int .i64 n, .slice E es.length c] 40)) 40 #[.int .i64 0, .slice none 0 0]
    simpa using this
  have HR := Lib.hid hr
  have HB := Lib.hid (And.intro hB hB2)
  clear hr hv hB hB2
  go_enter Tryz.func61, Tryz.ntmps61
  go_wp2_with (first
    | (go_at_call 45; refine HR.out.mono ?_; rintro e w1 ⟨A, hAs, rfl, hAe, hb1⟩; obtain rfl := hAe rfl; clear hAe hAs)
    | (refine adj_alloc _ _ _ _ ?_)
    | (refine wpList_store_row rfl 89 (.tmp 4) (.tmp 18) rfl w1.heap.size (adjA (readAll es)) rfl rfl 89 (adjA fun _ => 0) (Blk.new w1 89 _) (size56 _) (by simp only [adjA_size]) (adj_one _) ?_
       have hz1 : w.heap.size + 2 ≤ w1.heap.size := by have := hb1.size; simp at this; omega
       have hA1 := blk_setRow (Blk.new w1 89 (adjA fun _ => 0)) (adjA (readAll es))
       have hB1 := blk_setRow_far (Blk.alloc (HB.out.1.keep hb1 (Blk.lt HB.out.1)) (.cells (adjA fun _ => 0) 89)) (g' := w1.heap.size) (by omega) (adjA (readAll es))
       have hB2 := blk_setRow_far (Blk.alloc (HB.out.2.keep hb1 (Blk.lt HB.out.2)) (.cells (adjA fun _ => 0) 89)) (g' := w1.heap.size) (by omega) (adjA (readAll es))
       have hbw := below_setRow ((hbA.trans (hb1.mono (by simp; omega))).alloc (by omega) (.cells (adjA fun _ => 0) 89)) (g := w1.heap.size) (by omega) (adjA (readAll es))
       have c0 := hB1.cell 0
       simp at c0
       generalize (w1.alloc (.cells (adjA fun _ => 0) 89)).setRow w1.heap.size (adjA (readAll es)) = W at hA1 hB1 hB2 hbw c0 ⊢
       generalize w1.heap.size = g at hA1 hz1 ⊢
       clear hb1)
    | (go_at_call 89; refine (first_any _ _ hn).mono ?_; rintro e w' ⟨rfl, rfl⟩))
  clear HR HB hbA c0
  have HX : Hid (extend (readAll es) n = extFrom 65 (readAll es) (firstN n)) := Lib.hid rfl
  have hfn := firstN_lt hn
  generalize firstN n = r0 at HX hfn ⊢
  go_loopw [6] (fun t wr => ∃ (rest f : Nat) (A : Nat → Nat), t = .int .u64 rest ∧ rest < 18446744073709551616 ∧ AdjAt wr g A ∧ Small A ∧ Irr A ∧ Blk wr w.heap.size 40 #[.int .i64 n, .slice E es.length c] ∧ Blk wr (w.heap.size + 1) 40 #[.int .i64 0, .slice none 0 0] ∧
      Below w.heap.size w wr ∧ size rest < f ∧ Hid (extend (readAll es) n = extFrom f A rest)) (fun t _ => (intOf t).toNat)
  case atStart => exact ⟨r0, 65, readAll es, rfl, hfn, hA1, hsm, hirr, hB1, hB2, hbw, by have := size_le r0; omega, HX⟩
  case round =>
    clear hA1 hB1 hB2 hbw HX hsm hirr
    obtain ⟨wo, rfl⟩ : ∃ wo : World, wo = wr := ⟨_, rfl⟩
    obtain ⟨rest, f, A, rfl, hrl, hA, hS, hI, hB1, hB2, hb, hf, HX⟩ := hrel
    by_cases hr0 : rest = 0
    · subst hr0
      have hbe : (((0 : Nat) : Int) != 0) = false := rfl
      have he : extend (readAll es) n = A := by rw [HX.out, extFrom_zero]
      have HE := Lib.hid he
      have c0 := hB1.cell 0
      have d0 := hB2.cell 0
      have d1 := hB2.cell 1
      have f0 := hB2.frozen 0
      have f1 := hB2.frozen 1
      simp at c0 d0 d1
      clear he HX
      go_wp2_with (go_at_call 88; refine (write_any g n A wo hA hS hn (hT.below hb hT.1)).mono ?_; rintro e w2 ⟨F, d, rfl, hFd, hF, hb2⟩
                   have e0 := keep_cell hb2 d0
                   have e1 := keep_cell hb2 d1
                   have g0 := (hb2.frozen (p := ⟨w.heap.size + 1, 0, none⟩) (Blk.lt hB2)).trans f0
                   have g1 := (hb2.frozen (p := ⟨w.heap.size + 1, 1, none⟩) (Blk.lt hB2)).trans f1)
      refine bodyPost_ret (v := .tuple #[.agg #[.int .i64 n, .slice F (writeEdges A n).length d], .int .i64 0]) (by simp [results, Tryz.results61, go_sem, e0, e1]) rfl ?_
      rw [HE.out]
      have hlo : w.heap.size + 1 < wo.heap.size := Blk.lt hB2
      refine ⟨F, d, rfl, ?_, ((below_all hb hb2).setCell (by simp) _).setCell (by simp) _⟩
      exact own_base (ownsRow_setCell_below (ownsRow_setCell_below hF (by simpa using hlo) _) (by simpa using hlo) _) (by have := hb.size; omega)
    · have hr1 : ((rest : Int) != 0) = true := by simp; exact hr0
      have hvb : ∀ x ∈ verts rest, x < 64 := fun x hx => (mem_verts.1 hx).1
      have hvl : (verts rest).length ≤ 64 := size_le rest
      obtain ⟨f, rfl⟩ : ∃ q, f = q + 1 := ⟨f - 1, by omega⟩
      have hne : verts rest ≠ [] := by rw [(verts_cons rest hrl hr0).1]; simp
      obtain ⟨b, la, lb, hab, hmin, -, -⟩ := (minOf_spec A rest hI _ (verts rest) hvb rfl).resolve_left hne
      have hbm : b ∈ verts rest := by rw [hab]; simp
      have hb64 := hvb b hbm
      have hbt := (mem_verts.1 hbm).2
      obtain ⟨hlt1, hlt2⟩ := bclr_less hb64 hbt
      have HX2 : Hid (extend (readAll es) n = extFrom f (fill (A b &&& rest) (verts (A b &&& rest)) A) (bclr rest b)) := by
        refine Lib.hid ?_
        rw [HX.out, extFrom, if_neg hr0]
        unfold elim
        rw [hmin]; rfl
      have HM := Lib.hid hmin
      clear hne hab hmin hbm HX hr0
      go_wp2_with (go_at_call 48; refine (verts_any _ _ hrl (hT.below hb hT.1)).mono ?_; rintro e w2 ⟨V, cv, rfl, hVc, hV, hb2⟩)
      have hVr := Sl.own hV
      have hA2 := hA.keep hb2 (Blk.lt hA)
      have hB12 := hB1.keep hb2 (Blk.lt hB1)
      have hB22 := hB2.keep hb2 (Blk.lt hB2)
      have hbw2 := below_all hb hb2
      clear hV hA hB1 hB2 hb hb2 hVc
      generalize verts rest = l at HM hvb hvl hVr ⊢
      go_loop [31, 7, 8] (fun i q m => ∃ j : Nat, i = .int .i64 j ∧ j ≤ l.length ∧ q = .int .i64 (minOf A rest (l.take j)).1 ∧ m = .int .i64 (minOf A rest (l.take j)).2) (fun i _ _ => l.length - (intOf i).toNat)
      case atStart => exact ⟨0, rfl, Nat.zero_le _, rfl, rfl⟩
      case round =>
        obtain ⟨j, rfl, hj, rfl, rfl⟩ := hrel
        by_cases hjl : j < l.length
        · obtain ⟨ad, rfl, hc⟩ := Nats.at hVr hjl
          have hv64 := hvb l[j] (List.getElem_mem _)
          have HT : Hid (minOf A rest (l.take (j + 1)) = minStep A rest (minOf A rest (l.take j)) l[j]) := Lib.hid (by rw [List.take_succ_eq_append_getElem hjl, minOf_snoc])
          generalize l[j] = v at hc hv64 HT
          obtain ⟨bb, mm, hbm⟩ : ∃ bb mm : Int, minOf A rest (l.take j) = (bb, mm) := ⟨_, _, rfl⟩
          rw [hbm] at HT ⊢
          clear hbm
          have hca := AdjAt.cell hA2 hv64
          have hand := u64_and_nat (A v) rest (hS v) hrl
          have hal := and_lt rest (hS v)
          have hsz : size (A v &&& rest) ≤ 64 := size_le _
          unfold minStep at HT
          generalize hq : size (A v &&& rest) = q at HT hsz
          have HQ := Lib.hid hq
          clear hq
          simp only at HT ⊢
          by_cases h2 : (q : Int) < mm
          · have hN : minOf A rest (l.take (j + 1)) = ((v : Int), (q : Int)) := by rw [HT.out, if_pos h2]
            have HN := Lib.hid hN
            have h2' : decide ((q : Int) < mm) = true := by simpa using h2
            clear HT hN
            go_wp2_with (go_at_call 90; refine (size_any _ _ hal).mono ?_; rintro e w' ⟨rfl, rfl⟩; rw [HQ.out])
            go_round
            case rel => exact ⟨j + 1, by go_num, by omega, by rw [HN.out], by rw [HN.out]⟩
            case measure => simp [intOf]; omega
          · have hN : minOf A rest (l.take (j + 1)) = (bb, mm) := by rw [HT.out, if_neg h2]
            have HN := Lib.hid hN
            have h2' : decide ((q : Int) < mm) = false := by simpa using h2
            clear HT hN
            go_wp2_with (go_at_call 90; refine (size_any _ _ hal).mono ?_; rintro e w' ⟨rfl, rfl⟩; rw [HQ.out])
            go_round
            case rel => exact ⟨j + 1, by go_num, by omega, by rw [HN.out], by rw [HN.out]⟩
            case measure => simp [intOf]; omega
        · obtain rfl : j = l.length := by omega
          rw [List.take_length, HM.out]
          simp only
          have hca := AdjAt.cell hA2 hb64
          have hand := u64_and_nat (A b) rest (hS b) hrl
          have hal := and_lt rest (hS b)
          generalize A b &&& rest = ar at HX2 hand hal
          have hvb2 : ∀ x ∈ verts ar, x < 64 := fun x hx => (mem_verts.1 hx).1
          have hvl2 : (verts ar).length ≤ 64 := size_le ar
          clear HM hvb hvl hVr
          go_wp2_with (go_at_call 48; refine (verts_any _ _ hal (hT.below hbw2 hT.1)).mono ?_; rintro e w3 ⟨V2, cv2, rfl, hVc2, hV2, hb3⟩)
          have hA3 := hA2.keep hb3 (Blk.lt hA2)
          have hB13 := hB12.keep hb3 (Blk.lt hB12)
          have hB23 := hB22.keep hb3 (Blk.lt hB22)
          have hbw3 := below_all hbw2 hb3
          have hgl : g < w2.heap.size := Blk.lt hA2
          have hwl := hbw2.size
          clear hA2 hB12 hB22 hbw2 hb3 hVc2 hca hand
          generalize verts ar = l at HX2 hvb2 hvl2 hV2 ⊢
          go_loopw [55] (fun i wr => ∃ j : Nat, i = .int .i64 j ∧ j ≤ l.length ∧ AdjAt wr g (fill ar (l.take j) A) ∧ Blk wr w.heap.size 40 #[.int .i64 n, .slice E es.length c] ∧ Blk wr (w.heap.size + 1) 40 #[.int .i64 0, .slice none 0 0] ∧
              wr.ownsRow w2.heap.size 3 1 (.slice V2 l.length cv2) l.length (l.map vn) ∧ Below w.heap.size w wr) (fun i _ => l.length - (intOf i).toNat)
          case atStart => exact ⟨0, rfl, Nat.zero_le _, hA3, hB13, hB23, hV2, hbw3⟩
          case round =>
            clear hA3 hB13 hB23 hV2 hbw3
            obtain ⟨j, rfl, hj, hA, hB1, hB2, hV, hb⟩ := hrel
            by_cases hjl : j < l.length
            · obtain ⟨ad, rfl, hc⟩ := Nats.at (Sl.own hV) hjl
              have hv64 := hvb2 l[j] (List.getElem_mem _)
              have HT : Hid (fill ar (l.take (j + 1)) A = upd (fill ar (l.take j) A) l[j] (fill ar (l.take j) A l[j] ||| bclr ar l[j])) := Lib.hid (by rw [List.take_succ_eq_append_getElem hjl, fill_snoc]; rfl)
              have hSj := fill_small hal (l.take j) hS
              generalize l[j] = v at hc hv64 HT
              generalize fill ar (l.take j) A = A2 at HT hA hSj
              have hca := AdjAt.cell hA hv64
              have hfz := Blk.frozen hA v
              have hcl := bclr_lt v hal
              have hor := u64_or_nat (A2 v) (bclr ar v) (hSj v) hcl
              have hk0 : (0 : Int) ≤ (v : Int) := by omega
              have hk1 : (v : Int) < 64 := by omega
              go_wp2
              go_region_with (go_at_call 91; refine (without_any _ _ _ hal hv64).mono ?_; rintro e w' ⟨rfl, rfl⟩)
              all_goals
                go_wp2
                go_roundw
                case rel =>
                  refine ⟨j + 1, by go_num, by omega, ?_, ?_, ?_, ?_, (hb.setCell (by simp; omega) _).drew⟩
                  · rw [HT.out]
                    exact Blk.drew (AdjAt.set hA hv64 _)
                  · exact Blk.drew (hB1.far (by simp; omega) _)
                  · exact Blk.drew (hB2.far (by simp; omega) _)
                  · exact own_setFar hV hgl v _
                case measure => simp [intOf]; omega
            · obtain rfl : j = l.length := by omega
              rw [List.take_length] at hA
              go_wp2_with (go_at_call 91; refine (without_any _ _ _ hrl hb64).mono ?_; rintro e w' ⟨rfl, rfl⟩)
              go_roundw
              case rel => exact ⟨bclr rest b, f, _, rfl, bclr_lt b hrl, hA, fill_small hal _ hS, fill_irr _ hvb2 hI, hB1, hB2, hb, by omega, HX2⟩
              case measure => simp [intOf]; omega
end Go.Proofs.Tg.Gx
end
