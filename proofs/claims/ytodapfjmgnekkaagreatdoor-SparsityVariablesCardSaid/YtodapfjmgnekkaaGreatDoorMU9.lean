/- Parts of the proof: GPK, GWU, GWX, GXM. -/
import Derived.Test.YtodapfjmgnekkaaGreatDoorMU3
import Derived.Test.YtodapfjmgnekkaaGreatDoorMU6
import Derived.Test.YtodapfjmgnekkaaGreatDoorMU7
import Derived.Test.YtodapfjmgnekkaaGreatDoorMU8
section
/- Plain law of Components: the classes of the vertices that chains of edges connect. -/
namespace Go.Gr
open Go.Jt
def orAll (A : Nat → Nat) (l : List Nat) : Nat := l.foldl (fun x v => x ||| A v) 0
theorem orAll_snoc (A : Nat → Nat) (l : List Nat) (v : Nat) : orAll A (l ++ [v]) = orAll A l ||| A v := by simp [orAll]
theorem orAll_bit (A : Nat → Nat) (l : List Nat) (j : Nat) : (orAll A l).testBit j = true ↔ ∃ v ∈ l, (A v).testBit j = true := by
  unfold orAll
  have : ∀ (l : List Nat) (s : Nat), (l.foldl (fun x v => x ||| A v) s).testBit j = true ↔ s.testBit j = true ∨ ∃ v ∈ l, (A v).testBit j = true := by
    intro l
    induction l with
    | nil => intro s; simp
    | cons x l ih =>
      intro s
      rw [List.foldl_cons, ih, Nat.testBit_or, Bool.or_eq_true]
      simp only [List.mem_cons, exists_eq_or_imp]
      rw [or_assoc]
  have := this l 0
  simpa using this
theorem orAll_lt {A : Nat → Nat} (hS : Small A) (l : List Nat) : orAll A l < 18446744073709551616 := by
  unfold orAll
  have : ∀ (l : List Nat) (s : Nat), s < 18446744073709551616 → l.foldl (fun x v => x ||| A v) s < 18446744073709551616 := by
    intro l
    induction l with
    | nil => exact fun s h => h
    | cons x l ih => exact fun s h => ih _ (or_lt h (hS x))
  exact this l 0 (by omega)
def Rel (es : List (Int × Int)) (a b : Nat) : Prop := readT es a b = true
structure CInv (es : List (Int × Int)) (i comp fresh : Nat) : Prop where
  start : comp.testBit i = true
  conn : ∀ v, comp.testBit v = true → Conn (Rel es) i v
  sub : ∀ v, fresh.testBit v = true → comp.testBit v = true
  closed : ∀ v, comp.testBit v = true → fresh.testBit v = false → ∀ u, readT es v u = true → comp.testBit u = true
theorem cinv_start (es : List (Int × Int)) (i : Nat) : CInv es i (bset 0 i) (bset 0 i) := by
  have hb : ∀ v, (bset 0 i).testBit v = true ↔ i = v := by intro v; rw [bset_bit]; simp
  refine ⟨(hb i).2 rfl, fun v hv => ?_, fun v hv => hv, fun v hv hf => ?_⟩
  · rw [hb] at hv; subst hv; exact Conn.refl _
  · rw [hv] at hf; cases hf
theorem fresh_bit {a b j : Nat} (ha : a < 18446744073709551616) (hb : b < 18446744073709551616) : (andn a b).testBit j = true ↔ a.testBit j = true ∧ b.testBit j = false := by
  have hlt : andn a b < 18446744073709551616 := by unfold andn; exact and_lt _ ha
  by_cases hj : j < 64
  · rw [andn_bit _ _ _ hb hj]; simp
  · rw [high_bit hlt (by omega), high_bit ha (by omega)]; simp
theorem cinv_step {n : Nat} {es : List (Int × Int)} (h : valid n es) {i comp fresh : Nat} (hc : comp < 18446744073709551616) (hf : fresh < 18446744073709551616) (hI : CInv es i comp fresh) :
    CInv es i (comp ||| orAll (readAll es) (verts fresh)) (andn (orAll (readAll es) (verts fresh)) comp) := by
  have hS := (readAll_small es n h).1
  have hn := orAll_lt hS (verts fresh)
  have hnb : ∀ u, (orAll (readAll es) (verts fresh)).testBit u = true ↔ ∃ v, fresh.testBit v = true ∧ readT es v u = true := by
    intro u
    rw [orAll_bit]
    constructor
    · rintro ⟨v, hv, hb⟩
      exact ⟨v, (mem_verts.1 hv).2, by rw [← bt_read]; exact hb⟩
    · rintro ⟨v, hv, hb⟩
      exact ⟨v, mem_verts.2 ⟨bit_lt hf hv, hv⟩, by rw [← bt_read] at hb; exact hb⟩
  refine ⟨by rw [Nat.testBit_or, hI.start]; rfl, fun v hv => ?_, fun v hv => ?_, fun v hv hfv u hu => ?_⟩
  · rw [Nat.testBit_or, Bool.or_eq_true] at hv
    rcases hv with hv | hv
    · exact hI.conn v hv
    · obtain ⟨x, hx, hxv⟩ := (hnb v).1 hv
      exact (hI.conn x (hI.sub x hx)).trans (Conn.step hxv)
  · have := (fresh_bit hn hc).1 hv
    rw [Nat.testBit_or, this.1]; simp
  · rw [Nat.testBit_or, Bool.or_eq_true] at hv ⊢
    by_cases hvc : comp.testBit v = true
    · by_cases hvf : fresh.testBit v = true
      · exact .inr ((hnb u).2 ⟨v, hvf, hu⟩)
      · exact .inl (hI.closed v hvc (by simpa using hvf) u hu)
    · have hvn := hv.resolve_left hvc
      have := (fresh_bit (j := v) hn hc).2 ⟨hvn, by simpa using hvc⟩
      rw [hfv] at this
      cases this
theorem cinv_end {es : List (Int × Int)} {i comp : Nat} (hI : CInv es i comp 0) : ∀ v, comp.testBit v = true ↔ Conn (Rel es) i v := by
  intro v
  refine ⟨hI.conn v, fun hc => ?_⟩
  exact hc (fun x => comp.testBit x = true) hI.start (fun x y hx hxy => hI.closed x hx (by simp) y hxy)
theorem size_grows {a b : Nat} (hb : b ≠ 0) (hb64 : b < 18446744073709551616) (hd : ∀ j, b.testBit j = true → a.testBit j = false) {c : Nat} (hc : ∀ j, c.testBit j = true ↔ a.testBit j = true ∨ b.testBit j = true) : size a < size c := by
  have : verts b ≠ [] := fun e => hb (verts_empty hb64 e)
  obtain ⟨x, hx⟩ := List.exists_mem_of_ne_nil _ this
  obtain ⟨hx64, hxb⟩ := mem_verts.1 hx
  unfold size verts
  exact Go.Chordal.filter_len_lt _ _ _ (fun j _ h => (hc j).2 (.inl h)) x (by simpa using hx64) ((hc x).2 (.inr hxb)) (hd x hxb)
structure OInv (es : List (Int × Int)) (n i seen : Nat) (l : List Nat) : Prop where
  bits : ∀ v, seen.testBit v = true ↔ ∃ s ∈ l, s.testBit v = true
  cls : ∀ s ∈ l, s < 18446744073709551616 ∧ ∃ u, u < n ∧ ∀ v, s.testBit v = true ↔ Conn (Rel es) u v
  dis : l.Pairwise (fun s s' => ∀ v, s.testBit v = true → s'.testBit v = false)
  all : ∀ v, v < i → seen.testBit v = true
theorem rel_sym {n : Nat} {es : List (Int × Int)} (h : valid n es) : ∀ x y, Rel es x y → Rel es y x := fun x y => (valid_nice h).sym x y
theorem conn_lt {n : Nat} {es : List (Int × Int)} (h : valid n es) {u v : Nat} (hu : u < n) (hc : Conn (Rel es) u v) : v < n :=
  hc (· < n) hu (fun _ y _ hxy => ((valid_nice h).lt _ y hxy).2)
theorem oinv_skip {es : List (Int × Int)} {n i seen : Nat} {l : List Nat} (hI : OInv es n i seen l) (hs : seen.testBit i = true) : OInv es n (i + 1) seen l :=
  ⟨hI.bits, hI.cls, hI.dis, fun v hv => by
    by_cases e : v = i
    · rw [e]; exact hs
    · exact hI.all v (by omega)⟩
theorem oinv_add {es : List (Int × Int)} {n i seen comp : Nat} {l : List Nat} (h : valid n es) (hI : OInv es n i seen l) (hi : i < n) (hs : seen.testBit i = false) (hc : comp < 18446744073709551616) (hcc : ∀ v, comp.testBit v = true ↔ Conn (Rel es) i v) :
    OInv es n (i + 1) (seen ||| comp) (l ++ [comp]) := by
  refine ⟨fun v => ?_, fun s hs' => ?_, ?_, fun v hv => ?_⟩
  · rw [Nat.testBit_or, Bool.or_eq_true, hI.bits]
    constructor
    · rintro (⟨s, h1, h2⟩ | h1)
      · exact ⟨s, by simp [h1], h2⟩
      · exact ⟨comp, by simp, h1⟩
    · rintro ⟨s, h1, h2⟩
      rcases List.mem_append.1 h1 with h1 | h1
      · exact .inl ⟨s, h1, h2⟩
      · simp at h1; subst h1; exact .inr h2
  · rcases List.mem_append.1 hs' with h1 | h1
    · exact hI.cls s h1
    · simp at h1; subst h1; exact ⟨hc, i, hi, hcc⟩
  · rw [List.pairwise_append]
    refine ⟨hI.dis, by simp, fun s h1 s' h2 v hv => ?_⟩
    simp at h2
    subst h2
    cases hb : s'.testBit v
    · rfl
    · exfalso
      obtain ⟨_, u, _, hu⟩ := hI.cls s h1
      have c1 := (hu v).1 hv
      have c2 := (hcc v).1 hb
      have := (hI.bits i).2 ⟨s, h1, (hu i).2 (c1.trans (c2.symm (rel_sym h)))⟩
      rw [hs] at this
      cases this
  · rw [Nat.testBit_or, Bool.or_eq_true]
    by_cases e : v = i
    · right; rw [e, hcc]; exact Conn.refl _
    · exact .inl (hI.all v (by omega))
/-- What the statements ask of the components. -/
structure CompEs (n : Nat) (es : List (Int × Int)) (ls : List (List Int)) : Prop where
  asc : ∀ l ∈ ls, l.Pairwise (· < ·)
  lt : ∀ l ∈ ls, ∀ x ∈ l, 0 ≤ x ∧ x < n
  dis : ls.Pairwise (fun l l' => ∀ x ∈ l, x ∉ l')
  all : ∀ v : Nat, v < n → ∃ l ∈ ls, (v : Int) ∈ l
  conn : ∀ l ∈ ls, ∀ u ∈ l, ∀ v : Nat, (v : Int) ∈ l ↔ Conn (Rel es) u.toNat v
theorem comp_es {es : List (Int × Int)} {n seen : Nat} {l : List Nat} (h : valid n es) (hI : OInv es n n seen l) : CompEs n es (l.map vertsI) := by
  have hbit : ∀ s ∈ l, ∀ v : Nat, (v : Int) ∈ vertsI s ↔ s.testBit v = true := by
    intro s hs v
    rw [mem_vertsI]
    exact ⟨fun h => by simpa using h.2.2, fun hb => ⟨by omega, by have := bit_lt (hI.cls s hs).1 hb; omega, by simpa using hb⟩⟩
  refine ⟨fun m hm => ?_, fun m hm x hx => ?_, ?_, fun v hv => ?_, fun m hm u hu v => ?_⟩
  · obtain ⟨s, _, rfl⟩ := List.mem_map.1 hm
    exact vertsZ_asc s
  · obtain ⟨s, hs, rfl⟩ := List.mem_map.1 hm
    have h1 := mem_vertsI.1 hx
    obtain ⟨_, u, hu, hc⟩ := hI.cls s hs
    have := conn_lt h hu ((hc _).1 h1.2.2)
    omega
  · rw [List.pairwise_map]
    refine List.Pairwise.imp_of_mem (fun {s s'} _ _ hd x hx hx' => ?_) hI.dis
    have h1 := mem_vertsI.1 hx
    have h2 := mem_vertsI.1 hx'
    rw [hd _ h1.2.2] at h2
    cases h2.2.2
  · obtain ⟨s, hs, hb⟩ := (hI.bits v).1 (hI.all v hv)
    exact ⟨vertsI s, List.mem_map.2 ⟨s, hs, rfl⟩, (hbit s hs v).2 hb⟩
  · obtain ⟨s, hs, rfl⟩ := List.mem_map.1 hm
    have h1 := mem_vertsI.1 hu
    obtain ⟨_, r, hr, hc⟩ := hI.cls s hs
    have c1 := (hc _).1 h1.2.2
    rw [hbit s hs, hc]
    exact ⟨fun c => (c1.symm (rel_sym h)).trans c, fun c => c1.trans c⟩
end Go.Gr
end
section
/- Valid, Adjacent, Neighbors, Order; Extend and Cliques where they refuse; the statements' has. -/
namespace Go.Proofs.Tg.Gx
open Go.RowKit Go.Gr
set_option maxHeartbeats 1000000
set_option maxRecDepth 100000
theorem components_bad (n : Int) (E : Option Addr) (c : Nat) (es : List (Int × Int)) (w : World) (hE : EdgesAt w E es) (hl : es.length ≤ 1000000) (hv : ¬ valid n es) :
    Calls Tryz.prog 21 #[.agg #[.int .i64 n, .slice E es.length c]] w fun e w' => e = .returned (.tuple #[.slice none 0 0, .int .i64 1]) ∧ Below w.heap.size w w' := by
  have hr := read_all n E c es false (w.alloc (.cells #[.int .i64 n, .slice E es.length c] 40)) (hE.keep ((Below.refl _ _).alloc (Nat.le_refl _) _)) hl (by simp [hv])
  have hbA : Below w.heap.size w (w.alloc (.cells #[.int .i64 n, .slice E es.length c] 40)) := (Below.refl _ _).alloc (Nat.le_refl _) _
  have HR := Lib.hid hr
  clear hr hv
  go_enter Tryz.func21, Tryz.ntmps21
  go_wp2_with (first
    | (go_at_call 45; refine HR.out.mono ?_; rintro e w1 ⟨A, hAs, rfl, -, hb1⟩)
    | (refine adj_alloc _ _ _ _ ?_)
    | (refine wpList_store_row rfl 89 (.tmp 4) (.tmp 17) rfl w1.heap.size (adjA A) rfl rfl 89 (adjA fun _ => 0) (Blk.new w1 89 _) (size56 _) (by simp only [adjA_size]) (adj_one _) ?_
       have hbw := below_setRow ((hbA.trans (hb1.mono (by simp))).alloc (by have := hb1.size; simp at this; omega) (.cells (adjA fun _ => 0) 89)) (g := w1.heap.size) (by have := hb1.size; simp at this; omega) (adjA A)
       generalize (w1.alloc (.cells (adjA fun _ => 0) 89)).setRow w1.heap.size (adjA A) = W at hbw ⊢))
  go_ret2
  exact ⟨rfl, hbw⟩
theorem cliques_bad (n : Int) (E : Option Addr) (c : Nat) (es : List (Int × Int)) (w : World) (hE : EdgesAt w E es) (hl : es.length ≤ 1000000) (hv : ¬ valid n es) :
    Calls Tryz.prog 62 #[.agg #[.int .i64 n, .slice E es.length c]] w fun e w' => e = .returned (.tuple #[.slice none 0 0, .int .i64 1]) ∧ Below w.heap.size w w' := by
  have hr := read_all n E c es false (w.alloc (.cells #[.int .i64 n, .slice E es.length c] 40)) (hE.keep ((Below.refl _ _).alloc (Nat.le_refl _) _)) hl (by simp [hv])
  have hbA : Below w.heap.size w (w.alloc (.cells #[.int .i64 n, .slice E es.length c] 40)) := (Below.refl _ _).alloc (Nat.le_refl _) _
  have HR := Lib.hid hr
  clear hr hv
  go_enter Tryz.func62, Tryz.ntmps62
  go_wp2_with (first
    | (go_at_call 45; refine HR.out.mono ?_; rintro e w1 ⟨A, hAs, rfl, -, hb1⟩)
    | (refine adj_alloc _ _ _ _ ?_)
    | (refine wpList_store_row rfl 89 (.tmp 4) (.tmp 17) rfl w1.heap.size (adjA A) rfl rfl 89 (adjA fun _ => 0) (Blk.new w1 89 _) (size56 _) (by simp only [adjA_size]) (adj_one _) ?_
       have hbw := below_setRow ((hbA.trans (hb1.mono (by simp))).alloc (by have := hb1.size; simp at this; omega) (.cells (adjA fun _ => 0) 89)) (g := w1.heap.size) (by have := hb1.size; simp at this; omega) (adjA A)
       generalize (w1.alloc (.cells (adjA fun _ => 0) 89)).setRow w1.heap.size (adjA A) = W at hbw ⊢))
  go_ret2
  exact ⟨rfl, hbw⟩
theorem cliques_state (n : Nat) (E : Option Addr) (c : Nat) (es : List (Int × Int)) (w : World) (hE : EdgesAt w E es) (hl : es.length ≤ 1000000) (hv : valid n es) (hT : Tab w) (hc : isChordal (readAll es) n = false) :
    Calls Tryz.prog 62 #[.agg #[.int .i64 n, .slice E es.length c]] w fun e w' => e = .returned (.tuple #[.slice none 0 0, .int .i64 11]) ∧ Below w.heap.size w w' := by
  have hr := read_all n E c es true (w.alloc (.cells #[.int .i64 n, .slice E es.length c] 40)) (hE.keep ((Below.refl _ _).alloc (Nat.le_refl _) _)) hl (by simp [hv])
  have hsm := (readAll_small es n hv).1
  have hn : n ≤ 64 := by have := hv.2.1; omega
  have hbA : Below w.heap.size w (w.alloc (.cells #[.int .i64 n, .slice E es.length c] 40)) := (Below.refl _ _).alloc (Nat.le_refl _) _
  have hB := Blk.new w 40 #[.int .i64 n, .slice E es.length c]
  have HR := Lib.hid hr
  have HB := Lib.hid hB
  have HC := Lib.hid hc
  clear hr hv hB hc
  go_enter Tryz.func62, Tryz.ntmps62
  go_wp2_with (first
    | (go_at_call 45; refine HR.out.mono ?_; rintro e w1 ⟨A, hAs, rfl, hAe, hb1⟩; obtain rfl := hAe rfl; clear hAe)
    | (refine adj_alloc _ _ _ _ ?_)
    | (refine wpList_store_row rfl 89 (.tmp 4) (.tmp 17) rfl w1.heap.size (adjA (readAll es)) rfl rfl 89 (adjA fun _ => 0) (Blk.new w1 89 _) (size56 _) (by simp only [adjA_size]) (adj_one _) ?_
       have hA1 := blk_setRow (Blk.new w1 89 (adjA fun _ => 0)) (adjA (readAll es))
       have hB1 := blk_setRow_far (Blk.alloc (HB.out.keep hb1 (Blk.lt HB.out)) (.cells (adjA fun _ => 0) 89)) (g' := w1.heap.size) (by have := hb1.size; simp at this; omega) (adjA (readAll es))
       have hbw := below_setRow ((hbA.trans (hb1.mono (by simp))).alloc (by have := hb1.size; simp at this; omega) (.cells (adjA fun _ => 0) 89)) (g := w1.heap.size) (by have := hb1.size; simp at this; omega) (adjA (readAll es))
       have c0 := hB1.cell 0
       simp at c0
       generalize (w1.alloc (.cells (adjA fun _ => 0) 89)).setRow w1.heap.size (adjA (readAll es)) = W at hA1 hB1 hbw c0 ⊢)
    | (go_at_call 92; refine (chordalA_any _ _ (readAll es) _ hA1 hsm hn (hT.below hbw hT.1)).mono ?_; rintro e w2 ⟨he, hb2⟩; rw [HC.out] at he; subst he))
  go_ret2
  exact ⟨rfl, below_all hbw hb2⟩
theorem extend_bad (n : Int) (E : Option Addr) (c : Nat) (es : List (Int × Int)) (w : World) (hE : EdgesAt w E es) (hl : es.length ≤ 1000000) (hv : ¬ valid n es) :
    Calls Tryz.prog 61 #[.agg #[.int .i64 n, .slice E es.length c]] w fun e w' => e = .returned (.tuple #[zeroG, .int .i64 1]) ∧ Below w.heap.size w w' := by
  have hbA : Below w.heap.size w ((w.alloc (.cells #[.int .i64 n, .slice E es.length c] 40)).alloc (.cells #[.int .i64 0, .slice none 0 0] 40)) := ((Below.refl _ _).alloc (Nat.le_refl _) _).alloc (by simp) _
  have hr := read_all n E c es false ((w.alloc (.cells #[.int .i64 n, .slice E es.length c] 40)).alloc (.cells #[.int .i64 0, .slice none 0 0] 40)) (hE.keep hbA) hl (by simp [hv])
  have hB : Blk ((w.alloc (.cells #[.int .i64 n, .slice E es.length c] 40)).alloc (.cells #[.int .i64 0, .slice none 0 0] 40)) (w.heap.size + 1) 40 #[.int .i64 0, .slice none 0 0] := by
    have := Blk.new (w.alloc (.cells #[.int .i64 n, .slice E es.length c] 40)) 40 #[.int .i64 0, .slice none 0 0]
    simpa using this
  have HR := Lib.hid hr
  have HB := Lib.hid hB
  clear hr hv hB
  go_enter Tryz.func61, Tryz.ntmps61
  go_wp2_with (first
    | (go_at_call 45; refine HR.out.mono ?_; rintro e w1 ⟨A, hAs, rfl, -, hb1⟩)
    | (refine adj_alloc _ _ _ _ ?_)
    | (refine wpList_store_row rfl 89 (.tmp 4) (.tmp 18) rfl w1.heap.size (adjA A) rfl rfl 89 (adjA fun _ => 0) (Blk.new w1 89 _) (size56 _) (by simp only [adjA_size]) (adj_one _) ?_
       have hB1 := blk_setRow_far (Blk.alloc (HB.out.keep hb1 (Blk.lt HB.out)) (.cells (adjA fun _ => 0) 89)) (g' := w1.heap.size) (by have := hb1.size; simp at this; omega) (adjA A)
       have hbw := below_setRow ((hbA.trans (hb1.mono (by simp; omega))).alloc (by have := hb1.size; simp at this; omega) (.cells (adjA fun _ => 0) 89)) (g := w1.heap.size) (by have := hb1.size; simp at this; omega) (adjA A)
       have c0 := hB1.cell 0
       have c1 := hB1.cell 1
       have f0 := hB1.frozen 0
       have f1 := hB1.frozen 1
       simp at c0 c1
       generalize (w1.alloc (.cells (adjA fun _ => 0) 89)).setRow w1.heap.size (adjA A) = W at hB1 hbw c0 c1 f0 f1 ⊢))
  refine bodyPost_ret (v := .tuple #[zeroG, .int .i64 1]) (results_g (p := 2) (q := 3) rfl _ _ (w.heap.size + 1) _ _ rfl (blk_two hB1)) rfl ?_
  exact ⟨rfl, (hbw.setCell (by simp) _).setCell (by simp) _⟩
end Go.Proofs.Tg.Gx
end
section
/- Components. -/
namespace Go.Proofs.Tg.Gx
open Go.RowKit Go.Gr
set_option maxHeartbeats 4000000
set_option maxRecDepth 100000
theorem with_zero (i : Nat) (w : World) (hi : i < 64) : Calls Tryz.prog 47 #[.int .u64 0, .int .i64 i] w fun e w' => e = .returned (.int .u64 (bset 0 i : Nat)) ∧ w = w' := with_any 0 i w (by omega) hi
/-- What Components returns of a valid graph. -/
def RetComp (n : Nat) (es : List (Int × Int)) (w : World) (e : Ending) (w' : World) : Prop :=
  ∃ ls V d seen sets, OInv es n n seen sets ∧ ls = sets.map vertsI ∧ e = .returned (.tuple #[.slice V (List.length ls) d, .int .i64 0]) ∧ Lists w' V ls ∧ ls.length ≤ n ∧ Below w.heap.size w w'
theorem lists_of_rows {w : World} {base m cr : Nat} {R : Option Addr} {F : Nat → Option Addr × Nat} {ls : Nat → List Int} (hR : w.ownsRow base 36 1 (.slice R m cr) m ((List.range m).map (enc F ls))) (hRows : RowsIn w base m F ls) : Lists w R ((List.range m).map ls) := by
  have hg : ∀ i, i < m → ((List.range m).map ls).getD i [] = ls i := by intro i hi; simp [hi]
  refine ⟨F, ?_, fun i hi => ?_⟩
  · have := Sl.own hR
    have e : (List.range ((List.range m).map ls).length).map (fun i => Value.slice (F i).1 (((List.range m).map ls).getD i []).length (F i).2) = (List.range m).map (enc F ls) := by
      rw [List.length_map, List.length_range]
      apply List.map_congr_left
      intro i hi
      rw [hg i (by simpa using hi)]; rfl
    rw [e, List.length_map, List.length_range]
    exact this
  · have hi' : i < m := by simpa using hi
    rw [hg i hi']
    exact Sl.own (hRows i hi')
theorem components_ok (n : Nat) (E : Option Addr) (c : Nat) (es : List (Int × Int)) (w : World) (hE : EdgesAt w E es) (hl : es.length ≤ 1000000) (hv : valid n es) (hT : Tab w) :
    Calls Tryz.prog 21 #[.agg #[.int .i64 n, .slice E es.length c]] w (RetComp n es w) := by
  obtain ⟨j0, hj, hjz0, hjz1, hjz2⟩ := info_parts rows_info
  have hr := read_all n E c es true (w.alloc (.cells #[.int .i64 n, .slice E es.length c] 40)) (hE.keep ((Below.refl _ _).alloc (Nat.le_refl _) _)) hl (by simp [hv])
  have hsm := (readAll_small es n hv).1
  have hn : n ≤ 64 := by have := hv.2.1; omega
  have hbA : Below w.heap.size w (w.alloc (.cells #[.int .i64 n, .slice E es.length c] 40)) := (Below.refl _ _).alloc (Nat.le_refl _) _
  have hB := Blk.new w 40 #[.int .i64 n, .slice E es.length c]
  have HR := Lib.hid hr
  have HB := Lib.hid hB
  have HV := Lib.hid hv
  clear hr hv hB
  go_enter Tryz.func21, Tryz.ntmps21
  go_wp2_with (first
    | (go_at_call 45; refine HR.out.mono ?_; rintro e w1 ⟨A, hAs, rfl, hAe, hb1⟩; obtain rfl := hAe rfl; clear hAe)
    | (refine adj_alloc _ _ _ _ ?_)
    | (refine wpList_store_row rfl 89 (.tmp 4) (.tmp 17) rfl w1.heap.size (adjA (readAll es)) rfl rfl 89 (adjA fun _ => 0) (Blk.new w1 89 _) (size56 _) (by simp only [adjA_size]) (adj_one _) ?_
       have hz1 : w.heap.size + 1 ≤ w1.heap.size := by have := hb1.size; simp at this; omega
       have hA1 := blk_setRow (Blk.new w1 89 (adjA fun _ => 0)) (adjA (readAll es))
       have hB1 := blk_setRow_far (Blk.alloc (HB.out.keep hb1 (Blk.lt HB.out)) (.cells (adjA fun _ => 0) 89)) (g' := w1.heap.size) (by omega) (adjA (readAll es))
       have hbw := below_setRow ((hbA.trans (hb1.mono (by simp))).alloc (by omega) (.cells (adjA fun _ => 0) 89)) (g := w1.heap.size) (by omega) (adjA (readAll es))
       have c0 := hB1.cell 0
       simp at c0
       generalize (w1.alloc (.cells (adjA fun _ => 0) 89)).setRow w1.heap.size (adjA (readAll es)) = W at hA1 hB1 hbw c0 ⊢
       generalize w1.heap.size = g at hA1 hz1 ⊢
       clear hb1))
  clear HR HB hbA c0 hB1
  have HA : Hid (∀ i, readAll es i < 18446744073709551616) := Lib.hid hsm
  go_loopw [23, 7, 6] (fun i t v wr => ∃ (k seen m : Nat) (R : Option Addr) (cr : Nat) (F : Nat → Option Addr × Nat) (ls : Nat → List Int) (d : List Nat), i = .int .i64 k ∧ k ≤ n ∧ t = .int .u64 seen ∧ seen < 18446744073709551616 ∧ v = .slice R m cr ∧ m ≤ cr ∧ m ≤ k ∧
      wr.ownsRow W.heap.size 36 1 (.slice R m cr) m ((List.range m).map (enc F ls)) ∧ RowsIn wr W.heap.size m F ls ∧ Hid (OInv es n k seen d) ∧ Hid ((List.range m).map ls = d.map vertsI) ∧ Below W.heap.size W wr) (fun i _ _ _ => n - (intOf i).toNat)
  case atStart => exact ⟨0, 0, 0, none, 0, fun _ => (none, 0), fun _ => [], [], rfl, Nat.zero_le _, rfl, by omega, rfl, Nat.le_refl _, Nat.le_refl _, World.ownsRow_nil _ _ _ _, fun i hi => by omega, Lib.hid ⟨by simp, by simp, by simp, fun v hv => by omega⟩, Lib.hid rfl, Below.refl _ _⟩
  case round =>
    obtain ⟨wo, rfl⟩ : ∃ wo : World, wo = wr := ⟨_, rfl⟩
    obtain ⟨k, seen, m, R, cr, F, ls, d, rfl, hk, rfl, hsl, rfl, hmc, hmk, hR, hRows, HO, HL, hb⟩ := hrel
    by_cases hkn : k < n
    · have hkb : decide ((k : Int) < (n : Int)) = true := by simp; omega
      cases hsk : seen.testBit k
      · have HSK := Lib.hid hsk
        have hgW := Blk.lt hA1
        have hA2 := hA1.keep hb hgW
        clear hsk
        go_wp2_with (first
          | (go_at_call 46; refine (has_any _ _ _ hsl (by omega)).mono ?_; rintro e w' ⟨he, rfl⟩; rw [HSK.out] at he; subst he)
          | (go_at_call 47; refine (with_zero _ _ (by omega)).mono ?_; rintro e w' ⟨rfl, rfl⟩))
        have hb0 : bset 0 k < 18446744073709551616 := bset_lt (by omega) (by omega)
        have HI0 := Lib.hid (cinv_start es k)
        generalize bset 0 k = b0 at hb0 HI0 ⊢
        go_loopw [10, 9] (fun f s wr => ∃ fresh comp : Nat, f = .int .u64 fresh ∧ s = .int .u64 comp ∧ fresh < 18446744073709551616 ∧ comp < 18446744073709551616 ∧ Hid (CInv es k comp fresh) ∧ Below wo.heap.size wo wr) (fun f s _ => 2 * (64 - size (intOf s).toNat) + (if (intOf f).toNat = 0 then 0 else 1))
        case atStart => exact ⟨b0, b0, rfl, rfl, hb0, hb0, HI0, Below.refl _ _⟩
        case round =>
          clear HI0 hb0
          obtain ⟨fresh, comp, rfl, rfl, hfl, hcl, HI, hb2⟩ := hrel
          by_cases hf0 : fresh = 0
          · subst hf0
            have hbe : (((0 : Nat) : Int) != 0) = false := rfl
            have HE := Lib.hid (cinv_end HI.out)
            have hor := u64_or_nat seen comp hsl hcl
            have hsz := hb.size
            have hsz2 := hb2.size
            clear HI
            go_wp2_with (first
              | (go_at_call 48; refine (verts_any _ _ hcl (hT.below (below_all (below_all hbw hb) hb2) hT.1)).mono ?_; rintro e w6 ⟨V3, c3, rfl, hVc3, hV3, hb6⟩
                 have hR6 := own_below (own_below hR hb2 (Nat.le_refl _)) hb6 (Nat.le_refl _)
                 have hz6 : W.heap.size ≤ w6.heap.size := by have := hb6.size; omega
                 clear hVc3)
              | (at_builtin; refine wpList_append_own _ rfl _ _ 25 rfl W.heap.size 36 j0 (.slice none 0 0) 1 24 Tryz.underlying25 hj hjz0 hjz1 hjz2 rfl (by decide) (.slice R m cr) m _ rfl (hR6.alloc _) ⟨w6.heap.size, 0, none⟩ 1 1 [.slice V3 (verts comp).length c3] rfl rfl ?c1 ?c2 ?c3 ?c4 ?c5 ?_
                 case c1 => exact cell_one_new _ _ _
                 case c2 => simp [Value.oneCell']
                 case c3 => simp only [maxLen]; omega
                 case c4 => omega
                 case c5 => simp; omega
                 intro v' w7 hR7 hg7 _
                 obtain ⟨R2, cr2, hv2, hle2, _⟩ := Sl.of_own hR7
                 subst hv2))
            go_roundw
            case rel =>
              have hVI : ((verts comp).map vn) = (vertsI comp).map vi := by simp [vertsI, vn, vi]
              have hvl : (verts comp).length = (vertsI comp).length := by simp [vertsI]
              have hV7 : w7.ownsRow W.heap.size 3 1 (.slice V3 (vertsI comp).length c3) (vertsI comp).length ((vertsI comp).map vi) := by
                rw [← hvl, ← hVI]
                exact own_base ((hV3.alloc (.cells #[.slice V3 (verts comp).length c3] 36)).kept hg7 (own_ne hV3 hR6 (by decide))) (by omega)
              have hRw0 : RowsIn w6 W.heap.size m F ls := (hRows.below hb2 (Nat.le_refl _)).below hb6 (Nat.le_refl _)
              have hRw : RowsIn w7 W.heap.size m F ls := (hRw0.alloc (.cells #[.slice V3 (verts comp).length c3] 36)).kept hg7 (fun i hi => own_ne (hRw0 i hi) hR6 (by decide))
              refine ⟨k + 1, seen ||| comp, m + 1, R2, cr2, snocF F m (V3, c3), snocF ls m (vertsI comp), d ++ [comp], by go_num, by omega, rfl, or_lt hsl hcl, rfl, hle2, by omega, ?_, RowsIn.snoc (x := (V3, c3)) hRw hV7, Lib.hid (oinv_add HV.out HO.out hkn HSK.out hcl HE.out), Lib.hid ?_, ?_⟩
              · rw [map_snoc, ← hvl]; exact hR7
              · rw [List.range_succ, List.map_append, List.map_append, ← HL.out]
                congr 1
                · apply List.map_congr_left
                  intro i hi
                  have : i < m := by simpa using hi
                  simp [snocF]; omega
                · simp [snocF]
              · exact ((below_all (below_all hb hb2) hb6).alloc (by have := hb6.size; omega) _).grown hg7 (by simp; omega) (fun q hq => by have := (hR6.lt q hq).1; omega)
            case measure => simp [intOf]; omega
          · have hbe : ((fresh : Int) != 0) = true := by simp; exact hf0
            have hA3 := hA2.keep hb2 (Nat.lt_of_lt_of_le hgW hb.size)
            have hsz := hb.size
            have hsz2 := hb2.size
            have HF0 := Lib.hid hf0
            clear hf0
            go_wp2_with (go_at_call 48; refine (verts_any _ _ hfl (hT.below (below_all (below_all hbw hb) hb2) hT.1)).mono ?_; rintro e w6 ⟨V3, c3, rfl, hVc3, hV3, hb6⟩)
            have hA6 := hA3.keep hb6 (by omega)
            have hV6 := Sl.own hV3
            have HVM : Hid (∀ x ∈ verts fresh, x < 64) := Lib.hid (fun x hx => (mem_verts.1 hx).1)
            have HVL : Hid ((verts fresh).length ≤ 64) := Lib.hid (size_le fresh)
            obtain ⟨vl, hvl⟩ : ∃ vl, verts fresh = vl := ⟨_, rfl⟩
            rw [hvl] at hV6 HVM HVL
            have HVE := Lib.hid hvl
            rw [hvl]
            clear hvl hV3 hA3 hVc3
            have hvl64 := HVL.out
            go_loop [38, 11] (fun i x => ∃ q : Nat, i = .int .i64 q ∧ q ≤ vl.length ∧ x = .int .u64 (orAll (readAll es) (vl.take q) : Nat)) (fun i _ => vl.length - (intOf i).toNat)
            case atStart => exact ⟨0, rfl, Nat.zero_le _, rfl⟩
            case round =>
              obtain ⟨q, rfl, hq, rfl⟩ := hrel
              by_cases hql : q < vl.length
              · obtain ⟨ad, rfl, hcx⟩ := Nats.at hV6 hql
                have HT : Hid (orAll (readAll es) (vl.take (q + 1)) = orAll (readAll es) (vl.take q) ||| readAll es vl[q]) := Lib.hid (by rw [List.take_succ_eq_append_getElem hql, orAll_snoc])
                have hx64 := HVM.out vl[q] (List.getElem_mem _)
                have hol := orAll_lt HA.out (vl.take q)
                generalize vl[q] = x at hcx HT hx64
                have hcA := AdjAt.cell hA6 hx64
                have hox := u64_or_nat _ _ hol (HA.out x)
                generalize orAll (readAll es) (vl.take q) = o at HT hol hox ⊢
                generalize readAll es x = ax at HT hcA hox
                go_wp2
                go_round
                case rel => exact ⟨q + 1, by go_num, by omega, by rw [HT.out]⟩
                case measure => simp [intOf]; omega
              · obtain rfl : q = vl.length := by omega
                rw [List.take_length]
                have HI2 := cinv_step HV.out hcl hfl HI.out
                rw [HVE.out] at HI2
                have hol := orAll_lt HA.out vl
                have HI2 := Lib.hid HI2
                generalize orAll (readAll es) vl = o at HI2 hol ⊢
                have hor := u64_or_nat comp o hcl hol
                have han := u64_andNot_nat o comp hol hcl
                have hanl : andn o comp < 18446744073709551616 := by unfold andn; exact and_lt _ hol
                have hoc := or_lt hcl hol
                have HME : Hid (2 * (64 - size (comp ||| o)) + (if andn o comp = 0 then 0 else 1) < 2 * (64 - size comp) + 1) := Lib.hid (by
                  by_cases e : andn o comp = 0
                  · rw [if_pos e]
                    have : size comp ≤ size (comp ||| o) := by
                      unfold size verts
                      exact Go.Jt.len_mono (fun x _ h => by rw [Nat.testBit_or, h]; rfl)
                    omega
                  · rw [if_neg e]
                    have := size_grows (a := comp) (b := andn o comp) (c := comp ||| o) e hanl (fun j h => ((fresh_bit hol hcl).1 h).2) (fun j => by
                      rw [Nat.testBit_or, Bool.or_eq_true, fresh_bit hol hcl]
                      constructor
                      · rintro (h | h)
                        · exact .inl h
                        · by_cases h2 : comp.testBit j = true
                          · exact .inl h2
                          · exact .inr ⟨h, by simpa using h2⟩
                      · rintro (h | h)
                        · exact .inl h
                        · exact .inr h.1)
                    have h3 := size_le (comp ||| o)
                    omega)
                clear HI
                go_wp2
                go_roundw
                case rel => exact ⟨andn o comp, comp ||| o, rfl, rfl, hanl, hoc, HI2, below_all hb2 hb6⟩
                case measure =>
                  have h1 := HME.out
                  have h2 := HF0.out
                  unfold andn at h1
                  simp only [intOf] at *
                  simp [h2]
                  exact h1
      · have HSK := Lib.hid hsk
        clear hsk
        go_wp2_with (go_at_call 46; refine (has_any _ _ _ hsl (by omega)).mono ?_; rintro e w' ⟨he, rfl⟩; rw [HSK.out] at he; subst he)
        go_roundw
        case rel => exact ⟨k + 1, seen, m, R, cr, F, ls, d, by go_num, by omega, rfl, hsl, rfl, hmc, by omega, hR, hRows, Lib.hid (oinv_skip HO.out HSK.out), HL, hb⟩
        case measure => simp [intOf]; omega
    · obtain rfl : k = n := by omega
      have hkb : decide ((k : Int) < (k : Int)) = false := by simp
      go_wp2
      go_ret2
      have hLs := lists_of_rows hR hRows
      refine ⟨(List.range m).map ls, R, cr, seen, d, HO.out, HL.out, ?_, hLs, by simpa using hmk, below_all hbw hb⟩
      rw [List.length_map, List.length_range]
      rfl
end Go.Proofs.Tg.Gx
end
section
/- The reference's Maximal. -/
namespace Go.Gr
/-- Vertex i and its neighbours that are not gone. -/
def rowSet (t : Nat → Nat → Bool) (n : Nat) (gone : Nat → Bool) (i : Nat) : List Nat := (List.range n).filter fun k => decide (k = i) || (t i k && !gone k)
def natsI (l : List Nat) : List Int := l.map fun x : Nat => (x : Int)
/-- What is gone, and the sets, after r steps. -/
def maxTo (t : Nat → Nat → Bool) (n : Nat) : Nat → (Nat → Bool) × List (List Int)
  | 0 => (fun _ => false, [])
  | r + 1 => match (List.range n).find? (okV t n (maxTo t n r).1) with
    | none => maxTo t n r
    | some i => (updF (maxTo t n r).1 i true, (maxTo t n r).2 ++ [natsI (rowSet t n (maxTo t n r).1 i)])
theorem maxTo_none {t : Nat → Nat → Bool} {n r : Nat} (h : (List.range n).find? (okV t n (maxTo t n r).1) = none) : maxTo t n (r + 1) = maxTo t n r := by
  show (match (List.range n).find? (okV t n (maxTo t n r).1) with | none => maxTo t n r | some i => _) = _
  rw [h]
theorem maxTo_some {t : Nat → Nat → Bool} {n r i : Nat} (h : (List.range n).find? (okV t n (maxTo t n r).1) = some i) : maxTo t n (r + 1) = (updF (maxTo t n r).1 i true, (maxTo t n r).2 ++ [natsI (rowSet t n (maxTo t n r).1 i)]) := by
  show (match (List.range n).find? (okV t n (maxTo t n r).1) with | none => maxTo t n r | some i => _) = _
  rw [h]
/-- List i is in no other one. -/
def keepP (als : List (List Int)) (i k : Nat) : Bool := decide (k = i) || !decide (common (als.getD i []) (als.getD k []) = (als.getD i []).length)
def keepI (als : List (List Int)) (i : Nat) : Bool := (List.range als.length).all (keepP als i)
def keptI (als : List (List Int)) (k : Nat) : List Nat := (List.range k).filter (keepI als)
end Go.Gr
namespace Go.Proofs.Tg.Gx
open Go.RowKit Go.Gr
set_option maxHeartbeats 4000000
set_option maxRecDepth 100000
theorem nats_vi (l : List Nat) : l.map vn = (natsI l).map vi := by simp [natsI, vn, vi]
/-- Phase one: the sets. -/
def Phase1 (t : Nat → Nat → Bool) (n base : Nat) (w : World) (r m cr : Nat) (R : Option Addr) (F : Nat → Option Addr × Nat) (ls : Nat → List Int) (gone : Nat → Bool) (wr : World) : Prop :=
  m ≤ cr ∧ m ≤ r ∧ wr.ownsRow base 36 1 (.slice R m cr) m ((List.range m).map (enc F ls)) ∧ RowsIn wr base m F ls ∧ Blk wr w.heap.size 4 (farr n fun v => .bool (gone v)) ∧ Below w.heap.size w wr ∧ maxTo t n r = (gone, (List.range m).map ls)
def RetMax (t : Nat → Nat → Bool) (n : Nat) (w : World) (e : Ending) (w' : World) : Prop :=
  ∃ lo V d, e = .returned (.slice V (List.length lo) d) ∧ Lists w' V lo ∧ lo.Perm ((keptI (maxTo t n n).2 (maxTo t n n).2.length).map fun i => (maxTo t n n).2.getD i []) ∧ sortedL lo ∧ Below w.heap.size w w'
theorem rmax_any (g n : Nat) (t : Nat → Nat → Bool) (w : World) (hT : TableAt w g n t) (hn : n ≤ 64) :
    Calls Tryz.prog 63 #[.slice (some ⟨g, 0, none⟩) n n] w (RetMax t n w) := by
  obtain ⟨j0, hj, hjz0, hjz1, hjz2⟩ := info_parts rows_info
  obtain ⟨i0, hi, hz0, hz1, hz2⟩ := info_parts int_info
  have m1 := fun W => make_bools n (by omega) W
  go_enter Tryz.func63, Tryz.ntmps63
  go_wp2
  clear m1
  have hB0 := Blk.new w 4 (farr n fun _ => .bool false)
  have hb0 : Below w.heap.size w (w.alloc (.cells (farr n fun _ => .bool false) 4)) := (Below.refl _ _).alloc (Nat.le_refl _) _
  generalize w.alloc (.cells (farr n fun _ => .bool false) 4) = W at hB0 hb0 ⊢
  go_loopw [5, 3] (fun x v wr => ∃ (l m cr : Nat) (R : Option Addr) (F : Nat → Option Addr × Nat) (ls : Nat → List Int) (gone : Nat → Bool), x = .int .i64 l ∧ l ≤ n ∧ v = .slice R m cr ∧ Hid (Phase1 t n (w.heap.size + 1) w (n - l) m cr R F ls gone wr)) (fun x _ _ => (intOf x).toNat)
  case atStart => exact ⟨n, 0, 0, none, fun _ => (none, 0), fun _ => [], fun _ => false, rfl, Nat.le_refl _, rfl, Lib.hid ⟨Nat.le_refl _, Nat.zero_le _, World.ownsRow_nil _ _ _ _, fun i hi => by omega, hB0, hb0, by rw [Nat.sub_self]; rfl⟩⟩
  case round =>
    clear hB0 hb0
    obtain ⟨wo, rfl⟩ : ∃ wo : World, wo = wr := ⟨_, rfl⟩
    obtain ⟨l, m, cr, R, F, ls, gone, rfl, hl, rfl, HP⟩ := hrel
    obtain ⟨hmc, hmr, hR, hRows, hG, hb, hmt⟩ := HP.out
    have HM := Lib.hid hmt
    clear hmt HP
    have hTo := hT.keep hb (Nat.le_refl _)
    have hGlt : w.heap.size < wo.heap.size := hG.lt
    by_cases hl0 : 0 < l
    · have hlb : decide ((0 : Int) < (l : Int)) = true := by simp; omega
      have hlb' : decide (0 < l) = true := by simp; omega
      have HR := Lib.hid (And.intro hR hRows)
      clear hR hRows
      go_wp2
      go_loopw [6, 3] (fun x v wr => ∃ k : Nat, x = .int .i64 k ∧ v = .slice R m cr ∧ k ≤ n ∧ Hid (∀ j, j < k → okV t n gone j = false) ∧ Hid (wo = wr)) (fun x _ _ => n - (intOf x).toNat)
      case atStart => exact ⟨0, rfl, rfl, Nat.zero_le _, Lib.hid (fun j h => by omega), Lib.hid rfl⟩
      case round =>
        obtain ⟨k, rfl, rfl, hk, HALL, HW⟩ := hrel
        have hw := HW.out
        subst hw
        clear HW
        by_cases hkn : k < n
        · have hkb : decide ((k : Int) < (n : Int)) = true := by simp; omega
          have hs := rsimp_any g w.heap.size n k t gone wo hTo hG hkn hn
          have cgk := (hG.cell k).trans (farr_at n _ hkn)
          have k0 : (0 : Int) ≤ (k : Int) := by omega
          have k1 : (k : Int) < (n : Int) := by omega
          have HD : Hid (okV t n gone k = (!gone k && simpB t n gone k)) := Lib.hid rfl
          have HS := Lib.hid hs
          clear hs
          generalize simpB t n gone k = sk at HD HS
          have HNO : Hid (okV t n gone k = false → ∀ j, j < k + 1 → okV t n gone j = false) := Lib.hid (fun h j hj => by
            by_cases e : j = k
            · rw [e]; exact h
            · exact HALL.out j (by omega))
          obtain ⟨gk, hgk⟩ : ∃ gk, gone k = gk := ⟨_, rfl⟩
          rw [hgk] at cgk HD
          have HGK := Lib.hid hgk
          clear hgk
          cases gk
          · cases sk
            · have HK2 := Lib.hid (HNO.out (by rw [HD.out]; rfl))
              clear HNO HD HALL
              go_wp2_with (go_at_call 99; refine HS.out.mono ?_; rintro e w' ⟨rfl, rfl⟩)
              go_roundw
              case rel => exact ⟨k + 1, by go_num, rfl, by omega, HK2, by first | exact Lib.hid rfl | exact Lib.hid trivial⟩
              case measure => simp [intOf]; omega
            · have HOK : Hid (okV t n gone k = true) := Lib.hid (by rw [HD.out]; rfl)
              have HFD : Hid ((List.range n).find? (okV t n gone) = some k) := Lib.hid (find_first hkn HOK.out HALL.out)
              have HN : Hid (maxTo t n (n - (l - 1)) = (updF gone k true, (List.range m).map ls ++ [natsI (rowSet t n gone k)])) := Lib.hid (by
                rw [show n - (l - 1) = n - l + 1 from by omega, maxTo_some (i := k) (by rw [HM.out]; exact HFD.out), HM.out])
              clear HNO HD HALL HOK HFD
              go_wp2_with (go_at_call 99; refine HS.out.mono ?_; rintro e w' ⟨rfl, rfl⟩)
              go_loopw [8, 7] (fun x v wr => ∃ (q : Nat) (V : Option Addr) (d : Nat) (l2 : List Nat), x = .int .i64 q ∧ q ≤ n ∧ v = .slice V l2.length d ∧ l2.length ≤ d ∧ l2.length ≤ q ∧ Hid (l2 = (List.range q).filter fun x => decide (x = k) || (t k x && !gone x)) ∧ wr.ownsRow wo.heap.size 3 1 (.slice V l2.length d) l2.length (l2.map vn) ∧ Below wo.heap.size wo wr) (fun x _ _ => n - (intOf x).toNat)
              case atStart => exact ⟨0, none, 0, [], rfl, Nat.zero_le _, rfl, Nat.le_refl _, Nat.le_refl _, Lib.hid (by simp), World.ownsRow_nil _ _ _ _, Below.refl _ _⟩
              case round =>
                obtain ⟨q, V, d, l2, rfl, hq, rfl, hld, hlq, HL, hown, hb2⟩ := hrel
                have hT2 := hTo.keep hb2 (Nat.le_refl _)
                have hG2 := hG.keep hb2 hGlt
                by_cases hqn : q < n
                · have hqb : decide ((q : Int) < (n : Int)) = true := by simp; omega
                  have ck := (hT2.head.cell k).trans (farr_at n _ hkn)
                  unfold rowV at ck
                  have ckq := ((hT2.row k hkn).cell q).trans (farr_at n _ hqn)
                  have cgq := (hG2.cell q).trans (farr_at n _ hqn)
                  have q0 : (0 : Int) ≤ (q : Int) := by omega
                  have q1 : (q : Int) < (n : Int) := by omega
                  have HSN : Hid ((List.range (q + 1)).filter (fun x => decide (x = k) || (t k x && !gone x)) = ((List.range q).filter fun x => decide (x = k) || (t k x && !gone x)) ++ if (decide (q = k) || (t k q && !gone q)) = true then [q] else []) := Lib.hid (by
                    rw [List.range_succ, List.filter_append]
                    cases hh : (decide (q = k) || (t k q && !gone q)) <;> simp [hh])
                  generalize t k q = tkq at ckq HSN
                  generalize gone q = gq at cgq HSN
                  have hsz2 := hb2.size
                  have hyes : (decide (q = k) || (tkq && !gq)) = true → Hid (l2 ++ [q] = (List.range (q + 1)).filter fun x => decide (x = k) || (t k x && !gone x)) := fun h => Lib.hid (by rw [HSN.out, if_pos h, HL.out])
                  have hno : (decide (q = k) || (tkq && !gq)) = false → Hid (l2 = (List.range (q + 1)).filter fun x => decide (x = k) || (t k x && !gone x)) := fun h => Lib.hid (by rw [HSN.out, if_neg (by rw [h]; simp), List.append_nil, HL.out])
                  have HY := Lib.hid hyes
                  have HNN := Lib.hid hno
                  have hlen : (l2 ++ [q]).length = l2.length + 1 := by simp
                  have HLEN := Lib.hid hlen
                  clear hyes hno HSN hT2 hG2 hlen
                  have hcases : (q = k) ∨ (q ≠ k ∧ tkq = true ∧ gq = false) ∨ (q ≠ k ∧ tkq = true ∧ gq = true) ∨ (q ≠ k ∧ tkq = false) := by
                    by_cases h1 : q = k
                    · exact .inl h1
                    · cases tkq <;> cases gq <;> simp [h1]
                  rcases hcases with h1 | ⟨h1, rfl, rfl⟩ | ⟨h1, rfl, rfl⟩ | ⟨h1, rfl⟩
                  · have e1 : ((q : Int) == (k : Int)) = true := beq_iff_eq.2 (by omega)
                    have HL2 := HY.out (by simp [h1])
                    clear h1 HY HNN
                    go_wp2_with (at_builtin; refine wpList_append_own _ rfl _ _ 36 rfl wo.heap.size 3 i0 (.int .i64 0) 1 8 Tryz.underlying36 hi hz0 hz1 hz2 rfl (by decide) (.slice V l2.length d) l2.length (l2.map vn) rfl (hown.alloc _) ⟨wr.heap.size, 0, none⟩ 1 1 [.int .i64 q] rfl rfl ?c1 ?c2 ?c3 ?c4 ?c5 ?_
                                 case c1 => exact cell_one_new _ _ _
                                 case c2 => simp [Value.oneCell']
                                 case c3 => simp only [maxLen]; omega
                                 case c4 => omega
                                 case c5 => simp; omega
                                 intro v' w2 hown' hgrow _
                                 obtain ⟨V2, c2, hv2, hle2, _⟩ := Sl.of_own hown'
                                 subst hv2)
                    go_roundw
                    case rel =>
                      refine ⟨q + 1, V2, c2, l2 ++ [q], by go_num, by omega, by rw [HLEN.out], by rw [HLEN.out]; exact hle2, by rw [HLEN.out]; omega, HL2, ?_, ?_⟩
                      · rw [HLEN.out]; simpa [vn] using hown'
                      · exact (hb2.alloc hb2.size _).grown hgrow (by simp; omega) (fun p hp => (hown.lt p hp).1)
                    case measure => simp [intOf]; omega
                  · have e1 : ((q : Int) == (k : Int)) = false := beq_eq_false_iff_ne.2 (by omega)
                    have HL2 := HY.out (by simp)
                    clear h1 HY HNN
                    go_wp2_with (at_builtin; refine wpList_append_own _ rfl _ _ 36 rfl wo.heap.size 3 i0 (.int .i64 0) 1 8 Tryz.underlying36 hi hz0 hz1 hz2 rfl (by decide) (.slice V l2.length d) l2.length (l2.map vn) rfl (hown.alloc _) ⟨wr.heap.size, 0, none⟩ 1 1 [.int .i64 q] rfl rfl ?c1 ?c2 ?c3 ?c4 ?c5 ?_
                                 case c1 => exact cell_one_new _ _ _
                                 case c2 => simp [Value.oneCell']
                                 case c3 => simp only [maxLen]; omega
                                 case c4 => omega
                                 case c5 => simp; omega
                                 intro v' w2 hown' hgrow _
                                 obtain ⟨V2, c2, hv2, hle2, _⟩ := Sl.of_own hown'
                                 subst hv2)
                    go_roundw
                    case rel =>
                      refine ⟨q + 1, V2, c2, l2 ++ [q], by go_num, by omega, by rw [HLEN.out], by rw [HLEN.out]; exact hle2, by rw [HLEN.out]; omega, HL2, ?_, ?_⟩
                      · rw [HLEN.out]; simpa [vn] using hown'
                      · exact (hb2.alloc hb2.size _).grown hgrow (by simp; omega) (fun p hp => (hown.lt p hp).1)
                    case measure => simp [intOf]; omega
                  · have e1 : ((q : Int) == (k : Int)) = false := beq_eq_false_iff_ne.2 (by omega)
                    have HL2 := HNN.out (by simp [h1])
                    clear h1 HY HNN
                    go_wp2
                    go_roundw
                    case rel => exact ⟨q + 1, V, d, l2, by go_num, by omega, rfl, hld, by omega, HL2, hown, hb2⟩
                    case measure => simp [intOf]; omega
                  · have e1 : ((q : Int) == (k : Int)) = false := beq_eq_false_iff_ne.2 (by omega)
                    have HL2 := HNN.out (by simp [h1])
                    clear h1 HY HNN
                    generalize gq = gq' at cgq
                    go_wp2
                    go_roundw
                    case rel => exact ⟨q + 1, V, d, l2, by go_num, by omega, rfl, hld, by omega, HL2, hown, hb2⟩
                    case measure => simp [intOf]; omega
                · obtain rfl : q = n := by omega
                  have hqb : decide ((q : Int) < (q : Int)) = false := by simp
                  have HLR : Hid (l2 = rowSet t q gone k) := Lib.hid HL.out
                  have hR6 := own_below HR.out.1 hb2 (Nat.le_refl _)
                  have hRw0 : RowsIn wr (w.heap.size + 1) m F ls := HR.out.2.below hb2 (Nat.le_refl _)
                  have HGA := Lib.hid (hG2.alloc (.cells #[.slice V l2.length d] 36))
                  have hsz2 := hb2.size
                  have f0 := (HGA.out.cell k).trans (farr_at q _ hkn)
                  have f1 := HGA.out.frozen k
                  clear HL hT2 f0 f1
                  go_wp2_with (at_builtin; refine wpList_append_own _ rfl _ _ 25 rfl (w.heap.size + 1) 36 j0 (.slice none 0 0) 1 24 Tryz.underlying25 hj hjz0 hjz1 hjz2 rfl (by decide) (.slice R m cr) m _ rfl (hR6.alloc _) ⟨wr.heap.size, 0, none⟩ 1 1 [.slice V l2.length d] rfl rfl ?c1 ?c2 ?c3 ?c4 ?c5 ?_
                               case c1 => exact cell_one_new _ _ _
                               case c2 => simp [Value.oneCell']
                               case c3 => simp only [maxLen]; omega
                               case c4 => omega
                               case c5 => simp; omega
                               intro v' w7 hR7 hg7 _
                               obtain ⟨R2, cr2, hv2, hle2, _⟩ := Sl.of_own hR7
                               subst hv2
                               have hG7 := HGA.out.grown hg7 (own_blk_ne (hR6.alloc _) HGA.out (by decide))
                               have f0 := (hG7.cell k).trans (farr_at q _ hkn)
                               have f1 := hG7.frozen k)
                  go_roundw
                  case rel =>
                    have hvl : l2.length = (natsI l2).length := by simp [natsI]
                    have hV7 : w7.ownsRow (w.heap.size + 1) 3 1 (.slice V (natsI l2).length d) (natsI l2).length ((natsI l2).map vi) := by
                      rw [← hvl, ← nats_vi]
                      exact own_base ((hown.alloc (.cells #[.slice V l2.length d] 36)).kept hg7 (own_ne hown hR6 (by decide))) (by omega)
                    have hRw : RowsIn w7 (w.heap.size + 1) m F ls := (hRw0.alloc (.cells #[.slice V l2.length d] 36)).kept hg7 (fun i hi => own_ne (hRw0 i hi) hR6 (by decide))
                    have hRs : RowsIn w7 (w.heap.size + 1) (m + 1) (snocF F m (V, d)) (snocF ls m (natsI l2)) := RowsIn.snoc (x := (V, d)) hRw hV7
                    have hGs := hG7.set k (.bool true)
                    rw [farr_upd (fun v : Bool => Value.bool v)] at hGs
                    refine ⟨l - 1, m + 1, cr2, R2, snocF F m (V, d), snocF ls m (natsI l2), updF gone k true, by go_num, by omega, rfl, Lib.hid ⟨hle2, by omega, ?_, ?_, hGs, ?_, ?_⟩⟩
                    · rw [map_snoc, ← hvl]
                      exact ownsRow_setCell_below hR7 (by simp) _
                    · exact fun i hi => ownsRow_setCell_below (hRs i hi) (by simp) _
                    · refine Below.setCell ?_ (by simp) _
                      exact ((below_all hb hb2).alloc (by omega) _).grown hg7 (by simp; omega) (fun p hp => by have := (hR6.lt p hp).1; omega)
                    · rw [HN.out, ← HLR.out, List.range_succ, List.map_append]
                      congr 2
                      · apply List.map_congr_left
                        intro i hi
                        have : i < m := by simpa using hi
                        simp [snocF]; omega
                      · simp [snocF]
                  case measure => simp [intOf]; omega
          · have HK2 := Lib.hid (HNO.out (by rw [HD.out]; rfl))
            clear HNO HD HS HALL
            go_wp2
            go_roundw
            case rel => exact ⟨k + 1, by go_num, rfl, by omega, HK2, by first | exact Lib.hid rfl | exact Lib.hid trivial⟩
            case measure => simp [intOf]; omega
        · obtain rfl : k = n := by omega
          have hkb : decide ((k : Int) < (k : Int)) = false := by simp
          have HN : Hid (maxTo t k (k - (l - 1)) = (gone, (List.range m).map ls)) := Lib.hid (by
            rw [show k - (l - 1) = k - l + 1 from by omega, maxTo_none (by rw [HM.out]; exact find_no HALL.out)]
            exact HM.out)
          go_wp2
          go_roundw
          case rel => exact ⟨l - 1, m, cr, R, F, ls, gone, by go_num, by omega, rfl, Lib.hid ⟨hmc, by omega, HR.out.1, HR.out.2, hG, hb, HN.out⟩⟩
          case measure => simp [intOf]; omega
    · obtain rfl : l = 0 := by omega
      have hlb : decide ((0 : Int) < ((0 : Nat) : Int)) = false := by simp
      obtain ⟨als, hals⟩ : ∃ als, (List.range m).map ls = als := ⟨_, rfl⟩
      have halen : als.length = m := by rw [← hals]; simp
      have HAL := Lib.hid halen
      have HAG : Hid (∀ i, i < m → als.getD i [] = ls i) := Lib.hid (fun i hi => by rw [← hals]; simp [hi])
      have HMX : Hid (maxTo t n n = (gone, als)) := Lib.hid (by have := HM.out; rwa [Nat.sub_zero, hals] at this)
      have HLEN : Hid (∀ i, i < m → (ls i).length ≤ 1000) := Lib.hid (by
        have key : ∀ r, ∀ x ∈ (maxTo t n r).2, x.length ≤ n := by
          intro r
          induction r with
          | zero => intro x hx; simp [maxTo] at hx
          | succ r ih =>
            cases hf : (List.range n).find? (okV t n (maxTo t n r).1) with
            | none => rw [maxTo_none hf]; exact ih
            | some i =>
              rw [maxTo_some hf]
              intro x hx
              rcases List.mem_append.1 hx with hx | hx
              · exact ih x hx
              · simp at hx
                subst hx
                unfold natsI rowSet
                rw [List.length_map]
                exact Nat.le_trans (List.length_filter_le _ _) (by simp)
        intro i hi2
        have h1 : ls i ∈ (maxTo t n n).2 := by rw [HMX.out, ← hals]; exact List.mem_map.2 ⟨i, by simpa using hi2, rfl⟩
        have := key n _ h1
        omega)
      have hmn : m ≤ n := by omega
      clear HM halen hals
      have HRW : Hid (∀ i, i < m → Ints wo (F i).1 (ls i)) := Lib.hid (fun i hi => Sl.own (hRows i hi))
      have hRS := Sl.own hR
      have HCELL : Hid (∀ i, i < m → ∃ ad, R = some ad ∧ wo.cell? (ad.add i) = some (.slice (F i).1 (ls i).length (F i).2)) := Lib.hid (fun i hi => by
        obtain ⟨ad, e, hc⟩ := Sl.at1 hRS hi
        refine ⟨ad, e, ?_⟩
        rw [hc]
        simp [enc])
      clear hRS hR hRows hG hTo hlb hl0
      go_wp2
      go_loopw [10, 9] (fun x v wr => ∃ (k m2 cr2 : Nat) (R2 : Option Addr) (idx : List Nat), x = .int .i64 k ∧ k ≤ m ∧ v = .slice R2 m2 cr2 ∧ Hid (idx.length = m2) ∧ m2 ≤ cr2 ∧ m2 ≤ k ∧ wr.ownsRow wo.heap.size 36 1 (.slice R2 m2 cr2) m2 (idx.map (enc F ls)) ∧ Hid (idx = keptI als k) ∧ Below wo.heap.size wo wr) (fun x _ _ => m - (intOf x).toNat)
      case atStart => exact ⟨0, 0, 0, none, [], rfl, Nat.zero_le _, rfl, Lib.hid rfl, Nat.le_refl _, Nat.le_refl _, World.ownsRow_nil _ _ _ _, Lib.hid (by simp [keptI]), Below.refl _ _⟩
      case round =>
        obtain ⟨w3, rfl⟩ : ∃ w3 : World, w3 = wr := ⟨_, rfl⟩
        obtain ⟨k, m2, cr2, R2, idx, rfl, hk, rfl, HIL, hm2c, hm2k, hO, HI, hb3⟩ := hrel
        by_cases hkm : k < m
        · have hkb : decide ((k : Int) < (m : Int)) = true := by simp; omega
          obtain ⟨ad, rfl, hck0⟩ := HCELL.out k hkm
          have hAk := HRW.out k hkm
          have k0 : (0 : Int) ≤ (k : Int) := by omega
          have k1 : (k : Int) < (m : Int) := by omega
          go_wp2
          go_loopw [12, 11] (fun x v wr => ∃ (q : Nat) (b : Bool), x = .int .i64 q ∧ v = .bool b ∧ q ≤ m ∧ Hid (b = (List.range q).all (keepP als k)) ∧ Below w3.heap.size w3 wr) (fun x _ _ => m - (intOf x).toNat)
          case atStart => exact ⟨0, true, rfl, rfl, Nat.zero_le _, Lib.hid (by simp), Below.refl _ _⟩
          case round =>
            obtain ⟨q, b, rfl, rfl, hq, HB, hb4⟩ := hrel
            have hbw : Below wo.heap.size wo wr := below_all hb3 hb4
            have hck := keep_cell hbw hck0
            by_cases hqm : q < m
            · have hqb : decide ((q : Int) < (m : Int)) = true := by simp; omega
              have HSN : Hid ((List.range (q + 1)).all (keepP als k) = ((List.range q).all (keepP als k) && keepP als k q)) := Lib.hid (by rw [List.range_succ, List.all_append]; simp)
              have q0 : (0 : Int) ≤ (q : Int) := by omega
              have q1 : (q : Int) < (m : Int) := by omega
              cases b
              · have HB2 : Hid (false = (List.range (q + 1)).all (keepP als k)) := Lib.hid (by rw [HSN.out, ← HB.out]; rfl)
                clear HSN HB
                go_wp2
                go_quiet (fail)
                go_wp2
                go_roundw
                case rel => exact ⟨q + 1, false, by go_num, rfl, by omega, HB2, below_drewN hb4 _⟩
                case measure => simp [intOf]; omega
              · by_cases hqk : q = k
                · have e1 : ((q : Int) == (k : Int)) = true := beq_iff_eq.2 (by omega)
                  have HB2 : Hid (true = (List.range (q + 1)).all (keepP als k)) := Lib.hid (by rw [HSN.out, ← HB.out]; simp [keepP, hqk])
                  clear HSN HB hqk
                  go_wp2
                  go_quiet (fail)
                  go_wp2
                  go_roundw
                  case rel => exact ⟨q + 1, true, by go_num, rfl, by omega, HB2, below_drewN hb4 _⟩
                  case measure => simp [intOf]; omega
                · have e1 : ((q : Int) == (k : Int)) = false := beq_eq_false_iff_ne.2 (by omega)
                  obtain ⟨ad', ead, hcq0⟩ := HCELL.out q hqm
                  injection ead with ead
                  subst ead
                  have hcq := keep_cell hbw hcq0
                  obtain ⟨sv, hsv⟩ : ∃ sv : Bool, sv = true ↔ common (ls k) (ls q) = (ls k).length := ⟨decide (common (ls k) (ls q) = (ls k).length), by simp⟩
                  have HB2 : Hid ((!sv) = (List.range (q + 1)).all (keepP als k)) := Lib.hid (by
                    rw [HSN.out, ← HB.out]
                    unfold keepP
                    rw [HAG.out k hkm, HAG.out q hqm]
                    have : sv = decide (common (ls k) (ls q) = (ls k).length) := by rw [Bool.eq_iff_iff, hsv]; simp
                    rw [this]; simp [hqk])
                  have HC1 : Hid (∀ n, Calls Tryz.prog 100 #[.slice (F k).1 (ls k).length (F k).2, .slice (F q).1 (ls q).length (F q).2] (wr.drewN n) fun e w' => e = .returned (.bool sv) ∧ ∃ m, w' = wr.drewN m) :=
                    Lib.hid fun n => (rsub_any _ _ (ls k) (ls q) (F k).2 (F q).2 sv (wr.drewN n) ((hAk.keep hbw).drewN n) (((HRW.out q hqm).keep hbw).drewN n) (HLEN.out k hkm) (HLEN.out q hqm) hsv).mono fun _ _ ⟨h, m, hm⟩ => ⟨h, n + m, by rw [hm, World.drewN_drewN]⟩
                  clear HSN HB hqk hsv hcq0
                  cases sv
                  · go_wp2
                    go_quiet ((go_at_call 100; with_reducible exact HC1.out _))
                    go_wp2
                    go_roundw
                    case rel => exact ⟨q + 1, true, by go_num, rfl, by omega, HB2, below_drewN hb4 _⟩
                    case measure => simp [intOf]; omega
                  · go_wp2
                    go_quiet ((go_at_call 100; with_reducible exact HC1.out _))
                    go_wp2
                    go_roundw
                    case rel => exact ⟨q + 1, false, by go_num, rfl, by omega, HB2, below_drewN hb4 _⟩
                    case measure => simp [intOf]; omega
            · obtain rfl : q = m := by omega
              have hqb : decide ((q : Int) < (q : Int)) = false := by simp
              have HBK : Hid (b = keepI als k) := Lib.hid (by unfold keepI; rw [HAL.out]; exact HB.out)
              have HSN : Hid (keptI als (k + 1) = keptI als k ++ if keepI als k = true then [k] else []) := Lib.hid (by
                unfold keptI
                rw [List.range_succ, List.filter_append]
                cases hh : keepI als k <;> simp [hh])
              have hO4 := own_below hO hb4 (Nat.le_refl _)
              have hsz3 := hb3.size
              have hsz4 := hb4.size
              clear HB
              cases b
              · have HI2 : Hid (idx = keptI als (k + 1)) := Lib.hid (by rw [HSN.out, ← HBK.out, HI.out]; simp)
                clear HSN HBK
                go_wp2
                go_roundw
                case rel => exact ⟨k + 1, m2, cr2, R2, idx, by go_num, by omega, rfl, HIL, hm2c, by omega, hO4, HI2, hbw⟩
                case measure => simp [intOf]; omega
              · have HI2 : Hid (idx ++ [k] = keptI als (k + 1)) := Lib.hid (by rw [HSN.out, ← HBK.out, HI.out]; simp)
                clear HSN HBK
                go_wp2_with (at_builtin; refine wpList_append_own _ rfl _ _ 25 rfl wo.heap.size 36 j0 (.slice none 0 0) 1 24 Tryz.underlying25 hj hjz0 hjz1 hjz2 rfl (by decide) (.slice R2 m2 cr2) m2 _ rfl (hO4.alloc _) ⟨wr.heap.size, 0, none⟩ 1 1 [.slice (F k).1 (ls k).length (F k).2] rfl rfl ?c1 ?c2 ?c3 ?c4 ?c5 ?_
                             case c1 => exact cell_one_new _ _ _
                             case c2 => simp [Value.oneCell']
                             case c3 => simp only [maxLen]; omega
                             case c4 => omega
                             case c5 => simp; omega
                             intro v' w7 hR7 hg7 _
                             obtain ⟨R3, cr3, hv2, hle2, _⟩ := Sl.of_own hR7
                             subst hv2)
                go_roundw
                case rel =>
                  have hrel2 : w7.ownsRow wo.heap.size 36 1 (.slice R3 (m2 + 1) cr3) (m2 + 1) ((idx ++ [k]).map (enc F ls)) := by rw [List.map_append]; exact hR7
                  have hbel2 : Below wo.heap.size wo w7 := (hbw.alloc hbw.size _).grown hg7 (by simp; omega) (fun p hp => (hO4.lt p hp).1)
                  (repeat apply Exists.intro)
                  exact ⟨⟨k + 1, m2 + 1, cr3, R3, idx ++ [k], by go_num, by omega, rfl, Lib.hid (by rw [List.length_append, HIL.out]; rfl), hle2, by omega, hrel2, HI2, hbel2⟩, rfl⟩
                case measure => simp [intOf]; omega
        · obtain rfl : k = m := by omega
          have hkb : decide ((k : Int) < (k : Int)) = false := by simp
          have HIM : Hid (∀ i ∈ idx, i < k) := Lib.hid (fun i hi2 => by
            rw [HI.out] at hi2
            unfold keptI at hi2
            have := (List.mem_filter.1 hi2).1
            simpa using this)
          have HFIN : Hid (∀ l' : List Nat, l'.Perm idx → (l'.map ls).Perm ((keptI (maxTo t n n).2 (maxTo t n n).2.length).map fun i => (maxTo t n n).2.getD i [])) := Lib.hid (fun l' hp => by
            rw [HMX.out]
            simp only
            rw [HAL.out, ← HI.out]
            rw [List.map_congr_left (g := ls) (fun i hi2 => HAG.out i (HIM.out i hi2))]
            exact hp.map _)
          have hbw3 : Below w.heap.size w w3 := below_all hb hb3
          rcases hO.2 with ⟨hv, hm0⟩ | ⟨g3, cap, cur, hv, hgb, hg, hmc3, _, hcs, htake⟩
          · injection hv with h1 h2 h3
            subst h1 h2 h3
            have hnil : idx = [] := List.eq_nil_of_length_eq_zero HIL.out
            have HFN := Lib.hid (HFIN.out [] (by rw [hnil]))
            clear hnil
            go_wp2
            go_loopw [13] (fun x wr => x = .int .i64 1 ∧ Hid (w3 = wr)) (fun _ _ => 0)
            case atStart => exact ⟨rfl, Lib.hid rfl⟩
            case round =>
              obtain ⟨rfl, HW⟩ := hrel
              have hw := HW.out
              subst hw
              clear HW
              go_wp2
              go_ret
              exact ⟨[], none, 0, rfl, ⟨fun _ => (none, 0), Sl.nil _ _ _, fun i hi2 => by simp at hi2⟩, HFN.out, fun a b _ hb => by simp at hb, hbw3⟩
          · injection hv with h1 h2 h3
            subst h1 h3
            have hB : Blk w3 g3 36 (rarr F ls idx (cur.toList.drop m2)) := by
              unfold Blk
              rw [hg, rarr, ← htake, Nat.mul_one, List.take_append_drop]
            generalize cur.toList.drop m2 = rest at hB
            have HIL2 := HIL.out
            subst HIL2
            have hidl : idx.length ≤ 64 := by omega
            have HW := Lib.hid (weakL ls)
            clear hg htake hcs hO HIL hkb
            go_wp2
            go_loopw [13] (fun x wr => ∃ (i : Nat) (q : List Nat), x = .int .i64 i ∧ 1 ≤ i ∧ i ≤ idx.length + 1 ∧ Hid (q.length = idx.length) ∧ Hid (q.Perm idx) ∧ Hid (sortedTo (fun i j => cmpL (ls i) (ls j)) q i) ∧ Blk wr g3 36 (rarr F ls q rest) ∧ Below wo.heap.size wo wr) (fun x _ => idx.length + 1 - (intOf x).toNat)
            case atStart => exact ⟨1, idx, rfl, by omega, by omega, Lib.hid rfl, Lib.hid (List.Perm.refl _), Lib.hid (fun a b h1 h2 => by omega), hB, hb3⟩
            case round =>
              clear hB hb3 hbw3
              obtain ⟨i, p0, rfl, hi1, hi2, HPL, HPP, HSS, hB, hb3⟩ := hrel
              by_cases hil : i < idx.length
              · have hib : decide ((i : Int) < (idx.length : Int)) = true := by simp; omega
                have HB0 : Hid (sortedBut (fun i j => cmpL (ls i) (ls j)) p0 i i) := Lib.hid (sortedBut_start HSS.out)
                clear HSS
                go_wp2
                go_loopw [14] (fun x wr => ∃ (j : Nat) (q : List Nat), x = .int .i64 j ∧ j ≤ i ∧ Hid (q.length = idx.length) ∧ Hid (q.Perm idx) ∧ Hid (sortedBut (fun i j => cmpL (ls i) (ls j)) q i j) ∧ Blk wr g3 36 (rarr F ls q rest) ∧ Below wo.heap.size wo wr) (fun x _ => (intOf x).toNat)
                case atStart => exact ⟨i, p0, rfl, Nat.le_refl _, HPL, HPP, HB0, hB, hb3⟩
                case round =>
                  clear hB hb3 HPP HB0 HPL
                  obtain ⟨j, q, rfl, hj2, HQL, HP, HS, hB, hb3⟩ := hrel
                  by_cases hj0 : j = 0
                  · have dj : decide ((0 : Int) < (j : Int)) = false := by simp; omega
                    have dj2 : decide (0 < j) = false := by simp; omega
                    have HS2 : Hid (sortedTo (fun i j => cmpL (ls i) (ls j)) q (i + 1)) := Lib.hid (sortedBut_stop HW.out HS.out (.inl hj0))
                    clear HS hj0
                    go_wp2
                    go_quiet (fail)
                    go_wp2
                    go_roundw
                    case rel => exact ⟨i + 1, q, by go_num, by omega, by omega, HQL, HP, HS2, hB.drewN _, below_drewN hb3 _⟩
                    case measure => simp [intOf]; omega
                  · have dj : decide ((0 : Int) < (j : Int)) = true := by simp; omega
                    have dj2 : decide (0 < j) = true := by simp; omega
                    have cj := (hB.cell j).trans (rarr_at F ls q rest (by rw [HQL.out]; omega))
                    have cp := (hB.cell (j - 1)).trans (rarr_at F ls q rest (k := j - 1) (by rw [HQL.out]; omega))
                    unfold enc at cj cp
                    have hmj : q.getD j 0 < k := HIM.out _ (HP.out.mem_iff.1 (getD_mem (by rw [HQL.out]; omega)))
                    have hmp : q.getD (j - 1) 0 < k := HIM.out _ (HP.out.mem_iff.1 (getD_mem (by rw [HQL.out]; omega)))
                    obtain ⟨lv, hlv⟩ : ∃ lv : Bool, lv = true ↔ cmpL (ls (q.getD j 0)) (ls (q.getD (j - 1) 0)) < 0 := ⟨decide (cmpL (ls (q.getD j 0)) (ls (q.getD (j - 1) 0)) < 0), by simp⟩
                    have HC1 : Hid (∀ n, Calls Tryz.prog 101 #[.slice (F (q.getD j 0)).1 (ls (q.getD j 0)).length (F (q.getD j 0)).2, .slice (F (q.getD (j - 1) 0)).1 (ls (q.getD (j - 1) 0)).length (F (q.getD (j - 1) 0)).2] (wr.drewN n) fun e w' => e = .returned (.bool lv) ∧ ∃ m, w' = wr.drewN m) :=
                      Lib.hid fun n => (rless_any _ _ (ls (q.getD j 0)) (ls (q.getD (j - 1) 0)) _ _ lv (wr.drewN n) (((HRW.out _ hmj).keep hb3).drewN n) (((HRW.out _ hmp).keep hb3).drewN n) (HLEN.out _ hmj) (HLEN.out _ hmp) hlv).mono fun _ _ ⟨h, m, hm⟩ => ⟨h, n + m, by rw [hm, World.drewN_drewN]⟩
                    have HJ := Lib.hid (show 0 < j by omega)
                    have HLV := Lib.hid hlv
                    clear hlv hj0 hmj hmp
                    have hjp : 0 < j := HJ.out
                    have k2 : (1 : Int) ≤ (j : Int) := by omega
                    have k1 : (j : Int) - 1 < (idx.length : Int) := by omega
                    have k0 : (j : Int) < (idx.length : Int) := by omega
                    have k00 : (0 : Int) ≤ (j : Int) := by omega
                    have k4 : IntKind.i64.wrap ((j : Int) - 1) = (j : Int) - 1 := IntWalk.i64_in _ (by have := HJ.out; omega)
                    have k3 : ((j : Int) - 1).toNat = j - 1 := by omega
                    cases lv
                    · have hz : ¬ cmpL (ls (q.getD j 0)) (ls (q.getD (j - 1) 0)) < 0 := fun h => by have := HLV.out.2 h; cases this
                      have HS2 : Hid (sortedTo (fun i j => cmpL (ls i) (ls j)) q (i + 1)) := Lib.hid (sortedBut_stop HW.out HS.out (.inr hz))
                      clear HS HLV hz
                      generalize q.getD j 0 = a1 at cj HC1
                      generalize q.getD (j - 1) 0 = a2 at cp HC1
                      go_wp2
                      go_quiet ((go_at_call 101; with_reducible exact HC1.out _))
                      go_wp2
                      go_roundw
                      case rel => exact ⟨i + 1, q, by go_num, by omega, by omega, HQL, HP, HS2, hB.drewN _, below_drewN hb3 _⟩
                      case measure => simp [intOf]; omega
                    · have hz : cmpL (ls (q.getD j 0)) (ls (q.getD (j - 1) 0)) < 0 := HLV.out.1 rfl
                      have HS2 : Hid (sortedBut (fun i j => cmpL (ls i) (ls j)) (swp q j) i (j - 1)) := Lib.hid (sortedBut_swap HW.out HS.out HJ.out hj2 (by rw [HQL.out]; exact hil) hz)
                      have HP2 : Hid ((swp q j).Perm idx) := Lib.hid ((swp_perm HJ.out (by rw [HQL.out]; omega)).trans HP.out)
                      have B1 : Blk ((wr.setCell ⟨g3, j - 1, none⟩ (enc F ls (q.getD j 0))).setCell ⟨g3, j, none⟩ (enc F ls (q.getD (j - 1) 0))) g3 36 (rarr F ls ((q.set (j - 1) (q.getD j 0)).set j (q.getD (j - 1) 0)) rest) := by
                        have := (hB.set (j - 1) (enc F ls (q.getD j 0))).set j (enc F ls (q.getD (j - 1) 0))
                        rw [rarr_set F ls q rest (by rw [HQL.out]; omega), rarr_set F ls _ rest (by rw [List.length_set, HQL.out]; omega)] at this
                        exact this
                      have hsw : (q.set (j - 1) (q.getD j 0)).set j (q.getD (j - 1) 0) = swp q j := by
                        unfold swp
                        have := HJ.out
                        rw [List.set_comm _ _ (by omega)]
                      rw [hsw] at B1
                      have HB1 := Lib.hid B1
                      have fj := hB.frozen j
                      have fp := hB.frozen (j - 1)
                      have HBL := Lib.hid ((hb3.setCell (p := ⟨g3, j - 1, none⟩) (by simpa using hgb) (enc F ls (q.getD j 0))).setCell (p := ⟨g3, j, none⟩) (by simpa using hgb) (enc F ls (q.getD (j - 1) 0)))
                      unfold enc at HB1 HBL
                      clear HS HP B1 hsw HLV hz
                      generalize q.getD j 0 = a1 at cj HC1 HB1 HBL
                      generalize q.getD (j - 1) 0 = a2 at cp HC1 HB1 HBL
                      go_wp2
                      go_quiet ((go_at_call 101; with_reducible exact HC1.out _))
                      go_wp2
                      go_region
                      go_wp2
                      go_roundw
                      case rel =>
                        have hq : ((j - 1 : Nat) : Int) = (j : Int) - 1 := by omega
                        refine ⟨j - 1, swp q j, by rw [hq], by omega, Lib.hid (by rw [swp_len]; exact HQL.out), HP2, HS2, HB1.out, below_drewN HBL.out _⟩
                      case measure => simp [intOf]; omega
              · have hib : decide ((i : Int) < (idx.length : Int)) = false := by simp; omega
                have HFN := Lib.hid (HFIN.out p0 HPP.out)
                have hbw4 : Below w.heap.size w wr := below_all hb hb3
                go_wp2
                go_ret
                have hl' : p0.length = idx.length := HPL.out
                refine ⟨p0.map ls, some ⟨g3, 0, none⟩, cr2, by rw [List.length_map, hl']; rfl, ?_, HFN.out, ?_, hbw4⟩
                · refine ⟨fun i => F (p0.getD i 0), ⟨by simp, fun hn2 => ?_⟩, fun x hx => ?_⟩
                  · refine ⟨⟨g3, 0, none⟩, rfl, Blk.lt hB, fun j u hu => ?_⟩
                    have hj3 : j < p0.length := by
                      rcases Nat.lt_or_ge j p0.length with h | h
                      · exact h
                      · rw [List.getElem?_eq_none (by simp; omega)] at hu; cases hu
                    rw [add_lit, Nat.zero_add, hB.cell j, rarr_at _ _ _ _ hj3, ← hu]
                    simp [enc, hj3]
                  · have hx2 : x < p0.length := by simpa using hx
                    have e2 : (p0.map ls).getD x [] = ls (p0.getD x 0) := by simp [hx2]
                    rw [e2]
                    exact (HRW.out _ (HIM.out _ (HPP.out.mem_iff.1 (getD_mem hx2)))).keep hb3
                · intro a b hab hb5
                  have hbl : b < p0.length := by simpa using hb5
                  have := HSS.out a b hab (by omega)
                  simp only [List.getD_eq_getElem?_getD, List.getElem?_map, List.getElem?_eq_getElem hbl, List.getElem?_eq_getElem (show a < p0.length by omega)] at this ⊢
                  exact this
end Go.Proofs.Tg.Gx
end
