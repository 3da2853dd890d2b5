/- The texts PO, XP, WY, XQ, XR, LG, in one. -/
import Derived.Test.YtamipjpcphghaaaDoorKB
import Derived.WalkSmall
import Derived.Test.YtamipjpcphghaaaDoorXD
section
/- What the reference fills is what the library fills; the count of its search; its parts. -/
namespace Go.Gr
open Go.Jt
def goodC (gone : Nat → Bool) (t : Nat → Nat → Bool) (best x : Nat) : Prop := gone x = false ∧ t best x = true
theorem rowF_at {gone : Nat → Bool} {best a : Nat} {u : Nat → Nat → Bool} (hb : u best best = false) : ∀ k i j, rowF gone best a u k i j = true ↔ u i j = true ∨ (goodC gone u best a ∧ ((i = a ∧ j < k ∧ goodC gone u best j) ∨ (j = a ∧ i < k ∧ goodC gone u best i)))
  | 0, i, j => by simp [rowF]
  | k + 1, i, j => by
    rw [rowF_succ]
    have ih := rowF_at (gone := gone) (a := a) hb k
    have hrow : ∀ x, rowF gone best a u k best x = u best x := by
      intro x
      rw [Bool.eq_iff_iff, ih]
      constructor
      · rintro (h | ⟨ha, ⟨e, _⟩ | ⟨_, _, h⟩⟩)
        · exact h
        · subst e; have := ha.2; rw [hb] at this; cases this
        · have := h.2; rw [hb] at this; cases this
      · exact .inl
    unfold stepF
    rw [hrow, hrow]
    by_cases hc : (!gone a && !gone k && u best a && u best k) = true
    · rw [if_pos hc, joinT_at]
      simp only [Bool.and_eq_true, Bool.not_eq_true'] at hc
      obtain ⟨⟨⟨h1, h2⟩, h3⟩, h4⟩ := hc
      rw [Bool.or_eq_true, Bool.or_eq_true, decide_eq_true_eq, decide_eq_true_eq, ih]
      constructor
      · rintro ((⟨e1, e2⟩ | ⟨e1, e2⟩) | h | ⟨ha, ⟨e, hj, g⟩ | ⟨e, hi, g⟩⟩)
        · exact .inr ⟨⟨h1, h3⟩, .inl ⟨e1, by omega, by rw [e2]; exact ⟨h2, h4⟩⟩⟩
        · exact .inr ⟨⟨h1, h3⟩, .inr ⟨e2, by omega, by rw [e1]; exact ⟨h2, h4⟩⟩⟩
        · exact .inl h
        · exact .inr ⟨ha, .inl ⟨e, by omega, g⟩⟩
        · exact .inr ⟨ha, .inr ⟨e, by omega, g⟩⟩
      · rintro (h | ⟨ha, ⟨e, hj, g⟩ | ⟨e, hi, g⟩⟩)
        · exact .inr (.inl h)
        · by_cases e2 : j = k
          · exact .inl (.inl ⟨e, e2⟩)
          · exact .inr (.inr ⟨ha, .inl ⟨e, by omega, g⟩⟩)
        · by_cases e2 : i = k
          · exact .inl (.inr ⟨e2, e⟩)
          · exact .inr (.inr ⟨ha, .inr ⟨e, by omega, g⟩⟩)
    · rw [if_neg hc, ih]
      have hno : goodC gone u best a → goodC gone u best k → False := fun h1 h2 => hc (by simp [h1.1, h1.2, h2.1, h2.2])
      constructor
      · rintro (h | ⟨ha, ⟨e, hj, g⟩ | ⟨e, hi, g⟩⟩)
        · exact .inl h
        · exact .inr ⟨ha, .inl ⟨e, by omega, g⟩⟩
        · exact .inr ⟨ha, .inr ⟨e, by omega, g⟩⟩
      · rintro (h | ⟨ha, ⟨e, hj, g⟩ | ⟨e, hi, g⟩⟩)
        · exact .inl h
        · by_cases e2 : j = k
          · subst e2; exact (hno ha g).elim
          · exact .inr ⟨ha, .inl ⟨e, by omega, g⟩⟩
        · by_cases e2 : i = k
          · subst e2; exact (hno ha g).elim
          · exact .inr ⟨ha, .inr ⟨e, by omega, g⟩⟩
theorem allF_at {gone : Nat → Bool} {best : Nat} {t : Nat → Nat → Bool} (hb : t best best = false) : ∀ k i j, allF gone best t k i j = true ↔ t i j = true ∨ (i ≠ j ∧ i < k ∧ j < k ∧ goodC gone t best i ∧ goodC gone t best j)
  | 0, i, j => by simp [allF]
  | k + 1, i, j => by
    have ih := allF_at (gone := gone) hb k
    have hrow : ∀ x, allF gone best t k best x = t best x := by
      intro x
      rw [Bool.eq_iff_iff, ih]
      constructor
      · rintro (h | ⟨_, _, _, h, _⟩)
        · exact h
        · have := h.2; rw [hb] at this; cases this
      · exact .inl
    have hC : ∀ x, goodC gone (allF gone best t k) best x ↔ goodC gone t best x := by
      intro x; unfold goodC; rw [hrow]
    rw [allF_succ, rowF_at (by rw [hrow]; exact hb), ih, hC, hC, hC]
    constructor
    · rintro ((h | ⟨h1, h2, h3, h4, h5⟩) | ⟨ha, ⟨e, hj, g⟩ | ⟨e, hi, g⟩⟩)
      · exact .inl h
      · exact .inr ⟨h1, by omega, by omega, h4, h5⟩
      · exact .inr ⟨by omega, by omega, by omega, by rw [e]; exact ha, g⟩
      · exact .inr ⟨by omega, by omega, by omega, g, by rw [e]; exact ha⟩
    · rintro (h | ⟨h1, h2, h3, h4, h5⟩)
      · exact .inl (.inl h)
      · by_cases e1 : i = k
        · exact .inr ⟨by rw [← e1]; exact h4, .inl ⟨e1, by omega, h5⟩⟩
        · by_cases e2 : j = k
          · exact .inr ⟨by rw [← e2]; exact h5, .inr ⟨e2, by omega, h4⟩⟩
          · exact .inl (.inr ⟨h1, by omega, by omega, h4, h5⟩)
/-- The reference's table and the library's sets, side by side. -/
structure Mat (n : Nat) (u : Nat → Nat → Bool) (gone : Nat → Bool) (A : Nat → Nat) (rest : Nat) : Prop where
  eq : ∀ i j, i < n → j < n → u i j = bt A i j
  bits : ∀ v, rest.testBit v = true ↔ v < n ∧ gone v = false
  irr : Irr A
  small : Small A
  lt : ∀ i j, i < n → bt A i j = true → j < n
  rl : rest < 18446744073709551616
theorem Mat.cnt {n : Nat} {u : Nat → Nat → Bool} {gone : Nat → Bool} {A : Nat → Nat} {rest : Nat} (h : Mat n u gone A rest) (hn : n ≤ 64) {i : Nat} (hi : i < n) : cntR u gone i n = size (A i &&& rest) := by
  unfold cntR size verts
  rw [filter_range_le hn (p := (A i &&& rest).testBit) (q := fun j => u i j && !gone j)]
  · intro k hk
    rw [Nat.testBit_and, h.eq i k hi hk]
    unfold bt
    congr 1
    rw [Bool.eq_iff_iff, h.bits]
    simp [hk]
  · intro k hk _
    rw [Nat.testBit_and]
    have : rest.testBit k = false := by
      cases hb : rest.testBit k
      · rfl
      · have := ((h.bits k).1 hb).1; omega
    rw [this]; simp
theorem Mat.step {n : Nat} {u : Nat → Nat → Bool} {gone : Nat → Bool} {A : Nat → Nat} {rest : Nat} (h : Mat n u gone A rest) (hn : n ≤ 64) (h0 : rest ≠ 0) :
    ∃ b, b < 64 ∧ rest.testBit b = true ∧ (elim A rest).2 = bclr rest b ∧ Mat n (allF gone (minR u n gone n).1.toNat u n) (updF gone (minR u n gone n).1.toNat true) (elim A rest).1 (elim A rest).2 := by
  obtain ⟨b, hb64, hbr, he, hmin, hfst⟩ := elim_at h.irr h.rl h0
  obtain ⟨hbn, hbg⟩ := (h.bits b).1 hbr
  refine ⟨b, hb64, hbr, by rw [he], ?_⟩
  have hm : (minR u n gone n).1.toNat = b := by
    rcases minR_spec u n gone n with ⟨_, h2⟩ | ⟨i, hi, hg, hmi, hle, hlt⟩
    · rw [h2 b hbn] at hbg; cases hbg
    · rw [hmi]
      simp only [Int.toNat_natCast]
      have hir : rest.testBit i = true := (h.bits i).2 ⟨hi, hg⟩
      have c1 := hle b hbn hbg
      rw [h.cnt hn hi, h.cnt hn hbn] at c1
      rcases Nat.lt_trichotomy i b with hlt' | e | hgt
      · have := hfst i hlt' hir; omega
      · exact e
      · have := hlt b hgt hbg
        rw [h.cnt hn hi, h.cnt hn hbn] at this
        have := hmin i (by omega) hir
        omega
  rw [hm, he]
  have har : (A b &&& rest) < 18446744073709551616 := and_lt rest (h.small b)
  have hlt : ∀ v ∈ verts (A b &&& rest), v < 64 := fun v hv => (mem_verts.1 hv).1
  have hbit := fill_bit (A b &&& rest) (verts (A b &&& rest)) A hlt (verts_nodup _)
  have hS1 : Small (fill (A b &&& rest) (verts (A b &&& rest)) A) := fill_small har _ h.small
  have hbb : u b b = false := by
    rw [h.eq b b hbn hbn]; exact h.irr b hb64
  have hgood : ∀ v, v < n → ((A b &&& rest).testBit v = true ↔ goodC gone u b v) := by
    intro v hv
    rw [Nat.testBit_and, Bool.and_eq_true, h.bits]
    unfold goodC
    rw [h.eq b v hbn hv]
    unfold bt
    constructor
    · rintro ⟨h1, _, h2⟩; exact ⟨h2, h1⟩
    · rintro ⟨h1, h2⟩; exact ⟨h2, hv, h1⟩
  refine ⟨fun i j hi hj => ?_, fun v => ?_, fill_irr _ hlt h.irr, hS1, fun i j hi hb => ?_, bclr_lt b h.rl⟩
  · rw [Bool.eq_iff_iff, allF_at hbb]
    unfold bt
    rw [hbit, Bool.or_eq_true, Bool.and_eq_true, decide_eq_true_eq, mem_verts, bclr_bit _ _ _ (by omega) (by omega), hgood i hi, Bool.and_eq_true, hgood j hj, h.eq i j hi hj]
    unfold bt
    constructor
    · rintro (h1 | ⟨h1, _, _, h2, h3⟩)
      · exact .inl h1
      · exact .inr ⟨⟨by omega, h2⟩, h3, by simpa using h1⟩
    · rintro (h1 | ⟨⟨_, h2⟩, h3, h4⟩)
      · exact .inl h1
      · exact .inr ⟨by simpa using h4, hi, hj, h2, h3⟩
  · have hu : updF gone b true v = false ↔ v ≠ b ∧ gone v = false := by
      unfold updF
      by_cases e : v = b
      · simp [e]
      · simp [e]
    rw [hu]
    by_cases hv : v < 64
    · rw [bclr_bit _ _ _ hb64 hv, Bool.and_eq_true, h.bits]
      constructor
      · rintro ⟨⟨h1, h2⟩, h3⟩
        exact ⟨h1, fun e => by simp [e] at h3, h2⟩
      · rintro ⟨h1, h2, h3⟩
        exact ⟨⟨h1, h3⟩, by simp; exact fun e => h2 e.symm⟩
    · rw [high_bit (bclr_lt b h.rl) (by omega)]
      simp
      intro h1; omega
  · unfold bt at hb
    have hj64 : j < 64 := bt_lt hS1 hb
    rw [hbit, Bool.or_eq_true, Bool.and_eq_true] at hb
    rcases hb with h1 | ⟨_, h1⟩
    · exact h.lt i j hi h1
    · rw [bclr_bit _ _ _ (by omega) hj64, Bool.and_eq_true, Nat.testBit_and, Bool.and_eq_true] at h1
      exact ((h.bits j).1 h1.1.2).1
theorem size_bclr {s i : Nat} (hi : i < 64) (h : s.testBit i = true) : size (bclr s i) + 1 = size s := by
  have e : verts (bclr s i) = (verts s).erase i := by
    rw [List.Nodup.erase_eq_filter (verts_nodup s)]
    unfold verts
    rw [List.filter_filter]
    apply List.filter_congr
    intro x hx
    rw [bclr_bit _ _ _ hi (by simpa using hx)]
    rw [Bool.and_comm]
    congr 1
    by_cases e : i = x
    · simp [e]
    · simp [e]; exact fun h => e h.symm
  have hm : i ∈ verts s := mem_verts.2 ⟨hi, h⟩
  have hp : 0 < (verts s).length := List.length_pos_of_mem hm
  unfold size
  rw [e, List.length_erase_of_mem hm]
  omega
theorem Mat.run {t : Nat → Nat → Bool} {n : Nat} (hn : n ≤ 64) : ∀ (d r f : Nat) (A : Nat → Nat) (rest : Nat), r + d = n → Mat n (fillTo t n r).1 (fillTo t n r).2 A rest → size rest = d → d < f → ∀ i j, i < n → j < n → (fillTo t n n).1 i j = bt (extFrom f A rest) i j
  | _, _, 0, _, _, _, _, _, hf => by omega
  | 0, r, f + 1, A, rest, hr, hM, hs, _ => by
    have h0 : rest = 0 := verts_empty hM.rl (List.eq_nil_of_length_eq_zero hs)
    obtain rfl : r = n := by omega
    unfold extFrom
    rw [if_pos h0]
    exact hM.eq
  | d + 1, r, f + 1, A, rest, hr, hM, hs, hf => by
    have h0 : rest ≠ 0 := by
      intro e
      rw [e] at hs
      unfold size at hs
      rw [verts_zero] at hs
      simp at hs
    obtain ⟨b, hb64, hbr, he, hM2⟩ := hM.step hn h0
    unfold extFrom
    rw [if_neg h0]
    refine Mat.run hn d (r + 1) f _ _ (by omega) hM2 ?_ (by omega)
    rw [he]
    have := size_bclr hb64 hbr
    omega
theorem tableEdges_congr {t u : Nat → Nat → Bool} {n : Nat} : ∀ m, m ≤ n → (∀ i j, i < n → j < n → t i j = u i j) → tableEdges t n m = tableEdges u n m
  | 0, _, _ => rfl
  | m + 1, hm, h => by
    rw [tableEdges_succ, tableEdges_succ, tableEdges_congr m (by omega) h]
    have e : rowT t m n = rowT u m n := by
      unfold rowT
      rw [List.filter_congr (fun x hx => by rw [h m x (by omega) (by simpa using hx)])]
    rw [e]
theorem fill_same {n : Nat} {es : List (Int × Int)} (h : valid n es) : fillEs n es = writeEdges (extend (readAll es) n) n := by
  have hn : n ≤ 64 := by have := h.2.1; omega
  obtain ⟨hS, hI⟩ := readAll_small es n h
  rw [extend_edges h]
  unfold fillEs
  refine tableEdges_congr n (Nat.le_refl _) ?_
  refine Mat.run hn n 0 65 (readAll es) (firstN n) (by omega) ⟨fun i j _ _ => (bt_read es i j).symm, fun v => ?_, hI, hS, fun i j hi hb => ?_, firstN_lt hn⟩ ?_ (by omega)
  · rw [firstN_bit]; simp [fillTo]
  · rw [bt_read] at hb; exact ((valid_nice h).lt _ _ hb).2
  · unfold size verts
    rw [filter_range_le hn (p := (firstN n).testBit) (q := fun _ => true)]
    · rw [List.filter_eq_self.2 (fun _ _ => rfl), List.length_range]
    · intro k hk; rw [firstN_bit]; simp [hk]
    · intro k hk _; rw [firstN_bit]; simp; omega
/-- The count of the search. -/
theorem search_cnt {A : Nat → Nat} (hS : Small A) {n r v : Nat} (hn : n ≤ 64) (hr : r ≤ n) : ((searchTo A n r).2.filter fun x => bt A v x).length = size (A v &&& (searchTo A n r).1) := by
  rw [← cnt_size hS hn hr, searchTo_ord hn hr, List.filter_map, List.length_map]
  rfl
/-- How both make the components. -/
inductive MadeL (es : List (Int × Int)) : Nat → List (List Int) → Prop
  | zero : MadeL es 0 []
  | skip {k : Nat} {ls : List (List Int)} : MadeL es k ls → (∃ l ∈ ls, (k : Int) ∈ l) → MadeL es (k + 1) ls
  | add {k : Nat} {ls : List (List Int)} {l : List Int} : MadeL es k ls → (∀ m ∈ ls, (k : Int) ∉ m) → l.Pairwise (· < ·) → (∀ x : Int, x ∈ l ↔ ∃ v : Nat, x = v ∧ Conn (Rel es) k v) → MadeL es (k + 1) (ls ++ [l])
theorem MadeL.same {es : List (Int × Int)} : ∀ {k : Nat} {ls ms : List (List Int)}, MadeL es k ls → MadeL es k ms → ls = ms := by
  intro k
  induction k with
  | zero =>
    intro ls ms h1 h2
    cases h1; cases h2; rfl
  | succ k ih =>
    intro ls ms h1 h2
    cases h1 with
    | skip h1 e1 =>
      cases h2 with
      | skip h2 e2 => exact ih h1 h2
      | add h2 e2 _ _ =>
        obtain ⟨l, hl, hk⟩ := e1
        rw [ih h1 h2] at hl
        exact absurd hk (e2 l hl)
    | add h1 e1 p1 q1 =>
      cases h2 with
      | skip h2 e2 =>
        obtain ⟨l, hl, hk⟩ := e2
        rw [← ih h1 h2] at hl
        exact absurd hk (e1 l hl)
      | add h2 e2 p2 q2 =>
        rw [ih h1 h2, asc_ext p1 p2 (fun x => (q1 x).trans (q2 x).symm)]
end Go.Gr
end

section
/- The reference's Search. -/
namespace Go.Proofs.Tg
open Go.RowKit Go.Gr
set_option maxHeartbeats 4000000
set_option maxRecDepth 100000
def slen : Value → Nat
  | .slice _ l _ => l
  | _ => 0
theorem rsearch_any (g n : Nat) (t : Nat → Nat → Bool) (A : Nat → Nat) (w : World) (hT : TableAt w g n t) (hn : n ≤ 64) (hS : Small A) (hA : ∀ i j, t i j = bt A i j) :
    Calls Tryd.prog 66 #[.slice (some ⟨g, 0, none⟩) n n] w fun e w' => ∃ V d, e = .returned (.slice V (search A n).length d) ∧ Nats w' V (search A n) ∧ Below w.heap.size w w' := by
  obtain ⟨i0, hi, hz0, hz1, hz2⟩ := info_parts int_info
  have m1 := fun W => make_bools n (by omega) W
  have HVIS := Lib.hid (fun r (h : r ≤ n) => visits (A := A) hn r h)
  have HCNT := Lib.hid (fun r v (h : r ≤ n) => search_cnt (v := v) hS hn h)
  have HA := Lib.hid hA
  clear hS hA
  go_enter Tryd.func66, Tryd.ntmps66
  go_wp2
  clear m1
  have hB0 := Blk.new w 4 (farr n fun _ => .bool false)
  have hb0 : Below w.heap.size w (w.alloc (.cells (farr n fun _ => .bool false) 4)) := (Below.refl _ _).alloc (Nat.le_refl _) _
  generalize w.alloc (.cells (farr n fun _ => .bool false) 4) = W at hB0 hb0 ⊢
  go_loopw [3] (fun x wr => ∃ (V : Option Addr) (d : Nat) (o : List Nat) (vis : Nat), x = .slice V o.length d ∧ o.length ≤ d ∧ o.length ≤ n ∧ Hid (searchTo A n o.length = (vis, o)) ∧ wr.ownsRow (w.heap.size + 1) 3 1 (.slice V o.length d) o.length (o.map vn) ∧ Blk wr w.heap.size 4 (farr n fun v => .bool (vis.testBit v)) ∧ Below w.heap.size w wr) (fun x _ => n - slen x)
  case atStart => exact ⟨none, 0, [], 0, rfl, Nat.le_refl _, Nat.zero_le _, Lib.hid rfl, World.ownsRow_nil _ _ _ _, by simpa using hB0, hb0⟩
  case round =>
    clear hB0 hb0
    obtain ⟨wo, rfl⟩ : ∃ wo : World, wo = wr := ⟨_, rfl⟩
    obtain ⟨V, d, o, vis, rfl, hod, hon, HO, hown, hB, hb⟩ := hrel
    by_cases hol : o.length < n
    · have hob : decide ((o.length : Int) < (n : Int)) = true := by simp; omega
      obtain ⟨v, hv, HBE, HNX⟩ : ∃ v, v < n ∧ Hid (∃ c : Nat, best A vis n = ((v : Int), (c : Int))) ∧ Hid (searchTo A n (o ++ [v]).length = (bset vis v, o ++ [v])) := by
        obtain ⟨v, hv, _, hbe, _⟩ := best_of (HVIS.out o.length (by omega)) hol
        refine ⟨v, hv, Lib.hid ⟨size (A v &&& vis), ?_⟩, Lib.hid ?_⟩
        · rw [HO.out] at hbe; exact hbe
        · rw [List.length_append, List.length_singleton]
          show (bset _ _, _ ++ [_]) = _
          rw [hbe, HO.out]; rfl
      have HLT : Hid (∀ x ∈ o, x < n) := Lib.hid (fun x hx => (HVIS.out o.length (by omega)).lt x (by rw [HO.out]; exact hx))
      have HC2 : Hid (∀ u, (o.filter fun x => t u x).length = size (A u &&& vis)) := Lib.hid (fun u => by
        have h := HCNT.out o.length u (by omega)
        rw [HO.out] at h
        have e : (fun x => t u x) = fun x => bt A u x := by funext x; exact HA.out u x
        rw [e]; exact h)
      go_wp2
      go_loopw [7, 5, 6] (fun x b m wr => ∃ i : Nat, x = .int .i64 i ∧ i ≤ n ∧ b = .int .i64 (best A vis i).1 ∧ m = .int .i64 (best A vis i).2 ∧ Below wo.heap.size wo wr) (fun x _ _ _ => n - (intOf x).toNat)
      case atStart => exact ⟨0, rfl, Nat.zero_le _, rfl, rfl, Below.refl _ _⟩
      case round =>
        obtain ⟨i, rfl, hin, rfl, rfl, hbr⟩ := hrel
        by_cases hii : i < n
        · have hib : decide ((i : Int) < (n : Int)) = true := by simp; omega
          have HMS := Lib.hid (best_succ A vis i)
          generalize best A vis i = bm at HMS ⊢
          obtain ⟨b1, b2⟩ := bm
          unfold bestStep at HMS
          simp only at HMS ⊢
          have e0 : (0 : Int) ≤ (i : Int) := by omega
          have e1 : (i : Int) < (n : Int) := by omega
          go_wp2
          go_loopw [9, 8] (fun x s wr => ∃ q c : Nat, x = .int .i64 q ∧ q ≤ o.length ∧ s = .int .i64 c ∧ c ≤ q ∧ Hid (c = ((o.take q).filter fun x => t i x).length) ∧ Below wo.heap.size wo wr) (fun x _ _ => o.length - (intOf x).toNat)
          case atStart => exact ⟨0, 0, rfl, Nat.zero_le _, rfl, Nat.le_refl _, Lib.hid (by simp), hbr⟩
          case round =>
            clear hbr
            obtain ⟨q, c, rfl, hq, rfl, hcq, HC, hbr⟩ := hrel
            have hTr := hT.keep (below_all hb hbr) (Nat.le_refl _)
            by_cases hqo : q < o.length
            · have hqb : decide ((q : Int) < (o.length : Int)) = true := by simp; omega
              obtain ⟨ad, rfl, hcq2⟩ := Nats.at (Sl.own (own_below hown hbr (Nat.le_refl _))) hqo
              have hol2 := HLT.out o[q] (List.getElem_mem _)
              have HS : Hid (((o.take (q + 1)).filter fun x => t i x).length = ((o.take q).filter fun x => t i x).length + if t i o[q] = true then 1 else 0) := Lib.hid (by
                rw [List.take_succ_eq_append_getElem hqo, List.filter_append, List.length_append]
                cases h : t i o[q] <;> simp [h])
              generalize o[q] = x at hcq2 hol2 HS
              have ci := (hTr.head.cell i).trans (farr_at n _ hii)
              unfold rowV at ci
              have cx := ((hTr.row i hii).cell x).trans (farr_at n _ hol2)
              have q0 : (0 : Int) ≤ (q : Int) := by omega
              have q1 : (q : Int) < (o.length : Int) := by omega
              have x0 : (0 : Int) ≤ (x : Int) := by omega
              have x1 : (x : Int) < (n : Int) := by omega
              generalize t i x = tx at cx HS
              cases tx
              · have HC3 : Hid (c = ((o.take (q + 1)).filter fun x => t i x).length) := Lib.hid (by rw [HS.out, ← HC.out]; simp)
                clear HC HS hTr
                go_wp2
                go_region
                go_wp2
                go_roundw
                case rel => exact ⟨q + 1, c, by go_num, by omega, rfl, by omega, HC3, below_drewN hbr _⟩
                case measure => simp [intOf]; omega
              · have HC3 : Hid (c + 1 = ((o.take (q + 1)).filter fun x => t i x).length) := Lib.hid (by rw [HS.out, ← HC.out]; simp)
                clear HC HS hTr
                go_wp2
                go_region
                go_wp2
                go_roundw
                case rel => exact ⟨q + 1, c + 1, by go_num, by omega, by go_num, by omega, HC3, below_drewN hbr _⟩
                case measure => simp [intOf]; omega
            · obtain rfl : q = o.length := by omega
              have hqb : decide ((o.length : Int) < (o.length : Int)) = false := by simp
              have HC3 : Hid (c = size (A i &&& vis)) := Lib.hid (by
                have := HC.out
                rw [List.take_length, HC2.out] at this; exact this)
              rw [← HC3.out] at HMS
              clear HC HC3 hTr
              have cgi := ((hB.keep hbr hB.lt).cell i).trans (farr_at n _ hii)
              generalize vis.testBit i = gi at cgi HMS
              cases gi
              · by_cases hlt : b2 < (c : Int)
                · have d1 : decide (b2 < (c : Int)) = true := by simpa using hlt
                  rw [if_pos ⟨rfl, hlt⟩] at HMS
                  go_wp2
                  go_roundw
                  case rel => exact ⟨i + 1, by go_num, by omega, by rw [HMS.out], by rw [HMS.out], hbr⟩
                  case measure => simp [intOf]; omega
                · have d1 : decide (b2 < (c : Int)) = false := by simpa using hlt
                  rw [if_neg (fun h => hlt h.2)] at HMS
                  go_wp2
                  go_roundw
                  case rel => exact ⟨i + 1, by go_num, by omega, by rw [HMS.out], by rw [HMS.out], hbr⟩
                  case measure => simp [intOf]; omega
              · rw [if_neg (fun h => by cases h.1)] at HMS
                go_wp2
                go_roundw
                case rel => exact ⟨i + 1, by go_num, by omega, by rw [HMS.out], by rw [HMS.out], hbr⟩
                case measure => simp [intOf]; omega
        · obtain rfl : i = n := by omega
          have hib : decide ((i : Int) < (i : Int)) = false := by simp
          obtain ⟨bc, hbe⟩ := HBE.out
          rw [hbe]
          clear hbe HBE
          simp only
          have hBr := hB.keep hbr hB.lt
          have hownr := own_below hown hbr (Nat.le_refl _)
          have cv := (hBr.cell v).trans (farr_at i _ hv)
          have fv := hBr.frozen v
          have v0 : (0 : Int) ≤ (v : Int) := by omega
          have v1 : (v : Int) < (i : Int) := by omega
          have hB3 := hBr.set v (.bool true)
          rw [farr_upd (fun x : Bool => Value.bool x)] at hB3
          have hB4 : Blk (wr.setCell ⟨w.heap.size, v, none⟩ (.bool true)) w.heap.size 4 (farr i fun u => .bool ((bset vis v).testBit u)) := by
            have e : (farr i fun u => Value.bool ((bset vis v).testBit u)) = farr i fun u => Value.bool (updF (fun u => vis.testBit u) v true u) := farr_congr (fun u _ => by
              rw [bset_bit]
              unfold updF
              by_cases e : u = v
              · simp [e]
              · have : ¬ v = u := fun h => e h.symm
                simp [e, this])
            rw [e]; exact hB3
          have hown3 := ownsRow_setCell_below hownr (a := ⟨w.heap.size, v, none⟩) (by simp) (.bool true)
          have hb3 : Below w.heap.size w (wr.setCell ⟨w.heap.size, v, none⟩ (.bool true)) := (below_all hb hbr).setCell (by simp) _
          have hlt3 := hB4.lt
          clear hB3
          go_upto_region 17 with fail
          generalize wr.setCell ⟨w.heap.size, v, none⟩ (.bool true) = W3 at hB4 hown3 hb3 hlt3 ⊢
          go_wp2_with (at_builtin; refine wpList_append_own _ rfl _ _ 40 rfl (w.heap.size + 1) 3 i0 (.int .i64 0) 1 8 Tryd.underlying40 hi hz0 hz1 hz2 rfl (by decide) (.slice V o.length d) o.length (o.map vn) rfl (hown3.alloc _) ⟨W3.heap.size, 0, none⟩ 1 1 [.int .i64 v] rfl rfl ?c1 ?c2 ?c3 ?c4 ?c5 ?_
                       case c1 => exact cell_one_new _ _ _
                       case c2 => simp [Value.oneCell']
                       case c3 => simp only [maxLen]; omega
                       case c4 => omega
                       case c5 => simp; omega
                       intro v' w2 hown' hgrow _
                       obtain ⟨V2, c2, hv2, hle2, _⟩ := Sl.of_own hown'
                       subst hv2)
          have hlen : (o ++ [v]).length = o.length + 1 := by simp
          go_roundw
          case rel =>
            refine ⟨V2, c2, o ++ [v], bset vis v, by rw [hlen], by rw [hlen]; exact hle2, by rw [hlen]; omega, HNX, ?_, ?_, ?_⟩
            · rw [hlen]; simpa [vn] using hown'
            · exact (hB4.alloc _).grown hgrow (own_blk_ne hown3 hB4 (by decide))
            · exact (hb3.alloc hb3.size _).grown hgrow (by simp; omega) (fun q hq => by have := (hown3.lt q hq).1; omega)
          case measure => simp [slen]; omega
    · have hob : decide ((o.length : Int) < (n : Int)) = false := by simp; omega
      have hon2 : o.length = n := by omega
      have HSE : Hid (search A n = o) := Lib.hid (by
        have := HO.out
        rw [hon2] at this
        unfold search
        rw [this])
      go_wp2
      go_ret
      rw [HSE.out]
      exact ⟨V, d, rfl, Sl.own hown, hb⟩
end Go.Proofs.Tg
end

section
/- Components once more, with the order in which the components come. -/
namespace Go.Gr
open Go.Jt
theorem mem_vertsN {s v : Nat} (hs : s < 18446744073709551616) : (v : Int) ∈ vertsI s ↔ s.testBit v = true := by
  rw [mem_vertsI]
  exact ⟨fun h => by simpa using h.2.2, fun hb => ⟨by omega, by have := bit_lt hs hb; omega, by simpa using hb⟩⟩
theorem made_skip {es : List (Int × Int)} {n k seen : Nat} {d : List Nat} (_hk : k < 64) (hM : MadeL es k (d.map vertsI)) (hO : OInv es n k seen d) (hs : seen.testBit k = true) : MadeL es (k + 1) (d.map vertsI) := by
  refine .skip hM ?_
  obtain ⟨s, h1, h2⟩ := (hO.bits k).1 hs
  exact ⟨vertsI s, List.mem_map.2 ⟨s, h1, rfl⟩, (mem_vertsN (hO.cls s h1).1).2 h2⟩
theorem made_add {es : List (Int × Int)} {n k seen comp : Nat} {d : List Nat} (_hk : k < 64) (hM : MadeL es k (d.map vertsI)) (hO : OInv es n k seen d) (hs : seen.testBit k = false) (hc : comp < 18446744073709551616) (hcc : ∀ v, comp.testBit v = true ↔ Conn (Rel es) k v) : MadeL es (k + 1) ((d ++ [comp]).map vertsI) := by
  rw [List.map_append]
  refine .add hM (fun m hm hk => ?_) (vertsZ_asc comp) (fun x => ?_)
  · obtain ⟨s, h1, rfl⟩ := List.mem_map.1 hm
    have := (hO.bits k).2 ⟨s, h1, (mem_vertsN (hO.cls s h1).1).1 hk⟩
    rw [hs] at this; cases this
  · constructor
    · intro hx
      have h1 := mem_vertsI.1 hx
      exact ⟨x.toNat, by omega, (hcc _).1 h1.2.2⟩
    · rintro ⟨v, rfl, hv⟩
      exact (mem_vertsN hc).2 ((hcc v).2 hv)
end Go.Gr
namespace Go.Proofs.Tg
open Go.RowKit Go.Gr
set_option maxHeartbeats 4000000
set_option maxRecDepth 100000
def RetMadeL (n : Nat) (es : List (Int × Int)) (w : World) (e : Ending) (w' : World) : Prop :=
  ∃ ls V d, MadeL es n ls ∧ e = .returned (.tuple #[.slice V (List.length ls) d, .int .i64 0]) ∧ Lists w' V ls ∧ ls.length ≤ n ∧ (∀ l ∈ ls, l.length ≤ 64) ∧ Below w.heap.size w w'
theorem components_made (n : Nat) (E : Option Addr) (c : Nat) (es : List (Int × Int)) (w : World) (hE : EdgesAt w E es) (hl : es.length ≤ 1000000) (hv : valid n es) (hT : Tab w) :
    Calls Tryd.prog 30 #[.agg #[.int .i64 n, .slice E es.length c]] w (RetMadeL n es w) := by
  obtain ⟨j0, hj, hjz0, hjz1, hjz2⟩ := info_parts rows_info
  have hr := read_all n E c es true (w.alloc (.cells #[.int .i64 n, .slice E es.length c] 25)) (hE.keep ((Below.refl _ _).alloc (Nat.le_refl _) _)) hl (by simp [hv])
  have hsm := (readAll_small es n hv).1
  have hn : n ≤ 64 := by have := hv.2.1; omega
  have hbA : Below w.heap.size w (w.alloc (.cells #[.int .i64 n, .slice E es.length c] 25)) := (Below.refl _ _).alloc (Nat.le_refl _) _
  have hB := Blk.new w 25 #[.int .i64 n, .slice E es.length c]
  have HR := Lib.hid hr
  have HB := Lib.hid hB
  have HV := Lib.hid hv
  clear hr hv hB
  go_enter Tryd.func30, Tryd.ntmps30
  go_wp2_with (first
    | (go_at_call 47; refine HR.out.mono ?_; rintro e w1 ⟨A, hAs, rfl, hAe, hb1⟩; obtain rfl := hAe rfl; clear hAe)
    | (refine adj_alloc _ _ _ _ ?_)
    | (refine wpList_store_row rfl 56 (.tmp 4) (.tmp 17) rfl w1.heap.size (adjA (readAll es)) rfl rfl 56 (adjA fun _ => 0) (Blk.new w1 56 _) (size56 _) (by simp only [adjA_size]) (adj_one _) ?_
       have hz1 : w.heap.size + 1 ≤ w1.heap.size := by have := hb1.size; simp at this; omega
       have hA1 := blk_setRow (Blk.new w1 56 (adjA fun _ => 0)) (adjA (readAll es))
       have hB1 := blk_setRow_far (Blk.alloc (HB.out.keep hb1 (Blk.lt HB.out)) (.cells (adjA fun _ => 0) 56)) (g' := w1.heap.size) (by omega) (adjA (readAll es))
       have hbw := below_setRow ((hbA.trans (hb1.mono (by simp))).alloc (by omega) (.cells (adjA fun _ => 0) 56)) (g := w1.heap.size) (by omega) (adjA (readAll es))
       have c0 := hB1.cell 0
       simp at c0
       generalize (w1.alloc (.cells (adjA fun _ => 0) 56)).setRow w1.heap.size (adjA (readAll es)) = W at hA1 hB1 hbw c0 ⊢
       generalize w1.heap.size = g at hA1 hz1 ⊢
       clear hb1))
  clear HR HB hbA c0 hB1
  have HA : Hid (∀ i, readAll es i < 18446744073709551616) := Lib.hid hsm
  go_loopw [23, 7, 6] (fun i t v wr => ∃ (k seen m : Nat) (R : Option Addr) (cr : Nat) (F : Nat → Option Addr × Nat) (ls : Nat → List Int) (d : List Nat), i = .int .i64 k ∧ k ≤ n ∧ t = .int .u64 seen ∧ seen < 18446744073709551616 ∧ v = .slice R m cr ∧ m ≤ cr ∧ m ≤ k ∧
      wr.ownsRow W.heap.size 40 1 (.slice R m cr) m ((List.range m).map (enc F ls)) ∧ RowsIn wr W.heap.size m F ls ∧ Hid (OInv es n k seen d) ∧ Hid ((List.range m).map ls = d.map vertsI) ∧ Hid (MadeL es k (d.map vertsI)) ∧ Below W.heap.size W wr) (fun i _ _ _ => n - (intOf i).toNat)
  case atStart => exact ⟨0, 0, 0, none, 0, fun _ => (none, 0), fun _ => [], [], rfl, Nat.zero_le _, rfl, by omega, rfl, Nat.le_refl _, Nat.le_refl _, World.ownsRow_nil _ _ _ _, fun i hi => by omega, Lib.hid ⟨by simp, by simp, by simp, fun v hv => by omega⟩, Lib.hid rfl, Lib.hid MadeL.zero, Below.refl _ _⟩
  case round =>
    obtain ⟨wo, rfl⟩ : ∃ wo : World, wo = wr := ⟨_, rfl⟩
    obtain ⟨k, seen, m, R, cr, F, ls, d, rfl, hk, rfl, hsl, rfl, hmc, hmk, hR, hRows, HO, HL, HM, hb⟩ := hrel
    by_cases hkn : k < n
    · have hkb : decide ((k : Int) < (n : Int)) = true := by simp; omega
      cases hsk : seen.testBit k
      · have HSK := Lib.hid hsk
        have hgW := Blk.lt hA1
        have hA2 := hA1.keep hb hgW
        clear hsk
        go_wp2_with (first
          | (go_at_call 60; refine (has_any _ _ _ hsl (by omega)).mono ?_; rintro e w' ⟨he, rfl⟩; rw [HSK.out] at he; subst he)
          | (go_at_call 51; refine (with_zero _ _ (by omega)).mono ?_; rintro e w' ⟨rfl, rfl⟩))
        have hb0 : bset 0 k < 18446744073709551616 := bset_lt (by omega) (by omega)
        have HI0 := Lib.hid (cinv_start es k)
        generalize bset 0 k = b0 at hb0 HI0 ⊢
        go_loopw [10, 9] (fun f s wr => ∃ fresh comp : Nat, f = .int .u64 fresh ∧ s = .int .u64 comp ∧ fresh < 18446744073709551616 ∧ comp < 18446744073709551616 ∧ Hid (CInv es k comp fresh) ∧ Below wo.heap.size wo wr) (fun f s _ => 2 * (64 - size (intOf s).toNat) + (if (intOf f).toNat = 0 then 0 else 1))
        case atStart => exact ⟨b0, b0, rfl, rfl, hb0, hb0, HI0, Below.refl _ _⟩
        case round =>
          clear HI0 hb0
          obtain ⟨fresh, comp, rfl, rfl, hfl, hcl, HI, hb2⟩ := hrel
          by_cases hf0 : fresh = 0
          · subst hf0
            have hbe : (((0 : Nat) : Int) != 0) = false := rfl
            have HE := Lib.hid (cinv_end HI.out)
            have hor := u64_or_nat seen comp hsl hcl
            have hsz := hb.size
            have hsz2 := hb2.size
            clear HI
            go_wp2_with (first
              | (go_at_call 54; refine (verts_any _ _ hcl (hT.below (below_all (below_all hbw hb) hb2) hT.1)).mono ?_; rintro e w6 ⟨V3, c3, rfl, hVc3, hV3, hb6⟩
                 have hR6 := own_below (own_below hR hb2 (Nat.le_refl _)) hb6 (Nat.le_refl _)
                 have hz6 : W.heap.size ≤ w6.heap.size := by have := hb6.size; omega
                 clear hVc3)
              | (at_builtin; refine wpList_append_own _ rfl _ _ 34 rfl W.heap.size 40 j0 (.slice none 0 0) 1 24 Tryd.underlying34 hj hjz0 hjz1 hjz2 rfl (by decide) (.slice R m cr) m _ rfl (hR6.alloc _) ⟨w6.heap.size, 0, none⟩ 1 1 [.slice V3 (verts comp).length c3] rfl rfl ?c1 ?c2 ?c3 ?c4 ?c5 ?_
                 case c1 => exact cell_one_new _ _ _
                 case c2 => simp [Value.oneCell']
                 case c3 => simp only [maxLen]; omega
                 case c4 => omega
                 case c5 => simp; omega
                 intro v' w7 hR7 hg7 _
                 obtain ⟨R2, cr2, hv2, hle2, _⟩ := Sl.of_own hR7
                 subst hv2))
            go_roundw
            case rel =>
              have hVI : ((verts comp).map vn) = (vertsI comp).map vi := by simp [vertsI, vn, vi]
              have hvl : (verts comp).length = (vertsI comp).length := by simp [vertsI]
              have hV7 : w7.ownsRow W.heap.size 3 1 (.slice V3 (vertsI comp).length c3) (vertsI comp).length ((vertsI comp).map vi) := by
                rw [← hvl, ← hVI]
                exact own_base ((hV3.alloc (.cells #[.slice V3 (verts comp).length c3] 40)).kept hg7 (own_ne hV3 hR6 (by decide))) (by omega)
              have hRw0 : RowsIn w6 W.heap.size m F ls := (hRows.below hb2 (Nat.le_refl _)).below hb6 (Nat.le_refl _)
              have hRw : RowsIn w7 W.heap.size m F ls := (hRw0.alloc (.cells #[.slice V3 (verts comp).length c3] 40)).kept hg7 (fun i hi => own_ne (hRw0 i hi) hR6 (by decide))
              refine ⟨k + 1, seen ||| comp, m + 1, R2, cr2, snocF F m (V3, c3), snocF ls m (vertsI comp), d ++ [comp], by go_num, by omega, rfl, or_lt hsl hcl, rfl, hle2, by omega, ?_, RowsIn.snoc (x := (V3, c3)) hRw hV7, Lib.hid (oinv_add HV.out HO.out hkn HSK.out hcl HE.out), Lib.hid ?_, Lib.hid (made_add (by omega) HM.out HO.out HSK.out hcl HE.out), ?_⟩
              · rw [map_snoc, ← hvl]; exact hR7
              · rw [List.range_succ, List.map_append, List.map_append, ← HL.out]
                congr 1
                · apply List.map_congr_left
                  intro i hi
                  have : i < m := by simpa using hi
                  simp [snocF]; omega
                · simp [snocF]
              · exact ((below_all (below_all hb hb2) hb6).alloc (by have := hb6.size; omega) _).grown hg7 (by simp; omega) (fun q hq => by have := (hR6.lt q hq).1; omega)
            case measure => simp [intOf]; omega
          · have hbe : ((fresh : Int) != 0) = true := by simp; exact hf0
            have hA3 := hA2.keep hb2 (Nat.lt_of_lt_of_le hgW hb.size)
            have hsz := hb.size
            have hsz2 := hb2.size
            have HF0 := Lib.hid hf0
            clear hf0
            go_wp2_with (go_at_call 54; refine (verts_any _ _ hfl (hT.below (below_all (below_all hbw hb) hb2) hT.1)).mono ?_; rintro e w6 ⟨V3, c3, rfl, hVc3, hV3, hb6⟩)
            have hA6 := hA3.keep hb6 (by omega)
            have hV6 := Sl.own hV3
            have HVM : Hid (∀ x ∈ verts fresh, x < 64) := Lib.hid (fun x hx => (mem_verts.1 hx).1)
            have HVL : Hid ((verts fresh).length ≤ 64) := Lib.hid (size_le fresh)
            obtain ⟨vl, hvl⟩ : ∃ vl, verts fresh = vl := ⟨_, rfl⟩
            rw [hvl] at hV6 HVM HVL
            have HVE := Lib.hid hvl
            rw [hvl]
            clear hvl hV3 hA3 hVc3
            have hvl64 := HVL.out
            go_loop [38, 11] (fun i x => ∃ q : Nat, i = .int .i64 q ∧ q ≤ vl.length ∧ x = .int .u64 (orAll (readAll es) (vl.take q) : Nat)) (fun i _ => vl.length - (intOf i).toNat)
            case atStart => exact ⟨0, rfl, Nat.zero_le _, rfl⟩
            case round =>
              obtain ⟨q, rfl, hq, rfl⟩ := hrel
              by_cases hql : q < vl.length
              · obtain ⟨ad, rfl, hcx⟩ := Nats.at hV6 hql
                have HT : Hid (orAll (readAll es) (vl.take (q + 1)) = orAll (readAll es) (vl.take q) ||| readAll es vl[q]) := Lib.hid (by rw [List.take_succ_eq_append_getElem hql, orAll_snoc])
                have hx64 := HVM.out vl[q] (List.getElem_mem _)
                have hol := orAll_lt HA.out (vl.take q)
                generalize vl[q] = x at hcx HT hx64
                have hcA := AdjAt.cell hA6 hx64
                have hox := u64_or_nat _ _ hol (HA.out x)
                generalize orAll (readAll es) (vl.take q) = o at HT hol hox ⊢
                generalize readAll es x = ax at HT hcA hox
                go_wp2
                go_round
                case rel => exact ⟨q + 1, by go_num, by omega, by rw [HT.out]⟩
                case measure => simp [intOf]; omega
              · obtain rfl : q = vl.length := by omega
                rw [List.take_length]
                have HI2 := cinv_step HV.out hcl hfl HI.out
                rw [HVE.out] at HI2
                have hol := orAll_lt HA.out vl
                have HI2 := Lib.hid HI2
                generalize orAll (readAll es) vl = o at HI2 hol ⊢
                have hor := u64_or_nat comp o hcl hol
                have han := u64_andNot_nat o comp hol hcl
                have hanl : andn o comp < 18446744073709551616 := by unfold andn; exact and_lt _ hol
                have hoc := or_lt hcl hol
                have HME : Hid (2 * (64 - size (comp ||| o)) + (if andn o comp = 0 then 0 else 1) < 2 * (64 - size comp) + 1) := Lib.hid (by
                  by_cases e : andn o comp = 0
                  · rw [if_pos e]
                    have : size comp ≤ size (comp ||| o) := by
                      unfold size verts
                      exact Go.Jt.len_mono (fun x _ h => by rw [Nat.testBit_or, h]; rfl)
                    omega
                  · rw [if_neg e]
                    have := size_grows (a := comp) (b := andn o comp) (c := comp ||| o) e hanl (fun j h => ((fresh_bit hol hcl).1 h).2) (fun j => by
                      rw [Nat.testBit_or, Bool.or_eq_true, fresh_bit hol hcl]
                      constructor
                      · rintro (h | h)
                        · exact .inl h
                        · by_cases h2 : comp.testBit j = true
                          · exact .inl h2
                          · exact .inr ⟨h, by simpa using h2⟩
                      · rintro (h | h)
                        · exact .inl h
                        · exact .inr h.1)
                    have h3 := size_le (comp ||| o)
                    omega)
                clear HI
                go_wp2
                go_roundw
                case rel => exact ⟨andn o comp, comp ||| o, rfl, rfl, hanl, hoc, HI2, below_all hb2 hb6⟩
                case measure =>
                  have h1 := HME.out
                  have h2 := HF0.out
                  unfold andn at h1
                  simp only [intOf] at *
                  simp [h2]
                  exact h1
      · have HSK := Lib.hid hsk
        clear hsk
        go_wp2_with (go_at_call 60; refine (has_any _ _ _ hsl (by omega)).mono ?_; rintro e w' ⟨he, rfl⟩; rw [HSK.out] at he; subst he)
        go_roundw
        case rel => exact ⟨k + 1, seen, m, R, cr, F, ls, d, by go_num, by omega, rfl, hsl, rfl, hmc, by omega, hR, hRows, Lib.hid (oinv_skip HO.out HSK.out), HL, Lib.hid (made_skip (by omega) HM.out HO.out HSK.out), hb⟩
        case measure => simp [intOf]; omega
    · obtain rfl : k = n := by omega
      have hkb : decide ((k : Int) < (k : Int)) = false := by simp
      go_wp2
      go_ret2
      have hLs := lists_of_rows hR hRows
      refine ⟨(List.range m).map ls, R, cr, by rw [HL.out]; exact HM.out, ?_, hLs, by simpa using hmk, ?_, below_all hbw hb⟩
      · rw [List.length_map, List.length_range]
        rfl
      · intro l hl
        rw [HL.out] at hl
        obtain ⟨s, _, rfl⟩ := List.mem_map.1 hl
        show ((verts s).map _).length ≤ 64
        rw [List.length_map]
        exact size_le s
end Go.Proofs.Tg
end

section
/- The reference's Parts. -/
namespace Go.Gr
open Go.Jt
structure FInv (t : Nat → Nat → Bool) (n k : Nat) (f : Nat → Bool) (st : List Nat) : Prop where
  start : f k = true
  conn : ∀ v, f v = true → Conn (fun a b => t a b = true) k v
  on : ∀ v ∈ st, v < n ∧ f v = true
  closed : ∀ v, f v = true → v ∉ st → ∀ u, u < n → t v u = true → f u = true
structure FMid (t : Nat → Nat → Bool) (n k : Nat) (f : Nat → Bool) (st : List Nat) (x q : Nat) : Prop where
  start : f k = true
  conn : ∀ v, f v = true → Conn (fun a b => t a b = true) k v
  on : ∀ v ∈ st, v < n ∧ f v = true
  fx : f x = true
  closed : ∀ v, f v = true → v ∉ st → v ≠ x → ∀ u, u < n → t v u = true → f u = true
  px : ∀ u, u < q → t x u = true → f u = true
theorem finv_start (t : Nat → Nat → Bool) {n k : Nat} (hk : k < n) : FInv t n k (updF (fun _ => false) k true) [k] := by
  have h : ∀ v, updF (fun _ => false) k true v = true ↔ v = k := by
    intro v; unfold updF; by_cases e : v = k <;> simp [e]
  refine ⟨(h k).2 rfl, fun v hv => ?_, fun v hv => ?_, fun v hv hn => ?_⟩
  · rw [(h v).1 hv]; exact Conn.refl _
  · simp at hv; subst hv; exact ⟨hk, (h v).2 rfl⟩
  · exact absurd (by rw [(h v).1 hv]; simp) hn
theorem fmid_start {t : Nat → Nat → Bool} {n k : Nat} {f : Nat → Bool} {l : List Nat} {x : Nat} (h : FInv t n k f (l ++ [x])) : FMid t n k f l x 0 :=
  ⟨h.start, h.conn, fun v hv => h.on v (by simp [hv]), (h.on x (by simp)).2, fun v hv h1 h2 => h.closed v hv (by simp [h1, h2]), fun u hu => by omega⟩
theorem fmid_skip {t : Nat → Nat → Bool} {n k : Nat} {f : Nat → Bool} {l : List Nat} {x q : Nat} (h : FMid t n k f l x q) (hq : (t x q && !f q) = false) : FMid t n k f l x (q + 1) :=
  ⟨h.start, h.conn, h.on, h.fx, h.closed, fun u hu ht => by
    by_cases e : u = q
    · subst e
      cases hf : f u
      · rw [ht, hf] at hq; cases hq
      · rfl
    · exact h.px u (by omega) ht⟩
theorem fmid_add {t : Nat → Nat → Bool} {n k : Nat} {f : Nat → Bool} {l : List Nat} {x q : Nat} (h : FMid t n k f l x q) (hqn : q < n) (ht : t x q = true) : FMid t n k (updF f q true) (l ++ [q]) x (q + 1) := by
  have hm : ∀ v, f v = true → updF f q true v = true := by
    intro v hv; unfold updF; by_cases e : v = q <;> simp [e, hv]
  have hu : ∀ v, updF f q true v = true → v = q ∨ f v = true := by
    intro v; unfold updF; by_cases e : v = q <;> simp [e]
  refine ⟨hm _ h.start, fun v hv => ?_, fun v hv => ?_, hm _ h.fx, fun v hv h1 h2 u hun htu => ?_, fun u hun htu => ?_⟩
  · rcases hu v hv with e | e
    · rw [e]; exact (h.conn x h.fx).trans (Conn.step ht)
    · exact h.conn v e
  · rcases List.mem_append.1 hv with e | e
    · exact ⟨(h.on v e).1, hm v (h.on v e).2⟩
    · simp at e; subst e; exact ⟨hqn, by unfold updF; simp⟩
  · have h3 : v ≠ q := fun e => h1 (by simp [e])
    exact hm u (h.closed v ((hu v hv).resolve_left h3) (fun e => h1 (by simp [e])) h2 u hun htu)
  · by_cases e : u = q
    · subst e; unfold updF; simp
    · exact hm u (h.px u (by omega) htu)
theorem finv_of {t : Nat → Nat → Bool} {n k : Nat} {f : Nat → Bool} {l : List Nat} {x : Nat} (h : FMid t n k f l x n) : FInv t n k f l :=
  ⟨h.start, h.conn, h.on, fun v hv h1 u hu ht => by
    by_cases e : v = x
    · subst e; exact h.px u hu ht
    · exact h.closed v hv h1 e u hu ht⟩
theorem finv_end {t : Nat → Nat → Bool} {n k : Nat} {f : Nat → Bool} (hN : Nice t n) (h : FInv t n k f []) : ∀ v, f v = true ↔ Conn (fun a b => t a b = true) k v :=
  fun v => ⟨h.conn v, fun hc => hc (fun x => f x = true) h.start (fun x y hx hxy => h.closed x hx (by simp) y (hN.lt x y hxy).2 hxy)⟩
def unm (f : Nat → Bool) (n : Nat) : Nat := ((List.range n).filter fun i => !f i).length
theorem unm_add {f : Nat → Bool} {n q : Nat} (hq : q < n) (hf : f q = false) : unm (updF f q true) n < unm f n := by
  unfold unm
  refine Go.Chordal.filter_len_lt _ _ _ (fun x _ hx => ?_) q (by simpa using hq) (by simp [hf]) (by simp [updF])
  unfold updF at hx
  by_cases e : x = q
  · simp [e] at hx
  · simpa [e] using hx
theorem snoc_cases (st : List Nat) : st = [] ∨ ∃ l x, st = l ++ [x] := by
  by_cases h : st = []
  · exact .inl h
  · exact .inr ⟨st.dropLast, st.getLast h, (List.dropLast_concat_getLast h).symm⟩
theorem unm_le (f : Nat → Bool) (n : Nat) : unm f n ≤ n := by
  unfold unm
  exact Nat.le_trans (List.length_filter_le _ _) (by simp)
end Go.Gr
namespace Go.Proofs.Tg
open Go.RowKit Go.Gr
set_option maxHeartbeats 4000000
set_option maxRecDepth 100000
def isF : Option Value → Bool
  | some (.bool false) => true
  | _ => false
def unmW (w : World) (g n : Nat) : Nat := ((List.range n).filter fun i => isF (w.cell? ⟨g, i, none⟩)).length
theorem unmW_blk {w : World} {g n : Nat} {f : Nat → Bool} (h : Blk w g 4 (farr n fun v => .bool (f v))) : unmW w g n = unm f n := by
  unfold unmW unm
  rw [List.filter_congr (fun i hi => ?_)]
  rw [(h.cell i).trans (farr_at n _ (by simpa using hi))]
  cases f i <;> rfl
structure Ph (n base : Nat) (es : List (Int × Int)) (w : World) (k m cr : Nat) (R : Option Addr) (F : Nat → Option Addr × Nat) (ls : Nat → List Int) (seen : Nat → Bool) (wr : World) : Prop where
  mc : m ≤ cr
  mle : m ≤ k
  own : wr.ownsRow base 40 1 (.slice R m cr) m ((List.range m).map (enc F ls))
  rows : RowsIn wr base m F ls
  blk : Blk wr w.heap.size 4 (farr n fun v => .bool (seen v))
  below : Below w.heap.size w wr
  made : MadeL es k ((List.range m).map ls)
  iff : ∀ v, v < n → (seen v = true ↔ ∃ l ∈ (List.range m).map ls, (v : Int) ∈ l)
  few : ∀ l ∈ (List.range m).map ls, l.length ≤ 64
def RetParts (n : Nat) (es : List (Int × Int)) (w : World) (e : Ending) (w' : World) : Prop :=
  ∃ ls V d, MadeL es n ls ∧ e = .returned (.slice V (List.length ls) d) ∧ Lists w' V ls ∧ Below w.heap.size w w'
theorem rparts_any (g n : Nat) (es : List (Int × Int)) (w : World) (hT : TableAt w g n (readT es)) (hv : valid n es) :
    Calls Tryd.prog 65 #[.slice (some ⟨g, 0, none⟩) n n] w (RetParts n es w) := by
  have hn : n ≤ 64 := by have := hv.2.1; omega
  obtain ⟨j0, hj, hjz0, hjz1, hjz2⟩ := info_parts rows_info
  obtain ⟨i0, hi, hz0, hz1, hz2⟩ := info_parts int_info
  have m1 := fun W => make_bools n (by omega) W
  have HN := Lib.hid (valid_nice hv)
  have HV := Lib.hid hv
  clear hv
  go_enter Tryd.func65, Tryd.ntmps65
  go_wp2
  have hB0 := Blk.new w 4 (farr n fun _ => .bool false)
  have hb0 : Below w.heap.size w (w.alloc (.cells (farr n fun _ => .bool false) 4)) := (Below.refl _ _).alloc (Nat.le_refl _) _
  generalize w.alloc (.cells (farr n fun _ => .bool false) 4) = W at hB0 hb0 ⊢
  have M1 := Lib.hid m1
  clear m1
  go_loopw [5, 3] (fun x v wr => ∃ (k m cr : Nat) (R : Option Addr) (F : Nat → Option Addr × Nat) (ls : Nat → List Int) (seen : Nat → Bool), x = .int .i64 k ∧ k ≤ n ∧ v = .slice R m cr ∧ Hid (Ph n (w.heap.size + 1) es w k m cr R F ls seen wr)) (fun x _ _ => n - (intOf x).toNat)
  case atStart => exact ⟨0, 0, 0, none, fun _ => (none, 0), fun _ => [], fun _ => false, rfl, Nat.zero_le _, rfl, Lib.hid ⟨Nat.le_refl _, Nat.le_refl _, World.ownsRow_nil _ _ _ _, fun i hi => by omega, hB0, hb0, MadeL.zero, fun v _ => by simp, by simp⟩⟩
  case round =>
    clear hB0 hb0
    obtain ⟨wo, rfl⟩ : ∃ wo : World, wo = wr := ⟨_, rfl⟩
    obtain ⟨k, m, cr, R, F, ls, seen, rfl, hk, rfl, HP⟩ := hrel
    have hb := HP.out.below
    have hB := HP.out.blk
    have hTo := hT.keep hb (Nat.le_refl _)
    have hBlt : w.heap.size < wo.heap.size := hB.lt
    by_cases hkn : k < n
    · have hkb : decide ((k : Int) < (n : Int)) = true := by simp; omega
      have ck := (hB.cell k).trans (farr_at n _ hkn)
      have k0 : (0 : Int) ≤ (k : Int) := by omega
      have k1 : (k : Int) < (n : Int) := by omega
      obtain ⟨sk, hsk⟩ : ∃ sk, seen k = sk := ⟨_, rfl⟩
      rw [hsk] at ck
      have HSK := Lib.hid hsk
      clear hsk
      cases sk
      · have m1 := M1.out
        have hC0 := (Blk.new wo 4 (farr n fun _ => .bool false)).alloc (.cells #[.int .i64 k] 3)
        have cc := (hC0.cell k).trans (farr_at n _ hkn)
        have cf := hC0.frozen k
        go_upto_region 10 with fail
        clear m1 cc cf hC0
        have e0 : (farr n fun _ => Value.bool false).setIfInBounds k (Value.bool true) = farr n fun v => .bool (updF (fun _ => false) k true v) := farr_upd (fun x : Bool => Value.bool x) (fun _ => false) k true
        rw [e0]
        clear e0
        have hu : unm (updF (fun _ => false) k true) n + 1 ≤ n := by
          have h1 := unm_add (f := fun _ => false) hkn rfl
          have h2 := unm_le (fun _ => false) n
          omega
        have HF := Lib.hid (finv_start (readT es) hkn)
        generalize updF (fun _ => false) k true = f0 at HF hu ⊢
        have hC := (Blk.new wo 4 (farr n fun v => .bool (f0 v))).alloc (.cells #[.int .i64 k] 3)
        have hS := World.ownsRow_lit (base := wo.heap.size + 1) (e := 3) (size := 1) (wo.alloc (.cells (farr n fun v => .bool (f0 v)) 4)) #[.int .i64 k] 1 (by simp) (by simp [maxLen]) (by simp)
        rw [show (wo.alloc (.cells (farr n fun v => .bool (f0 v)) 4)).heap.size = wo.heap.size + 1 from by simp] at hS
        have hbW : Below wo.heap.size wo ((wo.alloc (.cells (farr n fun v => .bool (f0 v)) 4)).alloc (.cells #[.int .i64 k] 3)) := ((Below.refl _ _).alloc (Nat.le_refl _) _).alloc (by simp) _
        generalize (wo.alloc (.cells (farr n fun v => .bool (f0 v)) 4)).alloc (.cells #[.int .i64 k] 3) = W2 at hC hS hbW ⊢
        go_loopw [7] (fun s wr => ∃ (f : Nat → Bool) (st : List Nat) (V : Option Addr) (d : Nat), s = .slice V st.length d ∧ st.length ≤ d ∧ st.length + unm f n ≤ n ∧ Hid (FInv (readT es) n k f st) ∧ wr.ownsRow (wo.heap.size + 1) 3 1 (.slice V st.length d) st.length (st.map vn) ∧ Blk wr wo.heap.size 4 (farr n fun v => .bool (f v)) ∧ Below wo.heap.size wo wr) (fun s wr => 2 * unmW wr wo.heap.size n + slen s)
        case atStart => exact ⟨f0, [k], some ⟨wo.heap.size + 1, 0, none⟩, 1, rfl, by simp, by simp; omega, HF, hS, hC, hbW⟩
        case round =>
          clear hC hS hbW HF hu
          obtain ⟨wf, rfl⟩ : ∃ wf : World, wf = wr := ⟨_, rfl⟩
          obtain ⟨f, st, V, d, rfl, hsd, hsu, HF, hS, hC, hbr⟩ := hrel
          rcases snoc_cases st with rfl | ⟨l, x, rfl⟩
          · have HE := Lib.hid (finv_end HN.out HF.out)
            have hdb : decide ((0 : Int) < (([] : List Nat).length : Int)) = false := by simp
            have hp := HP.out
            have hRf := own_below hp.own hbr (Nat.le_refl _)
            have hRowsf : RowsIn wf (w.heap.size + 1) m F ls := hp.rows.below hbr (Nat.le_refl _)
            have hBf := hB.keep hbr hBlt
            have hbf : Below w.heap.size w wf := below_all hb hbr
            have hszf := hbr.size
            have HRB : Hid (∀ i, i < m → ∀ p, (enc F ls i).ownBlock = some p → p < wo.heap.size) := Lib.hid (fun i hi p hq => ((hp.rows i hi).lt p hq).2)
            have hmk := hp.mle
            have hmc := hp.mc
            have HPP : Hid (MadeL es k ((List.range m).map ls) ∧ (∀ v, v < n → (seen v = true ↔ ∃ l ∈ (List.range m).map ls, (v : Int) ∈ l)) ∧ ∀ l ∈ (List.range m).map ls, l.length ≤ 64) := Lib.hid ⟨hp.made, hp.iff, hp.few⟩
            clear HF hS hp HP hB hTo
            go_wp2
            go_loopw [11, 10] (fun y s wr => ∃ (q : Nat) (V : Option Addr) (d : Nat) (l2 : List Nat), y = .int .i64 q ∧ q ≤ n ∧ s = .slice V l2.length d ∧ l2.length ≤ d ∧ l2.length ≤ q ∧ Hid (l2 = (List.range q).filter f) ∧ wr.ownsRow (wo.heap.size + 1) 3 1 (.slice V l2.length d) l2.length (l2.map vn) ∧ Blk wr w.heap.size 4 (farr n fun v => .bool (seen v || (decide (v < q) && f v))) ∧ Blk wr wo.heap.size 4 (farr n fun v => .bool (f v)) ∧ Hid (wr.ownsRow (w.heap.size + 1) 40 1 (.slice R m cr) m ((List.range m).map (enc F ls)) ∧ RowsIn wr (w.heap.size + 1) m F ls) ∧ Below w.heap.size w wr) (fun y _ _ => n - (intOf y).toNat)
            case atStart =>
              refine ⟨0, none, 0, [], rfl, Nat.zero_le _, rfl, Nat.le_refl _, Nat.le_refl _, Lib.hid (by simp), World.ownsRow_nil _ _ _ _, ?_, hC, Lib.hid ⟨hRf, hRowsf⟩, hbf⟩
              rw [farr_congr (fun v _ => by simp : ∀ v, v < n → Value.bool (seen v || (decide (v < 0) && f v)) = Value.bool (seen v))]
              exact hBf
            case round =>
              clear hC hRf hRowsf hBf hbf hbr hszf
              obtain ⟨q, V, d, l2, rfl, hq, rfl, hld, hlq, HL, hown, hB, hC, HR, hbr⟩ := hrel
              have hClt := hC.lt
              by_cases hqn : q < n
              · have hqb : decide ((q : Int) < (n : Int)) = true := by simp; omega
                have q0 : (0 : Int) ≤ (q : Int) := by omega
                have q1 : (q : Int) < (n : Int) := by omega
                have cfq := (hC.cell q).trans (farr_at n _ hqn)
                have csq := (hB.cell q).trans (farr_at n _ hqn)
                have fsq := hB.frozen q
                have HSN : Hid ((List.range (q + 1)).filter f = (List.range q).filter f ++ if f q = true then [q] else []) := Lib.hid (by
                  rw [List.range_succ, List.filter_append]
                  cases hh : f q <;> simp [hh])
                obtain ⟨fq, hfq⟩ : ∃ fq, f q = fq := ⟨_, rfl⟩
                rw [hfq] at cfq HSN
                have HFQ := Lib.hid hfq
                clear hfq
                cases fq
                · have HL2 : Hid (l2 = (List.range (q + 1)).filter f) := Lib.hid (by rw [HSN.out, HL.out]; simp)
                  have hB2 : Blk wr w.heap.size 4 (farr n fun v => .bool (seen v || (decide (v < q + 1) && f v))) := by
                    rw [farr_congr (fun v _ => ?_ : ∀ v, v < n → Value.bool (seen v || (decide (v < q + 1) && f v)) = Value.bool (seen v || (decide (v < q) && f v)))]
                    · exact hB
                    · by_cases e : v = q
                      · subst e; rw [HFQ.out]; simp
                      · have : decide (v < q + 1) = decide (v < q) := by rw [Bool.eq_iff_iff]; simp; omega
                        rw [this]
                  clear HSN HL csq fsq
                  go_wp2
                  go_roundw
                  case rel => exact ⟨q + 1, V, d, l2, by go_num, by omega, rfl, hld, by omega, HL2, hown, hB2, hC, HR, hbr⟩
                  case measure => simp [intOf]; omega
                · have HL2 : Hid (l2 ++ [q] = (List.range (q + 1)).filter f) := Lib.hid (by rw [HSN.out, HL.out]; simp)
                  have hB2 := hB.set q (.bool true)
                  rw [farr_upd (fun x : Bool => Value.bool x) (fun v => seen v || (decide (v < q) && f v))] at hB2
                  have hB3 : Blk (wr.setCell ⟨w.heap.size, q, none⟩ (.bool true)) w.heap.size 4 (farr n fun v => .bool (seen v || (decide (v < q + 1) && f v))) := by
                    rw [farr_congr (fun v _ => ?_ : ∀ v, v < n → Value.bool (seen v || (decide (v < q + 1) && f v)) = Value.bool (updF (fun v => seen v || (decide (v < q) && f v)) q true v))]
                    · exact hB2
                    · unfold updF
                      by_cases e : v = q
                      · subst e; rw [HFQ.out]; simp
                      · have : decide (v < q + 1) = decide (v < q) := by rw [Bool.eq_iff_iff]; simp; omega
                        rw [this, if_neg e]
                  have hC3 := hC.far (p := ⟨w.heap.size, q, none⟩) (by simp; omega) (.bool true)
                  have hown3 := ownsRow_setCell_below hown (a := ⟨w.heap.size, q, none⟩) (by simp; omega) (.bool true)
                  have HR3 : Hid ((wr.setCell ⟨w.heap.size, q, none⟩ (.bool true)).ownsRow (w.heap.size + 1) 40 1 (.slice R m cr) m ((List.range m).map (enc F ls)) ∧ RowsIn (wr.setCell ⟨w.heap.size, q, none⟩ (.bool true)) (w.heap.size + 1) m F ls) :=
                    Lib.hid ⟨ownsRow_setCell_below HR.out.1 (by simp) _, fun i hi => ownsRow_setCell_below (HR.out.2 i hi) (by simp) _⟩
                  have hb3 : Below w.heap.size w (wr.setCell ⟨w.heap.size, q, none⟩ (.bool true)) := hbr.setCell (by simp) _
                  have hsz3 := hC3.lt
                  clear HSN HL hB2
                  go_upto_region 25 with fail
                  generalize wr.setCell ⟨w.heap.size, q, none⟩ (.bool true) = W3 at hB3 hC3 hown3 HR3 hb3 hsz3 ⊢
                  go_wp2_with (at_builtin; refine wpList_append_own _ rfl _ _ 40 rfl (wo.heap.size + 1) 3 i0 (.int .i64 0) 1 8 Tryd.underlying40 hi hz0 hz1 hz2 rfl (by decide) (.slice V l2.length d) l2.length (l2.map vn) rfl (hown3.alloc _) ⟨W3.heap.size, 0, none⟩ 1 1 [.int .i64 q] rfl rfl ?c1 ?c2 ?c3 ?c4 ?c5 ?_
                               case c1 => exact cell_one_new _ _ _
                               case c2 => simp [Value.oneCell']
                               case c3 => simp only [maxLen]; omega
                               case c4 => omega
                               case c5 => simp; omega
                               intro v' w2 hown' hgrow _
                               obtain ⟨V2, c2, hv2, hle2, _⟩ := Sl.of_own hown'
                               subst hv2)
                  have hlen : (l2 ++ [q]).length = l2.length + 1 := by simp
                  go_roundw
                  case rel =>
                    (repeat apply Exists.intro)
                    refine ⟨⟨q + 1, V2, c2, l2 ++ [q], by go_num, by omega, by rw [hlen], by rw [hlen]; exact hle2, by rw [hlen]; omega, HL2, ?_, ?_, ?_, Lib.hid ⟨?_, ?_⟩, ?_⟩, rfl⟩
                    · rw [hlen]; simpa [vn] using hown'
                    · exact (hB3.alloc _).grown hgrow (own_blk_ne hown3 hB3 (by decide))
                    · exact (hC3.alloc _).grown hgrow (own_blk_ne hown3 hC3 (by decide))
                    · exact (HR3.out.1.alloc _).kept hgrow (own_ne HR3.out.1 hown3 (by decide))
                    · refine (HR3.out.2.alloc _).kept hgrow (fun i hi => ?_)
                      cases hq : (enc F ls i).ownBlock with
                      | none => exact .inl rfl
                      | some p =>
                        refine .inr (fun e => ?_)
                        have h1 := HRB.out i hi p hq
                        have h2 := (hown3.lt p e.symm).1
                        omega
                    · exact (hb3.alloc hb3.size _).grown hgrow (by simp; omega) (fun p hp => by have := (hown3.lt p hp).1; omega)
                  case measure => simp [intOf]; omega
              · obtain rfl : q = n := by omega
                have hqb : decide ((q : Int) < (q : Int)) = false := by simp
                have hR6 := HR.out.1
                have hRw0 := HR.out.2
                have hsz := hC.lt
                go_wp2_with (at_builtin; refine wpList_append_own _ rfl _ _ 34 rfl (w.heap.size + 1) 40 j0 (.slice none 0 0) 1 24 Tryd.underlying34 hj hjz0 hjz1 hjz2 rfl (by decide) (.slice R m cr) m _ rfl (hR6.alloc _) ⟨wr.heap.size, 0, none⟩ 1 1 [.slice V l2.length d] rfl rfl ?c1 ?c2 ?c3 ?c4 ?c5 ?_
                             case c1 => exact cell_one_new _ _ _
                             case c2 => simp [Value.oneCell']
                             case c3 => simp only [maxLen]; omega
                             case c4 => omega
                             case c5 => simp; omega
                             intro v' w7 hR7 hg7 _
                             obtain ⟨R2, cr2, hv2, hle2, _⟩ := Sl.of_own hR7
                             subst hv2)
                go_roundw
                case rel =>
                  have hvl : l2.length = (natsI l2).length := by simp [natsI]
                  have hV7 : w7.ownsRow (w.heap.size + 1) 3 1 (.slice V (natsI l2).length d) (natsI l2).length ((natsI l2).map vi) := by
                    rw [← hvl, ← nats_vi]
                    exact own_base ((hown.alloc (.cells #[.slice V l2.length d] 40)).kept hg7 (own_ne hown hR6 (by decide))) (by omega)
                  have hRw : RowsIn w7 (w.heap.size + 1) m F ls := (hRw0.alloc (.cells #[.slice V l2.length d] 40)).kept hg7 (fun i hi => own_ne (hRw0 i hi) hR6 (by decide))
                  have hRs : RowsIn w7 (w.heap.size + 1) (m + 1) (snocF F m (V, d)) (snocF ls m (natsI l2)) := RowsIn.snoc (x := (V, d)) hRw hV7
                  have hls : (List.range (m + 1)).map (snocF ls m (natsI l2)) = (List.range m).map ls ++ [natsI l2] := by
                    rw [List.range_succ, List.map_append]
                    congr 1
                    · apply List.map_congr_left
                      intro i hi
                      have : i < m := by simpa using hi
                      simp [snocF]; omega
                    · simp [snocF]
                  have hmem : ∀ x : Int, x ∈ natsI l2 ↔ ∃ v : Nat, x = v ∧ Go.Jt.Conn (Rel es) k v := by
                    intro x
                    unfold natsI
                    rw [List.mem_map, HL.out]
                    constructor
                    · rintro ⟨v, hv, rfl⟩
                      exact ⟨v, rfl, (HE.out v).1 (List.mem_filter.1 hv).2⟩
                    · rintro ⟨v, rfl, hv⟩
                      refine ⟨v, List.mem_filter.2 ⟨?_, (HE.out v).2 hv⟩, rfl⟩
                      rw [List.mem_range]
                      exact conn_lt HV.out hkn hv
                  have hmemN : ∀ v : Nat, (v : Int) ∈ natsI l2 ↔ f v = true := by
                    intro v
                    rw [hmem, HE.out v]
                    constructor
                    · rintro ⟨u, h1, h2⟩
                      have : v = u := by omega
                      rw [this]; exact h2
                    · exact fun h => ⟨v, rfl, h⟩
                  refine ⟨k + 1, m + 1, cr2, R2, snocF F m (V, d), snocF ls m (natsI l2), fun v => seen v || (decide (v < q) && f v), by go_num, by omega, rfl, Lib.hid ⟨hle2, by omega, ?_, hRs, ?_, ?_, ?_, ?_, ?_⟩⟩
                  · rw [map_snoc, ← hvl]; exact hR7
                  · exact (hB.alloc _).grown hg7 (own_blk_ne hR6 hB (by decide))
                  · exact (hbr.alloc hbr.size _).grown hg7 (by simp; omega) (fun p hp => by have := (hR6.lt p hp).1; omega)
                  · rw [hls]
                    refine .add HPP.out.1 (fun l hl hkl => ?_) ?_ hmem
                    · have := (HPP.out.2.1 k hkn).2 ⟨l, hl, hkl⟩
                      rw [HSK.out] at this; cases this
                    · unfold natsI
                      rw [List.pairwise_map, HL.out]
                      exact (List.Pairwise.filter _ List.pairwise_lt_range).imp (fun h => by omega)
                  · intro v hv
                    rw [hls, Bool.or_eq_true, HPP.out.2.1 v hv]
                    simp only [hv, decide_true, Bool.true_and]
                    constructor
                    · rintro (⟨l, h1, h2⟩ | h)
                      · exact ⟨l, List.mem_append_left _ h1, h2⟩
                      · exact ⟨natsI l2, by simp, (hmemN v).2 h⟩
                    · rintro ⟨l, h1, h2⟩
                      rcases List.mem_append.1 h1 with h1 | h1
                      · exact .inl ⟨l, h1, h2⟩
                      · rw [List.mem_singleton] at h1
                        subst h1
                        exact .inr ((hmemN v).1 h2)
                  · rw [hls]
                    intro l hl
                    rcases List.mem_append.1 hl with h1 | h1
                    · exact HPP.out.2.2 l h1
                    · rw [List.mem_singleton] at h1
                      subst h1
                      omega
                case measure => simp [intOf]; omega
          · have hl1 : (l ++ [x]).length = l.length + 1 := by simp
            rw [hl1] at hS hsd hsu ⊢
            obtain ⟨hxn, hxf⟩ := HF.out.on x (by simp)
            have HM0 := Lib.hid (fmid_start HF.out)
            clear HF hxf hl1
            obtain ⟨gs, cap, hveq⟩ : ∃ gs cap, Value.slice V (l.length + 1) d = .slice (some ⟨gs, 0, none⟩) (l.length + 1) cap := by
              rcases hS.2 with ⟨_, h1⟩ | ⟨gs, cap, _, hveq, _⟩
              · omega
              · exact ⟨gs, cap, hveq⟩
            injection hveq with hV1 _ hcap
            subst hV1 hcap
            have hcx : wf.cell? ⟨gs, l.length, none⟩ = some (.int .i64 x) := by
              rw [hS.cellAt l.length (by omega)]; simp [vn]
            have hS2 : wf.ownsRow (wo.heap.size + 1) 3 1 (.slice (some ⟨gs, 0, none⟩) l.length d) l.length (l.map vn) := by
              have h := hS
              rw [List.map_append] at h
              exact ownsRow_pop (by simp) h
            have hdb : decide ((0 : Int) < ((l.length + 1 : Nat) : Int)) = true := by simp <;> omega
            have hsub : ((l.length + 1 : Nat) : Int) - 1 = (l.length : Int) := by omega
            clear hS
            go_wp2
            clear hcx hdb hsub
            have x0 : (0 : Int) ≤ (x : Int) := by omega
            have x1 : (x : Int) < (n : Int) := by omega
            go_loopw [9, 7] (fun y s wr => ∃ (q : Nat) (f' : Nat → Bool) (st : List Nat) (V : Option Addr) (d : Nat), y = .int .i64 q ∧ q ≤ n ∧ s = .slice V st.length d ∧ st.length ≤ d ∧ st.length + unm f' n + 1 ≤ n ∧ Hid (FMid (readT es) n k f' st x q) ∧ 2 * unm f' n + st.length ≤ 2 * unm f n + l.length ∧ wr.ownsRow (wo.heap.size + 1) 3 1 (.slice V st.length d) st.length (st.map vn) ∧ Blk wr wo.heap.size 4 (farr n fun v => .bool (f' v)) ∧ Below wo.heap.size wo wr) (fun y _ _ => n - (intOf y).toNat)
            case atStart => exact ⟨0, f, l, some ⟨gs, 0, none⟩, d, rfl, Nat.zero_le _, rfl, by omega, by omega, HM0, Nat.le_refl _, hS2, hC, hbr⟩
            case round =>
              clear HM0 hS2
              have hCf := hC
              clear hC hbr
              obtain ⟨q, f', st, V, d, rfl, hq, rfl, hstd, hstu, HM, hme, hS, hC, hbr⟩ := hrel
              have hT2 := hTo.keep hbr (Nat.le_refl _)
              by_cases hqn : q < n
              · have hqb : decide ((q : Int) < (n : Int)) = true := by simp; omega
                have q0 : (0 : Int) ≤ (q : Int) := by omega
                have q1 : (q : Int) < (n : Int) := by omega
                have cx := (hT2.head.cell x).trans (farr_at n _ hxn)
                unfold rowV at cx
                have cxq := ((hT2.row x hxn).cell q).trans (farr_at n _ hqn)
                have cfq := (hC.cell q).trans (farr_at n _ hqn)
                have ffq := hC.frozen q
                have HSK2 : Hid ((readT es x q && !f' q) = false → FMid (readT es) n k f' st x (q + 1)) := Lib.hid (fun h => fmid_skip HM.out h)
                have HAD : Hid (readT es x q = true → FMid (readT es) n k (updF f' q true) (st ++ [q]) x (q + 1)) := Lib.hid (fun h => fmid_add HM.out hqn h)
                have HUN : Hid (f' q = false → unm (updF f' q true) n < unm f' n) := Lib.hid (fun h => unm_add hqn h)
                clear HM
                generalize readT es x q = txq at cxq HSK2 HAD
                obtain ⟨fq, hfq⟩ : ∃ fq, f' q = fq := ⟨_, rfl⟩
                rw [hfq] at cfq HSK2 HUN
                clear hfq hT2
                cases txq
                · have HM2 := Lib.hid (HSK2.out rfl)
                  clear HSK2 HAD HUN
                  go_wp2
                  go_roundw
                  case rel => exact ⟨q + 1, f', st, V, d, by go_num, by omega, rfl, hstd, hstu, HM2, hme, hS, hC, hbr⟩
                  case measure => simp [intOf]; omega
                · cases fq
                  · have HM2 := Lib.hid (HAD.out rfl)
                    have hun := HUN.out rfl
                    clear HSK2 HAD HUN
                    have hC3 := hC.set q (.bool true)
                    rw [farr_upd (fun x : Bool => Value.bool x)] at hC3
                    have hS3 := ownsRow_setCell_below hS (a := ⟨wo.heap.size, q, none⟩) (by simp) (.bool true)
                    have hb3 : Below wo.heap.size wo (wr.setCell ⟨wo.heap.size, q, none⟩ (.bool true)) := hbr.setCell (by simp) _
                    have hsz3 := hC3.lt
                    go_upto_region 18 with fail
                    generalize wr.setCell ⟨wo.heap.size, q, none⟩ (.bool true) = W3 at hC3 hS3 hb3 hsz3 ⊢
                    go_wp2_with (at_builtin; refine wpList_append_own _ rfl _ _ 40 rfl (wo.heap.size + 1) 3 i0 (.int .i64 0) 1 8 Tryd.underlying40 hi hz0 hz1 hz2 rfl (by decide) (.slice V st.length d) st.length (st.map vn) rfl (hS3.alloc _) ⟨W3.heap.size, 0, none⟩ 1 1 [.int .i64 q] rfl rfl ?c1 ?c2 ?c3 ?c4 ?c5 ?_
                                 case c1 => exact cell_one_new _ _ _
                                 case c2 => simp [Value.oneCell']
                                 case c3 => simp only [maxLen]; omega
                                 case c4 => omega
                                 case c5 => simp; omega
                                 intro v' w2 hown' hgrow _
                                 obtain ⟨V2, c2, hv2, hle2, _⟩ := Sl.of_own hown'
                                 subst hv2)
                    have hlen : (st ++ [q]).length = st.length + 1 := by simp
                    go_roundw
                    case rel =>
                      refine ⟨q + 1, updF f' q true, st ++ [q], V2, c2, by go_num, by omega, by rw [hlen], by rw [hlen]; exact hle2, by rw [hlen]; omega, HM2, by rw [hlen]; omega, ?_, ?_, ?_⟩
                      · rw [hlen]; simpa [vn] using hown'
                      · exact (hC3.alloc _).grown hgrow (own_blk_ne hS3 hC3 (by decide))
                      · exact (hb3.alloc hb3.size _).grown hgrow (by simp; omega) (fun p hp => by have := (hS3.lt p hp).1; omega)
                    case measure => simp [intOf]; omega
                  · have HM2 := Lib.hid (HSK2.out rfl)
                    clear HSK2 HAD HUN
                    go_wp2
                    go_roundw
                    case rel => exact ⟨q + 1, f', st, V, d, by go_num, by omega, rfl, hstd, hstu, HM2, hme, hS, hC, hbr⟩
                    case measure => simp [intOf]; omega
              · obtain rfl : q = n := by omega
                have hqb : decide ((q : Int) < (q : Int)) = false := by simp
                have HF2 := Lib.hid (finv_of HM.out)
                have u1 := unmW_blk hC
                have u2 := unmW_blk hCf
                clear HM
                go_wp2
                go_roundw
                case rel => exact ⟨f', st, V, d, rfl, hstd, by omega, HF2, hS, hC, hbr⟩
                case measure => rw [u1, u2]; simp [slen]; omega
      · go_wp2
        go_roundw
        case rel =>
          have hp := HP.out
          exact ⟨k + 1, m, cr, R, F, ls, seen, by go_num, by omega, rfl, Lib.hid ⟨hp.mc, by have := hp.mle; omega, hp.own, hp.rows, hp.blk, hp.below, .skip hp.made ((hp.iff k hkn).1 HSK.out), hp.iff, hp.few⟩⟩
        case measure => simp [intOf]; omega
    · obtain rfl : k = n := by omega
      have hkb : decide ((k : Int) < (k : Int)) = false := by simp
      go_wp2
      go_ret
      have hp := HP.out
      refine ⟨(List.range m).map ls, R, cr, hp.made, ?_, lists_of_rows hp.own hp.rows, hp.below⟩
      rw [List.length_map, List.length_range]
      rfl
end Go.Proofs.Tg
end

section
/- The reference's Components, Order, Chordal. -/
namespace Go.Proofs.Tg
open Go.RowKit Go.Gr
set_option maxHeartbeats 4000000
set_option maxRecDepth 100000
theorem rcomp_any (n : Nat) (E : Option Addr) (c : Nat) (es : List (Int × Int)) (w : World) (hE : EdgesAt w E es) (hl : es.length ≤ 1000000) (hv : valid n es) :
    Calls Tryd.prog 31 #[.agg #[.int .i64 n, .slice E es.length c]] w fun e w' => ∃ ls V d, MadeL es n ls ∧ e = .returned (.tuple #[.slice V (List.length ls) d, .int .i64 0]) ∧ Lists w' V ls ∧ Below w.heap.size w w' := by
  have hbA : Below w.heap.size w (w.alloc (.cells #[.int .i64 n, .slice E es.length c] 25)) := (Below.refl _ _).alloc (Nat.le_refl _) _
  have hB := Blk.new w 25 #[.int .i64 n, .slice E es.length c]
  have HV1 := Lib.hid (rvalid_any n E c es true _ (hE.keep hbA) hl (by simp [hv]))
  have HV2 := Lib.hid hv
  clear hv
  go_enter Tryd.func31, Tryd.ntmps31
  go_wp2_with (first
    | (go_at_call 35; refine HV1.out.mono ?_; rintro e w1 ⟨rfl, hb1⟩
       have hB' := hB.keep hb1 hB.lt
       have hbw1 : Below w.heap.size w w1 := below_all hbA hb1
       have c0 := hB'.cell 0
       have c1 := hB'.cell 1
       simp at c0 c1)
    | (go_at_call 46; refine (rread_any n E c es w1 (hE.keep hbw1) hl HV2.out).mono ?_; rintro e w2 ⟨g2, hg2, rfl, hT2, hb2⟩
       have hbw2 : Below w.heap.size w w2 := below_all hbw1 hb2)
    | (go_at_call 65; refine (rparts_any g2 n es w2 hT2 HV2.out).mono ?_; rintro e w3 ⟨ls, V, d, hm, rfl, hV, hb3⟩
       have HM := Lib.hid hm; clear hm
       have hbw3 : Below w.heap.size w w3 := below_all hbw2 hb3))
  go_ret2
  exact ⟨ls, V, d, HM.out, rfl, hV, hbw3⟩
theorem rorder_any (n : Nat) (E : Option Addr) (c : Nat) (es : List (Int × Int)) (w : World) (hE : EdgesAt w E es) (hl : es.length ≤ 1000000) (hv : valid n es) :
    Calls Tryd.prog 33 #[.agg #[.int .i64 n, .slice E es.length c]] w fun e w' => ∃ A d, e = .returned (.tuple #[.slice A (search (readAll es) n).length d, .int .i64 0]) ∧ Nats w' A (search (readAll es) n) ∧ Below w.heap.size w w' := by
  have hn : n ≤ 64 := by have := hv.2.1; omega
  have hsm := (readAll_small es n hv).1
  have hbA : Below w.heap.size w (w.alloc (.cells #[.int .i64 n, .slice E es.length c] 25)) := (Below.refl _ _).alloc (Nat.le_refl _) _
  have hB := Blk.new w 25 #[.int .i64 n, .slice E es.length c]
  have HV1 := Lib.hid (rvalid_any n E c es true _ (hE.keep hbA) hl (by simp [hv]))
  have HV2 := Lib.hid hv
  have HSR := Lib.hid (fun g w hT => rsearch_any g n (readT es) (readAll es) w hT hn hsm (fun i j => (bt_read es i j).symm))
  clear hv hsm
  go_enter Tryd.func33, Tryd.ntmps33
  go_wp2_with (first
    | (go_at_call 35; refine HV1.out.mono ?_; rintro e w1 ⟨rfl, hb1⟩
       have hB' := hB.keep hb1 hB.lt
       have hbw1 : Below w.heap.size w w1 := below_all hbA hb1
       have c0 := hB'.cell 0
       have c1 := hB'.cell 1
       simp at c0 c1)
    | (go_at_call 46; refine (rread_any n E c es w1 (hE.keep hbw1) hl HV2.out).mono ?_; rintro e w2 ⟨g2, hg2, rfl, hT2, hb2⟩
       have hbw2 : Below w.heap.size w w2 := below_all hbw1 hb2)
    | (go_at_call 66; refine (HSR.out g2 w2 hT2).mono ?_; rintro e w3 ⟨V, d, rfl, hV, hb3⟩
       have hbw3 : Below w.heap.size w w3 := below_all hbw2 hb3))
  go_ret2
  exact ⟨V, d, rfl, hV, hbw3⟩
theorem rchordal_any (n : Nat) (E : Option Addr) (c : Nat) (es : List (Int × Int)) (b : Bool) (w : World) (hE : EdgesAt w E es) (hl : es.length ≤ 1000000) (hv : valid n es) (hb : isChordal (readAll es) n = b) :
    Calls Tryd.prog 34 #[.agg #[.int .i64 n, .slice E es.length c]] w fun e w' => e = .returned (.tuple #[.bool b, .int .i64 0]) ∧ Below w.heap.size w w' := by
  have hn : n ≤ 64 := by have := hv.2.1; omega
  have hbA : Below w.heap.size w (w.alloc (.cells #[.int .i64 n, .slice E es.length c] 25)) := (Below.refl _ _).alloc (Nat.le_refl _) _
  have hB := Blk.new w 25 #[.int .i64 n, .slice E es.length c]
  have HV1 := Lib.hid (rvalid_any n E c es true _ (hE.keep hbA) hl (by simp [hv]))
  have HV2 := Lib.hid hv
  have htr : triang (readT es) n = b := by
    rw [← hb, Bool.eq_iff_iff]
    exact (triang_iff (valid_nice hv)).trans (isChordal_chord hv).symm
  have HTR : Hid (∀ g w, TableAt w g n (readT es) → Calls Tryd.prog 57 #[.slice (some ⟨g, 0, none⟩) n n] w fun e w' => e = .returned (.bool b) ∧ Below w.heap.size w w') := Lib.hid (fun g w hT => by
    have := rtri_any g n (readT es) w hT hn
    rw [htr] at this; exact this)
  clear hv htr hb
  go_enter Tryd.func34, Tryd.ntmps34
  go_wp2_with (first
    | (go_at_call 35; refine HV1.out.mono ?_; rintro e w1 ⟨rfl, hb1⟩
       have hB' := hB.keep hb1 hB.lt
       have hbw1 : Below w.heap.size w w1 := below_all hbA hb1
       have c0 := hB'.cell 0
       have c1 := hB'.cell 1
       simp at c0 c1)
    | (go_at_call 46; refine (rread_any n E c es w1 (hE.keep hbw1) hl HV2.out).mono ?_; rintro e w2 ⟨g2, hg2, rfl, hT2, hb2⟩
       have hbw2 : Below w.heap.size w w2 := below_all hbw1 hb2)
    | (go_at_call 57; refine (HTR.out g2 w2 hT2).mono ?_; rintro e w3 ⟨rfl, hb3⟩
       have hbw3 : Below w.heap.size w w3 := below_all hbw2 hb3))
  go_ret2
  exact ⟨rfl, hbw3⟩
end Go.Proofs.Tg
end

section
/- The statement GraphSearch, walked. -/
namespace Go.Proofs.Tg
open Go.RowKit Go.Gr
set_option maxHeartbeats 4000000
set_option maxRecDepth 100000
theorem nats_intsS {w : World} {A : Option Addr} {l : List Nat} (h : Nats w A l) : Ints w A (l.map fun x : Nat => (x : Int)) := by
  show Sl _ _ _ 1 _
  rw [List.length_map, List.map_map]
  exact h
def RetOrd (n : Nat) (es : List (Int × Int)) (w : World) (e : Ending) (w' : World) : Prop :=
  ∃ L A d, L = (search (readAll es) n).map (fun x : Nat => (x : Int)) ∧ e = .returned (.tuple #[.slice A (List.length L) d, .int .i64 0]) ∧ Ints w' A L ∧ L.length ≤ 64 ∧ Below w.heap.size w w'
theorem lord_any (n : Nat) (E : Option Addr) (c : Nat) (es : List (Int × Int)) (w : World) (hE : EdgesAt w E es) (hl : es.length ≤ 1000000) (hv : valid n es) :
    Calls Tryd.prog 32 #[.agg #[.int .i64 n, .slice E es.length c]] w (RetOrd n es w) := by
  have hn : n ≤ 64 := by have := hv.2.1; omega
  refine (order_ok n E c es w hE hl hv).mono ?_
  rintro e w' ⟨A, d, rfl, h1, h2⟩
  exact ⟨_, A, d, rfl, by rw [List.length_map], nats_intsS h1, by rw [List.length_map, search_len hn]; exact hn, h2⟩
theorem rord_any (n : Nat) (E : Option Addr) (c : Nat) (es : List (Int × Int)) (w : World) (hE : EdgesAt w E es) (hl : es.length ≤ 1000000) (hv : valid n es) :
    Calls Tryd.prog 33 #[.agg #[.int .i64 n, .slice E es.length c]] w (RetOrd n es w) := by
  have hn : n ≤ 64 := by have := hv.2.1; omega
  refine (rorder_any n E c es w hE hl hv).mono ?_
  rintro e w' ⟨A, d, rfl, h1, h2⟩
  exact ⟨_, A, d, rfl, by rw [List.length_map], nats_intsS h1, by rw [List.length_map, search_len hn]; exact hn, h2⟩
def RetX (n : Nat) (es : List (Int × Int)) (w : World) (e : Ending) (w' : World) : Prop :=
  ∃ xs F d, xs = writeEdges (extend (readAll es) n) n ∧ e = .returned (.tuple #[.agg #[.int .i64 n, .slice F (List.length xs) d], .int .i64 0]) ∧ EdgesAt w' F xs ∧ xs.length ≤ 4096 ∧ Below w.heap.size w w'
theorem lext_x (n : Nat) (E : Option Addr) (c : Nat) (es : List (Int × Int)) (w : World) (hE : EdgesAt w E es) (hl : es.length ≤ 1000000) (hv : valid n es) (hT : Tab w) :
    Calls Tryd.prog 25 #[.agg #[.int .i64 n, .slice E es.length c]] w (RetX n es w) := by
  have hn : n ≤ 64 := by have := hv.2.1; omega
  refine (extend_ok n E c es w hE hl hv hT).mono ?_
  rintro e w' ⟨F, d, rfl, h1, h2⟩
  exact ⟨_, F, d, rfl, rfl, Sl.own h1, by rw [← fill_same hv]; exact fillEs_len hn, h2⟩
theorem rext_x (n : Nat) (E : Option Addr) (c : Nat) (es : List (Int × Int)) (w : World) (hE : EdgesAt w E es) (hl : es.length ≤ 1000000) (hv : valid n es) :
    Calls Tryd.prog 17 #[.agg #[.int .i64 n, .slice E es.length c]] w (RetX n es w) := by
  have hn : n ≤ 64 := by have := hv.2.1; omega
  refine (rext_any n E c es w hE hl hv).mono ?_
  rintro e w' ⟨xs, F, d, hx, rfl, h1, h2⟩
  exact ⟨xs, F, d, by rw [hx, fill_same hv], rfl, Sl.own h1, by rw [hx]; exact fillEs_len hn, h2⟩
theorem law_search (n : Int) (E : Option Addr) (es : List (Int × Int)) (c : Nat) (w : World) (hE : EdgesAt w E es) (hT : Tab w) :
    Calls Tryd.prog 10 #[.int .i64 n, .slice E es.length c] w fun e w' => e = .returned (.bool true) ∧ Below w.heap.size w w' := by
  by_cases hl : es.length ≤ 40
  · have HMD := Lib.hid (made_any n E c es w hE hl)
    clear hE
    go_enter Tryd.func10, Tryd.ntmps10
    go_wp2_with (first
      | (go_at_call 16; refine HMD.out.mono ?_; rintro e w1 ⟨m, fs, F, d, hm8, hfv, hfl, rfl, hF, hb1⟩
         have HFV := Lib.hid hfv; clear hfv
         have hB1 := Blk.new w1 25 #[.int .i64 m, .slice F fs.length d]
         have hF1 := hF.keep ((Below.refl _ _).alloc (Nat.le_refl _) (.cells #[.int .i64 m, .slice F fs.length d] 25))
         have hbw1 := hb1.alloc hb1.size (.cells #[.int .i64 m, .slice F fs.length d] 25)
         clear hF)
      | (go_at_call 30; refine (components_made m F d fs _ hF1 (by omega) HFV.out (hT.below hbw1 hT.1)).mono ?_; rintro e w2 ⟨ls, V, dv, hml, rfl, hV, hls, hll, hb2⟩
         have HML := Lib.hid (And.intro hml hll); clear hml hll
         have hB2 := hB1.keep hb2 hB1.lt
         have p0 := hB2.cell 0
         have p1 := hB2.cell 1
         simp at p0 p1
         have hF2 := hF1.keep hb2
         have hbw2 := below_all hbw1 hb2)
      | (go_at_call 31; refine (rcomp_any m F d fs _ hF2 (by omega) HFV.out).mono ?_; rintro e w3 ⟨lo, V', dv', hmo, rfl, hV', hb3⟩
         obtain rfl := HML.out.1.same hmo
         clear hmo
         have hB3 := hB2.keep hb3 hB2.lt
         have q0 := hB3.cell 0
         have q1 := hB3.cell 1
         simp at q0 q1
         have hF3 := hF2.keep hb3
         have hbw3 := below_all hbw2 hb3
         have hV3 := hV.keep hb3)
      | (go_at_call 32; refine (lord_any m F d fs _ hF3 (by omega) HFV.out).mono ?_; rintro e w4 ⟨L, A1, d1, hL, rfl, hA1, hLl, hb4⟩
         have HL := Lib.hid hL; clear hL
         have hB4 := hB3.keep hb4 hB3.lt
         have r0 := hB4.cell 0
         have r1 := hB4.cell 1
         simp at r0 r1
         have hF4 := hF3.keep hb4
         have hbw4 := below_all hbw3 hb4)
      | (go_at_call 33; refine (rord_any m F d fs _ hF4 (by omega) HFV.out).mono ?_; rintro e w5 ⟨L', A2, d2, hL, rfl, hA2, -, hb5⟩
         obtain rfl : L = L' := HL.out.trans hL.symm
         clear hL
         have hB5 := hB4.keep hb5 hB4.lt
         have hF5 := hF4.keep hb5
         have hbw5 := below_all hbw4 hb5
         have hA5 := hA1.keep hb5
         have hV5 := (hV3.keep hb4).keep hb5
         have hV5' := (hV'.keep hb4).keep hb5)
      | (go_at_call 20; refine (lists_any V V' ls ls dv dv' w5 hV5 hV5' (by omega) (fun l hl => by have := HML.out.2 l hl; omega)).mono ?_; rintro e w6 ⟨rfl, hd6⟩
         rw [show decide (ls = ls) = true from by simp]
         have hB6 := hB5.keep hd6.below hB5.lt
         have hF6 := hF5.keep hd6.below
         have hbw6 := below_all hbw5 hd6.below
         have hA6 := hA5.keep hd6.below
         have hA6' := hA2.keep hd6.below)
      | (go_at_call 24; refine (ints_any A1 A2 L L d1 d2 w6 hA6 hA6' (by omega)).mono ?_; rintro e w7 ⟨rfl, hd7⟩
         rw [show decide (L = L) = true from by simp]
         have hB7 := hB6.keep hd7.below hB6.lt
         have s0 := hB7.cell 0
         have s1 := hB7.cell 1
         simp at s0 s1
         have hF7 := hF6.keep hd7.below
         have hbw7 := below_all hbw6 hd7.below)
      | (go_at_call 28; obtain ⟨bb, hbb⟩ : ∃ bb, isChordal (readAll fs) m = bb := ⟨_, rfl⟩
         have hch := chordal_ok m F d fs w7 hF7 (by omega) HFV.out (hT.below hbw7 hT.1)
         rw [hbb] at hch
         refine hch.mono ?_; rintro e w8 ⟨rfl, hb8⟩
         have HBB := Lib.hid hbb; clear hbb hch
         have hbe : (bb == bb) = true := by simp
         have hB8 := hB7.keep hb8 hB7.lt
         have t0 := hB8.cell 0
         have t1 := hB8.cell 1
         simp at t0 t1
         have hF8 := hF7.keep hb8
         have hbw8 := below_all hbw7 hb8)
      | (go_at_call 34; refine (rchordal_any m F d fs bb w8 hF8 (by omega) HFV.out HBB.out).mono ?_; rintro e w9 ⟨rfl, hb9⟩
         have hB9 := hB8.keep hb9 hB8.lt
         have z0 := hB9.cell 0
         have z1 := hB9.cell 1
         simp at z0 z1
         have hF9 := hF8.keep hb9
         have hbw9 := below_all hbw8 hb9)
      | (go_at_call 25; refine (lext_x m F d fs w9 hF9 (by omega) HFV.out (hT.below hbw9 hT.1)).mono ?_; rintro e w10 ⟨xs, X1, dx1, hxs, rfl, hX1, hxl, hb10⟩
         have HXS := Lib.hid hxs; clear hxs
         have hB10 := (hB9.keep hb10 hB9.lt).alloc (.cells #[.int .i64 m, .slice X1 xs.length dx1] 25)
         have hG10 := Blk.new w10 25 #[.int .i64 m, .slice X1 xs.length dx1]
         have y0 := hB10.cell 0
         have y1 := hB10.cell 1
         simp at y0 y1
         have hal := (Below.refl w10.heap.size w10).alloc (Nat.le_refl _) (.cells #[.int .i64 m, .slice X1 xs.length dx1] 25)
         have hF10 := (hF9.keep hb10).keep hal
         have hX10 := hX1.keep hal
         have hbw10 := below_all (below_all hbw9 hb10) hal)
      | (go_at_call 17; refine (rext_x m F d fs _ hF10 (by omega) HFV.out).mono ?_; rintro e w11 ⟨xs', X2, dx2, hxs, rfl, hX2, -, hb11⟩
         obtain rfl : xs = xs' := HXS.out.trans hxs.symm
         clear hxs
         have hal2 := (Below.refl w11.heap.size w11).alloc (Nat.le_refl _) (.cells #[.int .i64 m, .slice X2 xs.length dx2] 25)
         have hG11 := (hG10.keep hb11 hG10.lt).alloc (.cells #[.int .i64 m, .slice X2 xs.length dx2] 25)
         have g0 := hG11.cell 0
         have g1 := hG11.cell 1
         simp at g0 g1
         have hX11 := (hX10.keep hb11).keep hal2
         have hX11' := hX2.keep hal2
         have hbw11 := below_all (below_all hbw10 hb11) hal2)
      | (go_at_call 15; refine (graphs_any m m X1 X2 xs xs dx1 dx2 _ hX11 hX11' (by omega)).mono ?_; rintro e w12 ⟨rfl, hb12⟩
         rw [show decide ((m : Int) = (m : Int) ∧ xs = xs) = true from by simp]
         have hbw12 := below_all hbw11 hb12)
      | (go_at_call 12; refine (awake_any _ (hT.below hbw12 hT.1)).mono ?_; rintro e w13 ⟨rfl, hb13⟩))
    go_ret
    exact ⟨rfl, below_all hbw12 hb13⟩
  · have HMD := Lib.hid (made_long n E c es w (by omega))
    have hb : decide ((40 : Int) < (es.length : Int)) = true := by simp; omega
    clear hE
    go_enter Tryd.func10, Tryd.ntmps10
    go_wp2_with (first
      | (go_at_call 16; refine HMD.out.mono ?_; rintro e w1 ⟨rfl, hb1⟩)
      | (go_at_call 12; refine (awake_any _ (hT.below (hb1.alloc hb1.size _) hT.1)).mono ?_; rintro e w4 ⟨rfl, hb4⟩))
    go_ret
    exact ⟨rfl, below_all (hb1.alloc hb1.size _) hb4⟩
end Go.Proofs.Tg
end
