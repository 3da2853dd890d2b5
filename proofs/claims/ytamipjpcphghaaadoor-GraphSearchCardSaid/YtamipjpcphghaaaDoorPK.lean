/- Plain law of Components: the classes of the vertices that chains of edges connect. -/
import Derived.Test.YtamipjpcphghaaaDoorPG
import Derived.Test.YtamipjpcphghaaaDoorPH
namespace Go.Gr
open Go.Jt
def orAll (A : Nat → Nat) (l : List Nat) : Nat := l.foldl (fun x v => x ||| A v) 0
theorem orAll_snoc (A : Nat → Nat) (l : List Nat) (v : Nat) : orAll A (l ++ [v]) = orAll A l ||| A v := by simp [orAll]
theorem orAll_bit (A : Nat → Nat) (l : List Nat) (j : Nat) : (orAll A l).testBit j = true ↔ ∃ v ∈ l, (A v).testBit j = true := by
  unfold orAll
  have : ∀ (l : List Nat) (s : Nat), (l.foldl (fun x v => x ||| A v) s).testBit j = true ↔ s.testBit j = true ∨ ∃ v ∈ l, (A v).testBit j = true := by
    intro l
    induction l with
    | nil => intro s; simp
    | cons x l ih =>
      intro s
      rw [List.foldl_cons, ih, Nat.testBit_or, Bool.or_eq_true]
      simp only [List.mem_cons, exists_eq_or_imp]
      rw [or_assoc]
  have := this l 0
  simpa using this
theorem orAll_lt {A : Nat → Nat} (hS : Small A) (l : List Nat) : orAll A l < 18446744073709551616 := by
  unfold orAll
  have : ∀ (l : List Nat) (s : Nat), s < 18446744073709551616 → l.foldl (fun x v => x ||| A v) s < 18446744073709551616 := by
    intro l
    induction l with
    | nil => exact fun s h => h
    | cons x l ih => exact fun s h => ih _ (or_lt h (hS x))
  exact this l 0 (by omega)
def Rel (es : List (Int × Int)) (a b : Nat) : Prop := readT es a b = true
structure CInv (es : List (Int × Int)) (i comp fresh : Nat) : Prop where
  start : comp.testBit i = true
  conn : ∀ v, comp.testBit v = true → Conn (Rel es) i v
  sub : ∀ v, fresh.testBit v = true → comp.testBit v = true
  closed : ∀ v, comp.testBit v = true → fresh.testBit v = false → ∀ u, readT es v u = true → comp.testBit u = true
theorem cinv_start (es : List (Int × Int)) (i : Nat) : CInv es i (bset 0 i) (bset 0 i) := by
  have hb : ∀ v, (bset 0 i).testBit v = true ↔ i = v := by intro v; rw [bset_bit]; simp
  refine ⟨(hb i).2 rfl, fun v hv => ?_, fun v hv => hv, fun v hv hf => ?_⟩
  · rw [hb] at hv; subst hv; exact Conn.refl _
  · rw [hv] at hf; cases hf
theorem fresh_bit {a b j : Nat} (ha : a < 18446744073709551616) (hb : b < 18446744073709551616) : (andn a b).testBit j = true ↔ a.testBit j = true ∧ b.testBit j = false := by
  have hlt : andn a b < 18446744073709551616 := by unfold andn; exact and_lt _ ha
  by_cases hj : j < 64
  · rw [andn_bit _ _ _ hb hj]; simp
  · rw [high_bit hlt (by omega), high_bit ha (by omega)]; simp
theorem cinv_step {n : Nat} {es : List (Int × Int)} (h : valid n es) {i comp fresh : Nat} (hc : comp < 18446744073709551616) (hf : fresh < 18446744073709551616) (hI : CInv es i comp fresh) :
    CInv es i (comp ||| orAll (readAll es) (verts fresh)) (andn (orAll (readAll es) (verts fresh)) comp) := by
  have hS := (readAll_small es n h).1
  have hn := orAll_lt hS (verts fresh)
  have hnb : ∀ u, (orAll (readAll es) (verts fresh)).testBit u = true ↔ ∃ v, fresh.testBit v = true ∧ readT es v u = true := by
    intro u
    rw [orAll_bit]
    constructor
    · rintro ⟨v, hv, hb⟩
      exact ⟨v, (mem_verts.1 hv).2, by rw [← bt_read]; exact hb⟩
    · rintro ⟨v, hv, hb⟩
      exact ⟨v, mem_verts.2 ⟨bit_lt hf hv, hv⟩, by rw [← bt_read] at hb; exact hb⟩
  refine ⟨by rw [Nat.testBit_or, hI.start]; rfl, fun v hv => ?_, fun v hv => ?_, fun v hv hfv u hu => ?_⟩
  · rw [Nat.testBit_or, Bool.or_eq_true] at hv
    rcases hv with hv | hv
    · exact hI.conn v hv
    · obtain ⟨x, hx, hxv⟩ := (hnb v).1 hv
      exact (hI.conn x (hI.sub x hx)).trans (Conn.step hxv)
  · have := (fresh_bit hn hc).1 hv
    rw [Nat.testBit_or, this.1]; simp
  · rw [Nat.testBit_or, Bool.or_eq_true] at hv ⊢
    by_cases hvc : comp.testBit v = true
    · by_cases hvf : fresh.testBit v = true
      · exact .inr ((hnb u).2 ⟨v, hvf, hu⟩)
      · exact .inl (hI.closed v hvc (by simpa using hvf) u hu)
    · have hvn := hv.resolve_left hvc
      have := (fresh_bit (j := v) hn hc).2 ⟨hvn, by simpa using hvc⟩
      rw [hfv] at this
      cases this
theorem cinv_end {es : List (Int × Int)} {i comp : Nat} (hI : CInv es i comp 0) : ∀ v, comp.testBit v = true ↔ Conn (Rel es) i v := by
  intro v
  refine ⟨hI.conn v, fun hc => ?_⟩
  exact hc (fun x => comp.testBit x = true) hI.start (fun x y hx hxy => hI.closed x hx (by simp) y hxy)
theorem size_grows {a b : Nat} (hb : b ≠ 0) (hb64 : b < 18446744073709551616) (hd : ∀ j, b.testBit j = true → a.testBit j = false) {c : Nat} (hc : ∀ j, c.testBit j = true ↔ a.testBit j = true ∨ b.testBit j = true) : size a < size c := by
  have : verts b ≠ [] := fun e => hb (verts_empty hb64 e)
  obtain ⟨x, hx⟩ := List.exists_mem_of_ne_nil _ this
  obtain ⟨hx64, hxb⟩ := mem_verts.1 hx
  unfold size verts
  exact Go.Chordal.filter_len_lt _ _ _ (fun j _ h => (hc j).2 (.inl h)) x (by simpa using hx64) ((hc x).2 (.inr hxb)) (hd x hxb)
structure OInv (es : List (Int × Int)) (n i seen : Nat) (l : List Nat) : Prop where
  bits : ∀ v, seen.testBit v = true ↔ ∃ s ∈ l, s.testBit v = true
  cls : ∀ s ∈ l, s < 18446744073709551616 ∧ ∃ u, u < n ∧ ∀ v, s.testBit v = true ↔ Conn (Rel es) u v
  dis : l.Pairwise (fun s s' => ∀ v, s.testBit v = true → s'.testBit v = false)
  all : ∀ v, v < i → seen.testBit v = true
theorem rel_sym {n : Nat} {es : List (Int × Int)} (h : valid n es) : ∀ x y, Rel es x y → Rel es y x := fun x y => (valid_nice h).sym x y
theorem conn_lt {n : Nat} {es : List (Int × Int)} (h : valid n es) {u v : Nat} (hu : u < n) (hc : Conn (Rel es) u v) : v < n :=
  hc (· < n) hu (fun _ y _ hxy => ((valid_nice h).lt _ y hxy).2)
theorem oinv_skip {es : List (Int × Int)} {n i seen : Nat} {l : List Nat} (hI : OInv es n i seen l) (hs : seen.testBit i = true) : OInv es n (i + 1) seen l :=
  ⟨hI.bits, hI.cls, hI.dis, fun v hv => by
    by_cases e : v = i
    · rw [e]; exact hs
    · exact hI.all v (by omega)⟩
theorem oinv_add {es : List (Int × Int)} {n i seen comp : Nat} {l : List Nat} (h : valid n es) (hI : OInv es n i seen l) (hi : i < n) (hs : seen.testBit i = false) (hc : comp < 18446744073709551616) (hcc : ∀ v, comp.testBit v = true ↔ Conn (Rel es) i v) :
    OInv es n (i + 1) (seen ||| comp) (l ++ [comp]) := by
  refine ⟨fun v => ?_, fun s hs' => ?_, ?_, fun v hv => ?_⟩
  · rw [Nat.testBit_or, Bool.or_eq_true, hI.bits]
    constructor
    · rintro (⟨s, h1, h2⟩ | h1)
      · exact ⟨s, by simp [h1], h2⟩
      · exact ⟨comp, by simp, h1⟩
    · rintro ⟨s, h1, h2⟩
      rcases List.mem_append.1 h1 with h1 | h1
      · exact .inl ⟨s, h1, h2⟩
      · simp at h1; subst h1; exact .inr h2
  · rcases List.mem_append.1 hs' with h1 | h1
    · exact hI.cls s h1
    · simp at h1; subst h1; exact ⟨hc, i, hi, hcc⟩
  · rw [List.pairwise_append]
    refine ⟨hI.dis, by simp, fun s h1 s' h2 v hv => ?_⟩
    simp at h2
    subst h2
    cases hb : s'.testBit v
    · rfl
    · exfalso
      obtain ⟨_, u, _, hu⟩ := hI.cls s h1
      have c1 := (hu v).1 hv
      have c2 := (hcc v).1 hb
      have := (hI.bits i).2 ⟨s, h1, (hu i).2 (c1.trans (c2.symm (rel_sym h)))⟩
      rw [hs] at this
      cases this
  · rw [Nat.testBit_or, Bool.or_eq_true]
    by_cases e : v = i
    · right; rw [e, hcc]; exact Conn.refl _
    · exact .inl (hI.all v (by omega))
/-- What the statements ask of the components. -/
structure CompEs (n : Nat) (es : List (Int × Int)) (ls : List (List Int)) : Prop where
  asc : ∀ l ∈ ls, l.Pairwise (· < ·)
  lt : ∀ l ∈ ls, ∀ x ∈ l, 0 ≤ x ∧ x < n
  dis : ls.Pairwise (fun l l' => ∀ x ∈ l, x ∉ l')
  all : ∀ v : Nat, v < n → ∃ l ∈ ls, (v : Int) ∈ l
  conn : ∀ l ∈ ls, ∀ u ∈ l, ∀ v : Nat, (v : Int) ∈ l ↔ Conn (Rel es) u.toNat v
theorem comp_es {es : List (Int × Int)} {n seen : Nat} {l : List Nat} (h : valid n es) (hI : OInv es n n seen l) : CompEs n es (l.map vertsI) := by
  have hbit : ∀ s ∈ l, ∀ v : Nat, (v : Int) ∈ vertsI s ↔ s.testBit v = true := by
    intro s hs v
    rw [mem_vertsI]
    exact ⟨fun h => by simpa using h.2.2, fun hb => ⟨by omega, by have := bit_lt (hI.cls s hs).1 hb; omega, by simpa using hb⟩⟩
  refine ⟨fun m hm => ?_, fun m hm x hx => ?_, ?_, fun v hv => ?_, fun m hm u hu v => ?_⟩
  · obtain ⟨s, _, rfl⟩ := List.mem_map.1 hm
    exact vertsZ_asc s
  · obtain ⟨s, hs, rfl⟩ := List.mem_map.1 hm
    have h1 := mem_vertsI.1 hx
    obtain ⟨_, u, hu, hc⟩ := hI.cls s hs
    have := conn_lt h hu ((hc _).1 h1.2.2)
    omega
  · rw [List.pairwise_map]
    refine List.Pairwise.imp_of_mem (fun {s s'} _ _ hd x hx hx' => ?_) hI.dis
    have h1 := mem_vertsI.1 hx
    have h2 := mem_vertsI.1 hx'
    rw [hd _ h1.2.2] at h2
    cases h2.2.2
  · obtain ⟨s, hs, hb⟩ := (hI.bits v).1 (hI.all v hv)
    exact ⟨vertsI s, List.mem_map.2 ⟨s, hs, rfl⟩, (hbit s hs v).2 hb⟩
  · obtain ⟨s, hs, rfl⟩ := List.mem_map.1 hm
    have h1 := mem_vertsI.1 hu
    obtain ⟨_, r, hr, hc⟩ := hI.cls s hs
    have c1 := (hc _).1 h1.2.2
    rw [hbit s hs, hc]
    exact ⟨fun c => (c1.symm (rel_sym h)).trans c, fun c => c1.trans c⟩
end Go.Gr
