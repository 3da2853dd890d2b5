/- Plain law: the extension of a valid graph is valid, chordal and contains it. -/
import Derived.Test.YtamipjpcphghaaaDoorPC
import Derived.Test.YtamipjpcphghaaaDoorPE
import Derived.Test.YtamipjpcphghaaaDoorWI
namespace Go.Gr
open Go.Chordal
theorem bt_read (es : List (Int × Int)) (i j : Nat) : bt (readAll es) i j = readT es i j := read_bits es i j
/-- A graph with a perfect elimination order of all its vertices. -/
def Chord (t : Nat → Nat → Bool) (n : Nat) : Prop := ∃ l : List Nat, (∀ v, v ∈ l ↔ v < n) ∧ l.Nodup ∧ Peo (fun a b => t a b = true) l
structure ExtOf (t u : Nat → Nat → Bool) (n : Nat) : Prop where
  nice : Nice u n
  more : ∀ i j, t i j = true → u i j = true
  chord : Chord u n
theorem extend_of {n : Nat} {es : List (Int × Int)} (h : valid n es) : ExtOf (readT es) (bt (extend (readAll es) n)) n := by
  have hn := valid_nice h
  have hn64 : n ≤ 64 := by have := h.2.1; omega
  obtain ⟨hS, hI⟩ := readAll_small es n h
  have hf : firstN n < 18446744073709551616 := by
    unfold firstN
    by_cases e : n = 64
    · subst e; decide
    · have := shl_lt n (by omega); omega
  have hx := extFrom_spec 65 (readAll es) (firstN n) (by have := size_le (firstN n); omega) hI hS hf
  have hsymA : SymA (readAll es) := by
    intro i j _ _
    have h1 := bt_read es i j
    have h2 := bt_read es j i
    unfold bt at h1 h2
    rw [h1, h2]
    exact hn.symm i j
  have hsymB := hx.sym hsymA
  have hlt : ∀ i j, bt (extend (readAll es) n) i j = true → i < n ∧ j < n := by
    intro i j hij
    rcases hx.new i j hij with h1 | ⟨_, _, h1, h2, _⟩
    · have h2 := bt_read es i j
      unfold bt at h2
      rw [h2] at h1
      exact hn.lt i j h1
    · rw [firstN_bit] at h1 h2
      simpa using And.intro h1 h2
  refine ⟨⟨fun i j hij => ?_, fun i => ?_, hlt⟩, fun i j hij => ?_, ?_⟩
  · obtain ⟨h1, h2⟩ := hlt i j hij
    have := hsymB i j (by omega) (by omega)
    unfold bt at hij ⊢
    exact this ▸ hij
  · cases hb : bt (extend (readAll es) n) i i with
    | false => rfl
    | true =>
      rcases hx.new i i hb with h1 | ⟨_, _, _, _, h1⟩
      · have h2 := bt_read es i i
        unfold bt at h2
        rw [h2, hn.irr] at h1
        cases h1
      · exact absurd rfl h1
  · refine hx.mono i j ?_
    have h2 := bt_read es i j
    unfold bt at h2
    rw [h2]; exact hij
  · obtain ⟨l, h1, h2, h3⟩ := hx.peo
    refine ⟨l, fun v => ?_, h2, h3⟩
    rw [h1, firstN_bit]
    simp
    omega
/-- What Extend writes. -/
theorem extend_edges {n : Nat} {es : List (Int × Int)} (h : valid n es) : writeEdges (extend (readAll es) n) n = tableEdges (bt (extend (readAll es) n)) n n := by
  have hx := extend_of h
  have hn64 : n ≤ 64 := by have := h.2.1; omega
  refine writeEdges_table hn64 (fun i j _ hij => ⟨(hx.nice.lt i j hij).2, fun e => ?_⟩)
  subst e
  have := hx.nice.irr i
  unfold bt at this
  rw [this] at hij
  cases hij
theorem isChordal_chord {n : Nat} {es : List (Int × Int)} (h : valid n es) : isChordal (readAll es) n = true ↔ Chord (readT es) n := by
  have hn := valid_nice h
  have hn64 : n ≤ 64 := by have := h.2.1; omega
  obtain ⟨hS, hI⟩ := readAll_small es n h
  have e : (fun a b => bt (readAll es) a b = true) = fun a b => readT es a b = true := by funext a b; rw [bt_read]
  constructor
  · intro hc
    refine ⟨(search (readAll es) n).reverse, fun v => ?_, ?_, ?_⟩
    · rw [List.mem_reverse, search_ord hn64, List.mem_map]
      constructor
      · rintro ⟨k, hk, rfl⟩; exact ord_lt hn64 (by simpa using hk)
      · intro hv
        obtain ⟨k, hk, e⟩ := ord_onto (A := readAll es) hn64 hv
        exact ⟨k, by simpa using hk, e⟩
    · exact List.pairwise_reverse.2 ((visits (A := readAll es) hn64 n (Nat.le_refl _)).nodup.imp fun h e => h e.symm)
    · have := peo_of_isChordal hS hn64 hc
      rwa [e] at this
  · rintro ⟨l, h1, _, h3⟩
    refine isChordal_of_peo hS hn64 (fun a b hab => ?_) (l := l) (by rw [e]; exact h3) (fun v hv => (h1 v).2 hv)
    rw [bt_read] at hab ⊢
    exact hn.sym a b hab
/-- The extension, written: all that the statements ask. -/
structure ExtEs (n : Nat) (es xs : List (Int × Int)) : Prop where
  valid : valid n xs
  more : ∀ e ∈ es, (0 ≤ e.1 ∧ e.1 < n ∧ 0 ≤ e.2 ∧ e.2 < n) ∧ (readAll xs e.1.toNat).testBit e.2.toNat = true
  chord : isChordal (readAll xs) n = true
theorem extend_es {n : Nat} {es : List (Int × Int)} (h : valid n es) : ExtEs n es (writeEdges (extend (readAll es) n) n) := by
  have hx := extend_of h
  have hn64 : n ≤ 64 := by have := h.2.1; omega
  rw [extend_edges h]
  have hv := tableEdges_valid (bt (extend (readAll es) n)) hn64
  have hr := fun i j => read_table hx.nice i j
  refine ⟨hv, fun e he => ?_, ?_⟩
  · obtain ⟨g1, g2, g3⟩ := valid_good h e he
    refine ⟨by omega, ?_⟩
    have h1 : (readAll (tableEdges (bt (extend (readAll es) n)) n n) e.1.toNat).testBit e.2.toNat = _ := bt_read (tableEdges (bt (extend (readAll es) n)) n n) e.1.toNat e.2.toNat
    have : readT es e.1.toNat e.2.toNat = true := (readT_iff _ _ _).2 ⟨e, he, .inl ⟨rfl, rfl⟩⟩
    rw [h1, hr]
    exact hx.more _ _ this
  · rw [isChordal_chord hv]
    obtain ⟨l, h1, h2, h3⟩ := hx.chord
    refine ⟨l, h1, h2, ?_⟩
    have : (fun a b => readT (tableEdges (bt (extend (readAll es) n)) n n) a b = true) = fun a b => bt (extend (readAll es) n) a b = true := by funext a b; rw [hr]
    rw [this]; exact h3
theorem ext_len (A : Nat → Nat) : ∀ m, (writeEdges A m).length ≤ 64 * m
  | 0 => by simp [writeEdges]
  | m + 1 => by
    rw [writeEdges_succ, List.length_append]
    have := rowEdges_len A m
    have := ext_len A m
    omega
end Go.Gr
