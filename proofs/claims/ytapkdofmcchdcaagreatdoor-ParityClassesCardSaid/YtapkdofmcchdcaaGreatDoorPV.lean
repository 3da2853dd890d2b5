/- Polynomials in memory: a slice of terms, each a text and a slice of exponents. -/
import Derived.Test.YtapkdofmcchdcaaGreatDoorWL1
import Derived.Test.YtapkdofmcchdcaaGreatDoorM1
namespace Go.Proofs.Tg
open Go.RowKit Go.Mo
theorem flat_get {α : Type} (f : α → List Value) (sz : Nat) (h : ∀ x, (f x).length = sz) : ∀ (ls : List α) (i j : Nat) (hi : i < ls.length), j < sz → (ls.flatMap f)[i * sz + j]? = (f ls[i])[j]?
  | x :: ls, 0, j, _, hj => by
    rw [List.flatMap_cons, Nat.zero_mul, Nat.zero_add, List.getElem?_append_left (by rw [h]; exact hj)]; rfl
  | x :: ls, i + 1, j, hi, hj => by
    rw [List.flatMap_cons, List.getElem?_append_right (by rw [h, Nat.succ_mul]; omega), h, show (i + 1) * sz + j - sz = i * sz + j by rw [Nat.succ_mul]; omega]
    rw [flat_get f sz h ls i j (by simpa using hi) hj]; rfl
theorem flat_len {α : Type} (f : α → List Value) (sz : Nat) (h : ∀ x, (f x).length = sz) : ∀ ls : List α, (ls.flatMap f).length = ls.length * sz
  | [] => by simp
  | x :: ls => by rw [List.flatMap_cons, List.length_append, h, flat_len f sz h ls, List.length_cons, Nat.succ_mul]; omega
/-- A term in memory. -/
structure TV where
  coef : ByteArray
  adr : Option Addr
  cap : Nat
  exps : List Int
def TV.cells (t : TV) : List Value := [.string t.coef, .slice t.adr t.exps.length t.cap]
def TV.pl (t : TV) : Term := (t.coef, t.exps)
/-- The slice at T holds the terms. -/
structure TermsAt (w : World) (T : Option Addr) (tv : List TV) : Prop where
  sl : Sl w T tv.length 2 (tv.flatMap TV.cells)
  ints : ∀ t ∈ tv, Ints w t.adr t.exps
theorem TermsAt.keep {w w' : World} {T : Option Addr} {tv : List TV} (h : TermsAt w T tv) (hb : Below w.heap.size w w') : TermsAt w' T tv :=
  ⟨h.sl.keep hb, fun t ht => (h.ints t ht).keep hb⟩
theorem off_one (a : Addr) (k : Nat) : (⟨(a.add k).block, (a.add k).off + 1, none⟩ : Addr) = a.add (k + 1) := by
  rw [← add_add]; simp [Addr.add]
theorem TermsAt.at {w : World} {T : Option Addr} {tv : List TV} (h : TermsAt w T tv) {k : Nat} (hk : k < tv.length) :
    ∃ ad, T = some ad ∧ w.cell? (ad.add (k * 2)) = some (.string tv[k].coef) ∧ w.cell? ⟨(ad.add (k * 2)).block, (ad.add (k * 2)).off + 1, none⟩ = some (.slice tv[k].adr tv[k].exps.length tv[k].cap) ∧ Ints w tv[k].adr tv[k].exps := by
  obtain ⟨ad, rfl, _, ha⟩ := h.sl.lies (by omega)
  refine ⟨ad, rfl, ha _ _ ?_, (congrArg w.cell? (off_one ad (k * 2))).trans (ha _ _ ?_), h.ints _ (List.getElem_mem _)⟩
  · have := flat_get TV.cells 2 (fun _ => rfl) tv k 0 hk (by omega)
    rw [Nat.add_zero] at this
    exact this
  · exact flat_get TV.cells 2 (fun _ => rfl) tv k 1 hk (by omega)
theorem TermsAt.nil (w : World) (T : Option Addr) : TermsAt w T [] := ⟨Sl.nil _ _ _, fun _ h => by cases h⟩
/-- A polynomial in memory. -/
structure PVal where
  vars : Int
  adr : Option Addr
  cap : Nat
  tv : List TV
def PVal.cells (p : PVal) : List Value := [.int .i64 p.vars, .slice p.adr p.tv.length p.cap]
structure PolysAt (w : World) (L : Option Addr) (ps : List PVal) : Prop where
  sl : Sl w L ps.length 2 (ps.flatMap PVal.cells)
  tms : ∀ p ∈ ps, TermsAt w p.adr p.tv
theorem PolysAt.keep {w w' : World} {L : Option Addr} {ps : List PVal} (h : PolysAt w L ps) (hb : Below w.heap.size w w') : PolysAt w' L ps :=
  ⟨h.sl.keep hb, fun p hp => (h.tms p hp).keep hb⟩
theorem PolysAt.at {w : World} {L : Option Addr} {ps : List PVal} (h : PolysAt w L ps) {k : Nat} (hk : k < ps.length) :
    ∃ ad, L = some ad ∧ w.cell? (ad.add (k * 2)) = some (.int .i64 ps[k].vars) ∧ w.cell? ⟨(ad.add (k * 2)).block, (ad.add (k * 2)).off + 1, none⟩ = some (.slice ps[k].adr ps[k].tv.length ps[k].cap) ∧ TermsAt w ps[k].adr ps[k].tv := by
  obtain ⟨ad, rfl, _, ha⟩ := h.sl.lies (by omega)
  refine ⟨ad, rfl, ha _ _ ?_, (congrArg w.cell? (off_one ad (k * 2))).trans (ha _ _ ?_), h.tms _ (List.getElem_mem _)⟩
  · have := flat_get PVal.cells 2 (fun _ => rfl) ps k 0 hk (by omega)
    rw [Nat.add_zero] at this
    exact this
  · exact flat_get PVal.cells 2 (fun _ => rfl) ps k 1 hk (by omega)
/-- A polynomial's plain content. -/
def PVal.ok (p : PVal) : Prop := VldP p.vars (p.tv.map TV.pl)
/-- Few terms, short texts. -/
def PVal.small (p : PVal) : Prop := p.tv.length ≤ 4096 ∧ ∀ t ∈ p.tv, t.coef.size ≤ 19 ∧ t.exps.length ≤ 64
end Go.Proofs.Tg
