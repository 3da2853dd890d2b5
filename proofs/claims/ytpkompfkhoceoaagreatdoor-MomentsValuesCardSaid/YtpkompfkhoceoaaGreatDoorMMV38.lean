/- Parts of the proof: ST6, TI2. -/
import Derived.Test.YtpkompfkhoceoaaGreatDoorMMV4
import Derived.Test.YtpkompfkhoceoaaGreatDoorMMV26
import Derived.Test.YtpkompfkhoceoaaGreatDoorMMV34
import Derived.Test.YtpkompfkhoceoaaGreatDoorMMV35
import Derived.Test.YtpkompfkhoceoaaGreatDoorMMV37
section
/- The harness's polynomials written as texts. -/
namespace Go.Proofs.Tg
open Go.RowKit Go.Gr Go.Bn Go.Rq Go.Mo Go.Qn
set_option maxHeartbeats 8000000
set_option maxRecDepth 100000
/-- A term in the form of the reference's polynomials. -/
def TQ.rt (t : TQ) : RT := ⟨.bool (decide (t.r.q.num < 0)), .slice t.r.N (dg t.r.q.num.natAbs).length t.r.cn, .bool false, .slice t.r.D (dg (dnz t.r.q.den)).length t.r.cd, t.E, t.ce, t.el⟩
theorem rt_flat (ts : List TQ) : (ts.map TQ.rt).flatMap RT.cells = ts.flatMap TQ.cells := by
  rw [List.flatMap_map]; rfl
theorem TQ.rnm {w : World} {t : TQ} (h : t.r.Ok w) (hs : Sh t.r.q) (hz : t.r.q ≠ 0) : RNm w t.rt (qtx t.r.q) := by
  have b1 : t.r.q.num.natAbs < B := Nat.lt_of_lt_of_le hs.1 (by decide)
  have b2 : t.r.q.den < B := Nat.lt_of_lt_of_le hs.2 (by decide)
  have d1 := h.num.digs
  have d2 := h.den.digs
  rw [dg_mg b1] at d1
  rw [dg_dl b2] at d2
  refine ⟨decide (t.r.q.num < 0), t.r.q.num.natAbs, t.r.q.den, t.r.N, t.r.cn, t.r.D, t.r.cd, ?_, hs.1, hs.2, t.r.q.den_nz, rfl, ?_, rfl, ?_, d1, d2, rfl⟩
  · intro e
    exact hz (Rat.num_eq_zero.1 (Int.natAbs_eq_zero.1 e))
  · show Value.slice t.r.N (dg t.r.q.num.natAbs).length t.r.cn = _
    rw [dg_mg b1]
  · show Value.slice t.r.D (dg (dnz t.r.q.den)).length t.r.cd = _
    rw [dg_dl b2]
theorem twrite_any (v : Int) (out : List TQ) (R : Option Addr) (c : Nat) (w : World) (hQ : TQs w R out) (hs : ∀ t ∈ out, Sh t.r.q ∧ t.r.q ≠ 0) (hn : out.length ≤ 4096) (he : ∀ t ∈ out, t.el.length ≤ 64) :
    Calls Tryz.prog 30 #[.agg #[.int .i64 v, .slice R out.length c]] w fun e w' => Below w.heap.size w w' ∧ ∃ (A : Option Addr) (c : Nat) (tv : List TV), e = .returned (.agg #[.int .i64 v, .slice A tv.length c]) ∧ OwnTerms w.heap.size w' A c tv ∧ tv.map TV.pl = out.map fun t => (qtx t.r.q, t.el) := by
  have hl : (out.map TQ.rt).length = out.length := List.length_map _
  have h := rwrite_any v R c (out.map TQ.rt) (out.map fun t => qtx t.r.q) w (by rw [hl, rt_flat]; exact hQ.sl) (fun t ht => by
      obtain ⟨x, hx, rfl⟩ := List.mem_map.1 ht
      exact (hQ.ok x hx).e) (by simp) (fun j h1 h2 => by
      have hj : j < out.length := by rwa [hl] at h1
      rw [List.getElem_map, List.getElem_map]
      exact TQ.rnm (hQ.ok _ (List.getElem_mem hj)).r (hs _ (List.getElem_mem hj)).1 (hs _ (List.getElem_mem hj)).2) (by rw [hl]; exact hn) (fun t ht => by
      obtain ⟨x, hx, rfl⟩ := List.mem_map.1 ht
      exact he x hx)
  rw [hl] at h
  refine h.mono ?_
  rintro e w' ⟨hb, A, c', tv, e1, hO, hp⟩
  refine ⟨hb, A, c', tv, e1, hO, ?_⟩
  rw [hp]
  unfold wrPl
  rw [List.zipWith_map_left, List.zipWith_map_right, List.zipWith_self]
  rfl
end Go.Proofs.Tg
end
section
/- Plain: the bounds of the numbers in the law on the functional at a product, and the law itself. -/
namespace Go.Rs
open Go.Mo Go.Rq Go.Mm Go.Qn Go.Ev Go.Proofs.Tg
theorem text_len19 {b : Bool} {n d : Nat} (hn : n < 1000000000) (hd : d < 100000000) : (text b n d).length ≤ 19 := by
  unfold text
  have h1 := dec_len 8 n hn
  have h2 := dec_len 7 d hd
  by_cases h : d = 1
  · rw [if_pos h]
    cases b <;> simp <;> omega
  · rw [if_neg h]
    cases b <;> simp <;> omega
theorem qtx_size19 {D K : Nat} {q : Rat} (h : Bd D K q) (h0 : 0 < D) (hD : D < 100000000) (hK : K < 1000000000) : (qtx q).size ≤ 19 := by
  have h1 := text_len19 (b := decide (q.num < 0)) (Nat.lt_of_le_of_lt h.num hK) (Nat.lt_of_le_of_lt (h.denle h0) hD)
  unfold qtx
  exact h1
/-- The degree of a polynomial bounds that of its terms. -/
theorem top_all {v d : Nat} {l : List (Rat × List Int)} (h : PolyOk v d l) : ∃ dg : Nat, max (topd l) 0 = (dg : Int) ∧ dg ≤ d ∧ ∀ t ∈ l, t.2 ∈ mons v dg := by
  match l, h with
  | [], _ => exact ⟨0, by rfl, Nat.zero_le _, fun t ht => absurd ht (by simp)⟩
  | a :: l, h =>
    have ha := (h.mem a (by simp)).2
    have hs := mons_sum ha
    refine ⟨a.2.sum.toNat, ?_, by omega, fun t ht => ?_⟩
    · show max a.2.sum 0 = _
      omega
    · rcases List.mem_cons.1 ht with rfl | ht2
      · exact mons_of (mons_mem ha).1 (fun x hx => ((mons_mem ha).2 x hx).1) (by omega)
      · have htm := (h.mem t ht).2
        have ho := (List.pairwise_cons.1 h.desc).1 t ht2
        refine mons_of (mons_mem htm).1 (fun x hx => ((mons_mem htm).2 x hx).1) ?_
        have : ¬ a.2.sum < t.2.sum := fun hlt => by have := ord_less hlt; omega
        omega
/-- A sum over a table is within the bounds. -/
theorem sumOk_of {φ : List Int → Rat} {v a b d : Nat} {m : List Int} {l : List (Rat × List Int)} {D K E L : Nat} (hm : m ∈ mons v b) (hl : ∀ t ∈ l, t.2 ∈ mons v a) (hab : a + b ≤ d) (hD : 0 < D) (hE : 0 < E) (hn : Nm D l K) (hφ : ∀ e ∈ mons v d, Bd E L (φ e)) (hDE : D * E < 1000000000) (hKL : K * L < 1000000000) (hD9 : D < 1000000000) (hE9 : E < 1000000000) (hK9 : K < 1000000000) (hL9 : L < 1000000000) : SumOk φ v d m l where
  deg := ⟨a, b, hm, hl, hab⟩
  sh := fun t ht => by
    have h1 := hn.mem t ht
    have h2 := hφ (addL t.2 m) (mons_le (addL_mem (hl t ht) hm) hab)
    exact ⟨h1.sh hD hD9 hK9, h2.sh hE hE9 hL9, (h1.mul h2).sh (Nat.mul_pos hD hE) hDE hKL⟩
  part := fun k _ => ((hn.take k).lin hD hE (fun t ht => hφ (addL t.2 m) (mons_le (addL_mem (hl t (List.mem_of_mem_take ht)) hm) hab))).sh (Nat.mul_pos hD hE) hDE hKL
/-- A polynomial from the tape. -/
structure DrawnP (v d : Nat) (l : List (Rat × List Int)) (D : Nat) : Prop where
  ok : PolyOk v d l
  nm : Nm D l 171
  d0 : 0 < D
  d12 : D ≤ 12
theorem DrawnP.sh {v d D : Nat} {l : List (Rat × List Int)} (h : DrawnP v d l D) : ∀ t ∈ l, Sh t.1 ∧ t.1 ≠ 0 ∧ (qtx t.1).size ≤ 19 := fun t ht => by
  have h1 := h.nm.mem t ht
  have h2 := h.d12
  exact ⟨h1.sh h.d0 (by omega) (by decide), (h.ok.mem t ht).1, qtx_size19 h1 h.d0 (by omega) (by decide)⟩
end Go.Rs
end
