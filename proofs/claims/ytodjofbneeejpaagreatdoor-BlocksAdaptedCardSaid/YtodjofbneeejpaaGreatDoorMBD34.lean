/- Parts of the proof: RB4. -/
import Derived.Test.YtodjofbneeejpaaGreatDoorMBD15
import Derived.Test.YtodjofbneeejpaaGreatDoorMBD23
import Derived.Test.YtodjofbneeejpaaGreatDoorMBD32
import Derived.Test.YtodjofbneeejpaaGreatDoorMBD33
section
/- The reference 19: what the loops of Bases hold. -/
namespace Go.Proofs.Tg.Rf
open Go.RowKit Go.Gr Go.Sp Go.Ev Go.Pm Go.Mo Go.Bn Go.Rq Go.Proofs.Tg
open Go.Proofs.Tg.Bk (actE szE szE_ok)
set_option maxHeartbeats 4000000
set_option maxRecDepth 100000
theorem indep_sub {n : Nat} {l : List (List Int)} (hp : ∀ a ∈ l, Perm n a ∧ cmp a a = unit n) (h : Indep n l) : Sub n l := by
 refine ⟨fun a ha => (hp a ha).1, fun a ha => (hp a ha).2, fun a ha b hb => ?_⟩
 obtain ⟨i, hi, rfl⟩ := List.getElem_of_mem ha
 obtain ⟨k, hk, rfl⟩ := List.getElem_of_mem hb
 rcases Nat.lt_trichotomy i k with h1 | h1 | h1
 ·exact (h.1 k i hk h1).symm
 ·subst h1; rfl
 ·exact h.1 i k hi h1
theorem actE_ok {n : Nat} {g b : List (List Int)} (h : actE n g b = 0) : szE n b = 0 ∧ b.Nodup ∧ ∀ p ∈ g, ActsOn n p b := by
 unfold actE at h
 split at h
 ·next h1 => exact absurd h h1
 ·next h1 =>
  split at h
  ·cases h
  ·next h2 =>
   split at h
   ·cases h
   ·next h3 => exact ⟨Classical.byContradiction h1, Classical.byContradiction h2, fun p hp => Classical.byContradiction fun hn => h3 ⟨p, hp, hn⟩⟩
def RetBases (n : Nat) (l b : List (List Int)) (w : World) (e : Ending) (w' : World) : Prop := Below w.heap.size w w' ∧
  ((¬ Indep n l ∧ e = .returned (.tuple #[.slice none 0 0, .int .i64 11])) ∨
   (Indep n l ∧ actE n (prods n l) b ≠ 0 ∧ e = .returned (.tuple #[.slice none 0 0, .int .i64 (actE n (prods n l) b)])) ∨
   (Indep n l ∧ actE n (prods n l) b = 0 ∧ ∃ A c bs, e = .returned (.tuple #[.slice A bs.length c, .int .i64 0]) ∧ OwnB w.heap.size w' A c bs ∧ bs.map QMat.qs = (chgTo (imgs n l b) b.length (imgs n l b).length).map (List.map toQ)))
/-- A row that is being made. -/
structure WSt (wi : World) (gA L : Nat) (v : List Int) (wr : World) (rs : List RVal) : Prop where
  own : OwnQ wi.heap.size wr (some ⟨gA, 0, none⟩) L rs
  below : Below wi.heap.size wi wr
  eq : rs.map RVal.q = toQ v
theorem WSt.len {wi wr : World} {gA L : Nat} {v : List Int} {rs : List RVal} (h : WSt wi gA L v wr rs) : rs.length = v.length := by
 have := congrArg List.length h.eq
 rwa [List.length_map, toQ_len] at this
theorem WSt.keep {wi wr wz : World} {gA L : Nat} {v : List Int} {rs : List RVal} (h : WSt wi gA L v wr rs) (hb : Below wr.heap.size wr wz) : WSt wi gA L v wz rs := ⟨h.own.keep hb, below_all h.below hb, h.eq⟩
/-- The rows of a character. -/
structure RSt (wc : World) (c L : Nat) (im : List (List Int)) (wr : World) (i : Nat) (A : Option Addr) (cA : Nat) (ms : List QRow) : Prop where
  own : OwnM wc.heap.size wr A cA ms
  below : Below wc.heap.size wc wr
  eq : ms.map QRow.qs = (adTo c im L i).map toQ
theorem RSt.keep {wc wr wz : World} {c L i cA : Nat} {im : List (List Int)} {A : Option Addr} {ms : List QRow} (h : RSt wc c L im wr i A cA ms) (hb : Below wr.heap.size wr wz) : RSt wc c L im wz i A cA ms := ⟨h.own.keep hb, below_all h.below hb, h.eq⟩
theorem RSt.len {wc wr : World} {c L i cA : Nat} {im : List (List Int)} {A : Option Addr} {ms : List QRow} (h : RSt wc c L im wr i A cA ms) : ms.length = (adTo c im L i).length := by
 have := congrArg List.length h.eq
 rwa [List.length_map, List.length_map] at this
/-- The bases. -/
structure CSt (w0 : World) (L : Nat) (im : List (List Int)) (wr : World) (k : Nat) (A : Option Addr) (cA : Nat) (bs : List QMat) : Prop where
  own : OwnB w0.heap.size wr A cA bs
  below : Below w0.heap.size w0 wr
  eq : bs.map QMat.qs = (chgTo im L k).map (List.map toQ)
theorem CSt.keep {w0 wr wz : World} {L k cA : Nat} {im : List (List Int)} {A : Option Addr} {bs : List QMat} (h : CSt w0 L im wr k A cA bs) (hb : Below wr.heap.size wr wz) : CSt w0 L im wz k A cA bs := ⟨h.own.keep hb, below_all h.below hb, h.eq⟩
theorem adTo_few' (c : Nat) (im : List (List Int)) (L i : Nat) : (adTo c im L i).length ≤ i := by
 have := List.length_filterMap_le (adRow c im L) (List.range i)
 rwa [List.length_range] at this
theorem CSt.len {w0 wr : World} {L k cA : Nat} {im : List (List Int)} {A : Option Addr} {bs : List QMat} (h : CSt w0 L im wr k A cA bs) : bs.length ≤ k := by
 have h1 := congrArg List.length h.eq
 rw [List.length_map, List.length_map] at h1
 have h2 : (chgTo im L k).length ≤ k := by
  unfold chgTo
  refine Nat.le_trans (List.length_filter_le _ _) ?_
  rw [List.length_map, List.length_range]
  exact Nat.le_refl k
 omega
/-- The number of a cell, in two ways. -/
theorem WSt.at {wi wr : World} {gA L p : Nat} {v : List Int} {rs : List RVal} (h : WSt wi gA L v wr rs) (hp : p < v.length) : ∃ hp' : p < rs.length, rs[p].q = ((v[p] : Int) : Rat) :=
  ⟨by rw [h.len]; exact hp, q_at h.eq _ hp⟩
theorem r_sgn (z : Int) (h : z.natAbs ≤ 64) (V : World) : Calls Tryz.prog 69 #[.int .i64 z] V fun e w' => ∃ y, e = .returned y ∧ QAt w' y ((z : Int) : Rat) ∧ Below V.heap.size V w' :=
  (r_q z (by omega) (by omega) V).mono fun _ _ ⟨v, h1, h2, h3⟩ => ⟨v, h1, h2, h3⟩
theorem add_int (x z : Int) (va vb : Value) (V : World) (ha : QAt V va ((x : Int) : Rat)) (hb : QAt V vb ((z : Int) : Rat)) (hx : x.natAbs ≤ 4096) (hz : z.natAbs ≤ 4096) : Calls Tryz.prog 68 #[va, vb] V (RetR (((x : Int) : Rat) + ((z : Int) : Rat)) V) :=
  (radd_q _ _ va vb V ha hb (qs_int hx) (qs_int hz)).mono fun _ _ h => h.r
theorem div_int (x y z : Int) (va vb : Value) (V : World) (ha : QAt V va ((x : Int) : Rat)) (hb : QAt V vb ((y : Int) : Rat)) (hx : x.natAbs ≤ 4096) (hy : y.natAbs ≤ 4096) (h0 : 0 < y) (hz : ((x : Int) : Rat) / ((y : Int) : Rat) = ((z : Int) : Rat)) : Calls Tryz.prog 72 #[va, vb] V (RetR ((z : Int) : Rat) V) := by
 rw [← hz]
 exact (rdiv_q _ _ va vb V ha hb (qs_int hx) (qs_int hy) h0 (by rw [(int_num y).1]; omega)).mono fun _ _ h => h.r
theorem sign_int (y : Int) (v : Value) (V : World) (h : QAt V v ((y : Int) : Rat)) (hy : y.natAbs ≤ 4096) : Calls Tryz.prog 71 #[v] V fun e w' => e = .returned (.int .i64 y.sign) ∧ Below V.heap.size V w' := by
 have := rsign_q _ v V h (by
  have := (qs_int hy).num
  omega)
 rwa [(int_num y).1] at this
end Go.Proofs.Tg.Rf
end
