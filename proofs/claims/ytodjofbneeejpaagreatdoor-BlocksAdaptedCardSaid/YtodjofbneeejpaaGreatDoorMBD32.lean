/- Parts of the proof: MQ1, RB2, RB3, TX1, TX2, MQ2. -/
import Derived.Deep.AppendSrc
import Derived.Lib.ItoaWalk
import Derived.CellFam
import Derived.Lib.ItoaLen
import Derived.Deep.RegionHeld3
import Derived.Maps.AppendAt
import Derived.Test.YtodjofbneeejpaaGreatDoorMBD3
import Derived.Test.YtodjofbneeejpaaGreatDoorMBD8
import Derived.Test.YtodjofbneeejpaaGreatDoorMBD10
import Derived.Test.YtodjofbneeejpaaGreatDoorMBD12
import Derived.Test.YtodjofbneeejpaaGreatDoorMBD17
import Derived.Test.YtodjofbneeejpaaGreatDoorMBD23
import Derived.Test.YtodjofbneeejpaaGreatDoorMBD31
section
/- Rows of rows of rational numbers. -/
namespace Go.Proofs.Tg
open Go.RowKit Go.Gr Go.Bn Go.Rq
set_option maxHeartbeats 4000000
set_option maxRecDepth 100000
/-- A row and where it lies. -/
structure QRow where
  adr : Option Addr
  cap : Nat
  rs : List RVal
def QRow.cell (r : QRow) : Value := .slice r.adr r.rs.length r.cap
def QRow.qs (r : QRow) : List Rat := r.rs.map RVal.q
/-- A list of rows of the call's own. -/
structure OwnM (base : Nat) (w : World) (A : Option Addr) (c : Nat) (ms : List QRow) : Prop where
  own : w.ownsRow base 104 1 (.slice A ms.length c) ms.length (ms.map QRow.cell)
  ok : ∀ r ∈ ms, OwnQ base w r.adr r.cap r.rs
theorem OwnM.nil (base : Nat) (w : World) : OwnM base w none 0 [] := ⟨World.ownsRow_nil _ _ _ _, fun r h => absurd h (by simp)⟩
theorem OwnM.keep {base : Nat} {w w' : World} {A : Option Addr} {c : Nat} {ms : List QRow} (h : OwnM base w A c ms) (hb : Below w.heap.size w w') : OwnM base w' A c ms :=
  ⟨own_below h.own hb (Nat.le_refl _), fun r hr => (h.ok r hr).keep hb⟩
theorem OwnM.mono {base base' : Nat} {w : World} {A : Option Addr} {c : Nat} {ms : List QRow} (h : OwnM base w A c ms) (hb : base' ≤ base) : OwnM base' w A c ms := ⟨own_base h.own hb, fun r hr => (h.ok r hr).mono hb⟩
theorem OwnM.push {base : Nat} {w w' : World} {A : Option Addr} {c : Nat} {ms : List QRow} {r : QRow} {A' : Option Addr} {c' : Nat} (h : OwnM base w A c ms) (hr : OwnQ base w r.adr r.cap r.rs) (hg : w.grownBy w' (Value.slice A ms.length c).ownBlock)
    (h' : w'.ownsRow base 104 1 (.slice A' (ms.length + 1) c') (ms.length + 1) (ms.map QRow.cell ++ [r.cell])) : OwnM base w' A' c' (ms ++ [r]) := by
  refine ⟨?_, fun x hx => ?_⟩
  ·rw [List.length_append, List.map_append]
   simpa using h'
  ·rcases List.mem_append.1 hx with hx | hx
   ·exact (h.ok x hx).other h.own hg (by decide) (by decide)
   ·rw [List.mem_singleton.1 hx]; exact hr.other h.own hg (by decide) (by decide)
/-- Another row grows. -/
theorem OwnM.other {base b sz n : Nat} {w w' : World} {A : Option Addr} {c : Nat} {ms : List QRow} {ys : List Value} {t : TypeId} {v : Value} (h : OwnM base w A c ms) (ho : w.ownsRow b t sz v n ys) (hg : w.grownBy w' v.ownBlock) (hne : t ≠ 123) (hne2 : 109 ≠ t) (hne3 : 104 ≠ t) : OwnM base w' A c ms :=
  ⟨h.own.kept hg (own_ne h.own ho hne3), fun r hr => (h.ok r hr).other ho hg hne hne2⟩
/-- A matrix and where it lies. -/
structure QMat where
  adr : Option Addr
  cap : Nat
  ms : List QRow
def QMat.cell (r : QMat) : Value := .slice r.adr r.ms.length r.cap
def QMat.qs (r : QMat) : List (List Rat) := r.ms.map QRow.qs
structure OwnB (base : Nat) (w : World) (A : Option Addr) (c : Nat) (bs : List QMat) : Prop where
  own : w.ownsRow base 78 1 (.slice A bs.length c) bs.length (bs.map QMat.cell)
  ok : ∀ r ∈ bs, OwnM base w r.adr r.cap r.ms
theorem OwnB.nil (base : Nat) (w : World) : OwnB base w none 0 [] := ⟨World.ownsRow_nil _ _ _ _, fun r h => absurd h (by simp)⟩
theorem OwnB.keep {base : Nat} {w w' : World} {A : Option Addr} {c : Nat} {bs : List QMat} (h : OwnB base w A c bs) (hb : Below w.heap.size w w') : OwnB base w' A c bs :=
  ⟨own_below h.own hb (Nat.le_refl _), fun r hr => (h.ok r hr).keep hb⟩
theorem OwnB.push {base : Nat} {w w' : World} {A : Option Addr} {c : Nat} {bs : List QMat} {r : QMat} {A' : Option Addr} {c' : Nat} (h : OwnB base w A c bs) (hr : OwnM base w r.adr r.cap r.ms) (hg : w.grownBy w' (Value.slice A bs.length c).ownBlock)
    (h' : w'.ownsRow base 78 1 (.slice A' (bs.length + 1) c') (bs.length + 1) (bs.map QMat.cell ++ [r.cell])) : OwnB base w' A' c' (bs ++ [r]) := by
  refine ⟨?_, fun x hx => ?_⟩
  ·rw [List.length_append, List.map_append]
   simpa using h'
  ·rcases List.mem_append.1 hx with hx | hx
   ·exact (h.ok x hx).other h.own hg (by decide) (by decide) (by decide)
   ·rw [List.mem_singleton.1 hx]; exact hr.other h.own hg (by decide) (by decide) (by decide)
theorem OwnB.at {base : Nat} {w : World} {A : Option Addr} {c : Nat} {bs : List QMat} (h : OwnB base w A c bs) {k : Nat} (hk : k < bs.length) : ∃ ad, A = some ad ∧ w.cell? (ad.add k) = some bs[k].cell := by
 obtain ⟨ad, e, _, ha⟩ := (Sl.own h.own).lies (by omega)
 exact ⟨ad, e, ha k _ (by rw [List.getElem?_map, List.getElem?_eq_getElem hk]; rfl)⟩
theorem qmrow_info : (Tryz.prog.info? 78).map (fun i => (i.zero, i.size, i.bytes)) = some (some (.slice none 0 0), 1, 24) := by kernel_rfl
end Go.Proofs.Tg
end
section
/- The numbers of the reference's bases (plain). -/
namespace Go.Proofs.Tg.Rf
open Go.RowKit Go.Gr Go.Bn Go.Rq Go.Pm Go.Qn Go.Proofs.Tg
set_option maxRecDepth 100000
def toQ (r : List Int) : List Rat := r.map fun x : Int => ((x : Int) : Rat)
theorem toQ_len (r : List Int) : (toQ r).length = r.length := List.length_map _
theorem toQ_set (r : List Int) (k : Nat) (x : Int) : toQ (r.set k x) = (toQ r).set k (x : Rat) := by unfold toQ; rw [List.map_set]
theorem set_q (rs : List RVal) (r : RVal) (p : Nat) : (rs.set p r).map RVal.q = (rs.map RVal.q).set p r.q := List.map_set
theorem int_num (x : Int) : ((x : Int) : Rat).num = x ∧ ((x : Int) : Rat).den = 1 := ⟨rfl, rfl⟩
theorem qs_int {x : Int} (h : x.natAbs ≤ 4096) : QS ((x : Int) : Rat) := by
 refine ⟨?_, ?_⟩
 ·rw [(int_num x).1]
  exact Nat.lt_of_le_of_lt h (by decide)
 ·rw [(int_num x).2]; decide
theorem sh_int {x : Int} (h : x.natAbs ≤ 4096) : Sh ((x : Int) : Rat) := by
 refine ⟨?_, ?_⟩
 ·rw [(int_num x).1]; omega
 ·rw [(int_num x).2]; decide
theorem q_at {rs : List RVal} {l : List Int} (h : rs.map RVal.q = toQ l) {k : Nat} (hk : k < rs.length) (hk2 : k < l.length) : rs[k].q = ((l[k] : Int) : Rat) := by
 have h1 : (rs.map RVal.q)[k]? = (toQ l)[k]? := by rw [h]
 unfold toQ at h1
 rw [List.getElem?_map, List.getElem?_map, List.getElem?_eq_getElem hk, List.getElem?_eq_getElem hk2] at h1
 simpa using h1
theorem wv_step {rs : List RVal} {c L i k p : Nat} {im : List (List Int)} {r : RVal} {x : Int} (h : rs.map RVal.q = toQ (wvT c im L i k)) (hp : plc im i k = p) (hx : (wvT c im L i k).getD p 0 = x) (hr : r.q = ((x : Int) : Rat) + ((sgn k c : Int) : Rat)) :
    (rs.set p r).map RVal.q = toQ (wvT c im L i (k + 1)) := by
  rw [set_q, h, wvT_succ, hp, hx, toQ_set, hr, Rat.intCast_add]
theorem rep_zq (n : Nat) : (List.replicate n zq).map RVal.q = toQ (List.replicate n 0) := by
 unfold toQ
 rw [List.map_replicate, List.map_replicate]
 rfl
/-- A row of which k numbers have been divided. -/
def partQ (v : List Int) (y : Int) (k : Nat) : List Int := (v.take k).map (fun x => x.tdiv y) ++ v.drop k
theorem partQ_zero (v : List Int) (y : Int) : partQ v y 0 = v := by simp [partQ]
theorem partQ_full {v : List Int} (y : Int) {k : Nat} (h : v.length = k) : partQ v y k = v.map fun x => x.tdiv y := by
 subst h
 simp [partQ]
theorem partQ_len (v : List Int) (y : Int) (k : Nat) : (partQ v y k).length = v.length := by
 simp [partQ]
 omega
theorem partQ_at {v : List Int} {y : Int} {k : Nat} (hk : k < v.length) : (partQ v y k)[k]? = some v[k] := by
 unfold partQ
 rw [List.getElem?_append_right (by simp; omega)]
 simp [Nat.min_eq_left (Nat.le_of_lt hk), hk]
theorem partQ_set {v : List Int} {y : Int} {k : Nat} (hk : k < v.length) : (partQ v y k).set k (v[k].tdiv y) = partQ v y (k + 1) := by
 unfold partQ
 have e : ((v.take k).map (fun x => x.tdiv y)).length = k := by simp; omega
 rw [List.set_append_right _ _ (by omega), e, Nat.sub_self, List.drop_eq_getElem_cons hk, List.set_cons_zero, List.take_succ_eq_append_getElem hk, List.map_append, List.append_assoc]
 rfl
theorem tx_q {x : Int} (h : Sg x) : qtx ((x : Int) : Rat) = Bk.tx x := by
 rcases h with rfl | rfl | rfl <;> decide +kernel
end Go.Proofs.Tg.Rf
end
section
/- Independent involutions: the program's test and the reference's are the same; the errors of Adapted are those of the reference (plain). -/
namespace Go.Pm
open Go.Mo Go.Sp
open Go.Proofs.Tg.Bk (adN chE adE szE adapt_facts)
set_option maxRecDepth 100000
def I5 : List (List Int) := (allP 5).filter fun a => decide (cmp a a = unit 5)
def chk5 : Bool := I5.all fun a => I5.all fun b => !(decide (cmp b a = cmp a b)) || decide (a = unit 5) || decide (b ∈ prods 5 [a]) || (I5.all fun c => !(decide (cmp c a = cmp a c)) || !(decide (cmp c b = cmp b c)) || decide (c ∈ prods 5 [a, b]))
set_option maxHeartbeats 4000000 in
theorem chk5_true : chk5 = true := by decide +kernel
theorem i5_mem {a : List Int} (h : Perm 5 a) (hi : cmp a a = unit 5) : a ∈ I5 := List.mem_filter.2 ⟨allP_mem h, decide_eq_true hi⟩
/-- Of five points there are no three independent involutions that commute. -/
theorem no_three {a b c : List Int} (ha : Perm 5 a) (hb : Perm 5 b) (hc : Perm 5 c) (ia : cmp a a = unit 5) (ib : cmp b b = unit 5) (ic : cmp c c = unit 5) (a0 : a ≠ unit 5) (b0 : b ∉ prods 5 [a]) (c0 : c ∉ prods 5 [a, b]) (hba : cmp b a = cmp a b) (hca : cmp c a = cmp a c) (hcb : cmp c b = cmp b c) : False := by
 have h := chk5_true
 unfold chk5 at h
 have h1 := List.all_eq_true.1 h a (i5_mem ha ia)
 have h2 := List.all_eq_true.1 h1 b (i5_mem hb ib)
 rw [decide_eq_true hba, decide_eq_false a0, decide_eq_false b0] at h2
 simp only [Bool.not_true, Bool.false_or] at h2
 have h3 := List.all_eq_true.1 h2 c (i5_mem hc ic)
 rw [decide_eq_true hca, decide_eq_true hcb, decide_eq_false c0] at h3
 cases h3
theorem ind_sub' {n : Nat} {l : List (List Int)} (hp : ∀ a ∈ l, Perm n a ∧ cmp a a = unit n) (h : AdInd n l) : Sub n l ∧ (prods n l).Nodup := by
 have := Go.Proofs.Tg.Bk.ind_sub hp (Nat.le_refl l.length) (fun j hj _ => h j hj)
 rwa [List.take_length] at this
theorem ad_room {n : Nat} {l : List (List Int)} (hp : ∀ a ∈ l, Perm n a ∧ cmp a a = unit n) (hn : n ≤ 6) (hl : l.length ≤ 6) (h : AdInd n l) : l.length ≤ n := by
 have hs := ind_sub' hp h
 have hc := perm_count hs.2 (prods_perm hs.1.perm)
 rw [prods_len] at hc
 have h7 : n = 0 ∨ n = 1 ∨ n = 2 ∨ n = 3 ∨ n = 4 ∨ n = 5 ∨ n = 6 := by omega
 rcases h7 with rfl | rfl | rfl | rfl | rfl | rfl | rfl
 ·rw [all0] at hc; exact pow_bound hc 0 (by omega)
 ·rw [all1] at hc; exact pow_bound hc 1 (by omega)
 ·rw [all2] at hc; exact pow_bound hc 2 (by omega)
 ·rw [all3] at hc; exact pow_bound hc 3 (by omega)
 ·rw [all4] at hc; exact pow_bound hc 4 (by omega)
 ·apply Classical.byContradiction
  intro hlt
  have h0 : 0 < l.length := by omega
  have h1 : 1 < l.length := by omega
  have h2 : 2 < l.length := by omega
  obtain ⟨p0, i0⟩ := hp l[0] (List.getElem_mem h0)
  obtain ⟨p1, i1⟩ := hp l[1] (List.getElem_mem h1)
  obtain ⟨p2, i2⟩ := hp l[2] (List.getElem_mem h2)
  obtain ⟨n0, _⟩ := h 0 h0
  obtain ⟨n1, c1⟩ := h 1 h1
  obtain ⟨n2, c2⟩ := h 2 h2
  have t1 : l.take 1 = [l[0]] := by rw [List.take_succ_eq_append_getElem h0]; simp
  have t2 : l.take 2 = [l[0], l[1]] := by rw [List.take_succ_eq_append_getElem h1, t1]; rfl
  rw [t1] at n1 c1
  rw [t2] at n2 c2
  exact no_three p0 p1 p2 i0 i1 i2 (fun e => n0 (by rw [List.take_zero, prods_nil, e]; simp)) n1 n2 (c1 _ (by simp)) (c2 _ (by simp)) (c2 _ (by simp))
 ·omega
theorem indep_ad {n : Nat} {l : List (List Int)} (hp : ∀ a ∈ l, Perm n a ∧ cmp a a = unit n) (hn : n ≤ 6) (hl : l.length ≤ 6) : Indep n l ↔ AdInd n l := by
 constructor
 ·rintro ⟨h1, _, h3⟩
  -- the products of a shorter list are different too
  have hpre : ∀ k, k ≤ l.length → (prods n (l.take k)).Nodup := by
   intro k hk
   obtain ⟨d, hd⟩ : ∃ d, l.length - k = d := ⟨_, rfl⟩
   induction d generalizing k with
   | zero => rw [List.take_of_length_le (by omega)]; exact h3
   | succ d ih =>
     have h := ih (k + 1) (by omega) (by omega)
     rw [List.take_succ_eq_append_getElem (by omega), prods_snoc] at h
     exact (List.nodup_append.1 h).1
  have hcom : ∀ j (h : j < l.length), ∀ b ∈ l.take j, cmp l[j] b = cmp b l[j] := by
   intro j h b hb
   obtain ⟨k, hk, rfl⟩ := List.getElem_of_mem hb
   rw [List.length_take] at hk
   rw [List.getElem_take]
   exact h1 j k h (by omega)
  have hsub : ∀ k, k ≤ l.length → Sub n (l.take k) := by
   intro k
   induction k with
   | zero => intro _; simpa using Sub.nil n
   | succ k ih =>
     intro hk
     have hkl : k < l.length := by omega
     have h5 := hp l[k] (List.getElem_mem _)
     rw [List.take_succ_eq_append_getElem hkl]
     exact (ih (by omega)).snoc h5.1 h5.2 (hcom k hkl)
  intro j hj
  refine ⟨?_, hcom j hj⟩
  have h5 := hp l[j] (List.getElem_mem _)
  have h6 := hpre (j + 1) (by omega)
  rw [List.take_succ_eq_append_getElem hj] at h6
  exact ((hsub j (by omega)).nodup_snoc (hpre j (by omega)) h5.1 h5.2).1 h6
 ·intro h
  have hs := ind_sub' hp h
  refine ⟨fun i k h1 h2 => (h i h1).2 _ ?_, ad_room hp hn hl h, hs.2⟩
  rw [List.mem_take_iff_getElem]
  exact ⟨k, by omega, rfl⟩
/-- The error that the reference's Adapted gives, in its own order. -/
theorem adE_ref {l b : List (List Int)} (hl6 : l.length ≤ 6) :
    ((¬ (∀ a ∈ l, Invo a) → adE l b = 1) ∧ ((∀ a ∈ l, Invo a) → ¬ (∀ m ∈ b, vldM m = true) → adE l b = 1) ∧
    ((∀ a ∈ l, Invo a) → (∀ m ∈ b, vldM m = true) → (∃ x ∈ l ++ b, x.length ≠ adN l b) → adE l b = 4) ∧
    ((∀ a ∈ l, Invo a) → (∀ m ∈ b, vldM m = true) → (∀ x ∈ l ++ b, x.length = adN l b) → (b.length = 0 ∨ 64 < b.length) → adE l b = 2) ∧
    ((∀ a ∈ l, Invo a) → (∀ m ∈ b, vldM m = true) → (∀ x ∈ l ++ b, x.length = adN l b) → ¬ (b.length = 0 ∨ 64 < b.length) → ¬ b.Nodup → adE l b = 10) ∧
    ((∀ a ∈ l, Invo a) → (∀ m ∈ b, vldM m = true) → (∀ x ∈ l ++ b, x.length = adN l b) → ¬ (b.length = 0 ∨ 64 < b.length) → b.Nodup → ¬ Indep (adN l b) l → adE l b = 11) ∧
    ((∀ a ∈ l, Invo a) → (∀ m ∈ b, vldM m = true) → (∀ x ∈ l ++ b, x.length = adN l b) → ¬ (b.length = 0 ∨ 64 < b.length) → b.Nodup → Indep (adN l b) l → adE l b = Go.Proofs.Tg.Bk.actE (adN l b) (prods (adN l b) l) b)) := by
  have hch : (∀ a ∈ l, Invo a) → (∀ m ∈ b, vldM m = true) → ¬ ((∃ a ∈ l, ¬ Invo a) ∨ (∃ m ∈ b, vldM m = false)) := fun h1 h2 h => by
   rcases h with ⟨a, ha, hn⟩ | ⟨m, hm, hn⟩
   ·exact hn (h1 a ha)
   ·rw [h2 m hm] at hn; cases hn
  have hsz : (∀ x ∈ l ++ b, x.length = adN l b) → ¬ (b.length = 0 ∨ 64 < b.length) → szE (adN l b) b = 0 := fun h1 h2 => by
   unfold szE
   rw [if_neg (fun ⟨m, hm, hne⟩ => hne (h1 m (List.mem_append_right _ hm))), if_neg h2]
  have hc0 : (∀ a ∈ l, Invo a) → (∀ m ∈ b, vldM m = true) → (∀ x ∈ l ++ b, x.length = adN l b) → ¬ (b.length = 0 ∨ 64 < b.length) → chE l b = 0 := fun h1 h2 h3 h4 => by
   unfold chE
   rw [if_neg (hch h1 h2), if_neg (fun ⟨a, ha, hne⟩ => hne (h3 a (List.mem_append_left _ ha))), hsz h3 h4]
  have hia : (∀ a ∈ l, Invo a) → (∀ m ∈ b, vldM m = true) → (∀ x ∈ l ++ b, x.length = adN l b) → ¬ (b.length = 0 ∨ 64 < b.length) → (Indep (adN l b) l ↔ AdInd (adN l b) l) := fun h1 h2 h3 h4 => by
   obtain ⟨hp, hn6, _⟩ := adapt_facts (hc0 h1 h2 h3 h4)
   exact indep_ad (fun a ha => ⟨(hp a ha).1, (hp a ha).2.1⟩) hn6 hl6
  refine ⟨fun h => ?_, fun h1 h => ?_, fun h1 h2 h => ?_, fun h1 h2 h3 h => ?_, fun h1 h2 h3 h4 h => ?_, fun h1 h2 h3 h4 h5 h => ?_, fun h1 h2 h3 h4 h5 h => ?_⟩
  ·have e : chE l b = 1 := by
    unfold chE
    rw [if_pos (.inl (Classical.byContradiction fun hn => h fun a ha => Classical.byContradiction fun hi => hn ⟨a, ha, hi⟩))]
   unfold adE
   rw [if_pos (by rw [e]; decide), e]
  ·have e : chE l b = 1 := by
    unfold chE
    rw [if_pos (.inr (Classical.byContradiction fun hn => h fun m hm => by
     cases hv : vldM m with
     | true => rfl
     | false => exact absurd ⟨m, hm, hv⟩ hn))]
   unfold adE
   rw [if_pos (by rw [e]; decide), e]
  ·have e : chE l b = 4 := by
    unfold chE
    rw [if_neg (hch h1 h2)]
    by_cases hl : ∃ a ∈ l, a.length ≠ adN l b
    ·rw [if_pos hl]
    ·rw [if_neg hl]
     unfold szE
     rw [if_pos]
     obtain ⟨x, hx, hne⟩ := h
     rcases List.mem_append.1 hx with hx | hx
     ·exact absurd ⟨x, hx, hne⟩ hl
     ·exact ⟨x, hx, hne⟩
   unfold adE
   rw [if_pos (by rw [e]; decide), e]
  ·have e : chE l b = 2 := by
    unfold chE
    rw [if_neg (hch h1 h2), if_neg (fun ⟨a, ha, hne⟩ => hne (h3 a (List.mem_append_left _ ha)))]
    unfold szE
    rw [if_neg (fun ⟨m, hm, hne⟩ => hne (h3 m (List.mem_append_right _ hm))), if_pos h]
   unfold adE
   rw [if_pos (by rw [e]; decide), e]
  ·unfold adE
   rw [if_neg (by rw [hc0 h1 h2 h3 h4]; simp), if_pos h]
  ·unfold adE
   rw [if_neg (by rw [hc0 h1 h2 h3 h4]; simp), if_neg (fun hn => hn h5), if_pos (fun ha => h ((hia h1 h2 h3 h4).2 ha))]
  ·have e2 : Go.Proofs.Tg.Bk.actE (adN l b) (prods (adN l b) l) b = if ∃ p ∈ prods (adN l b) l, ¬ ActsOn (adN l b) p b then 8 else 0 := by
    unfold Go.Proofs.Tg.Bk.actE
    rw [if_neg (by rw [hsz h3 h4]; simp), if_neg (fun hn => hn h5)]
   rw [e2]
   unfold adE
   rw [if_neg (by rw [hc0 h1 h2 h3 h4]; simp), if_neg (fun hn => hn h5), if_neg (fun ha => ha ((hia h1 h2 h3 h4).1 h))]
end Go.Pm
end
section
/- Lists of texts of numbers: numbers (the program), Texts (the harness). -/
namespace Go.Proofs.Tg.Fi
open Go.RowKit Go.Rq Go.Qn Go.Proofs.Tg
set_option maxHeartbeats 6400000
set_option maxRecDepth 100000
def vq (q : Rat) : Value := .string (qtx q)
end Go.Proofs.Tg.Fi
end
section
/- Lists of texts that are being filled; Texts of the harness. -/
namespace Go.Proofs.Tg.Fi
open Go.RowKit Go.Rq Go.Qn Go.Bn Go.Proofs.Tg
set_option maxHeartbeats 6400000
set_option maxRecDepth 100000
/-- The first k of n texts are there. -/
def tpart (qs : List Rat) (n k : Nat) : Array Value := ((qs.take k).map vq ++ List.replicate (n - k) (Value.string ⟨#[]⟩)).toArray
theorem tpart_zero (qs : List Rat) (n : Nat) : madeCells #[.string ⟨#[]⟩] n = tpart qs n 0 := by
 apply Array.ext
 ·simp [tpart, size_madeCells]
 ·intro i h1 h2
  simp [madeCells, tpart, Nat.mod_one]
theorem tpart_all {qs : List Rat} {n : Nat} (h : qs.length = n) : tpart qs n n = (qs.map vq).toArray := by
 subst h
 simp [tpart]
theorem tpart_set {qs : List Rat} {n k : Nat} (h : qs.length = n) (hk : k < n) : (tpart qs n k).setIfInBounds k (.string (qtx (qs[k]'(by omega)))) = tpart qs n (k + 1) := by
 unfold tpart
 rw [List.take_succ_eq_append_getElem (by omega), show n - k = (n - (k + 1)) + 1 by omega, List.replicate_succ]
 have e : ((qs.take k).map vq).length = k := by simp; omega
 simp only [List.setIfInBounds_toArray, List.map_append]
 congr 1
 rw [List.set_append_right _ _ (by omega), e, Nat.sub_self, List.set_cons_zero]
 simp [vq]
theorem tpart_at {qs : List Rat} {n k : Nat} (h : qs.length = n) (hk : k < n) : ∃ u, (tpart qs n k)[k]? = some u := by
 refine ⟨_, Array.getElem?_eq_getElem ?_⟩
 simp [tpart]; omega
theorem text_info : (Tryz.prog.info? 9).map (fun i => (i.zero, i.size, i.bytes)) = some (some (.string ⟨#[]⟩), 1, 16) := by kernel_rfl
theorem make_txts (n : Nat) (hn : n ≤ 1000000) (w : World) : (Instr.makeSlice 46 (.int .i64 (n : Int)) (.int .i64 (n : Int))).run Tryz.prog w = .ok (.slice (some ⟨w.heap.size, 0, none⟩) n n) (w.alloc (.cells (madeCells #[.string ⟨#[]⟩] n) 9)) := by
 obtain ⟨i0, hi, hz0, hz1, hz2⟩ := info_parts text_info
 have hr := run_make (P := Tryz.prog) w 46 9 i0 (.string ⟨#[]⟩) Tryz.underlying46 hi hz0 .i64 .i64 n n (by omega) (by omega) (by rw [hz2]; omega) (by omega)
 rw [hz1, Nat.mul_one, Int.toNat_natCast] at hr
 exact hr
/-- A slice of rational numbers that can be read. -/
structure QsAt (w : World) (A : Option Addr) (rs : List RVal) : Prop where
  sl : Sl w A rs.length 4 (rs.flatMap RVal.cells)
  ok : ∀ r ∈ rs, r.Ok w
theorem QsAt.keep {w w' : World} {A : Option Addr} {rs : List RVal} (h : QsAt w A rs) (hb : Below w.heap.size w w') : QsAt w' A rs := ⟨h.sl.keep hb, fun r hr => (h.ok r hr).keep hb⟩
theorem OwnQ.qs {base : Nat} {w : World} {A : Option Addr} {c : Nat} {rs : List RVal} (h : OwnQ base w A c rs) : QsAt w A rs := ⟨Sl.own h.own, h.ok⟩
theorem flat4 {rs : List RVal} {k j : Nat} (hk : k < rs.length) {u : Value} (hu : rs[k].cells[j]? = some u) : (rs.flatMap RVal.cells)[k * 4 + j]? = some u := by
 have hj : j < 4 := (List.getElem?_eq_some_iff.1 hu).1
 induction rs generalizing k with
 | nil => exact absurd hk (by simp)
 | cons r rs ih =>
   cases k with
   | zero =>
     rw [List.flatMap_cons, List.getElem?_append_left (by rw [RVal.cells_len]; omega)]
     simpa using hu
   | succ k =>
     rw [List.flatMap_cons, List.getElem?_append_right (by rw [RVal.cells_len]; omega), RVal.cells_len]
     have : (k + 1) * 4 + j - 4 = k * 4 + j := by omega
     rw [this]
     exact ih (by simpa using hk) (by simpa using hu)
/-- The four cells of an element. -/
theorem QsAt.at {w : World} {A : Option Addr} {rs : List RVal} (h : QsAt w A rs) {k : Nat} (hk : k < rs.length) : ∃ ad, A = some ad ∧
    w.cell? (ad.add (k * 4)) = some (.bool (decide (rs[k].q.num < 0))) ∧ w.cell? ⟨(ad.add (k * 4)).block, (ad.add (k * 4)).off + 1, none⟩ = some (.slice rs[k].N (dg rs[k].q.num.natAbs).length rs[k].cn) ∧
    w.cell? ⟨(ad.add (k * 4)).block, (ad.add (k * 4)).off + 2, none⟩ = some (.bool false) ∧ w.cell? ⟨(ad.add (k * 4)).block, (ad.add (k * 4)).off + 3, none⟩ = some (.slice rs[k].D (dg (dnz rs[k].q.den)).length rs[k].cd) := by
  obtain ⟨ad, e, hlt, ha⟩ := h.sl.lies (by omega)
  have off : ∀ j, (⟨(ad.add (k * 4)).block, (ad.add (k * 4)).off + (j + 1), none⟩ : Addr) = ad.add (k * 4 + (j + 1)) := fun j => by
   rw [← add_add]; simp [Addr.add]
  refine ⟨ad, e, ha _ _ (flat4 (j := 0) hk rfl), (congrArg w.cell? (off 0)).trans (ha _ _ (flat4 (j := 1) hk rfl)), (congrArg w.cell? (off 1)).trans (ha _ _ (flat4 (j := 2) hk rfl)), (congrArg w.cell? (off 2)).trans (ha _ _ (flat4 (j := 3) hk rfl))⟩
/-- The same, with the block named. -/
def RetTB (qs : List Rat) (w : World) (e : Ending) (w' : World) : Prop := ∃ g, e = .returned (.slice (some ⟨g, 0, none⟩) qs.length qs.length) ∧ Blk w' g 9 (qs.map vq).toArray ∧ w.heap.size ≤ g ∧ Below w.heap.size w w'
theorem texts_b (A : Option Addr) (c : Nat) (rs : List RVal) (w : World) (h : QsAt w A rs) (hs : ∀ r ∈ rs, Sh r.q) (hn : rs.length ≤ 1000000) :
    Calls Tryz.prog 73 #[.slice A rs.length c] w (RetTB (rs.map RVal.q) w) := by
  obtain ⟨n, hn'⟩ : ∃ n, rs.length = n := ⟨_, rfl⟩
  have HT := Lib.hid (fun r (hr : r ∈ rs) V (hb : Below w.heap.size w V) => text_q r.q r.val V ((h.ok r hr).keep hb).at (hs r hr))
  have HA := Lib.hid h
  rw [hn'] at hn ⊢
  have HN := Lib.hid hn'
  have hmk := make_txts n hn
  have hql : (rs.map RVal.q).length = n := by rw [List.length_map, hn']
  unfold RetTB
  rw [hql]
  have HQL := Lib.hid hql
  have HFI : Hid ((tpart (rs.map RVal.q) n n) = ((rs.map RVal.q).map vq).toArray) := Lib.hid (tpart_all hql)
  obtain ⟨W, hW⟩ : ∃ W, w.alloc (.cells (madeCells #[.string ⟨#[]⟩] n) 9) = W := ⟨_, rfl⟩
  have HST : Hid (Blk W w.heap.size 9 (tpart (rs.map RVal.q) n 0) ∧ Below w.heap.size w W) := Lib.hid (by
   rw [← hW, tpart_zero (rs.map RVal.q) n]
   exact ⟨Blk.new _ _ _, (Below.refl _ _).alloc (Nat.le_refl _) _⟩)
  have HWW := Lib.hid hW
  clear hs h hn' hql hW
  go_enter Tryz.func73, Tryz.ntmps73
  go_upto_region 2 with (fail)
  rw [HWW.out]
  go_wp2
  go_loopw [4] (fun s4 wr => ∃ k : Nat, s4 = .int .i64 (k : Nat) ∧ k ≤ n ∧ Hid (Blk wr w.heap.size 9 (tpart (rs.map RVal.q) n k) ∧ Below w.heap.size w wr)) (fun s4 _ => n - (intOf s4).toNat)
  case atStart => exact ⟨0, rfl, Nat.zero_le _, HST⟩
  case round =>
   clear HST
   obtain ⟨wo, rfl⟩ : ∃ wo : World, wo = wr := ⟨_, rfl⟩
   obtain ⟨k, rfl, hk, HST⟩ := hrel
   by_cases hkn : k = n
   ·have e1 : decide ((k : Int) < (n : Int)) = false := decide_eq_false (by omega)
    have e1' : decide (k < n) = false := decide_eq_false (by omega)
    have HK := Lib.hid hkn
    clear hkn
    go_wp2
    go_ret
    have hB := HST.out.1
    rw [HK.out, HFI.out] at hB
    exact ⟨w.heap.size, rfl, hB, Nat.le_refl _, HST.out.2⟩
   ·have hkl : k < n := by omega
    have e1 : decide ((k : Int) < (n : Int)) = true := decide_eq_true (by omega)
    have e1' : decide (k < n) = true := decide_eq_true hkl
    have q0 : (0 : Int) ≤ (k : Int) := by omega
    have q1 : (k : Int) < (n : Int) := by omega
    have hkr : k < rs.length := by rw [HN.out]; exact hkl
    obtain ⟨ad, rfl, h0, h1, h2, h3⟩ := (HA.out.keep HST.out.2).at hkr
    have HC := Lib.hid (HT.out (rs[k]'hkr) (List.getElem_mem _) wo HST.out.2)
    have HSET : Hid ((tpart (rs.map RVal.q) n k).setIfInBounds k (.string (qtx (rs[k]'hkr).q)) = tpart (rs.map RVal.q) n (k + 1)) := Lib.hid (by
     have := tpart_set HQL.out hkl
     simpa using this)
    unfold RVal.val at HC
    generalize rs[k]'hkr = r at *
    generalize decide (r.q.num < 0) = s1 at *
    generalize (dg r.q.num.natAbs).length = n1 at *
    generalize (dg (dnz r.q.den)).length = n2 at *
    generalize qtx r.q = S at *
    generalize r.N = rN at *
    generalize r.D = rD at *
    generalize r.cn = rcn at *
    generalize r.cd = rcd at *
    clear hkn
    go_wp2_with (fail)
    refine HC.out.mono ?_
    rintro e w2 ⟨rfl, hb2⟩
    have hB2 := HST.out.1.keep hb2 HST.out.1.lt
    obtain ⟨u, hu⟩ := tpart_at HQL.out hkl
    have c0 : w2.cell? ⟨w.heap.size, k, none⟩ = some u := by rw [hB2.cell k]; exact hu
    have f0 := hB2.frozen k
    have HB2 := Lib.hid hB2
    clear hu hB2 h0 h1 h2 h3
    go_wp2
    go_roundw
    case rel =>
     refine ⟨k + 1, by go_num, by omega, Lib.hid ⟨?_, below_far (below_all HST.out.2 hb2) (Nat.le_refl _) _ _⟩⟩
     rw [← HSET.out]
     exact HB2.out.set _ _
    case measure => simp [intOf]; omega
end Go.Proofs.Tg.Fi
end
section
/- The rational numbers' contracts in the form that a walk wants: four cells. -/
namespace Go.Proofs.Tg
open Go.RowKit Go.Gr Go.Bn Go.Rq
set_option maxHeartbeats 4000000
set_option maxRecDepth 100000
/-- The cells of a rational number. -/
def RVal.Is (r : RVal) (b : Bool) (N : Option Addr) (n c : Nat) (D : Option Addr) (m d : Nat) : Prop := r.cells = [.bool b, .slice N n c, .bool false, .slice D m d]
theorem RVal.is (r : RVal) : r.Is (decide (r.q.num < 0)) r.N (dg r.q.num.natAbs).length r.cn r.D (dg (dnz r.q.den)).length r.cd := rfl
theorem RVal.Is.val {r : RVal} {b : Bool} {N D : Option Addr} {n c m d : Nat} (h : r.Is b N n c D m d) : Value.agg #[.bool b, .slice N n c, .bool false, .slice D m d] = r.val := by
 unfold RVal.Is RVal.cells at h
 unfold RVal.val
 simp only [List.cons.injEq, and_true] at h
 rw [h.1, h.2.1, h.2.2.2]
theorem RVal.Is.at {r : RVal} {b : Bool} {N D : Option Addr} {n c m d : Nat} {w : World} (h : r.Is b N n c D m d) (hk : r.Ok w) : QAt w (.agg #[.bool b, .slice N n c, .bool false, .slice D m d]) r.q := by
 rw [h.val]; exact hk.at
/-- A rational number is returned. -/
def RetR (q : Rat) (w : World) (e : Ending) (w' : World) : Prop :=
  ∃ (b : Bool) (N : Option Addr) (n c : Nat) (D : Option Addr) (m d : Nat), e = .returned (.agg #[.bool b, .slice N n c, .bool false, .slice D m d]) ∧ Hid (∃ r : RVal, r.Is b N n c D m d ∧ r.q = q ∧ r.Ok w') ∧ Below w.heap.size w w'
theorem RetQ.r {q : Rat} {w w' : World} {e : Ending} (h : RetQ q w e w') : RetR q w e w' := by
 obtain ⟨v, rfl, hQ, hb⟩ := h
 obtain ⟨r, hr, rfl, hok⟩ := hQ.rval
 exact ⟨_, _, _, _, _, _, _, rfl, Lib.hid ⟨r, r.is, hr, hok⟩, hb⟩
theorem OwnQ.cells {base gA c k : Nat} {w : World} {rs : List RVal} (h : OwnQ base w (some ⟨gA, 0, none⟩) c rs) (hk : k < rs.length) {b : Bool} {N D : Option Addr} {n cn m d : Nat} (hI : rs[k].Is b N n cn D m d) :
    w.cell? ⟨gA, k * 4, none⟩ = some (.bool b) ∧ w.cell? ⟨gA, k * 4 + 1, none⟩ = some (.slice N n cn) ∧ w.cell? ⟨gA, k * 4 + 2, none⟩ = some (.bool false) ∧ w.cell? ⟨gA, k * 4 + 3, none⟩ = some (.slice D m d) ∧
    w.frozen? ⟨gA, k * 4, none⟩ = false ∧ w.frozen? ⟨gA, k * 4 + 1, none⟩ = false ∧ w.frozen? ⟨gA, k * 4 + 2, none⟩ = false ∧ w.frozen? ⟨gA, k * 4 + 3, none⟩ = false := by
  have hl : ∀ j, j < 4 → k * 4 + j < rs.length * 4 := fun j hj => by omega
  have h0 := h.own.cellAt (k * 4) (hl 0 (by omega))
  have h1 := h.own.cellAt (k * 4 + 1) (hl 1 (by omega))
  have h2 := h.own.cellAt (k * 4 + 2) (hl 2 (by omega))
  have h3 := h.own.cellAt (k * 4 + 3) (hl 3 (by omega))
  unfold RVal.Is at hI
  refine ⟨h0.trans (Fi.flat4 (j := 0) hk (by rw [hI]; rfl)), h1.trans (Fi.flat4 (j := 1) hk (by rw [hI]; rfl)), h2.trans (Fi.flat4 (j := 2) hk (by rw [hI]; rfl)), h3.trans (Fi.flat4 (j := 3) hk (by rw [hI]; rfl)), h.own.frozenAt _, h.own.frozenAt _, h.own.frozenAt _, h.own.frozenAt _⟩
theorem OwnQ.put {base gA c k : Nat} {w : World} {rs : List RVal} {r : RVal} (h : OwnQ base w (some ⟨gA, 0, none⟩) c rs) (hk : k < rs.length) (hr : r.Ok w) {b : Bool} {N D : Option Addr} {n cn m d : Nat} (hI : r.Is b N n cn D m d) :
    OwnQ base ((((w.setCell ⟨gA, k * 4, none⟩ (.bool b)).setCell ⟨gA, k * 4 + 1, none⟩ (.slice N n cn)).setCell ⟨gA, k * 4 + 2, none⟩ (.bool false)).setCell ⟨gA, k * 4 + 3, none⟩ (.slice D m d)) (some ⟨gA, 0, none⟩) c (rs.set k r) := by
  have h4 := (h.set4 hk hr).1
  unfold RVal.Is RVal.cells at hI
  simp only [List.cons.injEq, and_true] at hI
  rw [hI.1, hI.2.1, hI.2.2.2] at h4
  exact h4
theorem OwnQ.put_ok {base gA c k : Nat} {w : World} {rs : List RVal} {r r' : RVal} (h : OwnQ base w (some ⟨gA, 0, none⟩) c rs) (hk : k < rs.length) (hr : r.Ok w) {b : Bool} {N D : Option Addr} {n cn m d : Nat} (hI : r.Is b N n cn D m d) (hr' : r'.Ok w) :
    r'.Ok ((((w.setCell ⟨gA, k * 4, none⟩ (.bool b)).setCell ⟨gA, k * 4 + 1, none⟩ (.slice N n cn)).setCell ⟨gA, k * 4 + 2, none⟩ (.bool false)).setCell ⟨gA, k * 4 + 3, none⟩ (.slice D m d)) := by
  have h4 := (h.set4 hk hr).2
  unfold RVal.Is RVal.cells at hI
  simp only [List.cons.injEq, and_true] at hI
  rw [hI.1, hI.2.1, hI.2.2.2] at h4
  exact hr'.grown h.own h4 (by decide)
end Go.Proofs.Tg
end
