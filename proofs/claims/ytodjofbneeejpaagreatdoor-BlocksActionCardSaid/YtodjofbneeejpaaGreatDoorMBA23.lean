/- Parts of the proof: OR1, OR2, OR3. -/
import Derived.Test.YtodjofbneeejpaaGreatDoorMBA4
import Derived.Test.YtodjofbneeejpaaGreatDoorMBA7
import Derived.Test.YtodjofbneeejpaaGreatDoorMBA8
import Derived.Test.YtodjofbneeejpaaGreatDoorMBA12
import Derived.Test.YtodjofbneeejpaaGreatDoorMBA22
section
/- A group acts on pairs of places: two orbits are the same or apart. Plain. -/
namespace Go.Pm
theorem perm_onto {n : Nat} {a : List Int} (h : Perm n a) {t : Nat} (ht : t < n) : ∃ j, j < n ∧ a.getD j 0 = (t : Int) := by
  have hm : (t : Int) ∈ a := by
    apply Classical.byContradiction
    intro hno
    have hnd : ((t : Int) :: a).Nodup := List.nodup_cons.2 ⟨hno, h.2.2⟩
    have hsub : ∀ x ∈ (t : Int) :: a, x ∈ unit n := fun x hx => by
      have hx2 : 0 ≤ x ∧ x < n := by
        rcases List.mem_cons.1 hx with rfl | hx
        · omega
        · exact h.2.1 x hx
      exact List.mem_map.2 ⟨x.toNat, List.mem_range.2 (by omega), by omega⟩
    have := hnd.length_le_of_subset hsub
    rw [List.length_cons, h.1, unit_len] at this
    omega
  obtain ⟨j, hj, he⟩ := List.getElem_of_mem hm
  exact ⟨j, by rw [← h.1]; exact hj, by simp [hj, he]⟩
theorem mv_cmp {n : Nat} {a b m : List Int} (ha : Perm n a) (hb : Perm n b) : mv n (cmp a b) m = mv n a (mv n b m) := by
  have hab := cmp_perm ha hb
  refine ext_get (by rw [mv, mv, mvF_len, mvF_len]) fun t ht => ?_
  rw [mv, mvF_len] at ht
  obtain ⟨j, hj, he⟩ := perm_onto hab ht
  have h1 := mvF_at (m := m) hab n (Nat.le_refl _) j hj
  have hbj := perm_get hb hj
  have hc : (cmp a b).getD j 0 = a.getD (b.getD j 0).toNat 0 := cmp_get a b (by rw [hb.1]; exact hj)
  have h2 := mvF_at (m := mv n b m) ha n (Nat.le_refl _) (b.getD j 0).toNat (by omega)
  have h3 := mvF_at (m := m) hb n (Nat.le_refl _) j hj
  rw [he] at h1
  rw [← hc, he] at h2
  rw [show ((t : Int)).toNat = t by omega] at h1 h2
  unfold mv at h2 ⊢
  rw [h1, h2]
  exact h3.symm
theorem img_getD {n : Nat} {a : List Int} {l : List (List Int)} {i : Nat} (h : i < l.length) : (img n a l).getD i 0 = ((l.idxOf (mv n a l[i]) : Nat) : Int) := by simp [img, h]
theorem img_cmp {n : Nat} {a b : List Int} {l : List (List Int)} (ha : Perm n a) (hb : Perm n b) (hB : ActsOn n b l) {i : Nat} (hi : i < l.length) : (img n (cmp a b) l).getD i 0 = (img n a l).getD ((img n b l).getD i 0).toNat 0 := by
  rw [img_getD hi, img_getD hi, mv_cmp ha hb]
  obtain ⟨h1, h2⟩ := idxL_get (hB _ (List.getElem_mem hi))
  rw [show (((l.idxOf (mv n b l[i]) : Nat) : Int)).toNat = l.idxOf (mv n b l[i]) by omega, img_getD h1, h2]
theorem img_unit {n : Nat} {l : List (List Int)} (hl : ∀ m ∈ l, m.length = n) (hn : l.Nodup) {i : Nat} (hi : i < l.length) : (img n (unit n) l).getD i 0 = (i : Int) := by
  rw [img_getD hi]
  have hm : mv n (unit n) l[i] = l[i] := by
    refine ext_get (by rw [mv, mvF_len, hl _ (List.getElem_mem _)]) fun t ht => ?_
    rw [mv, mvF_len] at ht
    have h1 := mvF_at (m := l[i]) (unit_perm n) n (Nat.le_refl _) t ht
    rw [unit_get ht, show ((t : Int)).toNat = t by omega] at h1
    exact h1
  have h2 : l.idxOf l[i] = i := Go.Proofs.Tg.Bk.idxL_at hn hi
  rw [hm, h2]
theorem grp_inv {n : Nat} {g : List (List Int)} (hn : n ≤ 6) (hG : Grp n g) (hp : ∀ a ∈ g, Perm n a) {a : List Int} (ha : a ∈ g) : ∃ b ∈ g, cmp b a = unit n := by
  obtain ⟨K, _, hK⟩ := pw_end hn (hp a ha)
  have hmem : ∀ k, pw a k ∈ g := fun k => by
    induction k with
    | zero => exact ha
    | succ k ih => exact hG.2 a ha _ ih
  cases K with
  | zero =>
    refine ⟨unit n, hG.1, ?_⟩
    have : a = unit n := hK
    rw [this, unit_cmp (unit_perm n)]
  | succ K =>
    refine ⟨pw a K, hmem K, ?_⟩
    have h1 : cmp a (pw a K) = unit n := hK
    have pa := hp a ha
    have pb := hp _ (hmem K)
    refine cmp_inj pa (cmp_perm pb pa) (unit_perm n) ?_
    rw [← cmp_assoc pb.1 pa, h1, unit_cmp pa, cmp_unit pa.1]
/-- The images of a group that acts on a basis. -/
theorem good_im {n : Nat} {g l : List (List Int)} (hn : n ≤ 6) (hG : Grp n g) (hp : ∀ a ∈ g, Perm n a) (hA : ∀ a ∈ g, ActsOn n a l) (hl : ∀ m ∈ l, m.length = n) (hnd : l.Nodup) : GoodIm (g.map fun a => img n a l) l.length := by
  intro i k i' k' hik hk hi' hk' r h1 h2
  obtain ⟨x, hx, rfl⟩ := List.mem_map.1 h1
  obtain ⟨a, ha, rfl⟩ := List.mem_map.1 hx
  obtain ⟨y, hy, he⟩ := List.mem_map.1 h2
  obtain ⟨b, hb, rfl⟩ := List.mem_map.1 hy
  obtain ⟨a', ha', hinv⟩ := grp_inv hn hG hp ha
  refine List.mem_map.2 ⟨img n (cmp a' b) l, List.mem_map.2 ⟨_, hG.2 a' ha' b hb, rfl⟩, ?_⟩
  have hperm : ∀ c ∈ g, Perm l.length (img n c l) := fun c hc => img_perm hnd (hA c hc) (fun x hx y hy h => mv_inj (hp c hc) (hl x hx) (hl y hy) h)
  have hback : ∀ j, j < l.length → (img n a' l).getD ((img n a l).getD j 0).toNat 0 = (j : Int) := fun j hj => by
    rw [← img_cmp (hp a' ha') (hp a ha) (hA a ha) hj, hinv, img_unit hl hnd hj]
  have hb1 := perm_get (hperm b hb) hi'
  have hb2 := perm_get (hperm b hb) hk'
  have ha1 := perm_get (hperm a ha) (show i < l.length by omega)
  have ha2 := perm_get (hperm a ha) hk
  have e1 := hback i (by omega)
  have e2 := hback k hk
  unfold prA at he ⊢
  simp only [Prod.mk.injEq] at he ⊢
  rw [img_cmp (hp a' ha') (hp b hb) (hA b hb) hi', img_cmp (hp a' ha') (hp b hb) (hA b hb) hk']
  generalize (img n a l).getD i 0 = ai at *
  generalize (img n a l).getD k 0 = ak at *
  generalize (img n b l).getD i' 0 = bi at *
  generalize (img n b l).getD k' 0 = bk at *
  have hc : (bi.toNat = ai.toNat ∧ bk.toNat = ak.toNat) ∨ (bi.toNat = ak.toNat ∧ bk.toNat = ai.toNat) := by omega
  rcases hc with ⟨c1, c2⟩ | ⟨c1, c2⟩
  · rw [c1, c2, e1, e2]
    omega
  · rw [c1, c2, e1, e2]
    omega
end Go.Pm
end
section
/- Sets of pairs of places in maps of the package blocks. -/
namespace Go.Proofs.Tg
open Go.RowKit Go.Maps Go.WideShapes
theorem keyOf_pair {P : Program} {T I : TypeId} (hT : P.underlying T = some (.array 2 I)) (hI : P.underlying I = some (.int .i64)) (hk : P.keyType T = true) (c1 : P.cellsOf I = 1) (c6 : P.cellsOf T = 2) {s : Nat} (hs : P.types.size = s + 1)
    (a b : Int) (ha : -1000000 ≤ a ∧ a ≤ 1000000) (hb : -1000000 ≤ b ∧ b ≤ 1000000) : keyOf P T (.agg #[.int .i64 a, .int .i64 b]) = some (kl6 [a, b]) := by
  have ha := wf_small ha
  have hb := wf_small hb
  have hr : List.range 2 = [0, 1] := rfl
  unfold keyOf
  simp [hT, hk, Value.formed, c6, Value.cells, hs, Program.keyLits, hI, c1, hr, ha, hb, kl6]
end Go.Proofs.Tg
namespace Go.Proofs.Tg.Bk
open Go.RowKit Go.Gr Go.Sp Go.Ev Go.Maps Go.WideShapes Go.Pm
set_option maxHeartbeats 4000000
set_option maxRecDepth 100000
/-- The value of a pair. -/
def pairV (p : Nat × Nat) : Value := .agg #[.int .i64 p.1, .int .i64 p.2]
def kp (p : Nat × Nat) : Lit := kl6 [(p.1 : Int), (p.2 : Int)]
def domP (p : Nat × Nat) : Prop := p.1 ≤ 1000 ∧ p.2 ≤ 1000
theorem kp_inj {p q : Nat × Nat} (hp : domP p) (hq : domP q) (e : kp p = kp q) : p = q := by
  have h := kl6_inj (l := [(p.1 : Int), (p.2 : Int)]) (m := [(q.1 : Int), (q.2 : Int)]) rfl (fun x hx => by
    simp only [List.mem_cons, List.not_mem_nil, or_false] at hx
    have := hp.1
    have := hp.2
    rcases hx with rfl | rfl <;> omega) (fun x hx => by
    simp only [List.mem_cons, List.not_mem_nil, or_false] at hx
    have := hq.1
    have := hq.2
    rcases hx with rfl | rfl <;> omega) e
  injection h with h1 h2
  injection h2 with h2 _
  obtain ⟨a, b⟩ := p
  obtain ⟨c, d⟩ := q
  simp only at h1 h2
  congr 1 <;> omega
theorem keyLawP : Keyed Tryz.prog 84 :=
  Keyed.of_law (deep_law_laid laidOut (m := 2) (by decide) (of_decide_eq_true (by kernel_rfl)) (by kernel_rfl) (by kernel_rfl))
theorem key_readP {p : Nat × Nat} (h : domP p) : keyOf Tryz.prog 84 (pairV p) = some (kp p) :=
  keyOf_pair (I := 3) (s := Tryz.prog.types.size - 1) Tryz.underlying84 Tryz.underlying3 (by kernel_rfl) (by kernel_rfl) (by kernel_rfl) (by kernel_rfl) p.1 p.2 (by have := h.1; omega) (by have := h.2; omega)
/-- Block mb is a map that holds true at just the pairs of S, and nothing else. -/
def PSet (w : World) (mb cnt : Nat) (S : List (Nat × Nat)) : Prop :=
  ∃ D : DataW Unit, w.ownsMap Tryz.prog 84 (plainElem Tryz.prog 4) mb cnt D ∧ SetN kp domP S D
theorem PSet.mapB {w : World} {mb cnt : Nat} {S : List (Nat × Nat)} (h : PSet w mb cnt S) : MapB w mb := by
  obtain ⟨D, h, _⟩ := h
  exact mapB_own h
theorem PSet.made (w : World) : PSet (w.alloc (.map #[] 0)) w.heap.size 0 [] := ⟨_, World.ownsMap_made _ _ _ _, SetN.nil _ _⟩
theorem PSet.below {w w' : World} {B mb cnt : Nat} {S : List (Nat × Nat)} (h : PSet w mb cnt S) (hb : Below B w w') (hB : mb < B) : PSet w' mb cnt S := by
  obtain ⟨D, ⟨es, clock, hh, r⟩, h2⟩ := h
  exact ⟨D, ⟨es, clock, (hb.block mb hB).trans hh, r⟩, h2⟩
theorem PSet.lt {w : World} {mb cnt : Nat} {S : List (Nat × Nat)} (h : PSet w mb cnt S) : mb < w.heap.size := by
  obtain ⟨es, clock, hh⟩ := h.mapB
  exact (Array.getElem?_eq_some_iff.1 hh).1
theorem PSet.same {w w' : World} {mb cnt : Nat} {S : List (Nat × Nat)} (h : PSet w mb cnt S) (hs : w'.heap[mb]? = w.heap[mb]?) : PSet w' mb cnt S := by
  obtain ⟨D, ⟨es, clock, hh, r⟩, h2⟩ := h
  exact ⟨D, ⟨es, clock, hs.trans hh, r⟩, h2⟩
theorem PSet.grown {w w' : World} {mb cnt : Nat} {S : List (Nat × Nat)} {r : Option Nat} (h : PSet w mb cnt S) (hg : w.grownBy w' r) (hr : some mb ≠ r) : PSet w' mb cnt S := h.same (hg.block mb h.lt hr)
theorem PSet.drew {w : World} {mb cnt : Nat} {S : List (Nat × Nat)} (h : PSet w mb cnt S) : PSet w.drew mb cnt S := h
theorem PSet.look {w : World} {mb cnt : Nat} {S : List (Nat × Nat)} (h : PSet w mb cnt S) {p : Nat × Nat} (hp : domP p) {c : Bool} (hc : decide (p ∈ S) = c) :
    (Instr.lookup 83 (.map (some mb)) (pairV p) false).run Tryz.prog w = .ok (.bool c) w := by
  obtain ⟨D, h1, h2⟩ := h
  obtain ⟨v', ps, hrun, hv2⟩ := h1.lookup keyLawP Tryz.underlying83 (zeroB w) (plainElem_bool Tryz.underlying4 false) (key_readP hp)
  obtain ⟨c', rfl, e⟩ := plainElem_bool_inv Tryz.underlying4 hv2
  rw [h2.at' p hp, (decide_eq_decide.2 Iff.rfl).trans hc] at e
  injection e with e _
  injection e with e
  injection e with e
  subst e
  exact hrun
theorem PSet.put {w : World} {mb cnt : Nat} {S : List (Nat × Nat)} (h : PSet w mb cnt S) (hcnt : cnt ≤ 1000000000) {p : Nat × Nat} (hp : domP p) (hnew : p ∉ S) :
    ∃ w', (Instr.mapUpdate 83 (.map (some mb)) (pairV p) (.bool true)).run Tryz.prog w = .ok () w' ∧ PSet w' mb (cnt + 1) (p :: S) ∧ w.grownBy w' (some mb) := by
  obtain ⟨D, h1, h2⟩ := h
  obtain ⟨w', hrun, h3, h4⟩ := h1.update keyLawP Tryz.underlying83 (by simp only [maxLen]; omega) (key_readP hp) (plainElem_bool Tryz.underlying4 true)
  exact ⟨w', hrun, ⟨_, h3, h2.put (fun _ _ => kl6_key _) (fun _ _ hu hv => kp_inj hu hv) hp hnew⟩, h4⟩
/-- What has been seen, up to the order in which it came. -/
theorem PSet.mem {w : World} {mb cnt : Nat} {S S' : List (Nat × Nat)} (h : PSet w mb cnt S) (he : ∀ p, p ∈ S ↔ p ∈ S') {p : Nat × Nat} (hp : domP p) {c : Bool} (hc : decide (p ∈ S') = c) :
    (Instr.lookup 83 (.map (some mb)) (pairV p) false).run Tryz.prog w = .ok (.bool c) w :=
  h.look hp (by rw [← hc]; exact decide_eq_decide.2 (he p))
end Go.Proofs.Tg.Bk
end
section
/- The order in which the program sorts pairs. -/
namespace Go.Proofs.Tg.Bk
open Go.RowKit Go.Gr Go.Sp Go.Ev Go.Pm
set_option maxHeartbeats 4000000
set_option maxRecDepth 100000
/-- What the comparison of two pairs returns. -/
def cmpPr (p q : Nat × Nat) : Int := cmpL [(p.1 : Int), (p.2 : Int)] [(q.1 : Int), (q.2 : Int)]
theorem cmpPr_lt (p q : Nat × Nat) : cmpPr p q < 0 ↔ ltP p q := by
  unfold cmpPr ltP
  simp only [cmpL]
  by_cases h1 : (p.1 : Int) < (q.1 : Int)
  · rw [if_pos h1]; simp; omega
  · rw [if_neg h1]
    by_cases h2 : (q.1 : Int) < (p.1 : Int)
    · rw [if_pos h2]; simp; omega
    · rw [if_neg h2]
      by_cases h3 : (p.2 : Int) < (q.2 : Int)
      · rw [if_pos h3]; simp; omega
      · rw [if_neg h3]
        split <;> simp <;> omega
theorem pairCmp_any (p q : Nat × Nat) (W : World) : Calls Tryz.prog 50 #[pairV p, pairV q] W fun e w' => e = .returned (.int .i64 (cmpPr p q)) ∧ ∃ n, w' = ((W.alloc (.cells #[.int .i64 p.1, .int .i64 p.2] 84)).alloc (.cells #[.int .i64 q.1, .int .i64 q.2] 84)).drewN n := by
  obtain ⟨V, hV⟩ : ∃ V, (W.alloc (.cells #[.int .i64 p.1, .int .i64 p.2] 84)).alloc (.cells #[.int .i64 q.1, .int .i64 q.2] 84) = V := ⟨_, rfl⟩
  have B0 : Blk V W.heap.size 84 #[.int .i64 p.1, .int .i64 p.2] := by rw [← hV]; exact (Blk.new _ _ _).alloc _
  have B1 : Blk V (W.heap.size + 1) 84 #[.int .i64 q.1, .int .i64 q.2] := by
    rw [← hV]
    have := Blk.new (W.alloc (.cells #[.int .i64 p.1, .int .i64 p.2] 84)) 84 #[.int .i64 q.1, .int .i64 q.2]
    simpa using this
  have i0 : Ints V (some ⟨W.heap.size, 0, none⟩) [(p.1 : Int), (p.2 : Int)] := by
    refine ⟨rfl, fun _ => ⟨_, rfl, B0.lt, fun j u hu => ?_⟩⟩
    rw [add_lit, Nat.zero_add, B0.cell]
    match j, hu with
    | 0, hu => exact hu
    | 1, hu => exact hu
  have i1 : Ints V (some ⟨W.heap.size + 1, 0, none⟩) [(q.1 : Int), (q.2 : Int)] := by
    refine ⟨rfl, fun _ => ⟨_, rfl, B1.lt, fun j u hu => ?_⟩⟩
    rw [add_lit, Nat.zero_add, B1.cell]
    match j, hu with
    | 0, hu => exact hu
    | 1, hu => exact hu
  have HC : Hid (∀ n, Calls Tryz.prog 51 #[.slice (some ⟨W.heap.size, 0, none⟩) 2 2, .slice (some ⟨W.heap.size + 1, 0, none⟩) 2 2] (V.drewN n) fun e w' => e = .returned (.int .i64 (cmpPr p q)) ∧ V.drewN n = w') := Lib.hid (fun n =>
    Gx.compare_any (some ⟨W.heap.size, 0, none⟩) (some ⟨W.heap.size + 1, 0, none⟩) 2 2 [(p.1 : Int), (p.2 : Int)] [(q.1 : Int), (q.2 : Int)] (V.drewN n) (i0.drewN n) (i1.drewN n) (by simp))
  have HV := Lib.hid hV
  generalize cmpPr p q = r at *
  obtain ⟨p1, p2⟩ := p
  obtain ⟨q1, q2⟩ := q
  unfold pairV
  simp only at HV
  clear hV B0 B1 i0 i1
  go_enter Tryz.func50, Tryz.ntmps50
  go_upto_region 1 with (fail)
  rw [HV.out]
  go_quiet ((go_at_call 51; exact quiet_sm (HC.out _)))
  go_wp2
  go_ret
  exact ⟨rfl, nq, by rw [HV.out]⟩
end Go.Proofs.Tg.Bk
end
