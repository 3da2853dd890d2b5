/- Parts of the proof: OR4, OR5. -/
import Derived.Test.YtodjofbneeejpaaGreatDoorMBA17
import Derived.Test.YtodjofbneeejpaaGreatDoorMBA23
import Derived.Test.YtodjofbneeejpaaGreatDoorMBA25
section
/- The reference's Orbitals. -/
namespace Go.Pm
theorem idx_div {L i k : Nat} (hk : k < L) : (i * L + k) / L = i ∧ (i * L + k) % L = k := by
  rw [Nat.add_comm, Nat.add_mul_div_right _ _ (by omega), Nat.add_mul_mod_self_right, Nat.div_eq_of_lt hk, Nat.mod_eq_of_lt hk, Nat.zero_add]
  exact ⟨rfl, rfl⟩
theorem idx_lt2 {L i k : Nat} (hi : i < L) (hk : k < L) : i * L + k < L * L := by
  have := Nat.mul_le_mul_right L (show i + 1 ≤ L by omega)
  rw [Nat.add_mul] at this
  omega
/-- The pairs among the first x places of the table that have been marked. -/
def scanTo (im : List (List Int)) (L : Nat) (p : Nat × Nat) (x : Nat) : List (Nat × Nat) := ((List.range x).map fun y => (y / L, y % L)).filter fun q => decide (q ∈ prsOf im p)
theorem scanTo_zero (im : List (List Int)) (L : Nat) (p : Nat × Nat) : scanTo im L p 0 = [] := rfl
theorem scanTo_end (im : List (List Int)) (L : Nat) (p : Nat × Nat) : scanTo im L p (L * L) = orbOf im L p := rfl
theorem scanTo_succ (im : List (List Int)) (L : Nat) (p : Nat × Nat) (x : Nat) : scanTo im L p (x + 1) = scanTo im L p x ++ if (x / L, x % L) ∈ prsOf im p then [(x / L, x % L)] else [] := by
  unfold scanTo
  rw [List.range_succ, List.map_append, List.filter_append]
  congr 1
  by_cases h : (x / L, x % L) ∈ prsOf im p
  · rw [if_pos h]; simp [h]
  · rw [if_neg h]; simp [h]
end Go.Pm
namespace Go.Proofs.Tg.Rf
open Go.RowKit Go.Gr Go.Sp Go.Ev Go.Pm Go.Mo
open Go.Proofs.Tg.Bk (rowsMade_eq)
set_option maxHeartbeats 4000000
set_option maxRecDepth 100000
/-- A table of pairs, those of S marked. -/
def barr (L : Nat) (S : List (Nat × Nat)) : Array Value := ((List.range (L * L)).map fun x => Value.bool (decide ((x / L, x % L) ∈ S))).toArray
theorem barr_nil (L : Nat) : barr L [] = madeCells #[.bool false] (L * L) := by
  rw [rowsMade_eq]
  unfold barr
  congr 1
  refine List.ext_getElem (by simp) fun i h1 h2 => ?_
  simp
theorem barr_congr {L : Nat} {S S' : List (Nat × Nat)} (h : ∀ p, p ∈ S ↔ p ∈ S') : barr L S = barr L S' := by
  unfold barr
  congr 1
  refine List.map_congr_left fun x _ => ?_
  rw [decide_eq_decide.2 (h _)]
theorem barr_at (L : Nat) (S : List (Nat × Nat)) {x : Nat} (h : x < L * L) : (barr L S)[x]? = some (.bool (decide ((x / L, x % L) ∈ S))) := by
  unfold barr
  rw [List.getElem?_toArray, List.getElem?_map, List.getElem?_range h]
  rfl
theorem barr_set (L : Nat) (S : List (Nat × Nat)) {x : Nat} (_h : x < L * L) : (barr L S).setIfInBounds x (.bool true) = barr L (S ++ [(x / L, x % L)]) := by
  unfold barr
  rw [List.setIfInBounds_toArray]
  congr 1
  refine List.ext_getElem (by simp) fun y h1 h2 => ?_
  rw [List.getElem_set]
  have hy : y < L * L := by simpa using h2
  by_cases he : x = y
  · subst he
    rw [if_pos rfl]
    simp
  · rw [if_neg he]
    simp only [List.getElem_map, List.getElem_range, List.mem_append, List.mem_singleton, Prod.mk.injEq]
    congr 2
    have hne : ¬ (y / L = x / L ∧ y % L = x % L) := fun ⟨a, b⟩ => he (by
      have e1 := Nat.div_add_mod x L
      have e2 := Nat.div_add_mod y L
      rw [a, b] at e2
      omega)
    simp [hne]
theorem bool_info : (Tryz.prog.info? 4).map (fun i => (i.zero, i.size, i.bytes)) = some (some (.bool false), 1, 1) := by kernel_rfl
theorem make_boolz (n : Nat) (hn : n ≤ 1000000) (w : World) : (Instr.makeSlice 89 (.int .i64 (n : Int)) (.int .i64 (n : Int))).run Tryz.prog w = .ok (.slice (some ⟨w.heap.size, 0, none⟩) n n) (w.alloc (.cells (madeCells #[.bool false] n) 4)) := by
  obtain ⟨i0, hi, hz0, hz1, hz2⟩ := info_parts bool_info
  have hr := run_make (P := Tryz.prog) w 89 4 i0 (.bool false) Tryz.underlying89 hi hz0 .i64 .i64 n n (by omega) (by omega) (by rw [hz2]; omega) (by omega)
  rw [hz1, Nat.mul_one, Int.toNat_natCast] at hr
  exact hr
/-- A list of pairs in memory. -/
structure OV where
  adr : Option Addr
  cap : Nat
  ps : List (Nat × Nat)
def pcell (p : Nat × Nat) : List Value := [.int .i64 p.1, .int .i64 p.2]
def cellO (o : OV) : Value := .slice o.adr o.ps.length o.cap
def OrbRows (w : World) (base : Nat) (os : List OV) : Prop := ∀ o ∈ os, w.ownsRow base 84 2 (cellO o) o.ps.length (o.ps.flatMap pcell)
theorem OrbRows.keep {w w' : World} {base : Nat} {os : List OV} (h : OrbRows w base os) (hb : Below w.heap.size w w') : OrbRows w' base os := fun o ho => own_below (h o ho) hb (Nat.le_refl _)
theorem pair_info : (Tryz.prog.info? 84).map (fun i => (i.zero, i.size, i.bytes)) = some (some (.agg #[.int .i64 0, .int .i64 0]), 2, 16) := by kernel_rfl
theorem orb_info : (Tryz.prog.info? 85).map (fun i => (i.zero, i.size, i.bytes)) = some (some (.slice none 0 0), 1, 24) := by kernel_rfl
/-- What the loops of the reference's Orbitals hold. -/
structure RoSt (w : World) (L gs : Nat) (st : List (Nat × Nat) × List (List (Nat × Nat))) (wr : World) (A : Option Addr) (c : Nat) (os : List OV) : Prop where
  below : Below w.heap.size w wr
  seen : Blk wr gs 4 (barr L st.1)
  own : wr.ownsRow w.heap.size 85 1 (.slice A os.length c) os.length (os.map cellO)
  rows : OrbRows wr w.heap.size os
  eq : os.map OV.ps = st.2
  low : w.heap.size ≤ gs
theorem RoSt.keep {w wr wz : World} {L gs c : Nat} {st : List (Nat × Nat) × List (List (Nat × Nat))} {A : Option Addr} {os : List OV} (h : RoSt w L gs st wr A c os) (hb : Below wr.heap.size wr wz) : RoSt w L gs st wz A c os :=
  ⟨below_all h.below hb, h.seen.keep hb h.seen.lt, own_below h.own hb (Nat.le_refl _), h.rows.keep hb, h.eq, h.low⟩
/-- What Orbitals returns. -/
def RetOrb (g l : List (List Int)) (w : World) (e : Ending) (w' : World) : Prop := Below w.heap.size w w' ∧
  ((acnE g l ≠ 0 ∧ e = .returned (.tuple #[.slice none 0 0, .int .i64 (acnE g l)])) ∨
   (acnE g l = 0 ∧ ∃ A c os, e = .returned (.tuple #[.slice A (List.length os) c, .int .i64 0]) ∧ w'.ownsRow w.heap.size 85 1 (.slice A os.length c) os.length (os.map cellO) ∧ OrbRows w' w.heap.size os ∧ os.map OV.ps = (orbRow (g.map fun a => img (g.headD []).length a l) l.length l.length).2))
end Go.Proofs.Tg.Rf
end
section
/- The reference's Orbitals, the walk. -/
namespace Go.Proofs.Tg.Rf
open Go.RowKit Go.Gr Go.Sp Go.Ev Go.Pm Go.Mo
set_option maxHeartbeats 4000000
set_option maxRecDepth 100000
/-- What the loop holds that lists the marked pairs. -/
structure ScSt (w : World) (L gs gi : Nat) (im : List (List Int)) (p : Nat × Nat) (st : List (Nat × Nat) × List (List (Nat × Nat))) (wr : World) (x : Nat) (A : Option Addr) (c : Nat) (os : List OV) (A3 : Option Addr) (c3 n3 : Nat) : Prop where
  ro : RoSt w L gs (st.1 ++ scanTo im L p x, st.2) wr A c os
  inn : Blk wr gi 4 (barr L (prsOf im p))
  own : wr.ownsRow gi 84 2 (.slice A3 n3 c3) n3 ((scanTo im L p x).flatMap pcell)
  lt : ∀ o ∈ os, ∀ g, (cellO o).ownBlock = some g → g < gi
  len : n3 = (scanTo im L p x).length
  lowi : w.heap.size ≤ gi
  nei : gi ≠ gs
theorem ScSt.set {w wr : World} {L gs gi x c c3 n3 : Nat} {im : List (List Int)} {p : Nat × Nat} {st : List (Nat × Nat) × List (List (Nat × Nat))} {A A3 : Option Addr} {os : List OV} {q : Nat × Nat} (h : ScSt w L gs gi im p st wr x A c os A3 c3 n3) (hb : (barr L (st.1 ++ scanTo im L p x)).setIfInBounds x (.bool true) = barr L (st.1 ++ scanTo im L p x ++ [q])) :
    RoSt w L gs (st.1 ++ (scanTo im L p x ++ [q]), st.2) (wr.setCell ⟨gs, x, none⟩ (.bool true)) A c os ∧ Blk (wr.setCell ⟨gs, x, none⟩ (.bool true)) gi 4 (barr L (prsOf im p)) ∧ (wr.setCell ⟨gs, x, none⟩ (.bool true)).ownsRow gi 84 2 (.slice A3 n3 c3) n3 ((scanTo im L p x).flatMap pcell) := by
  refine ⟨⟨below_far h.ro.below h.ro.low _ _, ?_, own_far h.ro.own (own_blk_ne h.ro.own h.ro.seen (by decide)) _, fun o ho => own_far (h.ro.rows o ho) (own_blk_ne (h.ro.rows o ho) h.ro.seen (by decide)) _, h.ro.eq, h.ro.low⟩, h.inn.far h.nei _, own_far h.own (own_blk_ne h.own h.ro.seen (by decide)) _⟩
  have := h.ro.seen.set x (.bool true)
  simp only at this
  rw [hb, List.append_assoc] at this
  exact this
section
variable {P : Program}
theorem step_own_append (w : World) {ops : Array Oper} {o : Oper} {a : Act} {K : Act → World → Prop} {Q : Exit → Act → World → Prop} {E : Prop} (hgd : o.guard = none) (s x : Operand) (t : TypeId)
    (ho : o.op = .call { callee := .builtin .append, args := #[s, x], argTypes := #[t, t] })
    (base : Nat) (e : TypeId) (i : TypeInfo) (z : Value) (size bytes : Nat) (ht : P.underlying t = some (.slice e)) (hi : P.info? e = some i) (hz : i.zero = some z)
    (hsize : i.size = size) (hby : i.bytes = bytes) (hzs : z.cells.size = size) (hsz : 0 < size)
    (v : Value) (n : Nat) (xs : List Value) (hs : a.eval s = v) (hown : w.ownsRow base e size v n xs)
    (ad : Addr) (m c : Nat) (news : List Value) (hx : a.eval x = .slice (some ad) m c) (hl : news.length = m * size) (hnews : ∀ j u, news[j]? = some u → w.cell? (ad.add j) = some u) (h1 : ∀ u ∈ news, u.oneCell' = true)
    (h63 : n + m ≤ maxLen) (hbytes : (n + m) * bytes ≤ 140737488355328) (hbase : base ≤ w.heap.size)
    (h : ∀ v' w', w'.ownsRow base e size v' (n + m) (xs ++ news) → w.grownBy w' v.ownBlock → (v' = .slice none 0 0 ↔ v = .slice none 0 0 ∧ m = 0) → (v'.ownBlock = v.ownBlock ∨ v'.ownBlock = some w.heap.size) → K (a.put o.dst v') w') :
    if Region.wanted o (yielded ops a.tmps) = true then Oper.wp P o a w K Q else E := by
  have hw : Region.wanted o (yielded ops a.tmps) = true := by simp [Region.wanted, hgd]
  rw [if_pos hw]
  obtain ⟨v', w', hr, h2, h3, h4, h5⟩ := run_append_own_at (P := P) w base t o.type e i z size bytes ht hi hz hsize hby hzs hsz v n xs hown ad m c news hl hnews h1 h63 hbytes hbase
  unfold Oper.wp execOp
  simp only [ho, resolve, invoke, builtin, Sem.run_bind, Sem.run_pure, Result.andThen_ok, List.map_toArray, List.map_cons, List.map_nil, hs, hx, hr]
  exact h v' w' h2 h3 h4 h5
end
theorem blkp_cells {w : World} {g : Nat} {t : TypeId} {cs : List Value} (h : Blk w g t cs.toArray) : ∀ j u, cs[j]? = some u → w.cell? ((⟨g, 0, none⟩ : Addr).add j) = some u := by
  intro j u hu
  rw [add_lit, Nat.zero_add, h.cell]
  simpa using hu
theorem sc_next {w Z w8 : World} {L gs gi c n : Nat} {st : List (Nat × Nat) × List (List (Nat × Nat))} {A : Option Addr} {os : List OV} {T : Array Value} {v : Value} {xs : List Value} {o : Obj} (hro : RoSt w L gs st Z A c os) (hinn : Blk Z gi 4 T) (hown : Z.ownsRow gi 84 2 v n xs) (hlt : ∀ o ∈ os, ∀ g, (cellO o).ownBlock = some g → g < gi) (hlow : w.heap.size ≤ gi) (hg : (Z.alloc o).grownBy w8 v.ownBlock) :
    RoSt w L gs st w8 A c os ∧ Blk w8 gi 4 T := by
  have hal := Below.alloc (Below.refl Z.heap.size Z) (Nat.le_refl _) o
  have hox := hown.alloc o
  have hb := below_all hro.below hal
  have h1 := hro.own.alloc o
  have h2 := hro.seen.alloc o
  refine ⟨⟨hb.grown hg hb.size (fun q hq => Nat.le_trans hlow (hox.lt q hq).1), h2.grown hg (own_blk_ne hox h2 (by decide)), h1.kept hg (own_ne h1 hox (by decide)), fun u hu => ?_, hro.eq, hro.low⟩, (hinn.alloc o).grown hg (own_blk_ne hox (hinn.alloc o) (by decide))⟩
  have h3 := (hro.rows u hu).alloc o
  refine h3.kept hg ?_
  cases hb2 : (cellO u).ownBlock with
  | none => exact .inl rfl
  | some q =>
    refine .inr (fun e => ?_)
    have h4 := hlt u hu q hb2
    have h5 := (hox.lt q e.symm).1
    omega
theorem orbStep_few (im : List (List Int)) (L : Nat) (st : List (Nat × Nat) × List (List (Nat × Nat))) (p : Nat × Nat) : (orbStep im L st p).2.length ≤ st.2.length + 1 := by
  unfold orbStep
  split <;> simp
theorem orbFold_few (im : List (List Int)) (L i : Nat) (st : List (Nat × Nat) × List (List (Nat × Nat))) : ∀ n, ((List.range n).foldl (fun st j => orbStep im L st (i, i + j)) st).2.length ≤ st.2.length + n
  | 0 => by simp
  | n + 1 => by
    rw [List.range_succ, List.foldl_append]
    have h := orbFold_few im L i st n
    have h2 := orbStep_few im L ((List.range n).foldl (fun st j => orbStep im L st (i, i + j)) st) (i, i + n)
    simp only [List.foldl_cons, List.foldl_nil]
    omega
theorem orbRow_few (im : List (List Int)) (L : Nat) : ∀ i, (orbRow im L i).2.length ≤ i * L
  | 0 => by simp [orbRow]
  | i + 1 => by
    have h := orbFold_few im L i (orbRow im L i) (L - i)
    have h2 := orbRow_few im L i
    have h3 : (orbRow im L (i + 1)).2.length = ((List.range (L - i)).foldl (fun st j => orbStep im L st (i, i + j)) (orbRow im L i)).2.length := rfl
    rw [h3, Nat.succ_mul]
    omega
theorem orbAt_few (im : List (List Int)) (L i k : Nat) (hi : i ≤ L) (hk : k ≤ L) : (orbAt im L i k).2.length ≤ L * L + L := by
  have h := orbFold_few im L i (orbRow im L i) (k - i)
  have h2 := orbRow_few im L i
  have h3 : i * L ≤ L * L := Nat.mul_le_mul_right L hi
  unfold orbAt
  omega
theorem rorb_any (G B : Option Addr) (cG cB : Nat) (g l : List (List Int)) (w : World) (hG : Lists w G g) (hgl : g.length ≤ 720) (hgg : ∀ x ∈ g, x.length ≤ 1000) (hB : Lists w B l) (hll : ∀ x ∈ l, x.length ≤ 1000) (hl : l.length ≤ 64)
    (him : acnE g l = 0 → ∀ a ∈ g.map (fun a => img (g.headD []).length a l), Perm l.length a) :
    Calls Tryz.prog 19 #[.slice G g.length cG, .slice B l.length cB] w (RetOrb g l w) := by
  have HACN := Lib.hid (raction_any G B cG cB g l w hG hgl hgg hB hll (by omega))
  have HIM := Lib.hid him
  clear hG hgg hB hll him
  by_cases hz : acnE g l = 0
  · have HZ := Lib.hid hz
    have HP := Lib.hid (HIM.out hz)
    have HAC : Hid (Calls Tryz.prog 17 #[.slice G g.length cG, .slice B l.length cB] w fun e w' => Below w.heap.size w w' ∧ ∃ A c, e = .returned (.tuple #[.slice A g.length c, .int .i64 0]) ∧ Lists w' A (g.map fun a => img (g.headD []).length a l)) := Lib.hid (HACN.out.mono fun e w' h => by
      obtain ⟨hb, h⟩ := h
      obtain ⟨_, A, c, h1, h2⟩ := h.resolve_left (fun h => h.1 hz)
      exact ⟨hb, A, c, h1, h2⟩)
    unfold RetOrb
    have him : (g.map fun a => img (g.headD []).length a l).length = g.length := List.length_map ..
    generalize (g.map fun a => img (g.headD []).length a l) = im at *
    have HIL := Lib.hid him
    clear hz HACN HIM him
    generalize l.length = L at *
    generalize hgL : g.length = M at *
    clear hgL
    have hLL : L * L ≤ 4096 := Nat.mul_le_mul hl hl
    obtain ⟨N, hN⟩ : ∃ N, L * L = N := ⟨_, rfl⟩
    rw [hN] at hLL
    have wLL : IntKind.i64.wrap ((L : Int) * (L : Int)) = (N : Int) := by rw [← Int.natCast_mul, hN]; exact IntWalk.i64_in _ (by omega)
    have HNE := Lib.hid hN
    have HBN : Hid (barr L [] = madeCells #[.bool false] N) := Lib.hid (by rw [barr_nil, hN])
    clear hN
    obtain ⟨j0, hj0, hjz0, hjz1, hjz2⟩ := info_parts orb_info
    obtain ⟨k0, hk0, hkz0, hkz1, hkz2⟩ := info_parts pair_info
    have HMK := Lib.hid (make_boolz N (by omega))
    go_enter Tryz.func19, Tryz.ntmps19
    go_upto_region 6 with (go_at_call 17; refine HAC.out.mono ?_; rintro e w1 ⟨hb1, A, cA, rfl, hA⟩)
    have HA := Lib.hid hA
    have B0 := Blk.new w1 4 (barr L [])
    have hal := Below.alloc (Below.refl w1.heap.size w1) (Nat.le_refl _) (.cells (barr L []) 4)
    have hmk1 := HMK.out w1
    rw [← HBN.out] at hmk1
    have H0 : Hid (RoSt w1 L w1.heap.size (orbRow im L 0) (w1.alloc (.cells (barr L []) 4)) none 0 []) := Lib.hid ⟨hal, B0, World.ownsRow_nil _ _ _ _, fun o ho => absurd ho (by simp), rfl, Nat.le_refl _⟩
    generalize hW : w1.alloc (.cells (barr L []) 4) = W at *
    clear hW hA B0 hal
    go_wp2
    clear hmk1
    go_loopw [9, 11] (fun s9 s11 wr => ∃ (i : Nat) (A2 : Option Addr) (c2 : Nat) (os : List OV), s11 = .int .i64 i ∧ i ≤ L ∧ s9 = .slice A2 os.length c2 ∧ Hid (RoSt w1 L w1.heap.size (orbRow im L i) wr A2 c2 os)) (fun _ s11 _ => L - (intOf s11).toNat)
    case atStart => exact ⟨0, none, 0, [], rfl, Nat.zero_le _, rfl, H0⟩
    case round =>
      clear H0
      obtain ⟨wo, rfl⟩ : ∃ wo : World, wo = wr := ⟨_, rfl⟩
      obtain ⟨i, A2, c2, os, rfl, hi, rfl, HST⟩ := hrel
      by_cases hiL : i < L
      · have i0 : (0 : Int) ≤ (i : Int) := by omega
        have i1 : (i : Int) < (L : Int) := by omega
        have i3 : ((i : Int)).toNat = i := by omega
        go_wp2
        go_loopw [9, 12] (fun s9 s12 wr => ∃ (k : Nat) (A2 : Option Addr) (c2 : Nat) (os : List OV), s12 = .int .i64 k ∧ i ≤ k ∧ k ≤ L ∧ s9 = .slice A2 os.length c2 ∧ Hid (RoSt w1 L w1.heap.size (orbAt im L i k) wr A2 c2 os)) (fun _ s12 _ => L - (intOf s12).toNat)
        case atStart => exact ⟨i, A2, c2, os, rfl, Nat.le_refl _, hi, rfl, Lib.hid (by rw [orbAt_start]; exact HST.out)⟩
        case round =>
          clear HST
          obtain ⟨wk, rfl⟩ : ∃ wk : World, wk = wr := ⟨_, rfl⟩
          obtain ⟨k, A2, c2, os, rfl, hik, hk, rfl, HST⟩ := hrel
          have hbk := HST.out.below
          by_cases hkL : k < L
          · have q0 : (0 : Int) ≤ (k : Int) := by omega
            have q1 : (k : Int) < (L : Int) := by omega
            have q3 : ((k : Int)).toNat = k := by omega
            have hx := idx_lt2 hiL hkL
            obtain ⟨hd, hm⟩ := idx_div (i := i) hkL
            have HSU := Lib.hid (orbAt_succ im L hik)
            have c0 := HST.out.seen.cell (i * L + k)
            rw [barr_at L _ hx, hd, hm] at c0
            obtain ⟨y, hye⟩ : ∃ y, i * L = y := ⟨_, rfl⟩
            obtain ⟨x, hxe⟩ : ∃ x, i * L + k = x := ⟨_, rfl⟩
            have HXE := Lib.hid hxe
            rw [hxe, HNE.out] at hx
            rw [hxe] at c0
            have w2 : IntKind.i64.wrap ((i : Int) * (L : Int)) = (y : Int) := by rw [← Int.natCast_mul, hye]; exact IntWalk.i64_in _ (by omega)
            have w3 : IntKind.i64.wrap ((y : Int) + (k : Int)) = (x : Int) := by rw [show (y : Int) + (k : Int) = (x : Int) by omega]; exact IntWalk.i64_in _ (by omega)
            have x0 : (0 : Int) ≤ (x : Int) := by omega
            have x1 : (x : Int) < (N : Int) := by omega
            have x3 : ((x : Int)).toNat = x := by omega
            obtain ⟨st, hst⟩ : ∃ st, orbAt im L i k = st := ⟨_, rfl⟩
            rw [hst] at HST HSU c0
            have HST0 := Lib.hid hst
            clear hst hxe hye hd hm
            by_cases hin : (i, k) ∈ st.1
            · have hdc : decide ((i, k) ∈ st.1) = true := decide_eq_true hin
              rw [hdc] at c0
              have HNX : Hid (orbStep im L st (i, k) = st) := Lib.hid (by unfold orbStep; rw [if_pos hin])
              clear hin hdc
              go_wp2
              go_roundw
              case rel => exact ⟨k + 1, A2, c2, os, by go_num, by omega, by omega, rfl, Lib.hid (by rw [HSU.out, HNX.out]; exact HST.out)⟩
              case measure => simp [intOf]; omega
            · have hdc : decide ((i, k) ∈ st.1) = false := decide_eq_false hin
              rw [hdc] at c0
              have HNX : Hid (orbStep im L st (i, k) = (st.1 ++ prsOf im (i, k), st.2 ++ [orbOf im L (i, k)])) := Lib.hid (by unfold orbStep; rw [if_neg hin])
              clear hin hdc
              have hmk2 := HMK.out wk
              rw [← HBN.out] at hmk2
              have B1 : Blk (wk.alloc (.cells (barr L []) 4)) wk.heap.size 4 (barr L []) := Blk.new _ _ _
              have hal := Below.alloc (Below.refl wk.heap.size wk) (Nat.le_refl _) (.cells (barr L []) 4)
              generalize hW2 : wk.alloc (.cells (barr L []) 4) = W2 at *
              have HB1 : Hid (Blk W2 wk.heap.size 4 (barr L ((prsOf im (i, k)).take 0))) := Lib.hid B1
              clear B1 hW2
              go_wp2
              clear hmk2 c0
              go_loopw [14] (fun s14 wr => ∃ j : Nat, s14 = .int .i64 j ∧ j ≤ M ∧ Hid (Blk wr wk.heap.size 4 (barr L ((prsOf im (i, k)).take j))) ∧ Below wk.heap.size wk wr) (fun s14 _ => M - (intOf s14).toNat)
              case atStart => exact ⟨0, rfl, Nat.zero_le _, HB1, hal⟩
              case round =>
                clear HB1 hal
                obtain ⟨wj, rfl⟩ : ∃ wj : World, wj = wr := ⟨_, rfl⟩
                obtain ⟨j, rfl, hj, HBJ, hbj⟩ := hrel
                by_cases hjM : j < M
                · have hjm : j < im.length := by rw [HIL.out]; exact hjM
                  have hb1j := below_all hbk hbj
                  obtain ⟨ad, E, ce, rfl, hc0, hE⟩ := HA.out.at hjm
                  have hpj := HP.out im[j] (List.getElem_mem _)
                  rw [hpj.1] at hc0
                  have hc := keep_cell hb1j hc0
                  have hia : i < im[j].length := by rw [hpj.1]; exact hiL
                  have hka : k < im[j].length := by rw [hpj.1]; exact hkL
                  obtain ⟨ee, rfl, hci⟩ := Ints.at (hE.keep hb1j) hia
                  obtain ⟨ee', hee, hck⟩ := Ints.at (hE.keep hb1j) hka
                  injection hee with hee
                  subst hee
                  obtain ⟨a, ha⟩ : ∃ a : Nat, im[j][i] = (a : Int) := ⟨(im[j][i]).toNat, by have := hpj.2.1 im[j][i] (List.getElem_mem _); omega⟩
                  obtain ⟨b, hb⟩ : ∃ b : Nat, im[j][k] = (b : Int) := ⟨(im[j][k]).toNat, by have := hpj.2.1 im[j][k] (List.getElem_mem _); omega⟩
                  have haL : a < L := by have := hpj.2.1 im[j][i] (List.getElem_mem _); omega
                  have hbL : b < L := by have := hpj.2.1 im[j][k] (List.getElem_mem _); omega
                  rw [ha] at hci
                  rw [hb] at hck
                  have HTK : Hid ((prsOf im (i, k)).take (j + 1) = (prsOf im (i, k)).take j ++ [(min a b, max a b)]) := Lib.hid (by
                    rw [List.take_succ_eq_append_getElem (by unfold prsOf; rw [List.length_map]; exact hjm)]
                    unfold prsOf
                    rw [List.getElem_map]
                    unfold prA
                    simp [hia, hka, ha, hb])
                  obtain ⟨mn, hmn⟩ : ∃ mn, min a b = mn := ⟨_, rfl⟩
                  obtain ⟨mx, hmx⟩ : ∃ mx, max a b = mx := ⟨_, rfl⟩
                  rw [hmn, hmx] at HTK
                  have hmnL : mn < L := by omega
                  have hmxL : mx < L := by omega
                  have hcase : (b < a ∧ ¬ a < b ∧ mn = b ∧ mx = a) ∨ (¬ b < a ∧ a < b ∧ mn = a ∧ mx = b) ∨ (¬ b < a ∧ ¬ a < b ∧ b = a ∧ mn = a ∧ mx = a) := by omega
                  have hz := idx_lt2 hmnL hmxL
                  obtain ⟨hzd, hzm⟩ := idx_div (i := mn) hmxL
                  obtain ⟨u, hu⟩ : ∃ u, mn * L = u := ⟨_, rfl⟩
                  obtain ⟨z, hze⟩ : ∃ z, mn * L + mx = z := ⟨_, rfl⟩
                  have c1 := HBJ.out.cell z
                  have f1 := HBJ.out.frozen z
                  have HST1 : Hid ((barr L ((prsOf im (i, k)).take j)).setIfInBounds z (.bool true) = barr L ((prsOf im (i, k)).take (j + 1))) := Lib.hid (by
                    rw [← hze, barr_set L _ hz, hzd, hzm, HTK.out])
                  rw [← hze, barr_at L _ hz, hze] at c1
                  generalize hold : (Value.bool (decide ((z / L, z % L) ∈ (prsOf im (i, k)).take j))) = old at c1
                  rw [hze, HNE.out] at hz
                  have w4 : IntKind.i64.wrap ((mn : Int) * (L : Int)) = (u : Int) := by rw [← Int.natCast_mul, hu]; exact IntWalk.i64_in _ (by omega)
                  have w5 : IntKind.i64.wrap ((u : Int) + (mx : Int)) = (z : Int) := by rw [show (u : Int) + (mx : Int) = (z : Int) by omega]; exact IntWalk.i64_in _ (by omega)
                  have z0 : (0 : Int) ≤ (z : Int) := by omega
                  have z1 : (z : Int) < (N : Int) := by omega
                  have z3 : ((z : Int)).toNat = z := by omega
                  have r0 : (0 : Int) ≤ (j : Int) := by omega
                  have r1 : (j : Int) < (M : Int) := by omega
                  have r3 : ((j : Int)).toNat = j := by omega
                  clear hc0 hE hpj ha hb hmn hmx hzd hzm hu hze hold
                  go_upto_region 18 with (fail)
                  go_quiet (fail)
                  rcases hcase with ⟨t1, t2, rfl, rfl⟩ | ⟨t1, t2, rfl, rfl⟩ | ⟨t1, t2, rfl, rfl, rfl⟩
                  all_goals
                    go_wp2
                    go_roundw
                    case rel =>
                      refine ⟨j + 1, by go_num, by omega, Lib.hid ?_, below_far (below_drewN hbj _) (Nat.le_refl _) _ _⟩
                      have := (HBJ.out.drewN nq).set z (.bool true)
                      rw [HST1.out] at this
                      exact this
                    case measure => (simp [intOf]; omega)
                · obtain rfl : j = M := by omega
                  have hBJ := HBJ.out
                  rw [List.take_of_length_le (by unfold prsOf; rw [List.length_map, HIL.out]; exact Nat.le_refl _)] at hBJ
                  have hro := HST.out.keep hbj
                  have H5 : Hid (ScSt w1 L w1.heap.size wk.heap.size im (i, k) st wj 0 A2 c2 os none 0 0) := Lib.hid ⟨by rw [scanTo_zero, List.append_nil]; exact hro, hBJ, by rw [scanTo_zero]; exact World.ownsRow_nil _ _ _ _, fun o ho g hg => (((HST.out.rows o ho)).lt g hg).2, rfl, hbk.size, by have := HST.out.seen.lt; omega⟩
                  have dj : decide ((j : Int) < (j : Int)) = false := by simp
                  clear hBJ hro HBJ
                  go_wp2
                  go_loopw [17, 18] (fun s17 s18 wr => ∃ (x : Nat) (A3 : Option Addr) (c3 n3 : Nat), s18 = .int .i64 x ∧ x ≤ N ∧ s17 = .slice A3 n3 c3 ∧ Hid (ScSt w1 L w1.heap.size wk.heap.size im (i, k) st wr x A2 c2 os A3 c3 n3)) (fun _ s18 _ => N - (intOf s18).toNat)
                  case atStart => exact ⟨0, none, 0, 0, rfl, Nat.zero_le _, rfl, H5⟩
                  case round =>
                    clear H5 hbj
                    obtain ⟨wx, rfl⟩ : ∃ wx : World, wx = wr := ⟨_, rfl⟩
                    obtain ⟨v, A3, c3, n3, rfl, hv, rfl, HSC⟩ := hrel
                    by_cases hvN : v < N
                    · have v0 : (0 : Int) ≤ (v : Int) := by omega
                      have v1 : (v : Int) < (N : Int) := by omega
                      have v3 : ((v : Int)).toNat = v := by omega
                      have hvL : v < L * L := by rw [HNE.out]; exact hvN
                      have c0 := HSC.out.inn.cell v
                      rw [barr_at L _ hvL] at c0
                      have HSS := Lib.hid (scanTo_succ im L (i, k) v)
                      by_cases hin : (v / L, v % L) ∈ prsOf im (i, k)
                      · rw [decide_eq_true hin] at c0
                        rw [if_pos hin] at HSS
                        have HBS := Lib.hid (barr_set L (st.1 ++ scanTo im L (i, k) v) hvL)
                        have d0 := HSC.out.ro.seen.cell v
                        have d1 := HSC.out.ro.seen.frozen v
                        rw [barr_at L _ hvL] at d0
                        generalize hold : (Value.bool (decide ((v / L, v % L) ∈ (st.1 ++ scanTo im L (i, k) v, st.2).1))) = old at d0
                        obtain ⟨vq, hvq⟩ : ∃ vq, v / L = vq := ⟨_, rfl⟩
                        obtain ⟨vr, hvr⟩ : ∃ vr, v % L = vr := ⟨_, rfl⟩
                        have w6 : ((v : Nat) : Int).tdiv (L : Int) = (vq : Int) := by rw [← hvq]; rfl
                        have w7 : ((v : Nat) : Int).tmod (L : Int) = (vr : Int) := by rw [← hvr]; rfl
                        have hq4 : vq ≤ 4096 := by rw [← hvq]; exact Nat.le_trans (Nat.div_le_self _ _) (by omega)
                        have hr4 : vr ≤ 4096 := by rw [← hvr]; exact Nat.le_trans (Nat.mod_le _ _) (by omega)
                        have w8 : IntKind.i64.wrap (vq : Int) = (vq : Int) := IntWalk.i64_in _ (by omega)
                        have w9 : IntKind.i64.wrap (vr : Int) = (vr : Int) := IntWalk.i64_in _ (by omega)
                        have L0 : ((L : Int) == 0) = false := beq_eq_false_iff_ne.2 (by omega)
                        have L1 : decide ((L : Int) = 0) = false := decide_eq_false (by omega)
                        have L2 : ¬ L = 0 := by omega
                        rw [hvq, hvr] at HSS HBS
                        have HN3 := Lib.hid HSC.out.len
                        have hn3 : n3 ≤ 4096 := by
                          rw [HN3.out]
                          have := List.length_filter_le (fun q : Nat × Nat => decide (q ∈ prsOf im (i, k))) ((List.range v).map fun y => (y / L, y % L))
                          rw [List.length_map, List.length_range] at this
                          unfold scanTo
                          omega
                        clear hin hvL hold hvq hvr
                        go_upto_region 26 with (fail)
                        have hro := HSC.out.set HBS.out
                        generalize hW5 : wx.setCell ⟨w1.heap.size, v, none⟩ (.bool true) = W5 at *
                        obtain ⟨hro, hinn, hown5⟩ := hro
                        have hsz5 : wx.heap.size = W5.heap.size := by rw [← hW5]; simp [World.setCell]
                        clear hW5 d0 d1 c0
                        have hdr : Below W5.heap.size W5 W5.drew := (Below.refl _ _).drew
                        have hro := hro.keep hdr
                        have HLT := Lib.hid HSC.out.lt
                        have hbx : wk.heap.size ≤ W5.drew.heap.size := by
                          have h1 := HSC.out.inn.lt
                          have h2 := hdr.size
                          have h3 := hinn.lt
                          omega
                        have hinn := hinn.keep hdr hinn.lt
                        have hown5 := own_below hown5 hdr (Nat.le_refl _)
                        refine wp_region_held_drew (S := (fun w' => True)) (by kernel_rfl) trivial (fun hHeld => ?_)
                        generalize W5.drew = Z at *
                        refine wpAnyH_get 0 (some 102) (.slice A3 n3 c3) rfl rfl (by kernel_rfl) (by kernel_rfl) (by kernel_rfl) (fun _ _ _ h => h) (by rfl) hHeld ?_ ?_
                        · (intro w hSw; (try dsimp only at hSw); go_simp; all_goals (try with_reducible rfl))
                        (try simp only [Act.put, List.setIfInBounds_toArray, List.set_cons_zero, List.set_cons_succ])
                        refine wpAnyH_get 1 (some 103) (.int .i64 (v : Int)) rfl rfl (by kernel_rfl) (by kernel_rfl) (by kernel_rfl) (fun _ _ _ h => h) (by rfl) hHeld ?_ ?_
                        · (intro w hSw; (try dsimp only at hSw); go_simp; all_goals (try with_reducible rfl))
                        (try simp only [Act.put, List.setIfInBounds_toArray, List.set_cons_zero, List.set_cons_succ])
                        refine wpAnyH_get 2 (some 104) (.int .i64 (L : Int)) rfl rfl (by kernel_rfl) (by kernel_rfl) (by kernel_rfl) (fun _ _ _ h => h) (by rfl) hHeld ?_ ?_
                        · (intro w hSw; (try dsimp only at hSw); go_simp; all_goals (try with_reducible rfl))
                        (try simp only [Act.put, List.setIfInBounds_toArray, List.set_cons_zero, List.set_cons_succ])
                        refine wpAnyH_get 3 (some 105) (.int .i64 (vq : Int)) rfl rfl (by kernel_rfl) (by kernel_rfl) (by kernel_rfl) (fun _ _ _ h => h) (by rfl) hHeld ?_ ?_
                        · (intro w hSw; (try dsimp only at hSw); go_simp; all_goals (try with_reducible rfl))
                        (try simp only [Act.put, List.setIfInBounds_toArray, List.set_cons_zero, List.set_cons_succ])
                        refine wpAnyH_get 4 (some 106) (.int .i64 (v : Int)) rfl rfl (by kernel_rfl) (by kernel_rfl) (by kernel_rfl) (fun _ _ _ h => h) (by rfl) hHeld ?_ ?_
                        · (intro w hSw; (try dsimp only at hSw); go_simp; all_goals (try with_reducible rfl))
                        (try simp only [Act.put, List.setIfInBounds_toArray, List.set_cons_zero, List.set_cons_succ])
                        refine wpAnyH_get 5 (some 107) (.int .i64 (L : Int)) rfl rfl (by kernel_rfl) (by kernel_rfl) (by kernel_rfl) (fun _ _ _ h => h) (by rfl) hHeld ?_ ?_
                        · (intro w hSw; (try dsimp only at hSw); go_simp; all_goals (try with_reducible rfl))
                        (try simp only [Act.put, List.setIfInBounds_toArray, List.set_cons_zero, List.set_cons_succ])
                        refine wpAnyH_get 6 (some 108) (.int .i64 (vr : Int)) rfl rfl (by kernel_rfl) (by kernel_rfl) (by kernel_rfl) (fun _ _ _ h => h) (by rfl) hHeld ?_ ?_
                        · (intro w hSw; (try dsimp only at hSw); go_simp; all_goals (try with_reducible rfl))
                        (try simp only [Act.put, List.setIfInBounds_toArray, List.set_cons_zero, List.set_cons_succ])
                        refine wpAnyH_get 7 (some 109) (.agg #[.int .i64 (vq : Int), .int .i64 (vr : Int)]) rfl rfl (by kernel_rfl) (by kernel_rfl) (by kernel_rfl) (fun _ _ _ h => h) (by rfl) hHeld ?_ ?_
                        · (intro w hSw; (try dsimp only at hSw); go_simp; all_goals (try with_reducible rfl))
                        (try simp only [Act.put, List.setIfInBounds_toArray, List.set_cons_zero, List.set_cons_succ])
                        refine wpAnyH_ready (rs := [8]) (by kernel_rfl) (by simp) ?_
                        refine AllReadyH.cons rfl (fun K hK => ?_) AllReadyH.nil
                        go_simp
                        have hal5 := Below.alloc (Below.refl Z.heap.size Z) (Nat.le_refl _) (.cells #[.int .i64 (vq : Int), .int .i64 (vr : Int)] 84)
                        have hnw := blkp_cells (cs := [.int .i64 (vq : Int), .int .i64 (vr : Int)]) (Blk.new Z 84 #[.int .i64 (vq : Int), .int .i64 (vr : Int)])
                        have hown6 := own_below hown5 hal5 (Nat.le_refl _)
                        refine hK.out _ _ trivial (fun hHeld => ?_)
                        clear hK K
                        (try simp only [Act.put, List.setIfInBounds_toArray, List.set_cons_zero, List.set_cons_succ])
                        generalize hZ2 : Z.alloc (.cells #[.int .i64 (vq : Int), .int .i64 (vr : Int)] 84) = Z2 at *
                        generalize hg2 : Z.heap.size = g2 at *
                        (try simp only [Act.put, List.setIfInBounds_toArray, List.set_cons_zero, List.set_cons_succ])
                        refine wpAnyH_ready (rs := [9]) (by kernel_rfl) (by simp) ?_
                        refine AllReadyH.cons rfl (fun K hK => ?_) AllReadyH.nil
                        refine step_own_append _ (by rfl) _ _ 85 (by rfl) wk.heap.size 84 k0 (.agg #[.int .i64 0, .int .i64 0]) 2 16 Tryz.underlying85 hk0 hkz0 hkz1 hkz2 rfl (by decide) (.slice A3 n3 c3) n3 ((scanTo im L (i, k) v).flatMap pcell) (by simp [Act.eval]) hown6 ⟨g2, 0, none⟩ 1 1 [.int .i64 (vq : Int), .int .i64 (vr : Int)] (by simp [Act.eval]) rfl hnw (by intro u hu; simp at hu; rcases hu with rfl | rfl <;> rfl) (by simp only [maxLen]; omega) (by omega) (by have := hal5.size; omega) ?_
                        intro v8 w8 hown8 hg8 _ hat8
                        obtain ⟨A8, c8, hv8, _, _⟩ := Sl.of_own hown8
                        subst hv8
                        refine hK.out _ _ trivial (fun hHeld => ?_)
                        clear hK K
                        (try simp only [Act.put, List.setIfInBounds_toArray])
                        refine wpAnyH_get 10 (some 17) (.slice A8 (n3 + 1) c8) rfl rfl (by kernel_rfl) (by kernel_rfl) (by kernel_rfl) (fun _ _ _ h => h) (by rfl) hHeld ?_ ?_
                        · (intro w hSw; (try dsimp only at hSw); go_simp; all_goals (try with_reducible rfl))
                        (try simp only [Act.put])
                        refine wpAnyH_done (by kernel_rfl) ?_ _
                        go_wp2
                        go_roundw
                        case rel =>
                          rw [← hZ2] at hg8
                          obtain ⟨g1, g2'⟩ := sc_next hro hinn hown5 HLT.out hbk.size hg8
                          refine ⟨v + 1, A8, c8, n3 + 1, by go_num, by omega, rfl, Lib.hid ⟨by rw [HSS.out]; exact g1, g2', ?_, HLT.out, ?_, HSC.out.lowi, HSC.out.nei⟩⟩
                          · rw [HSS.out, List.flatMap_append, List.flatMap_singleton]
                            exact hown8
                          · rw [HSS.out, List.length_append, ← HN3.out]; rfl
                        case measure => (simp [intOf]; omega)
                      · rw [decide_eq_false hin] at c0
                        rw [if_neg hin, List.append_nil] at HSS
                        clear hin
                        go_wp2
                        go_roundw
                        case rel => exact ⟨v + 1, A3, c3, n3, by go_num, by omega, rfl, Lib.hid ⟨by rw [HSS.out]; exact HSC.out.ro, HSC.out.inn, by rw [HSS.out]; exact HSC.out.own, HSC.out.lt, by rw [HSS.out]; exact HSC.out.len, HSC.out.lowi, HSC.out.nei⟩⟩
                        case measure => (simp [intOf]; omega)
                    · obtain rfl : v = N := by omega
                      have dv : decide ((v : Int) < (v : Int)) = false := by simp
                      have hsc := HSC.out
                      obtain ⟨hro, hinn, hown, hlt, hlen, hlowi, hnei⟩ := hsc
                      have hso : scanTo im L (i, k) v = orbOf im L (i, k) := by rw [← HNE.out]; exact scanTo_end _ _ _
                      rw [hso] at hro hown hlen
                      have hbc : barr L (st.1 ++ orbOf im L (i, k)) = barr L (st.1 ++ prsOf im (i, k)) := barr_congr (fun q => by
                        rw [List.mem_append, List.mem_append, orbOf_mem HP.out hiL hkL])
                      have hseen := hro.seen
                      simp only at hseen
                      rw [hbc] at hseen
                      have HSE := Lib.hid hseen
                      have HLEN := Lib.hid hlen
                      have HOW := Lib.hid hown
                      have HRW := Lib.hid hro.rows
                      have HEQ := Lib.hid hro.eq
                      have hbx := hro.below
                      have hcown := hro.own
                      have hosl : os.length ≤ 10000 := by
                        have h1 := congrArg List.length HST.out.eq
                        rw [List.length_map] at h1
                        have h2 := orbAt_few im L i k hi hk
                        rw [HST0.out, HNE.out] at h2
                        omega
                      clear hseen hlen hown hro hinn hlt hnei hso hbc HSC
                      go_wp2_with (at_builtin
                                   refine wpList_append_own_at _ rfl _ _ 40 rfl w1.heap.size 85 j0 (.slice none 0 0) 1 24 Tryz.underlying40 hj0 hjz0 hjz1 hjz2 rfl (by decide) (.slice A2 os.length c2) os.length (os.map cellO) rfl (hcown.alloc _) ⟨wx.heap.size, 0, none⟩ 1 1 [.slice A3 n3 c3] rfl rfl (cell_one_new _ _ _) (by simp [Value.oneCell']) (by simp only [maxLen]; omega) (by omega) (by have := hbx.size; simp; omega) ?_
                                   intro v9 w9 hown9 hg9 _ _
                                   obtain ⟨A9, c9, hv9, _, _⟩ := Sl.of_own hown9
                                   subst hv9)
                      go_roundw
                      case rel =>
                        have hal9 := Below.alloc (Below.refl wx.heap.size wx) (Nat.le_refl _) (.cells #[.slice A3 n3 c3] 85)
                        have hox := hcown.alloc (.cells #[.slice A3 n3 c3] 85)
                        have hb9 := below_all hbx hal9
                        refine ⟨k + 1, A9, c9, os ++ [⟨A3, c3, orbOf im L (i, k)⟩], by go_num, by omega, by omega, by simp, Lib.hid ?_⟩
                        rw [HSU.out, HNX.out]
                        refine ⟨hb9.grown hg9 hb9.size (fun q hq => (hox.lt q hq).1), (HSE.out.alloc _).grown hg9 (own_blk_ne hox (HSE.out.alloc _) (by decide)), ?_, fun o ho => ?_, ?_, Nat.le_refl _⟩
                        · rw [List.length_append, List.map_append, List.map_singleton]
                          unfold cellO
                          simp only
                          rw [← HLEN.out]
                          exact hown9
                        · rcases List.mem_append.1 ho with h | h
                          · have h3 := (HRW.out o h).alloc (.cells #[.slice A3 n3 c3] 85)
                            exact h3.kept hg9 (own_ne h3 hox (by decide))
                          · rw [List.mem_singleton.1 h]
                            have h3 := own_base (HOW.out.alloc (.cells #[.slice A3 n3 c3] 85)) hlowi
                            unfold cellO
                            simp only
                            rw [← HLEN.out]
                            exact h3.kept hg9 (own_ne h3 hox (by decide))
                        · rw [List.map_append, HEQ.out]; rfl
                      case measure => (simp [intOf]; omega)
          · obtain rfl : k = L := by omega
            have dk : decide ((k : Int) < (k : Int)) = false := by simp
            go_wp2
            go_roundw
            case rel => exact ⟨i + 1, A2, c2, os, by go_num, by omega, rfl, Lib.hid (by rw [← orbAt_end]; exact HST.out)⟩
            case measure => (simp [intOf]; omega)
      · obtain rfl : i = L := by omega
        have di : decide ((i : Int) < (i : Int)) = false := by simp
        have HF := Lib.hid HST.out
        have hb1 := hb1
        go_wp2
        go_ret2
        exact ⟨below_all hb1 HF.out.below, .inr ⟨HZ.out, A2, c2, os, rfl, own_base HF.out.own hb1.size, fun o ho => own_base (HF.out.rows o ho) hb1.size, HF.out.eq⟩⟩
  · have HZ := Lib.hid hz
    have HAC : Hid (Calls Tryz.prog 17 #[.slice G g.length cG, .slice B l.length cB] w fun e w' => Below w.heap.size w w' ∧ e = .returned (.tuple #[.slice none 0 0, .int .i64 (acnE g l)])) := Lib.hid (HACN.out.mono fun e w' h => ⟨h.1, (h.2.resolve_right (fun h => hz h.1)).2⟩)
    unfold RetOrb
    have dz : decide (acnE g l = 0) = false := decide_eq_false hz
    have dz2 : (acnE g l == 0) = false := beq_eq_false_iff_ne.2 hz
    clear hz HACN HIM
    generalize acnE g l = z at *
    go_enter Tryz.func19, Tryz.ntmps19
    go_wp2_with (go_at_call 17; refine HAC.out.mono ?_; rintro e w1 ⟨hb1, rfl⟩)
    go_ret2
    exact ⟨hb1, .inl ⟨HZ.out, rfl⟩⟩
end Go.Proofs.Tg.Rf
end
