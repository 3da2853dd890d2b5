/- Parts of the proof: OR7, OR8. -/
import Derived.Sort.Grow
import Derived.Test.YtodjofbneeejpaaGreatDoorMBA24
import Derived.Test.YtodjofbneeejpaaGreatDoorMBA26
section
/- The program's sort of a list of pairs. -/
namespace Go.Proofs.Tg.Bk
open Go.RowKit Go.Gr Go.Sp Go.Ev Go.Pm Go.Sort Go.Shelf
open Go.Proofs.Tg.Rf (pcell)
set_option maxHeartbeats 4000000
set_option maxRecDepth 100000
theorem swoPr : SWO (ltOf cmpPr) where
  irrefl x := by
    unfold ltOf
    exact decide_eq_false (fun h => ltP_irr x ((cmpPr_lt x x).1 h))
  trans x y z h1 h2 := by
    unfold ltOf at *
    exact decide_eq_true ((cmpPr_lt x z).2 (ltP_trans ((cmpPr_lt x y).1 (of_decide_eq_true h1)) ((cmpPr_lt y z).1 (of_decide_eq_true h2))))
  ntrans x y z h1 h2 := by
    unfold ltOf at *
    refine decide_eq_false (fun h => ?_)
    have h3 := (cmpPr_lt x z).1 h
    have n1 : ¬ ltP x y := fun h => of_decide_eq_false h1 ((cmpPr_lt x y).2 h)
    have n2 : ¬ ltP y z := fun h => of_decide_eq_false h2 ((cmpPr_lt y z).2 h)
    rcases ltP_tri x y with h4 | h4 | h4
    · exact n1 h4
    · subst h4; exact n2 h3
    · rcases ltP_tri y z with h5 | h5 | h5
      · exact n2 h5
      · subst h5; exact n1 h3
      · exact ltP_irr _ (ltP_trans h3 (ltP_trans h5 h4))
theorem flatMap_two (ps : List (Nat × Nat)) : ∀ t, t < ps.length * 2 → (ps.flatMap pcell)[t]? = some ((pcell ps[t / 2]!)[t % 2]!) := by
  induction ps with
  | nil => intro t ht; simp at ht
  | cons p ps ih =>
    intro t ht
    rw [List.flatMap_cons]
    have hl : (pcell p).length = 2 := rfl
    by_cases h2 : t < 2
    · rw [List.getElem?_append_left (by omega)]
      have : t = 0 ∨ t = 1 := by omega
      rcases this with rfl | rfl <;> rfl
    · rw [List.getElem?_append_right (by omega), hl, ih (t - 2) (by rw [List.length_cons] at ht; omega)]
      have e1 : t / 2 = (t - 2) / 2 + 1 := by omega
      have e2 : t % 2 = (t - 2) % 2 := by omega
      rw [e1, e2]
      congr 1
theorem flatK_list (ps : List (Nat × Nat)) : (flatK pcell 2 ps.toArray).toList = ps.flatMap pcell := by
  refine List.ext_getElem? fun t => ?_
  have hlen : (ps.flatMap pcell).length = ps.length * 2 := by
    clear t
    induction ps with
    | nil => rfl
    | cons p ps ih => rw [List.flatMap_cons, List.length_append, ih]; simp [pcell]; omega
  by_cases ht : t < ps.length * 2
  · rw [flatMap_two ps t ht]
    unfold flatK
    simp [ht]
  · rw [List.getElem?_eq_none (by simp; omega), List.getElem?_eq_none (by omega)]
theorem sortP_any (A : Option Addr) (n c base : Nat) (ps : List (Nat × Nat)) (w : World) (hown : w.ownsRow base 84 2 (.slice A n c) n (ps.flatMap pcell)) (hl : ps.length = n) (h0 : 0 < n) (hn : n ≤ 1000000) (hnd : ps.Nodup) :
    Calls Tryz.prog 49 #[.slice A n c, .func (.func 50) #[] #[]] w fun e w' => e = .returned (.tuple #[]) ∧ ∃ qs : List (Nat × Nat), qs.Pairwise ltP ∧ (∀ p, p ∈ qs ↔ p ∈ ps) ∧ qs.length = n ∧ w'.ownsRow base 84 2 (.slice A n c) n (qs.flatMap pcell) ∧ w.grownBy w' (Value.slice A n c).ownBlock := by
  rcases hown.2 with ⟨_, hz⟩ | ⟨g, cap, cur, hv, hbase, hb, h1, h2, h3, h4⟩
  · omega
  · injection hv with hv1 hv2 hv3
    subst hv1 hv3
    have hg : g < w.heap.size := (Array.getElem?_eq_some_iff.1 hb).1
    have hF := flatK_list ps
    have hFs : (flatK pcell 2 ps.toArray).size = n * 2 := by rw [size_flatK]; simp [hl]
    have hH : HoldsK pcell 2 w g 0 ps.toArray := by
      intro j hj
      rw [hFs] at hj
      refine ⟨?_, by simp [World.frozen?, hb]⟩
      have e1 : (cur.toList.take (n * 2))[j]? = (flatK pcell 2 ps.toArray).toList[j]? := by rw [h4, hF]
      rw [List.getElem?_take_of_lt hj, Array.getElem?_toList, Array.getElem?_toList] at e1
      simp only [World.cell?, hb, Nat.zero_add]
      simp only [Option.isSome_none, Bool.false_eq_true, if_false]
      rw [e1, Array.getElem?_eq_getElem (by rw [hFs]; exact hj), getElem!_pos _ j (by rw [hFs]; exact hj)]
      rfl
    have hcl : CmpLays Tryz.prog 50 #[] pcell 2 cmpPr g 0 ps.toArray.size w := fun m os dk _ x y => by
      refine (pairCmp_any x y _).mono ?_
      rintro e w' ⟨rfl, q, rfl⟩
      refine ⟨rfl, q, #[.cells #[.int .i64 x.1, .int .i64 x.2] 84, .cells #[.int .i64 y.1, .int .i64 y.2] 84], ?_⟩
      rw [alloc_eq_grow, alloc_eq_grow, grow_grow]
      rfl
    have eg : ∀ args w, (callFunc 50 args).run Tryz.prog w = .ok (.enter 50 args) w := enters_of Tryz.func50 (by kernel_rfl) rfl
    have hcon := AnyQ.slices_SortFunc sortLay 2 Tryz.isAgg84 Tryz.sizeOf84 pcell (fun _ => rfl) (fun x v hv => by simp [pcell] at hv; rcases hv with rfl | rfl <;> rfl) cmpPr swoPr 50 #[] g 0 c ps.toArray w eg hcl hH hg (by simp; omega)
    have hsz : ps.toArray.size = n := by simpa using hl
    rw [hsz] at hcon
    change Calls Tryz.prog 49 _ _ _ at hcon
    refine hcon.mono ?_
    rintro e w' ⟨rfl, d', m, os, hp, hs, rfl⟩
    obtain ⟨p1, _, p3⟩ := hp
    have hds : d'.size = n := by rw [p1, hsz]
    have hper : d'.toList.Perm ps := by
      have e1 : (d'.extract 0 n).toList = d'.toList := by rw [Array.toList_extract, List.extract_eq_take_drop]; simp only [List.drop_zero, Nat.sub_zero]; exact List.take_of_length_le (by rw [Array.length_toList, hds]; exact Nat.le_refl _)
      have e2 : (ps.toArray.extract 0 n).toList = ps := by rw [Array.toList_extract, List.extract_eq_take_drop]; simp only [List.drop_zero, Nat.sub_zero]; exact List.take_of_length_le (by rw [hl]; exact Nat.le_refl _)
      rw [e1, e2] at p3
      exact p3
    have hnd' : d'.toList.Nodup := hper.nodup_iff.2 hnd
    have hpw : d'.toList.Pairwise ltP := by
      refine List.pairwise_iff_getElem.2 (fun i j hi hj hij => ?_)
      have hin : i < n := by rw [← hds]; simpa using hi
      have hjn : j < n := by rw [← hds]; simpa using hj
      have h5 := hs i j (Nat.zero_le _) hij hjn
      unfold ltOf at h5
      have h6 : ¬ ltP d'[j]! d'[i]! := fun h => of_decide_eq_false h5 ((cmpPr_lt _ _).2 h)
      rw [getElem!_pos _ i (by omega), getElem!_pos _ j (by omega)] at h6
      have hne : d'.toList[i] ≠ d'.toList[j] := List.pairwise_iff_getElem.1 hnd' i j hi hj hij
      rcases ltP_tri d'.toList[i] d'.toList[j] with h7 | h7 | h7
      · exact h7
      · exact absurd h7 hne
      · exact absurd h7 (by simpa using h6)
    have hF2 : (flatK pcell 2 d').toList = d'.toList.flatMap pcell := by
      have := flatK_list d'.toList
      simpa using this
    have hF2s : (flatK pcell 2 d').size = n * 2 := by rw [size_flatK, hds]
    have hbl : (sortWorldK pcell 2 w g 0 m d' os).heap[g]? = some (.cells (putCells id 0 (flatK pcell 2 d') cur) 84 (0, 0)) := by
      unfold sortWorldK
      rw [heap_grow_old _ _ (by simpa [putRowK] using hg)]
      simp [putRowK, putRow, mapBlock, Sort.ahead, Array.getElem?_modify, hb, onCells]
    refine ⟨rfl, d'.toList, hpw, fun p => hper.mem_iff, by simpa using hds, ⟨?_, .inr ⟨g, c, _, rfl, hbase, hbl, h1, h2, by simp [putCells, h3], ?_⟩⟩, ?_⟩
    · rw [← hF2]; simpa using hF2s
    · rw [← hF2]
      refine List.ext_getElem? fun j => ?_
      by_cases hj : j < n * 2
      · rw [List.getElem?_take_of_lt hj, Array.getElem?_toList, Array.getElem?_toList]
        have hjc : j < cur.size := by have : n * 2 ≤ c * 2 := Nat.mul_le_mul_right 2 h1; omega
        simp [putCells, hF2s, hj, hjc]
      · rw [List.getElem?_take_eq_none (by omega), List.getElem?_eq_none (by rw [Array.length_toList, hF2s]; omega)]
    · refine ⟨rfl, rfl, rfl, by simp [sortWorldK, putRowK], fun k hk hne => ?_⟩
      unfold sortWorldK
      rw [heap_grow_old _ _ (by simpa [putRowK] using hk)]
      have : g ≠ k := fun e => hne (by rw [e]; rfl)
      simp [putRowK, putRow, mapBlock, Sort.ahead, Array.getElem?_modify, this]
end Go.Proofs.Tg.Bk
end
section
/- The program's Orbitals. -/
namespace Go.Proofs.Tg.Bk
open Go.RowKit Go.Gr Go.Sp Go.Ev Go.Pm Go.Mo
open Go.Proofs.Tg.Rf (pcell OV cellO OrbRows RetOrb pair_info orb_info blkp_cells RetAcn orbAt_few)
set_option maxHeartbeats 4000000
set_option maxRecDepth 100000
/-- What the loops of Orbitals hold: the set of what has been seen, the orbits so far. -/
structure RpSt (w : World) (L mb : Nat) (sn : Nat × Nat → Prop) (out : List (List (Nat × Nat))) (wr : World) (A : Option Addr) (c : Nat) (os : List OV) (S : List (Nat × Nat)) (cnt : Nat) : Prop where
  below : Below w.heap.size w wr
  set : PSet wr mb cnt S
  mem : ∀ p, p ∈ S ↔ sn p
  own : wr.ownsRow w.heap.size 85 1 (.slice A os.length c) os.length (os.map cellO)
  rows : OrbRows wr w.heap.size os
  eq : os.map OV.ps = out
  low : w.heap.size ≤ mb
theorem RpSt.keep {w wr wz : World} {L mb c cnt : Nat} {sn : Nat × Nat → Prop} {out : List (List (Nat × Nat))} {A : Option Addr} {os : List OV} {S : List (Nat × Nat)} (h : RpSt w L mb sn out wr A c os S cnt) (hb : Below wr.heap.size wr wz) : RpSt w L mb sn out wz A c os S cnt :=
  ⟨below_all h.below hb, h.set.below hb h.set.lt, h.mem, own_below h.own hb (Nat.le_refl _), h.rows.keep hb, h.eq, h.low⟩
theorem own_turn {w w' : World} {b sz n mb : Nat} {t : TypeId} {v : Value} {xs : List Value} (h : w.ownsRow b t sz v n xs) (hm : MapB w mb) (hg : w.grownBy w' (some mb)) : w'.ownsRow b t sz v n xs := by
  refine h.kept hg ?_
  cases hv : v.ownBlock with
  | none => exact .inl rfl
  | some q => exact .inr (fun e => own_map h hm (hv.trans e))
/-- A new pair has been put into the set. -/
theorem RpSt.put {w wr wz : World} {L mb c cnt : Nat} {sn sn' : Nat × Nat → Prop} {out : List (List (Nat × Nat))} {A : Option Addr} {os : List OV} {S : List (Nat × Nat)} {p : Nat × Nat} (h : RpSt w L mb sn out wr A c os S cnt) (hs : PSet wz mb (cnt + 1) (p :: S)) (hg : wr.grownBy wz (some mb)) (he : ∀ q, sn' q ↔ q = p ∨ sn q) : RpSt w L mb sn' out wz A c os (p :: S) (cnt + 1) :=
  ⟨bturn h.below h.set.mapB hg h.low, hs, fun q => by rw [List.mem_cons, he, h.mem], own_turn h.own h.set.mapB hg, fun o ho => own_turn (h.rows o ho) h.set.mapB hg, h.eq, h.low⟩
/-- A block that has been made since is written to. -/
theorem RpSt.far {w wr : World} {L mb c cnt gp : Nat} {sn : Nat × Nat → Prop} {out : List (List (Nat × Nat))} {A : Option Addr} {os : List OV} {S : List (Nat × Nat)} (h : RpSt w L mb sn out wr A c os S cnt) (off : Nat) (u : Value) (hp : w.heap.size ≤ gp) (hm : mb ≠ gp) (ho : some gp ≠ (Value.slice A os.length c).ownBlock) (hr : ∀ o ∈ os, some gp ≠ (cellO o).ownBlock) : RpSt w L mb sn out (wr.setCell ⟨gp, off, none⟩ u) A c os S cnt :=
  ⟨below_far h.below hp _ _, h.set.same (Below.heap_setCell _ _ _ _ hm), h.mem, own_far h.own ho _, fun x hx => own_far (h.rows x hx) (hr x hx) _, h.eq, h.low⟩
/-- The list of pairs that is being made has grown. -/
theorem RpSt.grown {w wr wz : World} {L mb c cnt gi n : Nat} {sn : Nat × Nat → Prop} {out : List (List (Nat × Nat))} {A : Option Addr} {os : List OV} {S : List (Nat × Nat)} {v : Value} {xs : List Value} (h : RpSt w L mb sn out wr A c os S cnt) (ho : wr.ownsRow gi 84 2 v n xs) (hlt : ∀ o ∈ os, ∀ g, (cellO o).ownBlock = some g → g < gi) (hlow : w.heap.size ≤ gi) (hg : wr.grownBy wz v.ownBlock) : RpSt w L mb sn out wz A c os S cnt := by
  refine ⟨h.below.grown hg h.below.size (fun q hq => Nat.le_trans hlow (ho.lt q hq).1), h.set.grown hg (fun e => own_map ho h.set.mapB e.symm), h.mem, h.own.kept hg (own_ne h.own ho (by decide)), fun u hu => ?_, h.eq, h.low⟩
  refine (h.rows u hu).kept hg ?_
  cases hb2 : (cellO u).ownBlock with
  | none => exact .inl rfl
  | some q =>
    refine .inr (fun e => ?_)
    have h4 := hlt u hu q hb2
    have h5 := (ho.lt q e.symm).1
    omega
/-- What the loop over the images holds. -/
structure RqSt (w : World) (L mb gi : Nat) (sn : Nat × Nat → Prop) (out : List (List (Nat × Nat))) (pre : List (Nat × Nat)) (wr : World) (A : Option Addr) (c : Nat) (os : List OV) (S : List (Nat × Nat)) (cnt : Nat) (A3 : Option Addr) (c3 n3 : Nat) : Prop where
  rp : RpSt w L mb (fun p => sn p ∨ p ∈ news pre) out wr A c os S cnt
  own : wr.ownsRow gi 84 2 (.slice A3 n3 c3) n3 ((news pre).flatMap pcell)
  len : n3 = (news pre).length
  lt : ∀ o ∈ os, ∀ g, (cellO o).ownBlock = some g → g < gi
  lowg : w.heap.size ≤ gi
  cntl : n3 ≤ pre.length
  mono : gi ≤ wr.heap.size
theorem RqSt.keep {w wr wz : World} {L mb gi c cnt c3 n3 : Nat} {sn : Nat × Nat → Prop} {out : List (List (Nat × Nat))} {pre : List (Nat × Nat)} {A A3 : Option Addr} {os : List OV} {S : List (Nat × Nat)} (h : RqSt w L mb gi sn out pre wr A c os S cnt A3 c3 n3) (hb : Below wr.heap.size wr wz) : RqSt w L mb gi sn out pre wz A c os S cnt A3 c3 n3 :=
  ⟨h.rp.keep hb, own_below h.own hb (Nat.le_refl _), h.len, h.lt, h.lowg, h.cntl, Nat.le_trans h.mono hb.size⟩
theorem orb_any (G B : Option Addr) (cG cB : Nat) (g l : List (List Int)) (w : World) (hG : Lists w G g) (hgl : g.length ≤ 720) (hgg : ∀ x ∈ g, x.length ≤ 1000) (hB : Lists w B l) (hll : ∀ x ∈ l, x.length ≤ 1000) (hl : l.length ≤ 64)
    (him : acnE g l = 0 → (∀ a ∈ g.map (fun a => img (g.headD []).length a l), Perm l.length a) ∧ GoodIm (g.map (fun a => img (g.headD []).length a l)) l.length ∧ 0 < g.length) :
    Calls Tryz.prog 18 #[.slice G g.length cG, .slice B l.length cB] w (RetOrb g l w) := by
  have HACN := Lib.hid (action_any G B cG cB g l w hG (by omega) hgg hB hll (by omega))
  have HIM := Lib.hid him
  clear hG hgg hB hll him
  by_cases hz : acnE g l = 0
  · have HZ := Lib.hid hz
    obtain ⟨hp, hgood, hg0⟩ := HIM.out hz
    have HP := Lib.hid hp
    have HGD := Lib.hid hgood
    have HAC : Hid (Calls Tryz.prog 16 #[.slice G g.length cG, .slice B l.length cB] w fun e w' => Below w.heap.size w w' ∧ ∃ q, e = .returned (.tuple #[.slice (some ⟨q, 0, none⟩) g.length g.length, .int .i64 0]) ∧ Lists w' (some ⟨q, 0, none⟩) (g.map fun a => img (g.headD []).length a l)) := Lib.hid (HACN.out.mono fun e w' h => by
      obtain ⟨hb, h⟩ := h
      obtain ⟨_, q, h1, h2⟩ := h.resolve_left (fun h => h.1 hz)
      exact ⟨hb, q, h1, h2⟩)
    unfold RetOrb
    have him : (g.map fun a => img (g.headD []).length a l).length = g.length := List.length_map ..
    generalize (g.map fun a => img (g.headD []).length a l) = im at *
    have HIL := Lib.hid him
    clear hz HACN HIM him hp hgood
    generalize l.length = L at *
    generalize hgL : g.length = M at *
    clear hgL
    have hLL : L * L ≤ 4096 := Nat.mul_le_mul hl hl
    obtain ⟨N, hN⟩ : ∃ N, L * L = N := ⟨_, rfl⟩
    rw [hN] at hLL
    have HNE := Lib.hid hN
    clear hN
    obtain ⟨j0, hj0, hjz0, hjz1, hjz2⟩ := info_parts orb_info
    obtain ⟨k0, hk0, hkz0, hkz1, hkz2⟩ := info_parts pair_info
    have hmm := @run_makeMap Tryz.prog
    go_enter Tryz.func18, Tryz.ntmps18
    go_wp2_with (go_at_call 16; refine HAC.out.mono ?_; rintro e w1 ⟨hb1, ga, rfl, hA⟩)
    have HA := Lib.hid hA
    have H0 : Hid (RpSt w1 L w1.heap.size (fun p => p ∈ (orbRow im L 0).1) (orbRow im L 0).2 (w1.alloc (.map #[] 0)) none 0 [] [] 0) := Lib.hid ⟨(Below.refl _ _).alloc (Nat.le_refl _) _, PSet.made w1, fun p => by simp [orbRow], World.ownsRow_nil _ _ _ _, fun o ho => absurd ho (by simp), rfl, Nat.le_refl _⟩
    generalize w1.alloc (.map #[] 0) = W at *
    clear hA hmm
    go_loopw [8, 28] (fun s8 s28 wr => ∃ (i : Nat) (A2 : Option Addr) (c2 : Nat) (os : List OV) (S : List (Nat × Nat)) (cnt : Nat), s28 = .int .i64 i ∧ i ≤ L ∧ s8 = .slice A2 os.length c2 ∧ Hid (cnt ≤ 720 * os.length) ∧ Hid (RpSt w1 L w1.heap.size (fun p => p ∈ (orbRow im L i).1) (orbRow im L i).2 wr A2 c2 os S cnt)) (fun _ s28 _ => L - (intOf s28).toNat)
    case atStart => exact ⟨0, none, 0, [], [], 0, rfl, Nat.zero_le _, rfl, Lib.hid (by simp), H0⟩
    case round =>
      clear H0
      obtain ⟨wo, rfl⟩ : ∃ wo : World, wo = wr := ⟨_, rfl⟩
      obtain ⟨i, A2, c2, os, S, cnt, rfl, hi, rfl, HCN, HST⟩ := hrel
      by_cases hiL : i < L
      · have i0 : (0 : Int) ≤ (i : Int) := by omega
        have i1 : (i : Int) < (L : Int) := by omega
        have i3 : ((i : Int)).toNat = i := by omega
        go_wp2
        go_loopw [8, 11] (fun s8 s11 wr => ∃ (k : Nat) (A2 : Option Addr) (c2 : Nat) (os : List OV) (S : List (Nat × Nat)) (cnt : Nat), s11 = .int .i64 k ∧ i ≤ k ∧ k ≤ L ∧ s8 = .slice A2 os.length c2 ∧ Hid (cnt ≤ 720 * os.length) ∧ Hid (RpSt w1 L w1.heap.size (fun p => p ∈ (orbAt im L i k).1) (orbAt im L i k).2 wr A2 c2 os S cnt)) (fun _ s11 _ => L - (intOf s11).toNat)
        case atStart => exact ⟨i, A2, c2, os, S, cnt, rfl, Nat.le_refl _, hi, rfl, HCN, Lib.hid (by rw [orbAt_start]; exact HST.out)⟩
        case round =>
          clear HST HCN
          obtain ⟨wk, rfl⟩ : ∃ wk : World, wk = wr := ⟨_, rfl⟩
          obtain ⟨k, A2, c2, os, S, cnt, rfl, hik, hk, rfl, HCN, HST⟩ := hrel
          have hbk := HST.out.below
          by_cases hkL : k < L
          · have q0 : (0 : Int) ≤ (k : Int) := by omega
            have q1 : (k : Int) < (L : Int) := by omega
            have q3 : ((k : Int)).toNat = k := by omega
            have HSU := Lib.hid (orbAt_succ im L hik)
            have HSN := Lib.hid (orbAt_seen im L hi hk)
            have hosl : os.length ≤ 4160 := by
              have h1 := congrArg List.length HST.out.eq
              rw [List.length_map] at h1
              have h2 := orbAt_few im L i k hi hk
              rw [HNE.out] at h2
              omega
            obtain ⟨st, hst⟩ : ∃ st, orbAt im L i k = st := ⟨_, rfl⟩
            rw [hst] at HST HSU HSN
            clear hst
            have hdom : domP (i, k) := ⟨by show i ≤ 1000; omega, by show k ≤ 1000; omega⟩
            by_cases hin : (i, k) ∈ st.1
            · have hlook : (Instr.lookup 83 (.map (some w1.heap.size)) (.agg #[.int .i64 i, .int .i64 k]) false).run Tryz.prog wk = .ok (.bool true) wk := HST.out.set.look hdom (decide_eq_true ((HST.out.mem _).2 hin))
              have HNX : Hid (orbStep im L st (i, k) = st) := Lib.hid (by unfold orbStep; rw [if_pos hin])
              clear hin
              go_wp2
              go_roundw
              case rel => exact ⟨k + 1, A2, c2, os, S, cnt, by go_num, by omega, by omega, rfl, HCN, Lib.hid (by rw [HSU.out, HNX.out]; exact HST.out)⟩
              case measure => (simp [intOf]; omega)
            · have hlook : (Instr.lookup 83 (.map (some w1.heap.size)) (.agg #[.int .i64 i, .int .i64 k]) false).run Tryz.prog wk = .ok (.bool false) wk := HST.out.set.look hdom (decide_eq_false (fun h => hin ((HST.out.mem _).1 h)))
              have HNX : Hid (orbStep im L st (i, k) = (st.1 ++ prsOf im (i, k), st.2 ++ [orbOf im L (i, k)])) := Lib.hid (by unfold orbStep; rw [if_neg hin])
              have HFR := Lib.hid (fresh HGD.out HSN.out hik hkL hin)
              obtain ⟨sn, hsn⟩ : ∃ sn : Nat × Nat → Prop, ∀ p, sn p ↔ p ∈ st.1 := ⟨fun p => p ∈ st.1, fun p => Iff.rfl⟩
              have HSE := Lib.hid hsn
              have H1 : Hid (RqSt w1 L w1.heap.size wk.heap.size sn st.2 ((prsOf im (i, k)).take 0) wk A2 c2 os S cnt none 0 0) := Lib.hid ⟨⟨hbk, HST.out.set, fun p => by rw [HST.out.mem, hsn]; simp [news], HST.out.own, HST.out.rows, HST.out.eq, Nat.le_refl _⟩, by simpa [news] using World.ownsRow_nil _ _ _ _, by simp [news], fun o ho g hg => ((HST.out.rows o ho).lt g hg).2, hbk.size, by simp, Nat.le_refl _⟩
              clear hin hsn
              go_wp2
              clear hlook
              go_loopw [12, 45] (fun s12 s45 wr => ∃ (j : Nat) (A3 : Option Addr) (c3 n3 : Nat) (S : List (Nat × Nat)) (cn : Nat), s45 = .int .i64 j ∧ j ≤ M ∧ s12 = .slice A3 n3 c3 ∧ Hid (cn ≤ cnt + j) ∧ Hid (RqSt w1 L w1.heap.size wk.heap.size sn st.2 ((prsOf im (i, k)).take j) wr A2 c2 os S cn A3 c3 n3)) (fun _ s45 _ => M - (intOf s45).toNat)
              case atStart => exact ⟨0, none, 0, 0, S, cnt, rfl, Nat.zero_le _, rfl, Lib.hid (by omega), H1⟩
              case round =>
                clear H1
                obtain ⟨wj, rfl⟩ : ∃ wj : World, wj = wr := ⟨_, rfl⟩
                obtain ⟨j, A3, c3, n3, S, cn, rfl, hj, rfl, hcn, HIS⟩ := hrel
                have hbj := HIS.out.rp.below
                by_cases hjM : j < M
                · have hjm : j < im.length := by rw [HIL.out]; exact hjM
                  obtain ⟨ad, E, ce, had, hc0, hE⟩ := HA.out.at hjm
                  injection had with had
                  subst had
                  have hpj := HP.out im[j] (List.getElem_mem _)
                  rw [hpj.1] at hc0
                  have hc := keep_cell hbj hc0
                  rw [add_lit, Nat.zero_add] at hc
                  have hia : i < im[j].length := by rw [hpj.1]; exact hiL
                  have hka : k < im[j].length := by rw [hpj.1]; exact hkL
                  obtain ⟨ee, rfl, d1⟩ := Ints.at (hE.keep hbj) hia
                  obtain ⟨ee', hee, d2⟩ := Ints.at (hE.keep hbj) hka
                  injection hee with hee
                  subst hee
                  obtain ⟨a, ha⟩ : ∃ a : Nat, im[j][i] = (a : Int) := ⟨(im[j][i]).toNat, by have := hpj.2.1 im[j][i] (List.getElem_mem _); omega⟩
                  obtain ⟨b, hb⟩ : ∃ b : Nat, im[j][k] = (b : Int) := ⟨(im[j][k]).toNat, by have := hpj.2.1 im[j][k] (List.getElem_mem _); omega⟩
                  have haL : a < L := by have := hpj.2.1 im[j][i] (List.getElem_mem _); omega
                  have hbL : b < L := by have := hpj.2.1 im[j][k] (List.getElem_mem _); omega
                  rw [ha] at d1
                  rw [hb] at d2
                  have HTK : Hid ((prsOf im (i, k)).take (j + 1) = (prsOf im (i, k)).take j ++ [(min a b, max a b)]) := Lib.hid (by
                    rw [List.take_succ_eq_append_getElem (by unfold prsOf; rw [List.length_map]; exact hjm)]
                    unfold prsOf
                    rw [List.getElem_map]
                    unfold prA
                    simp [hia, hka, ha, hb])
                  have HMEM : Hid ((min a b, max a b) ∈ prsOf im (i, k)) := Lib.hid (List.mem_map.2 ⟨im[j], List.getElem_mem _, by unfold prA; simp [hia, hka, ha, hb]⟩)
                  obtain ⟨mn, hmn⟩ : ∃ mn, min a b = mn := ⟨_, rfl⟩
                  obtain ⟨mx, hmx⟩ : ∃ mx, max a b = mx := ⟨_, rfl⟩
                  rw [hmn, hmx] at HTK HMEM
                  have d1a := fun o => cell_alloc d1 o
                  have d2a := fun o => cell_alloc d2 o
                  have hdm : domP (mn, mx) := ⟨by show mn ≤ 1000; omega, by show mx ≤ 1000; omega⟩
                  have e1 : min (a : Int) (b : Int) = (mn : Int) := by omega
                  have e2 : max (a : Int) (b : Int) = (mx : Int) := by omega
                  have r0 : (0 : Int) ≤ (j : Int) := by omega
                  have r1 : (j : Int) < (M : Int) := by omega
                  have r3 : ((j : Int)).toNat = j := by omega
                  have HPRE : Hid (((prsOf im (i, k)).take j).length ≤ 720) := Lib.hid (by rw [List.length_take]; omega)
                  have HPJ : Hid (((prsOf im (i, k)).take j).length = j) := Lib.hid (by rw [List.length_take]; unfold prsOf; rw [List.length_map]; omega)
                  generalize (prsOf im (i, k)).take j = pre at *
                  clear hc0 hE hpj ha hb hmn hmx hia hka
                  go_upto_region 17 with (fail)
                  go_region
                  have hdr : Below wj.heap.size wj (wj.alloc (.cells #[.int .i64 (mn : Int), .int .i64 (mx : Int)] 84)).drew := (Below.alloc (Below.refl wj.heap.size wj) (Nat.le_refl _) _).drew
                  have B5 : Blk (wj.alloc (.cells #[.int .i64 (mn : Int), .int .i64 (mx : Int)] 84)).drew wj.heap.size 84 #[.int .i64 (mn : Int), .int .i64 (mx : Int)] := (Blk.new wj 84 _).drew
                  have H5 := HIS.out.keep hdr
                  have hb5 := hdr.size
                  generalize (wj.alloc (.cells #[.int .i64 (mn : Int), .int .i64 (mx : Int)] 84)).drew = W5 at *
                  generalize wj.heap.size = gp at *
                  obtain ⟨c5, c6, f5, f6⟩ := B5.two
                  have HNW := Lib.hid (news_snoc pre (mn, mx))
                  have HFX := Lib.hid (HFR.out _ HMEM.out)
                  have H5h := Lib.hid H5
                  have hmS : (mn, mx) ∈ S ↔ (mn, mx) ∈ news pre := by
                    rw [H5.rp.mem]
                    exact ⟨fun h => h.resolve_left (fun h2 => HFX.out ((HSE.out _).1 h2)), .inr⟩
                  have hpl := HIS.out.cntl
                  have hn3 : n3 ≤ 720 := by
                    have : pre.length ≤ 720 := HPRE.out
                    omega
                  by_cases hnw : (mn, mx) ∈ news pre
                  · have hlook : (Instr.lookup 83 (.map (some w1.heap.size)) (.agg #[.int .i64 mn, .int .i64 mx]) false).run Tryz.prog W5 = .ok (.bool true) W5 := H5.rp.set.look hdm (decide_eq_true (hmS.2 hnw))
                    rw [if_pos hnw] at HNW
                    clear H5 hmS hnw d1 d2 d1a d2a e1 e2 hdr
                    go_wp2
                    go_roundw
                    case rel =>
                      refine ⟨j + 1, A3, c3, n3, S, cn, by go_num, by omega, rfl, Lib.hid (by have := hcn.out; omega), Lib.hid ?_⟩
                      rw [HTK.out]
                      have H := H5h.out
                      exact ⟨⟨H.rp.below, H.rp.set, fun q => by rw [H.rp.mem, HNW.out], H.rp.own, H.rp.rows, H.rp.eq, H.rp.low⟩, by rw [HNW.out]; exact H.own, by rw [HNW.out]; exact H.len, H.lt, H.lowg, by rw [List.length_append]; have := H.cntl; omega, H.mono⟩
                    case measure => (simp [intOf]; omega)
                  · have hlook : (Instr.lookup 83 (.map (some w1.heap.size)) (.agg #[.int .i64 mn, .int .i64 mx]) false).run Tryz.prog W5 = .ok (.bool false) W5 := H5.rp.set.look hdm (decide_eq_false (fun h => hnw (hmS.1 h)))
                    rw [if_neg hnw] at HNW
                    have hcn9 : cn ≤ 1000000000 := by
                      have := HCN.out
                      have := hcn.out
                      omega
                    obtain ⟨W6, hrun6, hP6, hg6⟩ := H5.rp.set.put hcn9 hdm (fun h => hnw (hmS.1 h))
                    have hrun : (Instr.mapUpdate 83 (.map (some w1.heap.size)) (.agg #[.int .i64 mn, .int .i64 mx]) (.bool true)).run Tryz.prog W5 = .ok () W6 := hrun6
                    have hmb := H5.rp.set.mapB
                    have hrp6 := H5.rp.put (sn' := fun p => sn p ∨ p ∈ news pre ++ [(mn, mx)]) hP6 hg6 (fun q => by
                      rw [List.mem_append, List.mem_singleton]
                      constructor
                      · rintro (h | h | h)
                        · exact .inr (.inl h)
                        · exact .inr (.inr h)
                        · exact .inl h
                      · rintro (h | h | h)
                        · exact .inr (.inr h)
                        · exact .inl h
                        · exact .inr (.inl h))
                    have hown6 := own_turn H5.own hmb hg6
                    have B6 := B5.turn hmb hg6
                    have HRP6 := Lib.hid hrp6
                    have hb6 := hrp6.below
                    obtain ⟨x5, x6, y5, y6⟩ := B6.two
                    have hgl6 := hg6.size
                    have HLT := Lib.hid H5.lt
                    have hkl6 : wk.heap.size ≤ W6.heap.size := Nat.le_trans H5.mono hgl6
                    clear H5 hmS hnw d1 d2 d1a d2a e1 e2 hdr hrun6 hP6 hrp6 B6 B5 hg6 hmb
                    go_wp2_with (at_builtin
                                 refine wpList_append_own_at _ rfl _ _ 85 rfl wk.heap.size 84 k0 (.agg #[.int .i64 0, .int .i64 0]) 2 16 Tryz.underlying85 hk0 hkz0 hkz1 hkz2 rfl (by decide) (.slice A3 n3 c3) n3 ((news pre).flatMap pcell) rfl (hown6.alloc _) ⟨W6.heap.size, 0, none⟩ 1 1 [.int .i64 (mn : Int), .int .i64 (mx : Int)] rfl rfl (blkp_cells (Blk.new _ _ _)) (by intro u hu; simp at hu; rcases hu with rfl | rfl <;> rfl) (by simp only [maxLen]; omega) (by omega) (by simp; omega) ?_
                                 intro v8 w8 hown8 hg8 _ hat8
                                 obtain ⟨A8, c8, hv8, _, _⟩ := Sl.of_own hown8
                                 subst hv8)
                    go_roundw
                    case rel =>
                      have hal8 := Below.alloc (Below.refl W6.heap.size W6) (Nat.le_refl _) (.cells #[.int .i64 (mn : Int), .int .i64 (mx : Int)] 84)
                      have hox := hown6.alloc (.cells #[.int .i64 (mn : Int), .int .i64 (mx : Int)] 84)
                      have hrp8 := (HRP6.out.keep hal8).grown hox HLT.out H5h.out.lowg hg8
                      refine ⟨j + 1, A8, c8, n3 + 1, (mn, mx) :: S, cn + 1, by go_num, by omega, rfl, Lib.hid (by have := hcn.out; omega), Lib.hid ?_⟩
                      rw [HTK.out]
                      refine ⟨?_, ?_, ?_, HLT.out, H5h.out.lowg, by rw [List.length_append]; simp; omega, Nat.le_trans hkl6 (Nat.le_trans hal8.size hg8.size)⟩
                      · rw [HNW.out]; exact hrp8
                      · rw [HNW.out, List.flatMap_append, List.flatMap_singleton]
                        exact hown8
                      · rw [HNW.out, List.length_append, ← H5h.out.len]; rfl
                    case measure => (simp [intOf]; omega)
                · obtain rfl : j = M := by omega
                  have dj : decide ((j : Int) < (j : Int)) = false := by simp
                  have hpre : (prsOf im (i, k)).take j = prsOf im (i, k) := List.take_of_length_le (by unfold prsOf; rw [List.length_map, HIL.out]; exact Nat.le_refl _)
                  rw [hpre] at HIS
                  have hpl : (prsOf im (i, k)).length = j := by unfold prsOf; rw [List.length_map, HIL.out]
                  have hn0 : 0 < n3 := by
                    rw [HIS.out.len]
                    have hm : (prsOf im (i, k))[0]'(by omega) ∈ news (prsOf im (i, k)) := (news_mem _ _).2 (List.getElem_mem _)
                    exact List.length_pos_of_mem hm
                  have hn720 : n3 ≤ 720 := by have := HIS.out.cntl; omega
                  have HSRT := Lib.hid (sortP_any A3 n3 c3 wk.heap.size (news (prsOf im (i, k))) wj HIS.out.own HIS.out.len.symm hn0 (by omega) (news_nodup _))
                  have HOM : Hid (∀ q, q ∈ orbOf im L (i, k) ↔ q ∈ prsOf im (i, k)) := Lib.hid (fun q => orbOf_mem HP.out hiL hkL q)
                  clear hpre hpl
                  go_upto_region 23 with (go_at_call 49; refine HSRT.out.mono ?_; rintro e w9 ⟨rfl, qs, hq1, hq2, hq3, hq4, hg9⟩)
                  have hqs : qs = orbOf im L (i, k) := asc_ext hq1 (orbOf_asc _ _ _) (fun p => by rw [hq2, HOM.out, news_mem])
                  have hrp9 := HIS.out.rp.grown HIS.out.own HIS.out.lt HIS.out.lowg hg9
                  rw [hqs] at hq3 hq4
                  have HQ3 := Lib.hid hq3
                  have HQ4 := Lib.hid hq4
                  have HR9 := Lib.hid hrp9
                  have hcown := hrp9.own
                  have hbx := hrp9.below
                  have hlowi := HIS.out.lowg
                  clear hq1 hq2 hq3 hq4 hqs hrp9 hg9 HSRT
                  go_wp2_with (at_builtin
                               refine wpList_append_own_at _ rfl _ _ 40 rfl w1.heap.size 85 j0 (.slice none 0 0) 1 24 Tryz.underlying40 hj0 hjz0 hjz1 hjz2 rfl (by decide) (.slice A2 os.length c2) os.length (os.map cellO) rfl (hcown.alloc _) ⟨w9.heap.size, 0, none⟩ 1 1 [.slice A3 n3 c3] rfl rfl (cell_one_new _ _ _) (by simp [Value.oneCell']) (by simp only [maxLen]; omega) (by omega) (by have := hbx.size; simp; omega) ?_
                               intro v10 w10 hown10 hg10 _ _
                               obtain ⟨A10, c10, hv10, _, _⟩ := Sl.of_own hown10
                               subst hv10)
                  go_roundw
                  case rel =>
                    have H9 := HR9.out
                    have hal := Below.alloc (Below.refl w9.heap.size w9) (Nat.le_refl _) (.cells #[.slice A3 n3 c3] 85)
                    have hox := hcown.alloc (.cells #[.slice A3 n3 c3] 85)
                    have hb10 := below_all hbx hal
                    have hset := H9.set.below hal H9.set.lt
                    refine ⟨k + 1, A10, c10, os ++ [⟨A3, c3, orbOf im L (i, k)⟩], S, cn, by go_num, by omega, by omega, by simp, Lib.hid (by have := hcn.out; have := HCN.out; rw [List.length_append, List.length_singleton]; omega), Lib.hid ?_⟩
                    rw [HSU.out, HNX.out]
                    refine ⟨hb10.grown hg10 hb10.size (fun q hq => (hox.lt q hq).1), hset.grown hg10 (fun e => own_map hox hset.mapB e.symm), fun q => ?_, ?_, fun o ho => ?_, ?_, Nat.le_refl _⟩
                    · rw [H9.mem, HSE.out, news_mem, List.mem_append]
                    · rw [List.length_append, List.map_append, List.map_singleton]
                      unfold cellO
                      simp only
                      rw [HQ3.out]
                      exact hown10
                    · rcases List.mem_append.1 ho with h | h
                      · have h3 := (H9.rows o h).alloc (.cells #[.slice A3 n3 c3] 85)
                        exact h3.kept hg10 (own_ne h3 hox (by decide))
                      · rw [List.mem_singleton.1 h]
                        have h3 := own_base (HQ4.out.alloc (.cells #[.slice A3 n3 c3] 85)) hlowi
                        unfold cellO
                        simp only
                        rw [HQ3.out]
                        exact h3.kept hg10 (own_ne h3 hox (by decide))
                    · rw [List.map_append, H9.eq]; rfl
                  case measure => (simp [intOf]; omega)
          · obtain rfl : k = L := by omega
            have dk : decide ((k : Int) < (k : Int)) = false := by simp
            go_wp2
            go_roundw
            case rel => exact ⟨i + 1, A2, c2, os, S, cnt, by go_num, by omega, rfl, HCN, Lib.hid (by rw [← orbAt_end]; exact HST.out)⟩
            case measure => (simp [intOf]; omega)
      · obtain rfl : i = L := by omega
        have di : decide ((i : Int) < (i : Int)) = false := by simp
        have HF := Lib.hid HST.out
        go_wp2
        go_ret2
        exact ⟨below_all hb1 HF.out.below, .inr ⟨HZ.out, A2, c2, os, rfl, own_base HF.out.own hb1.size, fun o ho => own_base (HF.out.rows o ho) hb1.size, HF.out.eq⟩⟩
  · have HZ := Lib.hid hz
    have HAC : Hid (Calls Tryz.prog 16 #[.slice G g.length cG, .slice B l.length cB] w fun e w' => Below w.heap.size w w' ∧ e = .returned (.tuple #[.slice none 0 0, .int .i64 (acnE g l)])) := Lib.hid (HACN.out.mono fun e w' h => ⟨h.1, (h.2.resolve_right (fun h => hz h.1)).2⟩)
    unfold RetOrb
    have dz : decide (acnE g l = 0) = false := decide_eq_false hz
    have dz2 : (acnE g l == 0) = false := beq_eq_false_iff_ne.2 hz
    clear hz HACN HIM
    generalize acnE g l = z at *
    go_enter Tryz.func18, Tryz.ntmps18
    go_wp2_with (go_at_call 16; refine HAC.out.mono ?_; rintro e w1 ⟨hb1, rfl⟩)
    go_ret2
    exact ⟨hb1, .inl ⟨HZ.out, rfl⟩⟩
end Go.Proofs.Tg.Bk
end
