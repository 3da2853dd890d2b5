/- Parts of the proof: AD5, QU3, WHC, WG6. -/
import Derived.Lib.TrailingZeros
import Derived.StillTailTactics
import Derived.Deep.RegionHeld3
import Derived.Test.YtodjofbneeejpaaGreatDoorMBD1
import Derived.Test.YtodjofbneeejpaaGreatDoorMBD6
import Derived.Test.YtodjofbneeejpaaGreatDoorMBD8
import Derived.Test.YtodjofbneeejpaaGreatDoorMBD9
import Derived.Test.YtodjofbneeejpaaGreatDoorMBD10
import Derived.Test.YtodjofbneeejpaaGreatDoorMBD11
section
/- The package blocks: checkAdapted. -/
namespace Go.Proofs.Tg.Bk
open Go.RowKit Go.Gr Go.Sp Go.Ev Go.Pm Go.Mo
open Go.Proofs.Tg.Gp (invol_any)
set_option maxHeartbeats 4000000
set_option maxRecDepth 100000
/-- The number of variables of the arguments of Adapted. -/
def adN (l b : List (List Int)) : Nat := ((l ++ b).headD []).length
/-- The first errors of Adapted. -/
def chE (l b : List (List Int)) : Int := if (∃ a ∈ l, ¬ Invo a) ∨ (∃ m ∈ b, vldM m = false) then 1 else if ∃ a ∈ l, a.length ≠ adN l b then 4 else szE (adN l b) b
def RetChk (l b : List (List Int)) (w : World) (e : Ending) (w' : World) : Prop := Below w.heap.size w w' ∧ ∃ n : Nat, e = .returned (.tuple #[.int .i64 n, .int .i64 (chE l b)]) ∧ (chE l b = 0 → n = adN l b)
theorem chk_any (A B : Option Addr) (cA cB : Nat) (l b : List (List Int)) (w : World) (hA : Lists w A l) (hB : Lists w B b) (hl : l.length ≤ 1000) (hb : b.length ≤ 1000) (hll : ∀ x ∈ l, x.length ≤ 1000) (hbb : ∀ x ∈ b, x.length ≤ 1000) :
    Calls Tryz.prog 30 #[.slice A l.length cA, .slice B b.length cB] w (RetChk l b w) := by
  have HA := Lib.hid hA
  have HB := Lib.hid hB
  have HLL := Lib.hid hll
  have HBB := Lib.hid hbb
  clear hA hB hll hbb
  go_enter Tryz.func30, Tryz.ntmps30
  go_wp2
  go_loopw [13] (fun s13 wr => ∃ k : Nat, s13 = .int .i64 k ∧ k ≤ l.length ∧ Hid (∀ j (h : j < l.length), j < k → Invo l[j]) ∧ Below w.heap.size w wr) (fun s13 _ => l.length - (intOf s13).toNat)
  case atStart => exact ⟨0, rfl, Nat.zero_le _, Lib.hid (fun j _ h => absurd h (by omega)), Below.refl _ _⟩
  case round =>
   obtain ⟨wo, rfl⟩ : ∃ wo : World, wo = wr := ⟨_, rfl⟩
   obtain ⟨k, rfl, hk, HIN, hbo⟩ := hrel
   by_cases hkl : k < l.length
   ·obtain ⟨ad, E, ce, rfl, hc0, hE⟩ := HA.out.at hkl
    have hc := keep_cell hbo hc0
    have q0 : (0 : Int) ≤ (k : Int) := by omega
    have q1 : (k : Int) < (l.length : Int) := by omega
    have q3 : ((k : Int)).toNat = k := by omega
    by_cases hin : Invo l[k]
    ·have HV := Lib.hid (invol_any E ce l[k] true wo (hE.keep hbo) (by have := HLL.out l[k] (List.getElem_mem _); omega) ⟨fun _ => hin, fun _ => rfl⟩)
     have HI2 : Hid (∀ j (h : j < l.length), j < k + 1 → Invo l[j]) := Lib.hid (fun j h hj => by
      by_cases he : j = k
      ·subst he; exact hin
      ·exact HIN.out j h (by omega))
     clear hin hE hc0
     generalize l[k] = x at *
     go_wp2_with (go_at_call 43; refine HV.out.mono ?_; rintro e w4 ⟨rfl, hb4⟩)
     go_roundw
     case rel => exact ⟨k + 1, by go_num, by omega, HI2, below_all hbo hb4⟩
     case measure => simp [intOf]; omega
    ·have HV := Lib.hid (invol_any E ce l[k] false wo (hE.keep hbo) (by have := HLL.out l[k] (List.getElem_mem _); omega) ⟨fun h => (by cases h), fun h => absurd h hin⟩)
     have HE1 : Hid (chE l b = 1) := Lib.hid (by unfold chE; rw [if_pos (.inl ⟨_, List.getElem_mem hkl, hin⟩)])
     clear hin hE hc0
     generalize l[k] = x at *
     go_wp2_with (go_at_call 43; refine HV.out.mono ?_; rintro e w4 ⟨rfl, hb4⟩)
     go_ret2
     exact ⟨below_all hbo hb4, 0, by rw [HE1.out]; rfl, fun h => by rw [HE1.out] at h; cases h⟩
   ·obtain rfl : k = l.length := by omega
    have HIA : Hid (∀ a ∈ l, Invo a) := Lib.hid (fun a ha => by
     obtain ⟨j, hj, rfl⟩ := List.getElem_of_mem ha
     exact HIN.out j hj hj)
    have dk : decide ((l.length : Int) < (l.length : Int)) = false := by simp
    obtain ⟨q, hq⟩ : ∃ q : Bool, q = true ↔ ∀ m ∈ b, vldM m = true := by classical exact ⟨decide _, decide_eq_true_iff⟩
    have HVM := Lib.hid (bvmons_any B cB b q wo (HB.out.keep hbo) (by omega) HBB.out hq)
    have HQ := Lib.hid hq
    clear hq HIN
    cases q with
    | false =>
      have HE1 : Hid (chE l b = 1) := Lib.hid (by
       unfold chE
       rw [if_pos (.inr (by
        apply Classical.byContradiction
        intro hno
        have h2 := HQ.out.2 (fun m hm => by
         cases hv : vldM m with
         | true => rfl
         | false => exact absurd ⟨m, hm, hv⟩ hno)
        cases h2))])
      clear HQ
      go_wp2_with (go_at_call 46; refine HVM.out.mono ?_; rintro e w4 ⟨rfl, rfl⟩)
      go_ret2
      exact ⟨hbo, 0, by rw [HE1.out]; rfl, fun h => by rw [HE1.out] at h; cases h⟩
    | true =>
      have HVA := Lib.hid (HQ.out.1 rfl)
      have HE0 : Hid (chE l b = if ∃ a ∈ l, a.length ≠ adN l b then 4 else szE (adN l b) b) := Lib.hid (by
       unfold chE
       rw [if_neg (by
        rintro (⟨a, ha, hn⟩ | ⟨m, hm, hn⟩)
        ·exact hn (HIA.out a ha)
        ·rw [HVA.out m hm] at hn; cases hn)])
      clear HQ
      by_cases hl0 : 0 < l.length
      ·obtain ⟨ad, E, ce, rfl, hc0, _⟩ := HA.out.at hl0
       have hc := keep_cell hbo hc0
       rw [show ad.add 0 = ad by simp [Addr.add]] at hc
       have HN : Hid (l[0].length = adN l b) := Lib.hid (by
        unfold adN
        cases l with
        | nil => simp at hl0
        | cons x xs => rfl)
       have i0 : (0 : Int) < (l.length : Int) := by omega
       have d0 : decide ((0 : Int) < (l.length : Int)) = true := decide_eq_true i0
       have d1 : decide (0 < l.length) = true := decide_eq_true hl0
       have HSZ := Lib.hid (fun W (h : Lists W B b) => sizes_any B cB l[0].length b _ W h (by omega) rfl)
       clear hc0
       generalize l[0].length = n at *
       go_wp2_with (go_at_call 46; refine HVM.out.mono ?_; rintro e w4 ⟨rfl, rfl⟩)
       clear hc
       go_loopw [40] (fun s40 wr => ∃ k : Nat, s40 = .int .i64 k ∧ k ≤ l.length ∧ Hid (∀ j (h : j < l.length), j < k → l[j].length = n) ∧ Below w.heap.size w wr) (fun s40 _ => l.length - (intOf s40).toNat)
       case atStart => exact ⟨0, rfl, Nat.zero_le _, Lib.hid (fun j _ h => absurd h (by omega)), hbo⟩
       case round =>
        clear hbo HVM
        obtain ⟨wi, rfl⟩ : ∃ wi : World, wi = wr := ⟨_, rfl⟩
        obtain ⟨k, rfl, hk, HLN, hbi⟩ := hrel
        by_cases hkl : k < l.length
        ·obtain ⟨ad', E', ce', had, hc0, _⟩ := HA.out.at hkl
         injection had with had
         subst had
         have hc := keep_cell hbi hc0
         have q0 : (0 : Int) ≤ (k : Int) := by omega
         have q1 : (k : Int) < (l.length : Int) := by omega
         have q3 : ((k : Int)).toNat = k := by omega
         by_cases he : l[k].length = n
         ·have e1 : decide ((l[k].length : Int) = (n : Int)) = true := decide_eq_true (by omega)
          have e2 : decide (l[k].length = n) = true := decide_eq_true he
          have e3 : (((l[k].length : Nat) : Int) == (n : Int)) = true := beq_iff_eq.2 (by omega)
          have HLN2 : Hid (∀ j (h : j < l.length), j < k + 1 → l[j].length = n) := Lib.hid (fun j h hj => by
           by_cases h2 : j = k
           ·subst h2; exact he
           ·exact HLN.out j h (by omega))
          clear he hc0
          generalize l[k] = x at hc e1 e2 e3
          go_wp2
          go_roundw
          case rel => exact ⟨k + 1, by go_num, by omega, HLN2, hbi⟩
          case measure => simp [intOf]; omega
         ·have e1 : decide ((l[k].length : Int) = (n : Int)) = false := decide_eq_false (by omega)
          have e2 : decide (l[k].length = n) = false := decide_eq_false he
          have e3 : (((l[k].length : Nat) : Int) == (n : Int)) = false := beq_eq_false_iff_ne.2 (by omega)
          have HE4 : Hid (chE l b = 4) := Lib.hid (by rw [HE0.out, if_pos ⟨_, List.getElem_mem hkl, by rw [← HN.out]; exact he⟩])
          clear he hc0
          generalize l[k] = x at hc e1 e2 e3
          go_wp2
          go_ret2
          exact ⟨hbi, 0, by rw [HE4.out]; rfl, fun h => by rw [HE4.out] at h; cases h⟩
        ·obtain rfl : k = l.length := by omega
         have HEZ : Hid (chE l b = szE n b) := Lib.hid (by
          rw [HE0.out, if_neg (by
           rintro ⟨a, ha, hn⟩
           obtain ⟨j, hj, rfl⟩ := List.getElem_of_mem ha
           exact hn (by rw [← HN.out]; exact HLN.out j hj hj)), HN.out])
         go_wp2_with (go_at_call 59; refine (HSZ.out _ (HB.out.keep hbi)).mono ?_; rintro e w5 ⟨rfl, rfl⟩)
         go_ret2
         exact ⟨hbi, n, by rw [HEZ.out]; rfl, fun _ => HN.out⟩
      ·have hle : l = [] := List.eq_nil_of_length_eq_zero (by omega)
       subst hle
       by_cases hb0 : 0 < b.length
       ·obtain ⟨bd, E, ce, rfl, hc0, _⟩ := HB.out.at hb0
        have hc := keep_cell hbo hc0
        rw [show bd.add 0 = bd by simp [Addr.add]] at hc
        have HN : Hid (b[0].length = adN [] b) := Lib.hid (by
         unfold adN
         cases b with
         | nil => simp at hb0
         | cons x xs => rfl)
        have i0 : (0 : Int) < (b.length : Int) := by omega
        have d0 : decide ((0 : Int) < (b.length : Int)) = true := decide_eq_true i0
        have d1 : decide (0 < b.length) = true := decide_eq_true hb0
        have HSZ := Lib.hid (fun W (h : Lists W (some bd) b) => sizes_any (some bd) cB b[0].length b _ W h (by omega) rfl)
        clear hc0
        generalize b[0].length = n at *
        have HEZ : Hid (chE [] b = szE n b) := Lib.hid (by rw [HE0.out, if_neg (by rintro ⟨a, ha, _⟩; cases ha), HN.out])
        go_wp2_with (go_at_call 46; refine HVM.out.mono ?_; rintro e w4 ⟨rfl, rfl⟩)
        refine wp_loop_rounds 1 ?_
        rw [rounds_succ]
        go_wp2_with (go_at_call 59; refine (HSZ.out _ (HB.out.keep hbo)).mono ?_; rintro e w5 ⟨rfl, rfl⟩)
        go_ret2
        exact ⟨hbo, n, by rw [HEZ.out]; rfl, fun _ => HN.out⟩
       ·have hbe : b = [] := List.eq_nil_of_length_eq_zero (by omega)
        subst hbe
        have HSZ := Lib.hid (fun W (h : Lists W B []) => sizes_any B cB 0 [] _ W h (by simp) rfl)
        have HEZ : Hid (chE [] [] = szE 0 []) := Lib.hid (by rw [HE0.out, if_neg (by rintro ⟨a, ha, _⟩; cases ha)]; rfl)
        go_wp2_with (go_at_call 46; refine HVM.out.mono ?_; rintro e w4 ⟨rfl, rfl⟩)
        refine wp_loop_rounds 1 ?_
        rw [rounds_succ]
        go_wp2_with (go_at_call 59; refine (HSZ.out _ (HB.out.keep hbo)).mono ?_; rintro e w5 ⟨rfl, rfl⟩)
        go_ret2
        exact ⟨hbo, 0, by rw [HEZ.out]; rfl, fun _ => rfl⟩
end Go.Proofs.Tg.Bk
end
section
/- Queues: append of several elements. -/
namespace Go.Proofs.Tg
open Go.RowKit Go.Gr
set_option maxHeartbeats 1000000
theorem setCells_heap (b : Nat) {e : TypeId} {fz : Nat × Nat} : ∀ (vs : List Value) (o : Nat) (w : World) (cur : Array Value), w.heap[b]? = some (.cells cur e fz) → o + vs.length ≤ cur.size →
    ∃ cur', (w.setCells b o vs).heap[b]? = some (.cells cur' e fz) ∧ cur'.size = cur.size ∧ (∀ j x, vs[j]? = some x → cur'[o + j]? = some x) ∧ (∀ q, q < o → cur'[q]? = cur[q]?) ∧ (w.setCells b o vs).heap.size = w.heap.size ∧ (∀ k, k ≠ b → (w.setCells b o vs).heap[k]? = w.heap[k]?) ∧ (w.setCells b o vs).os = w.os ∧ (w.setCells b o vs).tape = w.tape ∧ (w.setCells b o vs).output = w.output
  | [], o, w, cur, h, _ => ⟨cur, h, rfl, fun j x hx => by simp at hx, fun q _ => rfl, rfl, fun k _ => rfl, rfl, rfl, rfl⟩
  | v :: vs, o, w, cur, h, hs => by
    rw [List.length_cons] at hs
    have h1 : (w.setCell ⟨b, o, none⟩ v).heap[b]? = some (.cells (cur.setIfInBounds o v) e fz) := by simp [World.setCell, Array.getElem?_modify, h]
    obtain ⟨cur', g1, g2, g3, g4, g5, g6, g7, g8, g9⟩ := setCells_heap b vs (o + 1) (w.setCell ⟨b, o, none⟩ v) (cur.setIfInBounds o v) h1 (by simp; omega)
    refine ⟨cur', g1, by rw [g2]; simp, fun j x hx => ?_, fun q hq => ?_, ?_, fun k hk => ?_, g7, g8, g9⟩
    ·cases j with
     | zero =>
       have hx : v = x := by simpa using hx
       subst hx
       rw [Nat.add_zero, g4 o (by omega), Array.getElem?_setIfInBounds, if_pos rfl, if_pos (by omega)]
     | succ j =>
       have := g3 j x (by simpa using hx)
       rwa [show o + 1 + j = o + (j + 1) by omega] at this
    ·rw [g4 q (by omega), Array.getElem?_setIfInBounds, if_neg (by omega)]
    ·rw [World.setCells, g5]; simp [World.setCell]
    ·rw [World.setCells, g6 k hk]; simp [World.setCell, Array.getElem?_modify, Ne.symm hk]
section
variable {P : Program}
theorem run_que_appends (w : World) (base : Nat) (t ty e : TypeId) (i : TypeInfo) (z : Value) (bytes : Nat) (ht : P.underlying t = some (.slice e)) (hi : P.info? e = some i) (hz : i.zero = some z) (hsize : i.size = 1) (hby : i.bytes = bytes) (hzs : z.cells.size = 1)
    (v : Value) (xs : List Value) (hq : Que w base e v xs) (x : Value) (m : Nat) (news : List Value) (hs0 : Src P 1 t x m news w) (h63 : xs.length + m ≤ maxLen) (hbytes : (xs.length + m) * bytes ≤ 140737488355328) (hbase : base ≤ w.heap.size) :
    ∃ v' w', (Builtin.append_ #[t, t] ty #[v, x]).run P w = .ok v' w' ∧ Que w' base e v' (xs ++ news) ∧ w.grownBy w' v.ownBlock ∧ (v'.ownBlock = v.ownBlock ∨ v'.ownBlock = some w.heap.size) := by
  obtain ⟨g, o, cap, cur, rfl, h2, h3, h4, h5, h6, h7⟩ := hq
  have hs : Src P i.size t x m news w := by rw [hsize]; exact hs0
  have hnl : news.length = m := by have := hs0.newsLen; omega
  by_cases hroom : xs.length + m ≤ cap
  ·have hr := run_append_room_src (P := P) w t t ty e i ht hi g o xs.length cap _ m news hs hroom (fun j hj => by
    rw [hsize, cell_of_row w g _ cur e _ h3]
    simp
    omega) (fun j hj => by
    rw [hsize]
    simp [World.frozen?, h3])
   rw [hsize, Nat.mul_one] at hr
   obtain ⟨cur', g1, g2, g3, g4, g5, g6, g7, g8, g9⟩ := setCells_heap g news (o + xs.length) w cur h3 (by omega)
   refine ⟨_, _, hr, ⟨g, o, cap, cur', by simp [hnl], h2, g1, by simp; omega, h5, by omega, fun j u hu => ?_⟩, ⟨g7, g8, g9, by omega, fun k _ hne => g6 k (fun e1 => hne (by simp [Value.ownBlock, e1]))⟩, .inl rfl⟩
   by_cases hj : j < xs.length
   ·rw [List.getElem?_append_left hj] at hu
    rw [g4 _ (by omega)]
    exact h7 j u hu
   ·rw [List.getElem?_append_right (by omega)] at hu
    have := g3 _ u hu
    rwa [show o + xs.length + (j - xs.length) = o + j by omega] at this
  ·have holds : (Builtin.firstCells i.size xs.length (.slice (some ⟨g, o, none⟩) xs.length cap)).run P w.drew = .ok xs.toArray w.drew := by
    rw [hsize]
    refine run_firstCells_some w.drew 1 xs.length ⟨g, o, none⟩ xs.length cap xs (by simp) (fun j x hx => ?_)
    rw [add_lit, World.cell?_drew, cell_of_row w g _ cur e _ h3]
    exact h7 j x hx
   have hr := run_append_grow_src (P := P) w t t ty e i z ht hi hz (some ⟨g, o, none⟩) xs.length cap xs holds _ m news hs (by omega) (by simp only [maxLen] at h63; omega) (growslice_fits (by omega) (by rw [hby]; exact hbytes))
   have hge := grownCap_ge w (xs.length + m) cap e
   have hcm : grownCap w (xs.length + m) cap e ≤ maxLen := grownCap_le_maxLen w (xs.length + m) cap e h63
   refine ⟨_, _, hr, ⟨w.heap.size, 0, grownCap w (xs.length + m) cap e, _, by simp [hnl], hbase, heap_alloc_new w.drew _, by simp [hnl]; exact hge, hcm, ?_, fun j x hx => ?_⟩, ⟨rfl, rfl, rfl, by simp, fun k hk _ => heap_alloc_old w.drew _ hk⟩, .inr rfl⟩
   ·simp only [Array.size_append, List.size_toArray, size_zeroCells, hzs, List.length_append]
    omega
   ·rw [Nat.zero_add, Array.getElem?_append_left]
    ·simpa using hx
    ·have := (List.getElem?_eq_some_iff.1 hx).1
     simpa using this
theorem step_que_appends (w : World) {ops : Array Oper} {o : Oper} {a : Act} {K : Act → World → Prop} {Q : Exit → Act → World → Prop} {E : Prop} (hgd : o.guard = none ∨ ∃ k b, o.guard = some (k, b) ∧ Region.wanted o (yielded ops a.tmps) = true) (s x : Operand) (t : TypeId)
    (ho : o.op = .call { callee := .builtin .append, args := #[s, x], argTypes := #[t, t] })
    (base : Nat) (e : TypeId) (i : TypeInfo) (z : Value) (bytes : Nat) (ht : P.underlying t = some (.slice e)) (hi : P.info? e = some i) (hz : i.zero = some z) (hsize : i.size = 1) (hby : i.bytes = bytes) (hzs : z.cells.size = 1)
    (v : Value) (xs : List Value) (hs : a.eval s = v) (hq : Que w base e v xs) (xv : Value) (m : Nat) (news : List Value) (hx : a.eval x = xv) (hs0 : Src P 1 t xv m news w) (h63 : xs.length + m ≤ maxLen) (hbytes : (xs.length + m) * bytes ≤ 140737488355328) (hbase : base ≤ w.heap.size)
    (h : ∀ v' w', Que w' base e v' (xs ++ news) → w.grownBy w' v.ownBlock → (v'.ownBlock = v.ownBlock ∨ v'.ownBlock = some w.heap.size) → K (a.put o.dst v') w') :
    if Region.wanted o (yielded ops a.tmps) = true then Oper.wp P o a w K Q else E := by
  have hw : Region.wanted o (yielded ops a.tmps) = true := by
   rcases hgd with hgd | ⟨_, _, _, h⟩
   ·simp [Region.wanted, hgd]
   ·exact h
  rw [if_pos hw]
  obtain ⟨v', w', hr, h2, h3, h4⟩ := run_que_appends (P := P) w base t o.type e i z bytes ht hi hz hsize hby hzs v xs hq xv m news hs0 h63 hbytes hbase
  unfold Oper.wp execOp
  simp only [ho, resolve, invoke, builtin, Sem.run_bind, Sem.run_pure, Result.andThen_ok, List.map_toArray, List.map_cons, List.map_nil, hs, hx, hr]
  exact h v' w' h2 h3 h4
end
/-- What a slice yields, whatever its address. -/
theorem src_sl {P : Program} {t e' : TypeId} (hk : P.underlying t = some (.slice e')) {w : World} {A : Option Addr} {m c : Nat} {news : List Value} (h : Sl w A m 1 news) (h1 : ∀ u ∈ news, u.oneCell' = true) : Src P 1 t (.slice A m c) m news w := by
 have hl := h.len
 cases A with
 | none =>
   have hm : m = 0 := by
    apply Classical.byContradiction
    intro hne
    obtain ⟨ad, h2, _⟩ := h.lies (by omega)
    cases h2
   subst hm
   have : news = [] := List.eq_nil_of_length_eq_zero (by omega)
   subst this
   exact Src.ofNil w hk c
 | some ad =>
   refine Src.ofSlice w hk ad m c news (by omega) (fun j u hu => ?_) h1
   have hj := (List.getElem?_eq_some_iff.1 hu).1
   obtain ⟨ad', h2, _, h3⟩ := h.lies (by omega)
   injection h2 with h2
   subst h2
   exact h3 j u hu
end Go.Proofs.Tg
end
section
/- slices.Clone of a permutation. -/
namespace Go.Proofs.Tg
open Go.RowKit Go.Gr
section
variable {P : Program}
theorem wpList_que_appends (w : World) {ops : Array Oper} {rest : List Oper} {o : Oper} {a : Act} {Q : Exit → Act → World → Prop} (hgd : o.guard = none) (s x : Operand) (t : TypeId)
    (ho : o.op = .call { callee := .builtin .append, args := #[s, x], argTypes := #[t, t] })
    (base : Nat) (e : TypeId) (i : TypeInfo) (z : Value) (bytes : Nat) (ht : P.underlying t = some (.slice e)) (hi : P.info? e = some i) (hz : i.zero = some z) (hsize : i.size = 1) (hby : i.bytes = bytes) (hzs : z.cells.size = 1)
    (v : Value) (xs : List Value) (hs : a.eval s = v) (hq : Que w base e v xs) (xv : Value) (m : Nat) (news : List Value) (hx : a.eval x = xv) (hs0 : Src P 1 t xv m news w) (h63 : xs.length + m ≤ maxLen) (hbytes : (xs.length + m) * bytes ≤ 140737488355328) (hbase : base ≤ w.heap.size)
    (h : ∀ v' w', Que w' base e v' (xs ++ news) → w.grownBy w' v.ownBlock → (v'.ownBlock = v.ownBlock ∨ v'.ownBlock = some w.heap.size) → wpList P ops Q rest (a.put o.dst v') w') :
    wpList P ops Q (o :: rest) a w := by
  refine wpList_plain hgd fun K hK => ?_
  obtain ⟨v', w', hr, h2, h3, h4⟩ := run_que_appends (P := P) w base t o.type e i z bytes ht hi hz hsize hby hzs v xs hq xv m news hs0 h63 hbytes hbase
  unfold Oper.wp execOp
  simp only [ho, resolve, invoke, builtin, Sem.run_bind, Sem.run_pure, Result.andThen_ok, List.map_toArray, List.map_cons, List.map_nil, hs, hx, hr]
  exact hK _ _ (h v' w' h2 h3 h4)
end
end Go.Proofs.Tg
namespace Go.Proofs.Tg.Bk
open Go.RowKit Go.Gr Go.Sp Go.Ev Go.Pm
set_option maxHeartbeats 4000000
set_option maxRecDepth 100000
theorem pint_info : (Tryz.prog.info? 3).map (fun i => (i.zero, i.size, i.bytes)) = some (some (.int .i64 0), 1, 8) := by kernel_rfl
end Go.Proofs.Tg.Bk
end
section
/- place of the reference 18: where a permutation lies or belongs. -/
namespace Go.Proofs.Tg.Gp
open Go.RowKit Go.Gr Go.Sp Go.Ev Go.Pm
set_option maxHeartbeats 4000000
set_option maxRecDepth 100000
theorem place_any (L : Option Addr) (cL : Nat) (l : List (List Int)) (A : Option Addr) (c : Nat) (a : List Int) (v : Bool) (w : World) (hL : Lists w L l) (hA : Ints w A a) (hl : l.length ≤ 1000000) (hll : ∀ x ∈ l, x.length ≤ 1000) (hS : Asc l) (hv : v = true ↔ a ∈ l) :
    Calls Tryz.prog 54 #[.slice L l.length cL, .slice A a.length c] w fun e w' => ∃ m : Nat, e = .returned (.tuple #[.int .i64 m, .bool v]) ∧ Pm.At l a m ∧ Below w.heap.size w w' := by
  have HV := Lib.hid hv
  have HS := Lib.hid hS
  have HLL := Lib.hid hll
  have HL := Lib.hid hL
  have HA := Lib.hid hA
  clear hv hS hll hL hA
  go_enter Tryz.func54, Tryz.ntmps54
  go_wp2
  go_loopw [6, 7] (fun s6 s7 wr => ∃ p q : Nat, s6 = .int .i64 p ∧ s7 = .int .i64 q ∧ p ≤ q ∧ q ≤ l.length ∧ Hid (∀ i (h : i < l.length), i < p → cmpL l[i] a < 0) ∧ Hid (∀ i (h : i < l.length), q ≤ i → 0 ≤ cmpL l[i] a) ∧ w = wr) (fun s6 s7 _ => (intOf s7).toNat - (intOf s6).toNat)
  case atStart => exact ⟨0, l.length, rfl, rfl, Nat.zero_le _, Nat.le_refl _, Lib.hid (fun i _ h => by omega), Lib.hid (fun i h1 h2 => by omega), rfl⟩
  case round =>
   obtain ⟨p, q, rfl, rfl, hpq, hq, HP, HQ, rfl⟩ := hrel
   by_cases hlt : p < q
   ·obtain ⟨m, hm⟩ : ∃ m : Nat, (p + q) / 2 = m := ⟨_, rfl⟩
    have hdiv : ((p : Int) + (q : Int)).tdiv 2 = (m : Int) := by rw [← hm]; rfl
    have hm1 : p ≤ m := by omega
    have hm2 : m < q := by omega
    have hml : m < l.length := by omega
    obtain ⟨ad, E, ce, rfl, hc, hE⟩ := HL.out.at hml
    have q0 : (0 : Int) ≤ (m : Int) := by omega
    have q1 : (m : Int) < (l.length : Int) := by omega
    have q3 : ((m : Int)).toNat = m := by omega
    have hxl := HLL.out l[m] (List.getElem_mem _)
    have hw1 : IntKind.i64.wrap ((p : Int) + (q : Int)) = (p : Int) + (q : Int) := IntWalk.i64_in _ (by omega)
    have hw2 : IntKind.i64.wrap (m : Int) = (m : Int) := IntWalk.i64_in _ (by omega)
    by_cases hls : cmpL l[m] a < 0
    ·have HLE := Lib.hid (less_any E A ce c l[m] a true w hE HA.out (by omega) (decide_eq_true hls))
     have HP2 : Hid (∀ i (h : i < l.length), i < m + 1 → cmpL l[i] a < 0) := Lib.hid (fun i h hi => by
      by_cases him : i = m
      ·subst him; exact hls
      ·exact lt_trans (HS.out.lt h hml (by omega)) hls)
     generalize l[m] = x at *
     go_wp2_with (go_at_call 57; refine HLE.out.mono ?_; rintro e w1 ⟨rfl, rfl⟩)
     go_roundw
     case rel => exact ⟨m + 1, q, by go_num, rfl, by omega, hq, HP2, HQ, trivial⟩
     case measure => simp [intOf]; omega
    ·have HLE := Lib.hid (less_any E A ce c l[m] a false w hE HA.out (by omega) (decide_eq_false hls))
     have HQ2 : Hid (∀ i (h : i < l.length), m ≤ i → 0 ≤ cmpL l[i] a) := Lib.hid (fun i h hi => Int.not_lt.1 fun hlt2 => by
      by_cases him : i = m
      ·subst him; exact hls hlt2
      ·exact hls (lt_trans (HS.out.lt hml h (by omega)) hlt2))
     generalize l[m] = x at *
     go_wp2_with (go_at_call 57; refine HLE.out.mono ?_; rintro e w1 ⟨rfl, rfl⟩)
     go_roundw
     case rel => exact ⟨p, m, rfl, by go_num, by omega, by omega, HP, HQ2, trivial⟩
     case measure => simp [intOf]; omega
   ·obtain rfl : p = q := by omega
    have HAT : Hid (Pm.At l a p) := Lib.hid ⟨hq, HP.out, fun i h1 h2 => Int.not_lt.2 (HQ.out i h1 h2)⟩
    have hnlt : decide ((p : Int) < (p : Int)) = false := by simp
    by_cases hpl : p < l.length
    ·obtain ⟨ad, E, ce, rfl, hc, hE⟩ := HL.out.at hpl
     have q0 : (0 : Int) ≤ (p : Int) := by omega
     have q1 : (p : Int) < (l.length : Int) := by omega
     have q3 : ((p : Int)).toNat = p := by omega
     have d1 : decide ((p : Int) < (l.length : Int)) = true := decide_eq_true q1
     have hxl := HLL.out l[p] (List.getElem_mem _)
     have hvv : decide (l[p] = a) = v := by
      have h1 := HAT.out.found HS.out
      cases v with
      | true =>
        obtain ⟨_, h2⟩ := h1.2 (HV.out.1 rfl)
        exact decide_eq_true h2
      | false => exact decide_eq_false (fun h2 => by have := HV.out.2 (h1.1 ⟨hpl, h2⟩); cases this)
     have HEQ := Lib.hid (seq_any E A l[p] a ce c w hE HA.out (by omega) v hvv)
     clear hvv
     generalize l[p] = x at *
     go_wp2_with (go_at_call 56; refine HEQ.out.mono ?_; rintro e w1 ⟨rfl, hd1⟩)
     go_ret2
     exact ⟨p, rfl, HAT.out, hd1.below⟩
    ·obtain rfl : p = l.length := by omega
     obtain rfl : v = false := eq_false_of_ne_true (fun h => by
      obtain ⟨h1, _⟩ := (HAT.out.found HS.out).2 (HV.out.1 h)
      omega)
     go_wp2
     go_ret2
     exact ⟨l.length, rfl, HAT.out, Below.refl _ _⟩
end Go.Proofs.Tg.Gp
end
