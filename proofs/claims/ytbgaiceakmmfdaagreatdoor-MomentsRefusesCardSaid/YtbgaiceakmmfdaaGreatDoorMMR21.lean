/- Parts of the proof: JB6, JA1, JA4, JB7. -/
import Derived.Deep.RegionHeld3
import Derived.Test.YtbgaiceakmmfdaaGreatDoorMMR0
import Derived.Test.YtbgaiceakmmfdaaGreatDoorMMR15
import Derived.Test.YtbgaiceakmmfdaaGreatDoorMMR19
import Derived.Test.YtbgaiceakmmfdaaGreatDoorMMR20
set_option maxHeartbeats 64000000
set_option maxRecDepth 100000
namespace Go.Proofs.Tg.Iw
section
open Go.RowKit Go.Bw Go.Gr Go.Proofs.Tg
open Go.Proofs.Tg.Fi (TxS TxR Buf RetTa RetBuf txs_append byte_src PT blk_setCells tk_setCells)
def AllP (p : Value → Prop) (w : World) (g : Nat) : Prop := ∀ t cs, Blk w g t cs → ∀ v ∈ cs.toList, p v
theorem AllP.same {p : Value → Prop} {w w' : World} {g : Nat} (h : AllP p w g) (he : w'.heap[g]? = w.heap[g]?) : AllP p w' g := fun t cs B v hv => h t cs (by unfold Blk at *; rw [← he]; exact B) v hv
theorem AllP.set {p : Value → Prop} {w : World} {g : Nat} {t : TypeId} {cs : Array Value} (h : AllP p w g) (B : Blk w g t cs) (o : Nat) {u : Value} (hu : p u) : AllP p (w.setCell ⟨g, o, none⟩ u) g := fun t' cs' B' v hv => by
 have B2 := B.set o u
 unfold Blk at B' B2
 rw [B'] at B2
 injection B2 with B2
 injection B2 with e1 e2
 subst e1
 rw [Array.toList_setIfInBounds] at hv
 rcases List.mem_or_eq_of_mem_set hv with h2 | h2
 ·exact h t cs B v h2
 ·exact h2 ▸ hu
theorem AllP.new {p : Value → Prop} (w : World) (t : TypeId) {cs : Array Value} (h : ∀ v ∈ cs.toList, p v) : AllP p (w.alloc (.cells cs t)) w.heap.size := fun t' cs' B v hv => by
 have B2 := Blk.new w t cs
 unfold Blk at B B2
 rw [B] at B2
 injection B2 with B2
 injection B2 with e1 e2
 subst e1
 exact h v hv
def IsSl (v : Value) : Prop := ∃ a n c, v = .slice a n c
structure PwB (w : World) (g N n : Nat) : Prop where
  ex : ∃ vs : List Value, vs.length = n ∧ Buf w g 66 N vs ∧ (∀ v ∈ vs, IsSl v) ∧ ∀ i (h : i < vs.length), ∃ R C, vs[i] = .slice R (dg (pw i)).length C ∧ NW w R C (pw i)
  all : AllP IsSl w g
theorem PwB.keep {w w' : World} {g N n : Nat} (h : PwB w g N n) (hb : Below w.heap.size w w') : PwB w' g N n := by
 obtain ⟨vs, h1, h2, h3, h4⟩ := h.ex
 exact ⟨⟨vs, h1, h2.keep hb, h3, fun i hi => by obtain ⟨R, C, e, hN⟩ := h4 i hi; exact ⟨R, C, e, hN.keep hb⟩⟩, h.all.same (hb.block g h2.lt)⟩
theorem Buf.cell' {w : World} {g N : Nat} {t : TypeId} {vs : List Value} (h : Buf w g t N vs) {i : Nat} (hi : i < vs.length) : w.cell? ⟨g, i, none⟩ = some vs[i] := by
 obtain ⟨cs, B, hs, ht⟩ := h.ex
 rw [B.cell i]
 have : (cs.toList.take vs.length)[i]? = some vs[i] := by rw [ht, List.getElem?_eq_getElem hi]
 rw [List.getElem?_take, if_pos hi] at this
 rw [← this, Array.getElem?_toList]
theorem PwB.at' {w : World} {g N n : Nat} (h : PwB w g N n) : PwAt w (some ⟨g, 0, none⟩) n := fun i hi => by
 obtain ⟨vs, h1, h2, h3, h4⟩ := h.ex
 obtain ⟨R, C, e, hN⟩ := h4 i (by omega)
 have := Buf.cell' h2 (i := i) (by omega)
 rw [e] at this
 exact ⟨_, R, C, rfl, by rw [add_lit, Nat.zero_add]; exact this, hN⟩
theorem PwB.len {w : World} {g N n : Nat} (h : PwB w g N n) : n ≤ N := by
 obtain ⟨vs, h1, ⟨cs, _, hs, ht⟩, _⟩ := h.ex
 have := congrArg List.length ht
 rw [List.length_take] at this
 simp at this
 omega
theorem nw_kept {w w' : World} {R : Option Addr} {C m g : Nat} (hN : NW w R C m) {t : TypeId} {cs : Array Value} (B : Blk w g t cs) (ha : AllP IsSl w g) (hg : w.grownBy w' (some g)) : NW w' R C m := by
 refine ⟨⟨hN.wds.len, fun hn => ?_⟩, hN.cap⟩
 obtain ⟨ad, e, hl, hc⟩ := hN.wds.lies hn
 have hne : ad.block ≠ g := hN.wds.off (by decide) B (fun v hv hm => by
  obtain ⟨a, n, c, rfl⟩ := ha _ cs B v hv; obtain ⟨x, _, hx⟩ := List.mem_map.1 hm
  simp [vs] at hx) hn ad e
 refine ⟨ad, e, Nat.lt_of_lt_of_le hl hg.size, fun j u hu => ?_⟩
 have := hc j u hu
 unfold World.cell? at this ⊢
 rw [add_block] at this ⊢
 rw [hg.block ad.block hl (by intro e; injection e with e; exact hne e)]
 exact this
theorem words_info : (Tryz.prog.info? 66).map (fun i => (i.zero, i.size, i.bytes)) = some (some (.slice none 0 0), 1, 24) := by kernel_rfl
theorem PwB.push {w : World} {g N n C : Nat} {R : Option Addr} (h : PwB w g N n) (hN : NW w R C (pw n)) (hn : n ≤ 100) :
    ∃ g' N' w', (Builtin.append_ #[129, 129] 129 #[.slice (some ⟨g, 0, none⟩) n N, .slice (some ⟨w.heap.size, 0, none⟩) 1 1]).run Tryz.prog (w.alloc (.cells #[.slice R (dg (pw n)).length C] 66)) = .ok (.slice (some ⟨g', 0, none⟩) (n + 1) N') w' ∧ PwB w' g' N' (n + 1) ∧ w.grownBy w' (some g) ∧ (g' = g ∨ w.heap.size ≤ g') := by
  obtain ⟨i0, hi, hz0, hz1, hz2⟩ := info_parts words_info; obtain ⟨x, hx⟩ := eqx (Value.slice R (dg (pw n)).length C); have hxs : IsSl x := ⟨_, _, _, hx.symm⟩; rw [hx]; obtain ⟨W, hW⟩ := eqx (w.alloc (.cells #[x] 66))
  have hbW : Below w.heap.size w W := by rw [← hW]; exact bal
  have hcell : ∀ j v, [x][j]? = some v → W.cell? ((⟨w.heap.size, 0, none⟩ : Addr).add j) = some v := by rw [← hW]; exact cells_new w 66 [x]
  have hsrc : Src Tryz.prog i0.size 129 (.slice (some ⟨w.heap.size, 0, none⟩) 1 1) 1 [x] W := by
   rw [hz1]; exact Src.ofSlice (P := Tryz.prog) (size := 1) (tx := 129) _ Tryz.underlying129 ⟨w.heap.size, 0, none⟩ 1 1 [x] rfl hcell (by obtain ⟨a, m, c, rfl⟩ := hxs; simp [Value.oneCell'])
  have h2 := h.keep hbW; have hN2 := hN.keep hbW; rw [hW]; obtain ⟨vs, hl, hB, hsl, hp⟩ := h2.ex
  have hnew : ∀ w', W.grownBy w' (some g) → ∀ i (hi : i < (vs ++ [x]).length), ∃ R C, (vs ++ [x])[i] = .slice R (dg (pw i)).length C ∧ NW w' R C (pw i) := fun w' hg i hi => by
   obtain ⟨cs, B, _, _⟩ := hB.ex
   by_cases hil : i < vs.length
   ·rw [List.getElem_append_left hil]; obtain ⟨R', C', e, hN'⟩ := hp i hil; exact ⟨R', C', e, nw_kept hN' B h2.all hg⟩
   ·have e : i = n := by simp at hi; omega
    subst e; rw [List.getElem_append_right (by omega)]; simp only [hl, Nat.sub_self, List.getElem_cons_zero]; exact ⟨R, C, hx.symm, nw_kept hN2 B h2.all hg⟩
  have hfg : ∀ w', W.grownBy w' (some g) → w.grownBy w' (some g) := fun w' hg => ⟨hg.os.trans hbW.os, hg.tape.trans hbW.tape, hg.output.trans hbW.output, Nat.le_trans hbW.size hg.size, fun k hk hne => (hg.block k (Nat.lt_of_lt_of_le hk hbW.size) hne).trans (hbW.block k hk)⟩
  by_cases hroom : n + 1 ≤ N
  ·have hr := run_append_room_src (P := Tryz.prog) W 129 129 129 66 i0 Tryz.underlying129 hi g 0 n N _ 1 [x] hsrc hroom
     (fun j hj => by rw [hz1]; simp only [Nat.zero_add, Nat.mul_one]; exact (hB.room (by simp at hj; omega)).1) (fun j hj => by rw [hz1]; simp only [Nat.zero_add, Nat.mul_one]; exact (hB.room (by simp at hj; omega)).2)
   rw [hz1, Nat.zero_add, Nat.mul_one] at hr; obtain ⟨cs, B, hsz, ht⟩ := hB.ex; obtain ⟨cs', B', hs', ht'⟩ := blk_setCells [x] n W cs B (by simp; omega); have hgr : W.grownBy (W.setCells g n [x]) (some g) := tk_setCells g [x] n W; refine ⟨g, N, _, hr, ⟨⟨vs ++ [x], by simp [hl], ⟨cs', B', by omega, ?_⟩, ?_, hnew _ hgr⟩, h2.all.set B n hxs⟩, hfg _ hgr, .inl rfl⟩
   ·rw [List.length_append, hl]; have e : cs'.toList.take (n + [x].length) = cs.toList.take n ++ [x] := ht'; rw [e, ← ht, hl]
   ·intro v hv
    rcases List.mem_append.1 hv with h | h
    ·exact hsl v h
    ·rw [List.mem_singleton.1 h]; exact hxs
  ·have hold : (Builtin.firstCells i0.size n (.slice (some ⟨g, 0, none⟩) n N)).run Tryz.prog W.drew = .ok vs.toArray W.drew := by
    rw [hz1]; refine run_firstCells_some _ 1 n ⟨g, 0, none⟩ n N vs (by omega) (fun j y hy => ?_); have hj := (List.getElem?_eq_some_iff.1 hy).1; rw [add_lit, Nat.zero_add, World.cell?_drew, Buf.cell' hB hj]; exact (List.getElem?_eq_getElem hj).symm.trans hy
   have hr := run_append_grow_src (P := Tryz.prog) W 129 129 129 66 i0 (.slice none 0 0) Tryz.underlying129 hi hz0 (some ⟨g, 0, none⟩) n N vs hold _ 1 [x] hsrc (by omega) (by omega) (growslice_fits (by omega) (by rw [hz2]; omega)); have hge := grownCap_ge W (n + 1) N 66; generalize grownCap W (n + 1) N 66 = cap at *; have hgr : W.grownBy (W.drew.alloc (.cells ((vs ++ [x]).toArray ++ Builtin.zeroCells (Value.slice none 0 0).cells (cap - (n + 1))) 66)) (some g) := ⟨rfl, rfl, rfl, by simp, fun k hk _ => heap_alloc_old W.drew _ hk⟩; refine ⟨W.heap.size, cap, _, hr, ⟨⟨vs ++ [x], by simp [hl], ⟨_, Blk.new W.drew 66 _, ?_, ?_⟩, ?_, hnew _ hgr⟩, AllP.new W.drew 66 fun v hv => ?_⟩, hfg _ hgr, .inr hbW.size⟩
   ·have : (Builtin.zeroCells (Value.slice none 0 0).cells (cap - (n + 1))).size = cap - (n + 1) := by simp [Builtin.zeroCells, Value.cells]
    rw [Array.size_append, this, List.size_toArray, List.length_append, hl]; simp; omega
   ·have e : ((vs ++ [x]).toArray ++ Builtin.zeroCells (Value.slice none 0 0).cells (cap - (n + 1))).toList = (vs ++ [x]) ++ (Builtin.zeroCells (Value.slice none 0 0).cells (cap - (n + 1))).toList := by simp
    rw [e, List.take_left]
   ·intro v hv
    rcases List.mem_append.1 hv with h | h
    ·exact hsl v h
    ·rw [List.mem_singleton.1 h]; exact hxs
   ·rw [Array.toList_append] at hv
    rcases List.mem_append.1 hv with h | h
    ·have h : v ∈ vs ++ [x] := h
     rcases List.mem_append.1 h with h | h
     ·exact hsl v h
     ·rw [List.mem_singleton.1 h]; exact hxs
    ·simp [Builtin.zeroCells, Value.cells] at h; obtain ⟨i, _, h3⟩ := h; exact ⟨none, 0, 0, by rw [← h3, Nat.mod_one]; rfl⟩
end
end Go.Proofs.Tg.Iw
namespace Go.Proofs.Tg.Iw
section
open Go.RowKit Go.Bw Go.Gr Go.Proofs.Tg
def RetZ (z : Int) (w : World) (e : Ending) (w' : World) : Prop :=
  ∃ R c, e = .returned (.agg #[.bool (decide (z < 0)), .slice R (dg z.natAbs).length c]) ∧ NW w' R c z.natAbs ∧ Below w.heap.size w w'
theorem dg_len_pos {u : Nat} : 0 < (dg u).length ↔ u ≠ 0 := by
 by_cases h : u = 0
 ·subst h; rw [dg_zero]; simp
 ·rw [dg_pos h]; simp [h]
theorem NW.off {w : World} {R : Option Addr} {c n g : Nat} {t : TypeId} {b : Bool} {S : Option Addr} {l m : Nat} (h : NW w R c n) (B : Blk w g t #[.bool b, .slice S l m]) : Off R (dg n).length g := by
 refine h.wds.off (by decide) B fun v hv hm => ?_
 obtain ⟨x, _, rfl⟩ := List.mem_map.1 hm
 simp [vs] at hv
theorem NW.far {w : World} {R : Option Addr} {c n g : Nat} (h : NW w R c n) (ho : Off R (dg n).length g) (i : Nat) (u : Value) : NW (w.setCell ⟨g, i, none⟩ u) R c n := ⟨Sl.far h.wds ho i u, h.cap⟩
def RetSg (s : Bool) (m : Nat) (w : World) (e : Ending) (w' : World) : Prop :=
  ∃ R c, e = .returned (.agg #[.bool s, .slice R (dg m).length c]) ∧ NW w' R c m ∧ Below w.heap.size w w'
theorem retSg_int {s : Bool} {m : Nat} {w : World} {e : Ending} {w' : World} {z : Int} (h : RetSg s m w e w') (hm : z.natAbs = m) (hs : s = decide (z < 0)) : RetZ z w e w' := by
 obtain ⟨R, c, rfl, h1, h2⟩ := h
 subst hm
 exact ⟨R, c, by rw [hs], h1, h2⟩
theorem retSg_last {w W V : World} {s : Bool} {m : Nat} {R : Option Addr} {c : Nat} (hbW : Below w.heap.size w W) (hb : Below W.heap.size W V) (hR : NW V R c m) {g : Nat} (hg : w.heap.size ≤ g) (hB : Blk V g 68 #[.bool false, .slice none 0 0]) :
    RetSg s m w (.returned (.agg #[.bool s, .slice R (dg m).length c])) ((V.setCell ⟨g, 0, none⟩ (.bool s)).setCell ⟨g, 1, none⟩ (.slice R (dg m).length c)) :=
  ⟨R, c, rfl, (hR.far (hR.off hB) _ _).far (hR.off hB) _ _, below_far (below_far (below_all hbW hb) hg _ _) hg _ _⟩
theorem signed_w (b : Bool) (A : Option Addr) (n c : Nat) (w : World) (v : Bool) (hv : (b && decide (0 < n)) = v) :
    Calls Tryz.prog 72 #[.bool b, .slice A n c] w fun e w' => e = .returned (.agg #[.bool v, .slice A n c]) ∧ Below w.heap.size w w' := by
  have hbA : Below w.heap.size w (w.alloc (.cells #[.bool v, .slice A n c] 68)) := bal; have hB := Blk.new w 68 #[.bool v, .slice A n c]
  cases b with
  | false =>
    obtain rfl : v = false := by rw [← hv]; rfl
    obtain ⟨a0, a1, _, _⟩ := hB.two; go_enter Tryz.func72, Tryz.ntmps72; go_wp2; exact bodyPost_ret (v := .agg #[.bool false, .slice A n c]) (by simp [results, Tryz.results72, go_sem, a0, a1]) rfl ⟨rfl, hbA⟩
  | true =>
    obtain rfl : decide (0 < n) = v := by rw [← hv]; rfl
    obtain ⟨a0, a1, _, _⟩ := hB.two
    by_cases h0 : 0 < n
    ·have hd : decide ((0 : Int) < (n : Int)) = true := by simp; omega
     have hd' : decide (0 < n) = true := by simp; omega
     rw [hd'] at a0 a1 hbA ⊢; clear hv hB; go_enter Tryz.func72, Tryz.ntmps72; go_wp2; exact bodyPost_ret (v := .agg #[.bool true, .slice A n c]) (by simp [results, Tryz.results72, go_sem, a0, a1]) rfl ⟨rfl, hbA⟩
    ·have hd : decide ((0 : Int) < (n : Int)) = false := by simp; omega
     have hd' : decide (0 < n) = false := by simp; omega
     rw [hd'] at a0 a1 hbA ⊢; clear hv hB; go_enter Tryz.func72, Tryz.ntmps72; go_wp2; exact bodyPost_ret (v := .agg #[.bool false, .slice A n c]) (by simp [results, Tryz.results72, go_sem, a0, a1]) rfl ⟨rfl, hbA⟩
theorem ineg_w (x : Bool) (A : Option Addr) (n c : Nat) (w : World) (v : Bool) (hv : ((!x) && decide (0 < n)) = v) :
    Calls Tryz.prog 71 #[.agg #[.bool x, .slice A n c]] w fun e w' => e = .returned (.agg #[.bool v, .slice A n c]) ∧ Below w.heap.size w w' := by
  have HS := zh (fun V => signed_w (!x) A n c V v hv)
  have hbA : Below w.heap.size w ((w.alloc (.cells #[.bool x, .slice A n c] 68)).alloc (.cells #[.bool false, .slice none 0 0] 68)) :=
    (bal).alloc (by simp) _
  clear hv; go_enter Tryz.func71, Tryz.ntmps71
  go_wp2_with (go_at_call 72; refine (HS.out _).mono ?_; rintro e w1 ⟨rfl, h3⟩
               have B4 : Blk w1 (w.heap.size + 1) 68 #[.bool false, .slice none 0 0] := by
                have := (Blk.new (w.alloc (.cells #[.bool x, .slice A n c] 68)) 68 #[.bool false, .slice none 0 0]).keep h3 (by simp); simpa using this
               have q0 := B4.cell 0; have q1 := B4.cell 1; have f0 := B4.frozen 0; have f1 := B4.frozen 1; clear B4
               simp at q0 q1)
  exact bodyPost_ret (v := .agg #[.bool v, .slice A n c]) (by simp [results, Tryz.results71, go_sem, q0, q1]) rfl ⟨rfl, (((hbA.trans (h3.mono (by simp; omega))).setCell (by simp) _).setCell (by simp) _)⟩
theorem iszero_z (z : Int) (A : Option Addr) (c : Nat) (w : World) :
    Calls Tryz.prog 45 #[.agg #[.bool (decide (z < 0)), .slice A (dg z.natAbs).length c]] w fun e w' => e = .returned (.bool (decide (z = 0))) ∧ Below w.heap.size w w' := by
  refine (iszero_any _ A _ c w).mono ?_; rintro e w' ⟨rfl, hb⟩; refine ⟨?_, hb⟩; rw [decide_eq_decide.2]
  by_cases h : z = 0
  ·subst h; simp [dg_zero]
  ·have := (dg_len_pos (u := z.natAbs)).2 (by omega)
   constructor
   ·intro h2; omega
   ·intro h2; exact absurd h2 h
theorem inew_one (w : World) : Calls Tryz.prog 74 #[.int .i64 1] w (RetZ 1 w) := by
 obtain ⟨n, hn⟩ := eqx (1 : Nat)
 obtain ⟨ln, hln⟩ := eqx ((dg n).length)
 have HW : Hid (∀ V, Calls Tryz.prog 89 #[.int .u64 1] V fun e w' => ∃ R c, e = .returned (.slice R ln c) ∧ NW w' R c n ∧ Below V.heap.size V w') := zh (fun V => by
  rw [← hln, ← hn]
  exact fw_any 1 V (by decide))
 have hb1 : Below w.heap.size w (w.alloc (.cells #[.bool false, .slice none 0 0] 68)) := bal
 have B2 := Blk.new w 68 #[.bool false, .slice none 0 0]
 have e1 : RetZ 1 w = RetSg false 1 w := rfl
 rw [e1, hn]
 have HLN := zh hln
 clear hln hn e1
 go_enter Tryz.func74, Tryz.ntmps74
 go_wp2_with (go_at_call 89; refine (HW.out _).mono ?_; rintro e w' ⟨A, c, rfl, h1, h3⟩
              have B3 := B2.keep h3 (by simp); obtain ⟨c0, c1, f0, f1⟩ := B3.two; have H1 := zh h1; have H3 := zh h3
              clear h1 h3)
 have e2 := HLN.out
 subst e2
 exact bodyPost_ret (v := .agg #[.bool false, .slice A (dg n).length c]) (by simp [results, Tryz.results74, go_sem, c0, c1]) rfl (retSg_last hb1 H3.out H1.out (Nat.le_refl _) B3)
theorem dg_sgn (b : Bool) (v : Nat) : (b && decide (0 < (dg v).length)) = (b && decide (v ≠ 0)) := by
 by_cases h : v = 0
 ·subst h; rw [dg_zero]; simp
 ·have := dg_len_pos.2 h
  simp [h, this]
def RetQn (p q : Bool) (a b : Nat) (w : World) (e : Ending) (w' : World) : Prop :=
  ∃ Q cq R cr, e = .returned (.tuple #[.agg #[.bool ((p != q) && decide (a / b ≠ 0)), .slice Q (dg (a / b)).length cq], .agg #[.bool (p && decide (a % b ≠ 0)), .slice R (dg (a % b)).length cr]]) ∧ NW w' Q cq (a / b) ∧ NW w' R cr (a % b) ∧ Below w.heap.size w w'
theorem quorem_num (p q : Bool) (A B : Option Addr) (c d a b : Nat) (w : World) (hA : NW w A c a) (hB : NW w B d b) (ha : (dg a).length ≤ 400000) (hbl : (dg b).length ≤ 400000) (hb : b ≠ 0) (hs : (dg b).length < 80 ∨ (dg a).length < (dg b).length + 80) :
    Calls Tryz.prog 79 #[.agg #[.bool p, .slice A (dg a).length c], .agg #[.bool q, .slice B (dg b).length d]] w (RetQn p q a b w) := by
  obtain ⟨na, hna⟩ := eqx ((dg a).length); obtain ⟨nb, hnb⟩ := eqx ((dg b).length)
  have HD : Hid (∀ W, Below w.heap.size w W → Calls Tryz.prog 86 #[.slice A na c, .slice B nb d] W (RetDiv a b W)) := zh (fun W h => by
   rw [← hna, ← hnb]; exact divw_any A B c d a b W (hA.keep h) (hB.keep h) ha hbl hb hs)
  have bz : ((nb : Int) == 0) = false := by rw [← hnb]; exact beq_eq_false_iff_ne.2 (by have := (dg_len_pos (u := b)).2 hb; omega)
  have bz' : (nb == 0) = false := by rw [← hnb]; exact beq_eq_false_iff_ne.2 (by have := (dg_len_pos (u := b)).2 hb; omega)
  rw [hna, hnb]; unfold RetDiv at HD; unfold RetQn
  have hqs := fun bb => dg_sgn bb (a / b)
  have hrs := dg_sgn p (a % b); obtain ⟨s1, hs1⟩ := eqx (((p != q) && decide (a / b ≠ 0))); rw [hs1]; rw [← hqs] at hs1; have l1 : (dg (a / b)).length ≤ 400000 := Nat.le_trans (Go.Bw.dg_len_mono (Nat.div_le_self _ _)) ha; have l2 : (dg (a % b)).length ≤ 400000 := Nat.le_trans (Go.Bw.dg_len_mono (Nat.mod_le _ _)) ha; rw [← hrs]; clear hrs; generalize a / b = qq at *; generalize a % b = rr at *; have HM1 : Hid (∀ W Q cq, Calls Tryz.prog 72 #[.bool (p != q), .slice Q (dg qq).length cq] W fun e w' => e = .returned (.agg #[.bool s1, .slice Q (dg qq).length cq]) ∧ Below W.heap.size W w') := zh (fun W Q cq => signed_w (p != q) Q (dg qq).length cq W s1 hs1); obtain ⟨s2, hs2⟩ := eqx ((p && decide (0 < (dg rr).length))); rw [hs2]
  have HM2 : Hid (∀ W R cr, Calls Tryz.prog 72 #[.bool p, .slice R (dg rr).length cr] W fun e w' => e = .returned (.agg #[.bool s2, .slice R (dg rr).length cr]) ∧ Below W.heap.size W w') := zh (fun W Q cq => signed_w p Q (dg rr).length cq W s2 hs2); obtain ⟨n1, hn1⟩ := eqx ((dg qq).length); obtain ⟨n2, hn2⟩ := eqx ((dg rr).length); rw [hn1, hn2] at HD; rw [hn1] at HM1; rw [hn2] at HM2; rw [hn1, hn2]; clear hqs hs1 hs2 hna hnb hbl hn1 hn2 hA hB hs l1 l2 ha hb; obtain ⟨W, hW⟩ := eqx ((((w.alloc (.cells #[.bool p, .slice A na c] 68)).alloc (.cells #[.bool q, .slice B nb d] 68)).alloc (.cells #[.bool false, .slice none 0 0] 68)).alloc (.cells #[.bool false, .slice none 0 0] 68))
  have B0 : Blk W w.heap.size 68 #[.bool p, .slice A na c] := by rw [← hW]; exact (((Blk.new _ _ _).alloc _).alloc _).alloc _
  have B1 : Blk W (w.heap.size + 1) 68 #[.bool q, .slice B nb d] := by
   rw [← hW]; have := ((Blk.new (w.alloc (.cells #[.bool p, .slice A na c] 68)) 68 #[.bool q, .slice B nb d]).alloc (.cells #[.bool false, .slice none 0 0] 68)).alloc (.cells #[.bool false, .slice none 0 0] 68); simpa using this
  have B2 : Blk W (w.heap.size + 1 + 1) 68 #[.bool false, .slice none 0 0] := by
   rw [← hW]; have := (Blk.new ((w.alloc (.cells #[.bool p, .slice A na c] 68)).alloc (.cells #[.bool q, .slice B nb d] 68)) 68 #[.bool false, .slice none 0 0]).alloc (.cells #[.bool false, .slice none 0 0] 68); simpa using this
  have B3 : Blk W (w.heap.size + 1 + 1 + 1) 68 #[.bool false, .slice none 0 0] := by
   rw [← hW]; have := (Blk.new (((w.alloc (.cells #[.bool p, .slice A na c] 68)).alloc (.cells #[.bool q, .slice B nb d] 68)).alloc (.cells #[.bool false, .slice none 0 0] 68)) 68 #[.bool false, .slice none 0 0]); simpa using this
  have hbW : Below w.heap.size w W := by rw [← hW]; exact (((bal).alloc (by simp) _).alloc (by simp; omega) _).alloc (by simp; omega) _
  have hWs : W.heap.size = w.heap.size + 4 := by rw [← hW]; simp
  obtain ⟨a0, a1, _, _⟩ := B0.two; obtain ⟨b0, b1, _, _⟩ := B1.two; go_enter Tryz.func79, Tryz.ntmps79; go_upto_region 1 with (fail); clear hW
  go_upto_region 4 with (go_at_call 86; refine (HD.out _ hbW).mono ?_; rintro e w2 ⟨Q, cq, R, cr, rfl, hQ, hR, hb2⟩)
  have C0 := B0.keep hb2 B0.lt; have C1 := B1.keep hb2 B1.lt; have C2 := B2.keep hb2 B2.lt; have C3 := B3.keep hb2 B3.lt; have hbe : Below w2.heap.size w2 w2.drew := brf.drew; have HM1' : Hid (∀ V, Below w2.heap.size w2 V → Calls Tryz.prog 72 #[.bool (!(p == q)), .slice Q n1 cq] V fun e w' => e = .returned (.agg #[.bool s1, .slice Q n1 cq]) ∧ Below w2.heap.size w2 w') := zh (fun V h => (HM1.out V Q cq).mono fun e w' ⟨x, y⟩ => ⟨x, below_all h y⟩); have HM2' : Hid (∀ V, Below w2.heap.size w2 V → Calls Tryz.prog 72 #[.bool p, .slice R n2 cr] V fun e w' => e = .returned (.agg #[.bool s2, .slice R n2 cr]) ∧ Below w2.heap.size w2 w') := zh (fun V h => (HM2.out V R cr).mono fun e w' ⟨x, y⟩ => ⟨x, below_all h y⟩); have hbw2 := below_all hbW hb2; have HC2 := zh C2; have HC3 := zh C3; obtain ⟨e0, e1, _, _⟩ := C0.two; obtain ⟨g0, g1, _, _⟩ := C1.two; obtain ⟨i0, i1, i2, i3⟩ := C2.two
  obtain ⟨k0, k1, k2, k3⟩ := C3.two; clear HM1 HM2 HD B0 B1 B2 B3 a0 a1 b0 b1 hb2 C2 C3; have HC0 := zh C0; have HC1 := zh C1; clear C0 C1
  go_region_with
    (first
      | (go_at_call 72; with_reducible refine (HM1'.out _ (by assumption)).mono ?_; rintro e w' ⟨rfl, hbe⟩; have D0 := HC0.out.keep hbe HC0.out.lt; have D1 := HC1.out.keep hbe HC1.out.lt; obtain ⟨e0, e1, _, _⟩ := D0.two; obtain ⟨g0, g1, _, _⟩ := D1.two; have D2 := HC2.out.keep hbe HC2.out.lt; have D3 := HC3.out.keep hbe HC3.out.lt; obtain ⟨i0, i1, i2, i3⟩ := D2.two; obtain ⟨k0, k1, k2, k3⟩ := D3.two)
      | (go_at_call 72; with_reducible refine (HM2'.out _ (by assumption)).mono ?_; rintro e w' ⟨rfl, hbe⟩; have D0 := HC0.out.keep hbe HC0.out.lt; have D1 := HC1.out.keep hbe HC1.out.lt; obtain ⟨e0, e1, _, _⟩ := D0.two; obtain ⟨g0, g1, _, _⟩ := D1.two; have D2 := HC2.out.keep hbe HC2.out.lt; have D3 := HC3.out.keep hbe HC3.out.lt; obtain ⟨i0, i1, i2, i3⟩ := D2.two; obtain ⟨k0, k1, k2, k3⟩ := D3.two))
  all_goals
    go_wp2; have hQ' : NW w' Q cq qq := hQ.keep hbe; have hR' : NW w' R cr rr := hR.keep hbe; refine bodyPost_ret (v := .tuple #[.agg #[.bool s1, .slice Q n1 cq], .agg #[.bool s2, .slice R n2 cr]]) (by simp [results, Tryz.results79, go_sem, i0, i1, k0, k1]) rfl ⟨Q, cq, R, cr, rfl, ?_, ?_, ?_⟩
    ·exact (((hQ'.far (hQ'.off D2) _ _).far (hQ'.off D2) _ _).far (hQ'.off D3) _ _).far (hQ'.off D3) _ _
    ·exact (((hR'.far (hR'.off D2) _ _).far (hR'.off D2) _ _).far (hR'.off D3) _ _).far (hR'.off D3) _ _
    ·exact below_far (below_far (below_far (below_far (below_all hbw2 hbe) (by omega) _ _) (by omega) _ _) (by omega) _ _) (by omega) _ _
end
end Go.Proofs.Tg.Iw
namespace Go.Proofs.Tg.Iw
section
open Go.RowKit Go.Bw Go.Gr Go.Proofs.Tg
open Go.Proofs.Tg.Fi (TxS TxR Buf RetTa RetBuf txs_append byte_src PT tuint_any)
theorem appw_zero (A : Option Addr) (c : Nat) (l : List UInt8) (X : Option Addr) (cx : Nat) (w : World) (hT : TxS w A c l) (hl : l.length ≤ 600000) :
    Calls Tryz.prog 75 #[.slice A l.length c, .slice X 0 cx] w (RetTa A l (Lib.decDigits 0) w) := by
  rw [Go.Qn.dec_zero]; obtain ⟨A', c', w', hr, hT2, hR2⟩ := txs_zero hT 48 (by omega); have HR : Hid ((Builtin.append_ #[91, 91] 91 #[.slice A l.length c, .slice (some ⟨w.heap.size, 0, none⟩) 1 1]).run Tryz.prog (w.alloc (.cells #[.int .u8 48] 5)) = .ok (.slice A' (l.length + 1) c') w') := zh hr; have HEND : Hid (RetTa A l [48] w (.returned (.slice A' (l.length + 1) c')) w') := zh ⟨A', c', rfl, hT2, hR2⟩; generalize RetTa A l [48] w = Q at *; clear hr hT hT2 hR2; generalize l.length = nl at *
  have b0 : (((0 : Nat) : Int) == 0) = true := by decide
  go_enter Tryz.func75, Tryz.ntmps75
  go_wp2_with (at_builtin; refine Fi.wpList_append_run _ rfl _ _ 91 91 rfl _ _ HR.out ?_)
  exact HEND.out
theorem appw_one (A : Option Addr) (c : Nat) (l : List UInt8) (X : Option Addr) (cx x : Nat) (w : World) (hT : TxS w A c l) (hX : NW w X cx x) (h1 : (dg x).length = 1) (hl : l.length ≤ 600000) (ht : PT w) :
    Calls Tryz.prog 75 #[.slice A l.length c, .slice X (dg x).length cx] w (RetTa A l (Lib.decDigits x) w) := by
  have hx0 : x ≠ 0 := fun e => by rw [e, dg_zero] at h1; simp at h1
  have hxB : x < 18446744073709551616 := by
   have := val_lt_dg x
   rwa [h1, Nat.pow_one] at this
  obtain ⟨ad, rfl, hc⟩ := Sets.at' hX.wds (k := 0) (by omega)
  have hd : (dg x)[0]'(by omega) = x := by
   have e := dg_small hx0 hxB; simp [e]
  rw [hd] at hc
  have hc' : w.cell? ad = some (.int .u64 (x : Nat)) := by simpa [Addr.add] using hc
  rw [h1]; have HA := zh (tuint_any x A c l w hT hxB (by omega) ht); have HR := zh (retta_is (A := A) (l := l) (m := Lib.decDigits x) (w := w)); generalize RetTa A l (Lib.decDigits x) w = Q at *; clear hT hX h1 hd hc; generalize l.length = nl at *
  have b0 : (((1 : Nat) : Int) == 0) = false := by decide
  have b1 : (((1 : Nat) : Int) == 1) = true := by decide
  go_enter Tryz.func75, Tryz.ntmps75
  go_wp2_with (go_at_call 100; refine HA.out.mono ?_; rintro e w' h; obtain ⟨v, rfl⟩ := HR.out _ _ h; have H := zh h; clear h)
  exact H.out
theorem appw_many (A : Option Addr) (c : Nat) (l : List UInt8) (X : Option Addr) (cx x : Nat) (w : World) (hT : TxS w A c l) (hX : NW w X cx x) (h2 : 2 ≤ (dg x).length) (hn : (dg x).length ≤ 79) (hl : l.length ≤ 600000) (ht : PT w) (hpa : ∀ ad, A = some ad → 0 < ad.block) :
    Calls Tryz.prog 75 #[.slice A l.length c, .slice X (dg x).length cx] w (RetTa A l (Lib.decDigits x) w) := by
  have hx0 : x ≠ 0 := fun e => by rw [e, dg_zero] at h2; simp at h2
  rw [← Dt.D_pos hx0]
  have HS : Hid (∀ wr g N n, Below w.heap.size w wr → PwB wr g N n → n ≤ 7 → Calls Tryz.prog 101 #[.slice A l.length c, .slice X (dg x).length cx, .int .i64 0, .slice (some ⟨g, 0, none⟩) n N] wr (RetTa A l (Dt.D x 0) w)) := zh (fun wr g N n hb hP h7 =>
   (split_any n A c l X cx x 0 N (some ⟨g, 0, none⟩) wr (hT.keep hb) (hX.keep hb) hn (.inl rfl) (by omega) (ht.keep hb) hpa h7 hP.len hP.at').mono fun e w' h => RetTa.before (A := A) (l := l) h hb rfl)
  have HR := zh (retta_is (A := A) (l := l) (m := Dt.D x 0) (w := w)); generalize RetTa A l (Dt.D x 0) w = Q at *; generalize (dg x).length = nx at *; clear hT hX ht hpa hx0; generalize l.length = nl at *; have b0 : ((nx : Int) == 0) = false := beq_eq_false_iff_ne.2 (by omega); have b0' : (nx == 0) = false := beq_eq_false_iff_ne.2 (by omega); have b1 : ((nx : Int) == 1) = false := beq_eq_false_iff_ne.2 (by omega); have b1' : (nx == 1) = false := beq_eq_false_iff_ne.2 (by omega); obtain ⟨W1, hW1⟩ := eqx (w.alloc (.cells #[.int .u64 10000000000000000000] 118)); obtain ⟨W2, hW2⟩ := eqx (W1.alloc (.cells #[.slice (some ⟨w.heap.size, 0, none⟩) 1 1] 66))
  have hb1 : Below w.heap.size w W1 := by rw [← hW1]; exact bal
  have hb2 : Below W1.heap.size W1 W2 := by rw [← hW2]; exact bal
  have hs1 : W1.heap.size = w.heap.size + 1 := by rw [← hW1]; simp
  have hp0 : pw 0 = CB := by unfold pw; simp
  have hd0 : dg CB = [CB] := by rw [dg_small (by decide) (by decide)]
  have HP0 : Hid (PwB W2 (w.heap.size + 1) 1 1) := zh (by
   have hN : NW W1 (some ⟨w.heap.size, 0, none⟩) 1 (pw 0) := by
    rw [hp0]; refine ⟨?_, by rw [hd0]; exact Nat.le_refl _⟩; rw [hd0, ← hW1]; have := sets_blk (xs := [CB]) (n := 1) (Blk.new w 118 (warr [CB])) rfl; exact this
   refine ⟨⟨[.slice (some ⟨w.heap.size, 0, none⟩) 1 1], rfl, ⟨#[.slice (some ⟨w.heap.size, 0, none⟩) 1 1], ?_, rfl, rfl⟩, fun v hv => ⟨_, _, _, List.mem_singleton.1 hv⟩, fun i hi => ?_⟩, ?_⟩
   ·rw [← hW2, ← hs1]; exact Blk.new _ _ _
   ·have : i = 0 := by simp at hi; exact hi
    subst this; exact ⟨_, 1, by rw [hp0, hd0]; rfl, hN.keep hb2⟩
   ·rw [← hW2, ← hs1]
    exact AllP.new _ _ fun v hv => ⟨_, _, _, by simpa using hv⟩)
  have HB0 := zh (below_all hb1 hb2); have HWW : Hid ((w.alloc (.cells #[.int .u64 10000000000000000000] 118)).alloc (.cells #[.slice (some ⟨w.heap.size, 0, none⟩) 1 1] 66) = W2) := zh (by rw [hW1, hW2]); clear hb1 hb2 hs1 hp0 hd0 hW1 hW2; go_enter Tryz.func75, Tryz.ntmps75; go_upto_block 0 with (fail); rw [HWW.out]; go_wp2
  go_loopw [5] (fun s5 wr => ∃ (g n N : Nat), s5 = .slice (some ⟨g, 0, none⟩) n N ∧ 1 ≤ n ∧ n ≤ 7 ∧ w.heap.size ≤ g ∧ Hid (Below w.heap.size w wr ∧ PwB wr g N n)) (fun s5 _ => 7 - slen s5)
  case atStart => exact ⟨_, 1, 1, rfl, Nat.le_refl _, by omega, by omega, zh ⟨HB0.out, HP0.out⟩⟩
  case round =>
   clear HP0 HB0 HWW; obtain ⟨wo, rfl⟩ : ∃ wo : World, wo = wr := ⟨_, rfl⟩; obtain ⟨g, n, N, rfl, h1, h7, hg, HM⟩ := hrel; obtain ⟨j, hj⟩ := eqx (n - 1)
   have hjn : j + 1 = n := by omega
   obtain ⟨ad, R, C, e, hc, hN⟩ := HM.out.2.at' j (by omega)
   injection e with e
   subst e; rw [add_lit, Nat.zero_add] at hc; have HN := zh hN; obtain ⟨L, hL⟩ := eqx ((dg (pw j)).length)
   have hLb : L ≤ 64 := by
    rw [← hL]; have h8 : 2 ^ j ≤ 2 ^ 6 := Nat.pow_le_pow_right (by decide) (by omega); exact Nat.le_trans (pw_len j) h8
   have hL6 : 6 ≤ j → 64 ≤ L := fun h => by rw [← hL]; exact pw_lo h
   have HL := zh hL; rw [hL] at hc; clear hL hN; have y1 : IntKind.i64.wrap ((n : Int) - 1) = (j : Int) := (IntWalk.i64_in _ (by omega)).trans (by omega)
   have y1' : (n : Int) - 1 = (j : Int) := by omega
   have q0 : (0 : Int) ≤ (j : Int) := by omega
   have q1 : (j : Int) < (n : Int) := by omega
   have q3 : ((j : Int)).toNat = j := by omega
   obtain ⟨M, hM⟩ := eqx (2 * L)
   have y2 : (2 : Int) * (L : Int) = (M : Int) := by omega
   have y3 : IntKind.i64.wrap (M : Int) = (M : Int) := IntWalk.i64_in _ (by omega)
   by_cases hgo : 30 < nx ∧ M ≤ nx
   ·have d1 : decide ((30 : Int) < (nx : Int)) = true := dT (by omega); have d1' : decide (30 < nx) = true := dT hgo.1; have d2 : decide ((M : Int) ≤ (nx : Int)) = true := dT (by omega); have d2' : decide (M ≤ nx) = true := dT hgo.2
    have hj5 : j ≤ 5 := by
     refine Nat.le_of_not_lt fun h => ?_
     have := hL6 (by omega); omega
    have HMU : Hid (Calls Tryz.prog 73 #[.slice R L C, .slice R L C] wo fun e w' => ∃ R2 l2 c2, e = .returned (.slice R2 l2 c2) ∧ Hid (l2 = (dg (pw n)).length ∧ NW w' R2 c2 (pw n) ∧ Below wo.heap.size wo w')) := zh (by
     have hl39 : (dg (pw j)).length < 40 := by rw [HL.out]; omega
     have := mulw_short R R C C (pw j) (pw j) wo HN.out HN.out (by omega) (by omega) (.inl hl39); rw [HL.out, pw_sq, hjn] at this; refine this.mono ?_; rintro e w' ⟨R2, c2, rfl, h1, h2⟩
     exact ⟨R2, _, c2, rfl, zh ⟨rfl, h1, h2⟩⟩)
    have HPB := zh HM.out.2; have HBB := zh HM.out.1; clear HM HL HN hL6 hgo hM hj
    go_wp2_with (first
      | (go_at_call 73; refine HMU.out.mono ?_; rintro e w2 ⟨R2, l2, c2, rfl, HH⟩; obtain ⟨g', N', w', hr, hP', hgr, hor⟩ := (HPB.out.keep HH.out.2.2).push HH.out.2.1 (by omega); rw [← HH.out.1] at hr; have HR2 := zh hr; have HNEW : Hid (w.heap.size ≤ g' ∧ Below w.heap.size w w' ∧ PwB w' g' N' (n + 1)) := zh ⟨by have := HBB.out.size; have := HH.out.2.2.size; omega, (below_all HBB.out HH.out.2.2).trans (grown_base hgr (Nat.le_trans HBB.out.size HH.out.2.2.size) hg), hP'⟩; clear hr hP' hgr hor)
      | (at_builtin; refine Fi.wpList_append_run _ rfl _ _ 129 129 rfl _ _ HR2.out ?_))
    go_roundw
    case rel => exact ⟨g', n + 1, N', rfl, by omega, by omega, HNEW.out.1, zh HNEW.out.2⟩
    case measure => simp [slen]; omega
   ·have HSP := zh (HS.out wo g N n HM.out.1 HM.out.2 h7); clear HM HL HN hL6 hM hj HS
    have hor : nx ≤ 30 ∨ (30 < nx ∧ nx < M) := by omega
    rcases hor with h3 | ⟨h3, h4⟩
    ·have d1 : decide ((30 : Int) < (nx : Int)) = false := dF (by omega); have d1' : decide (30 < nx) = false := dF (by omega); clear hgo
     go_wp2_with (go_at_call 101; refine HSP.out.mono ?_; rintro e w' h; obtain ⟨v, rfl⟩ := HR.out _ _ h; have H := zh h; clear h)
     exact H.out
    ·have d1 : decide ((30 : Int) < (nx : Int)) = true := dT (by omega); have d1' : decide (30 < nx) = true := dT h3; have d2 : decide ((M : Int) ≤ (nx : Int)) = false := dF (by omega); have d2' : decide (M ≤ nx) = false := dF (by omega); clear hgo
     go_wp2_with (go_at_call 101; refine HSP.out.mono ?_; rintro e w' h; obtain ⟨v, rfl⟩ := HR.out _ _ h; have H := zh h; clear h)
     exact H.out
theorem appw_any (A : Option Addr) (c : Nat) (l : List UInt8) (X : Option Addr) (cx x : Nat) (w : World) (hT : TxS w A c l) (hX : NW w X cx x) (hn : (dg x).length ≤ 79) (hl : l.length ≤ 600000) (ht : PT w) (hpa : ∀ ad, A = some ad → 0 < ad.block) :
    Calls Tryz.prog 75 #[.slice A l.length c, .slice X (dg x).length cx] w (RetTa A l (Lib.decDigits x) w) := by
  by_cases h0 : (dg x).length = 0
  ·have := len_zero h0; subst this; rw [dg_zero]; exact appw_zero A c l X cx w hT hl
  by_cases h1 : (dg x).length = 1
  ·exact appw_one A c l X cx x w hT hX h1 hl ht
  ·exact appw_many A c l X cx x w hT hX (by omega) hn hl ht hpa
end
end Go.Proofs.Tg.Iw
