/- Parts of the proof: MO1, MO2, MO3, MO4, MO5, MO6, OF1. -/
import Derived.Maps.AppendAt
import Derived.Deep.AppendSrc
import Derived.Laws.MakeOwn
import Derived.Test.YtbgaiceakmmfdaaGreatDoorMMR0
import Derived.Test.YtbgaiceakmmfdaaGreatDoorMMR1
import Derived.Test.YtbgaiceakmmfdaaGreatDoorMMR31
set_option maxHeartbeats 64000000
set_option maxRecDepth 100000
namespace Go.Mm
section
def exactL : Nat → Nat → List (List Int)
  | 0, d => if d = 0 then [[]] else []
  | n + 1, d => (List.range (d + 1)).flatMap fun j => (exactL n j).map (· ++ [((d - j : Nat) : Int)])
def mons (n d : Nat) : List (List Int) := (List.range (d + 1)).flatMap (exactL n)
def exTo (n d k : Nat) : List (List Int) := (List.range k).flatMap fun j => (exactL n j).map (· ++ [((d - j : Nat) : Int)])
theorem exTo_zero (n d : Nat) : exTo n d 0 = [] := rfl
theorem exTo_succ (n d k : Nat) : exTo n d (k + 1) = exTo n d k ++ (exactL n k).map (· ++ [((d - k : Nat) : Int)]) := by
 unfold exTo
 rw [List.range_succ, List.flatMap_append]
 simp
theorem exTo_all (n d : Nat) : exTo n d (d + 1) = exactL (n + 1) d := rfl
def monTo (n k : Nat) : List (List Int) := (List.range k).flatMap (exactL n)
theorem monTo_zero (n : Nat) : monTo n 0 = [] := rfl
theorem monTo_succ (n k : Nat) : monTo n (k + 1) = monTo n k ++ exactL n k := by
 unfold monTo
 rw [List.range_succ, List.flatMap_append]
 simp
theorem exTo_le (n d j : Nat) (hj : j ≤ d + 1) : (exTo n d j).length ≤ (exactL (n + 1) d).length := by
 rw [← exTo_all]
 obtain ⟨k, hk⟩ : ∃ k, d + 1 = j + k := ⟨d + 1 - j, by omega⟩
 rw [hk]
 clear hk hj
 induction k with
 | zero => exact Nat.le_refl _
 | succ k ih =>
   rw [show j + (k + 1) = (j + k) + 1 by omega, exTo_succ, List.length_append]; omega
theorem exTo_len (n d j : Nat) : (exTo n d (j + 1)).length = (exTo n d j).length + (exactL n j).length := by
 rw [exTo_succ, List.length_append, List.length_map]
theorem monTo_len (n j : Nat) : (monTo n (j + 1)).length = (monTo n j).length + (exactL n j).length := by
 rw [monTo_succ, List.length_append]
theorem exact_mem : ∀ (n d : Nat) (m : List Int), m ∈ exactL n d → m.length = n ∧ (∀ e ∈ m, 0 ≤ e ∧ e ≤ d) ∧ m.sum = d
  | 0, d, m, h => by
    unfold exactL at h
    split at h
    ·rw [List.mem_singleton.1 h]; simp; omega
    ·exact absurd h (by simp)
  | n + 1, d, m, h => by
    unfold exactL at h; obtain ⟨j, hj, hm⟩ := List.mem_flatMap.1 h; obtain ⟨m', hm', rfl⟩ := List.mem_map.1 hm; have hj2 := List.mem_range.1 hj; obtain ⟨h1, h2, h3⟩ := exact_mem n j m' hm'; refine ⟨by simp [h1], fun e he => ?_, by simp [h3]; omega⟩
    rcases List.mem_append.1 he with he | he
    ·have := h2 e he; omega
    ·rw [List.mem_singleton.1 he]; omega
theorem mons_mem {n d : Nat} {m : List Int} (h : m ∈ mons n d) : m.length = n ∧ ∀ e ∈ m, 0 ≤ e ∧ e ≤ d := by
 obtain ⟨j, hj, hm⟩ := List.mem_flatMap.1 h
 have hj2 := List.mem_range.1 hj
 obtain ⟨h1, h2, _⟩ := exact_mem n j m hm
 exact ⟨h1, fun e he => by have := h2 e he; omega⟩
end
end Go.Mm
namespace Go.Proofs.Tg
section
open Go.RowKit
theorem iint_info : (Tryz.prog.info? 3).map (fun i => (i.zero, i.size, i.bytes)) = some (some (.int .i64 0), 1, 8) := by kernel_rfl
theorem irow_info : (Tryz.prog.info? 48).map (fun i => (i.zero, i.size, i.bytes)) = some (some (.slice none 0 0), 1, 24) := by kernel_rfl
structure IRow where
  A : Option Addr
  c : Nat
  l : List Int
def IRow.cell (r : IRow) : Value := .slice r.A r.l.length r.c
structure OwnI (base : Nat) (w : World) (A : Option Addr) (c : Nat) (rs : List IRow) : Prop where
  own : w.ownsRow base 48 1 (.slice A rs.length c) rs.length (rs.map IRow.cell)
  rows : ∀ r ∈ rs, w.ownsRow base 3 1 (.slice r.A r.l.length r.c) r.l.length (r.l.map vi)
theorem OwnI.keep {base : Nat} {w w' : World} {A : Option Addr} {c : Nat} {rs : List IRow} (h : OwnI base w A c rs) (hb : Below w.heap.size w w') : OwnI base w' A c rs :=
  ⟨own_below h.own hb (Nat.le_refl _), fun r hr => own_below (h.rows r hr) hb (Nat.le_refl _)⟩
theorem OwnI.push {base : Nat} {w w' : World} {A : Option Addr} {c : Nat} {rs : List IRow} {r : IRow} {A' : Option Addr} {c' : Nat} (h : OwnI base w A c rs) (hr : w.ownsRow base 3 1 (.slice r.A r.l.length r.c) r.l.length (r.l.map vi)) (hg : w.grownBy w' (Value.slice A rs.length c).ownBlock)
    (h' : w'.ownsRow base 48 1 (.slice A' (rs.length + 1) c') (rs.length + 1) (rs.map IRow.cell ++ [r.cell])) : OwnI base w' A' c' (rs ++ [r]) := by
  refine ⟨?_, fun x hx => ?_⟩
  ·rw [List.length_append, List.map_append]; simpa using h'
  ·rcases List.mem_append.1 hx with hx | hx
   ·exact (h.rows x hx).kept hg (own_ne (h.rows x hx) h.own (by decide))
   ·rw [List.mem_singleton.1 hx]; exact hr.kept hg (own_ne hr h.own (by decide))
theorem OwnI.lists {base : Nat} {w : World} {A : Option Addr} {c : Nat} {rs : List IRow} (h : OwnI base w A c rs) {k : Nat} (hk : k < rs.length) : ∃ ad, A = some ad ∧ w.cell? (ad.add k) = some (.slice rs[k].A rs[k].l.length rs[k].c) ∧ Ints w rs[k].A rs[k].l := by
 obtain ⟨ad, e, hc⟩ := Sl.at1 (Sl.own h.own) hk
 exact ⟨ad, e, by simpa [IRow.cell] using hc, Sl.own (h.rows _ (List.getElem_mem hk))⟩
theorem wpList_app_ints {ops : Array Oper} {rest : List Oper} {o : Oper} {a : Act} {Q : Exit → Act → World → Prop} (w : World) (hgd : o.guard = none) (s x : Operand)
    (ho : o.op = .call { callee := .builtin .append, args := #[s, x], argTypes := #[48, 48] }) (base : Nat) (v : Value) (n : Nat) (xs : List Value) (hs : a.eval s = v) (hown : w.ownsRow base 3 1 v n xs) (hv : ∃ ad c, v = .slice (some ad) n c)
    (E : Option Addr) (m ce : Nat) (el : List Int) (hm : el.length = m) (hx : a.eval x = .slice E m ce) (hI : Ints w E el) (hn : n + m ≤ 1000000) (hbase : base ≤ w.heap.size)
    (h : ∀ A c w', w'.ownsRow base 3 1 (.slice A (n + m) c) (n + m) (xs ++ el.map vi) → w.grownBy w' v.ownBlock → wpList Tryz.prog ops Q rest (a.put o.dst (.slice A (n + m) c)) w') : wpList Tryz.prog ops Q (o :: rest) a w := by
  subst hm; obtain ⟨ii, hii, iz0, iz1, iz2⟩ := info_parts iint_info
  by_cases h0 : el = []
  ·subst h0; obtain ⟨ad, c, rfl⟩ := hv; have hx' : a.eval x = .slice E 0 ce := hx
   have hr : (Builtin.append_ #[48, 48] o.type #[.slice (some ad) n c, .slice E 0 ce]).run Tryz.prog w = .ok (.slice (some ad) n c) w := by
    rcases hown.2 with ⟨e, _⟩ | ⟨g, cap, cur, e, _, hg, hnc, _⟩
    ·cases e
    ·injection e with e1 e2 e3
     injection e1 with e1
     subst e1 e3
     have hS : Src Tryz.prog ii.size 48 (.slice E 0 ce) 0 [] w := by
      cases E with
      | none => exact Src.ofNil _ Tryz.underlying48 ce
      | some ad => exact Src.ofSlice _ Tryz.underlying48 ad 0 ce [] (by simp) (by simp) (by simp)
     have := run_append_room_src (P := Tryz.prog) w 48 48 o.type 3 ii Tryz.underlying48 hii g 0 n c (.slice E 0 ce) 0 [] hS (by simpa using hnc) (by simp) (by simp); simpa [World.setCells] using this
   refine wpList_plain hgd fun K hK => ?_
   unfold Oper.wp execOp; simp only [ho, resolve, invoke, builtin, Sem.run_bind, Sem.run_pure, Result.andThen_ok, List.map_toArray, List.map_cons, List.map_nil, hs, hx', hr]; refine hK _ _ (h (some ad) c w ?_ (World.grownBy.refl _ _)); simpa using hown
  ·have hp : 0 < el.length := List.length_pos_iff.2 h0; obtain ⟨ad, rfl, _, hc⟩ := hI.lies hp; refine wpList_append_own w hgd s x 48 ho base 3 ii (.int .i64 0) 1 8 Tryz.underlying48 hii iz0 iz1 iz2 rfl (by decide) v n xs hs hown ad el.length ce (el.map vi) hx (by simp) hc (by simp [vi, Value.oneCell']) (by simp only [maxLen]; omega) (by omega) hbase ?_; intro v' w' hown' hgrow _; obtain ⟨A, c, rfl, _, _⟩ := Sl.of_own hown'; exact h A c w' hown' hgrow
end
end Go.Proofs.Tg
namespace Go.Proofs.Tg
section
open Go.RowKit Go.Mm
def RetApp (base : Nat) (w : World) (A : Option Addr) (c : Nat) (rs : List IRow) (ms : List (List Int)) (e : Ending) (w' : World) : Prop :=
  ∃ A' c' rs', e = .returned (.slice A' (List.length rs') c') ∧ OwnI base w' A' c' rs' ∧ rs'.map IRow.l = rs.map IRow.l ++ ms ∧ w.grownBy w' (Value.slice A rs.length c).ownBlock ∧ ((Value.slice A' rs'.length c').ownBlock = (Value.slice A rs.length c).ownBlock ∨ ∃ k, (Value.slice A' rs'.length c').ownBlock = some k ∧ w.heap.size ≤ k)
structure ApSt (base : Nat) (w : World) (A : Option Addr) (c : Nat) (rs : List IRow) (ms : List (List Int)) (wr : World) (A' : Option Addr) (c' : Nat) (rs' : List IRow) : Prop where
  own : OwnI base wr A' c' rs'
  eq : rs'.map IRow.l = rs.map IRow.l ++ ms
  grown : w.grownBy wr (Value.slice A rs.length c).ownBlock
  at_ : (Value.slice A' rs'.length c').ownBlock = (Value.slice A rs.length c).ownBlock ∨ ∃ k, (Value.slice A' rs'.length c').ownBlock = some k ∧ w.heap.size ≤ k
theorem own_keep0 {w w' : World} {b sz n : Nat} {t t' : TypeId} {v v' : Value} {xs ys : List Value} {b' sz' n' : Nat} (h : w.ownsRow b t sz v n xs) (hg : w.grownBy w' v'.ownBlock) (h' : w.ownsRow b' t' sz' v' n' ys) (hne : t ≠ t') : w'.ownsRow b t sz v n xs := h.kept hg (own_ne h h' hne)
theorem grown_chain {w V V' : World} {r v' : Option Nat} (h : w.grownBy V r) (hg : V.grownBy V' v') (hv : v' = r ∨ ∃ k, v' = some k ∧ w.heap.size ≤ k) : w.grownBy V' r := by
 refine ⟨hg.os.trans h.os, hg.tape.trans h.tape, hg.output.trans h.output, Nat.le_trans h.size hg.size, fun k hk hkr => (hg.block k (Nat.lt_of_lt_of_le hk h.size) ?_).trans (h.block k hk hkr)⟩
 rcases hv with rfl | ⟨j, rfl, hj⟩
 ·exact hkr
 ·intro e; injection e with e; omega
theorem grown_below {w V V' : World} {r : Option Nat} (h : w.grownBy V r) (hb : Below V.heap.size V V') : w.grownBy V' r :=
  grown_chain h (⟨hb.os, hb.tape, hb.output, hb.size, fun k hk _ => hb.block k hk⟩ : V.grownBy V' r) (.inl rfl)
theorem appdeg_any (n : Nat) : ∀ (d base : Nat) (w : World) (A : Option Addr) (c : Nat) (rs : List IRow) (T : Option Addr) (ct : Nat) (tl : List Int), OwnI base w A c rs → base ≤ w.heap.size → w.ownsRow 0 3 1 (.slice T tl.length ct) tl.length (tl.map vi) → rs.length + (exactL n d).length ≤ 100000 → tl.length + n ≤ 100 → d ≤ 1000 → n ≤ 100 →
    Calls Tryz.prog 24 #[.slice A rs.length c, .int .i64 (n : Nat), .int .i64 (d : Nat), .slice T tl.length ct] w (RetApp base w A c rs ((exactL n d).map (· ++ tl))) := by
  induction n with
  | zero =>
    intro d base w A c rs T ct tl hO hbase hT hl ht hd _
    by_cases h0 : d = 0
    ·subst h0; obtain ⟨j0, hj, jz0, jz1, jz2⟩ := info_parts irow_info
     have e0 : (exactL 0 0).map (· ++ tl) = [tl] := by simp [exactL]
     rw [e0]
     have hrl : rs.length ≤ 100000 := by omega
     obtain ⟨nr, hnr⟩ := eqx (rs.length); obtain ⟨nt, hnt⟩ := eqx (tl.length); have HO := zh hO; have HT := zh hT; have hown := hO.own; unfold RetApp; rw [hnr] at hrl hown ⊢; rw [hnt] at ht ⊢; have HNR := zh hnr; have HNT := zh hnt; clear hl hnr hnt hO hT e0; have hownA := hown.alloc (.cells #[] 3); have hO0 : (w.alloc (.cells #[] 3)).ownsRow w.heap.size 3 1 (.slice (some ⟨w.heap.size, 0, none⟩) 0 0) 0 [] := World.ownsRow_lit w #[] 0 (Nat.le_refl _) (by simp) (by simp); go_enter Tryz.func24, Tryz.ntmps24
     go_wp2_with (first
       | (at_builtin; refine wpList_app_ints _ rfl _ _ rfl w.heap.size (.slice (some ⟨w.heap.size, 0, none⟩) 0 0) 0 [] rfl hO0 ⟨_, _, rfl⟩ T nt ct tl HNT.out rfl ((Sl.own HT.out).alloc _) (by omega) (by simp) ?_))
     intro E ce w2 hE hgE; have hb2 : Below w.heap.size w w2 := ((Below.refl w.heap.size w).alloc (Nat.le_refl _) _).grown hgE (by simp) (fun k hk => by simp [Value.ownBlock] at hk; omega); have hown2 := own_below hown hb2 (Nat.le_refl _); have hbz : base ≤ w2.heap.size := Nat.le_trans hbase hb2.size; clear hownA hO0 hgE
     go_wp2_with (first
       | (at_builtin; refine wpList_append_own_at _ rfl _ _ 44 rfl base 48 j0 _ 1 24 Tryz.underlying44 hj jz0 jz1 jz2 rfl (by decide) (.slice A nr c) nr _ rfl (hown2.alloc _) ⟨w2.heap.size, 0, none⟩ 1 1 [.slice E nt ce] rfl rfl ?c1 ?c2 ?c3 ?c4 ?c5 ?_
          case c1 => exact cell_one_new _ _ _
          case c2 => simp [Value.oneCell']
          case c3 => simp only [maxLen]; omega
          case c4 => omega
          case c5 => simp; omega
          intro v' w5 hown' hgrow _ hat))
     go_ret; obtain ⟨A2, cs2, hv2, _, _⟩ := Sl.of_own hown'; subst hv2; have hal := Below.alloc (Below.refl w2.heap.size w2) (Nat.le_refl _) (.cells #[.slice E nt ce] 48); refine ⟨A2, cs2, rs ++ [⟨E, ce, tl⟩], by rw [List.length_append, HNR.out]; rfl, ?_, by simp, ?_, ?_⟩
     ·refine OwnI.push ((HO.out.keep hb2).keep hal) ?_ (by rw [HNR.out]; exact hgrow) ?_
      ·rw [HNT.out]; exact (own_base hE hbase).alloc _
      ·rw [HNR.out]
       have e : IRow.cell ⟨E, ce, tl⟩ = .slice E nt ce := by unfold IRow.cell; rw [HNT.out]
       rw [e]; exact hown'
     ·exact grown_chain (grown_below (World.grownBy.refl w _) (below_all hb2 hal)) hgrow (.inl rfl)
     ·rw [List.length_append, HNR.out]
      rcases hat with h | h
      ·exact .inl h
      ·exact .inr ⟨_, h, by have := hb2.size; simp; omega⟩
    ·have e0 : (exactL 0 d).map (· ++ tl) = [] := by unfold exactL; rw [if_neg h0]; rfl
     rw [e0]; have hd0 : decide ((0 : Int) < (d : Int)) = true := dT (by omega); have hd0' : decide (0 < d) = true := dT (by omega); have HO := zh hO; unfold RetApp; obtain ⟨nr, hnr⟩ := eqx (rs.length); obtain ⟨nt, hnt⟩ := eqx (tl.length); rw [hnr, hnt]; have HNR := zh hnr; clear hl hO hT hnr hnt ht e0; go_enter Tryz.func24, Tryz.ntmps24; go_wp2; go_ret; exact ⟨A, c, rs, by rw [HNR.out]; rfl, HO.out, by simp, World.grownBy.refl _ _, .inl (by rw [HNR.out])⟩
  | succ n ih =>
    intro d base w A c rs T ct tl hO hbase hT hl ht hd hn; have IH := zh ih; have HL := zh hl; have HT := zh hT; have HO0 := zh hO.own; have HQ : Hid ((exTo n d (d + 1)).map (· ++ tl) = (exactL (n + 1) d).map (· ++ tl)) := zh (by rw [exTo_all]); have HST : Hid (ApSt base w A c rs ((exTo n d 0).map (· ++ tl)) w A c rs) := zh ⟨hO, by simp [exTo_zero], World.grownBy.refl _ _, .inl rfl⟩; have HLE := zh (exTo_le n d); unfold RetApp; rw [← HQ.out]; have nz : (((n : Int) + 1) == 0) = false := beq_eq_false_iff_ne.2 (by omega); have nz' : (((n + 1 : Nat) : Int) == 0) = false := beq_eq_false_iff_ne.2 (by omega)
    have hc1 : ((n + 1 : Nat) : Int) = (n : Int) + 1 := by omega
    rw [hc1]; obtain ⟨nt, hnt⟩ := eqx (tl.length); rw [hnt] at ht ⊢; have HNT := zh hnt; clear ih hl hO hT hnt; go_enter Tryz.func24, Tryz.ntmps24; go_wp2
    go_loopw [0, 9] (fun s0 s9 wr => ∃ (j : Nat) (i : Int) (A' : Option Addr) (c' : Nat) (rs' : List IRow), s0 = .slice A' rs'.length c' ∧ s9 = .int .i64 i ∧ j ≤ d + 1 ∧ i = (d : Int) - (j : Int) ∧ Hid (ApSt base w A c rs ((exTo n d j).map (· ++ tl)) wr A' c' rs')) (fun _ s9 _ => (intOf s9 + 1).toNat)
    case atStart => exact ⟨0, d, A, c, rs, rfl, rfl, by omega, by simp, HST⟩
    case round =>
     clear HST; obtain ⟨wo, rfl⟩ : ∃ wo : World, wo = wr := ⟨_, rfl⟩; obtain ⟨j, i, A', c', rs', rfl, rfl, hj, hi, HST⟩ := hrel
     by_cases hjd : j = d + 1
     ·have hi0 : decide ((0 : Int) ≤ i) = false := dF (by omega); have HJ := zh hjd; clear hjd hi; go_wp2; go_ret; have h := HST.out; rw [HJ.out] at h; exact ⟨A', c', rs', rfl, h.own, h.eq, h.grown, h.at_⟩
     ·have hj2 : j ≤ d := by omega
      have hi2 : (0 : Int) ≤ i := by omega
      have hi1 : decide ((0 : Int) ≤ i) = true := dT hi2
      have w1 : IntKind.i64.wrap ((d : Int) - i) = (j : Int) := by
       rw [show (d : Int) - i = (j : Int) by omega]; exact IntWalk.i64_in _ (by omega)
      have w3 : IntKind.i64.wrap (i - 1) = i - 1 := IntWalk.i64_in _ (by omega); have HI : Hid (i = ((d - j : Nat) : Int)) := zh (by omega); have HTO := zh (own_keep0 HT.out HST.out.grown HO0.out (by decide)); have hsz : w.heap.size ≤ wo.heap.size := HST.out.grown.size
      have hrl : rs'.length + (exactL n j).length ≤ 100000 := by
       have h1 := congrArg List.length HST.out.eq; simp only [List.length_map, List.length_append] at h1; have h2 := HLE.out (j + 1) (by omega); rw [exTo_len] at h2; have h3 := HL.out; omega
      have hRL := zh hrl; obtain ⟨nr, hnr⟩ := eqx (rs'.length); rw [hnr]; have HNR := zh hnr; have hO1 : (wo.alloc (.cells #[.int .i64 i] 3)).ownsRow wo.heap.size 3 1 (.slice (some ⟨wo.heap.size, 0, none⟩) 1 1) 1 [.int .i64 i] := World.ownsRow_lit wo #[.int .i64 i] 1 (Nat.le_refl _) (by simp [maxLen]) rfl; clear hrl hnr hi hjd
      go_wp2_with (first
        | (at_builtin; refine wpList_app_ints _ rfl _ _ rfl wo.heap.size (.slice (some ⟨wo.heap.size, 0, none⟩) 1 1) 1 [.int .i64 i] rfl hO1 ⟨_, _, rfl⟩ T nt ct tl HNT.out rfl ((Sl.own HTO.out).alloc _) (by omega) (by simp) ?_
           intro E ce w2 hE hgE))
      have hb2 : Below wo.heap.size wo w2 := ((Below.refl wo.heap.size wo).alloc (Nat.le_refl _) _).grown hgE (by simp) (fun k hk => by simp [Value.ownBlock] at hk; omega); have hOI := HST.out.own.keep hb2
      have htl : (i :: tl).length = 1 + nt := by rw [List.length_cons, HNT.out]; omega
      have hE2 : w2.ownsRow 0 3 1 (.slice E (i :: tl).length ce) (i :: tl).length ((i :: tl).map vi) := by
       rw [htl]; exact own_base hE (Nat.zero_le _)
      have HC := IH.out j base w2 A' c' rs' E ce (i :: tl) hOI (by have := hb2.size; omega) hE2 hRL.out (by rw [htl]; omega) (by omega) (by omega); rw [htl, HNR.out] at HC; unfold RetApp at HC; rw [HNR.out] at HC; have HC := zh HC; have HB2 := zh hb2; clear hOI htl hE2 hE hgE hO1 hb2; go_wp2_with (fail); refine HC.out.mono ?_; rintro e w5 ⟨A5, c5, rs5, rfl, hO5, he5, hg5, hat5⟩; go_wp2; go_roundw
      case rel =>
       refine ⟨j + 1, i - 1, A5, c5, rs5, rfl, by go_num, by omega, by have := HI.out; omega, zh ⟨hO5, ?_, ?_, ?_⟩⟩
       ·rw [he5, HST.out.eq, exTo_succ, ← HI.out]; simp [List.append_assoc]
       ·refine grown_chain (grown_below HST.out.grown HB2.out) hg5 ?_; have := HST.out.at_; rw [HNR.out] at this; exact this
       ·have h1 := HST.out.at_; rw [HNR.out] at h1
        rcases hat5 with h | ⟨k, h, hk⟩
        ·rcases h1 with h1 | ⟨k1, h1, hk1⟩
         ·exact .inl (h.trans h1)
         ·exact .inr ⟨k1, h.trans h1, hk1⟩
        ·exact .inr ⟨k, h, by have := HB2.out.size; omega⟩
      case measure => simp [intOf]; omega
end
end Go.Proofs.Tg
namespace Go.Mm
section
def cnt (n d : Nat) : Nat := (mons n d).length
theorem monTo_all (n d : Nat) : monTo n (d + 1) = mons n d := rfl
theorem exTo_cnt (n d : Nat) : ∀ k, (exTo n d k).length = (monTo n k).length
  | 0 => rfl
  | k + 1 => by rw [exTo_len, monTo_len, exTo_cnt n d k]
theorem exact_cnt (n d : Nat) : (exactL (n + 1) d).length = cnt n d := by rw [← exTo_all, exTo_cnt, monTo_all]; rfl
theorem cnt_zero (d : Nat) : cnt 0 d = 1 := by
 have h : ∀ k, (monTo 0 (k + 1)).length = 1 := by
  intro k
  induction k with
  | zero => rfl
  | succ k ih => rw [monTo_len, ih]; simp [exactL]
 exact h d
theorem cnt_d0 : ∀ n, cnt n 0 = 1
  | 0 => cnt_zero 0
  | n + 1 => by
    have : cnt (n + 1) 0 = (exactL (n + 1) 0).length := by
     unfold cnt mons; simp [List.range_succ]
    rw [this, exact_cnt, cnt_d0 n]
theorem cnt_succ (n d : Nat) : cnt (n + 1) (d + 1) = cnt (n + 1) d + cnt n (d + 1) := by
 have : cnt (n + 1) (d + 1) = cnt (n + 1) d + (exactL (n + 1) (d + 1)).length := by
  unfold cnt; rw [← monTo_all, monTo_len, monTo_all]
 rw [this, exact_cnt]
theorem cnt_rules : ∀ n, (∀ d, (d + 1) * cnt n (d + 1) = (d + 1 + n) * cnt n d) ∧ (∀ d, 0 < n → n * cnt n d = (d + n) * cnt (n - 1) d)
  | 0 => ⟨fun d => by rw [cnt_zero, cnt_zero], fun d h => absurd h (by omega)⟩
  | n + 1 => by
    obtain ⟨hQ, _⟩ := cnt_rules n
    have hP : ∀ d, (n + 1) * cnt (n + 1) d = (d + (n + 1)) * cnt n d := by
     intro d
     induction d with
     | zero => rw [cnt_d0, cnt_d0]; omega
     | succ d ih =>
       have h1 := hQ d; rw [cnt_succ, Nat.mul_add, ih, show d + (n + 1) = d + 1 + n by omega, ← h1, ← Nat.add_mul]
    refine ⟨fun d => ?_, fun d _ => hP d⟩; have h1 := hP (d + 1); have h2 := cnt_succ n d
    have h3 : (d + 1 + (n + 1)) * cnt (n + 1) (d + 1) = (d + 1 + (n + 1)) * cnt (n + 1) d + (d + 1 + (n + 1)) * cnt n (d + 1) := by rw [h2, Nat.mul_add]
    rw [← h1, Nat.add_mul] at h3; omega
theorem cnt_step (n d : Nat) : cnt n d * (d + (n + 1)) / (n + 1) = cnt (n + 1) d := by
 have h := (cnt_rules (n + 1)).2 d (by omega)
 rw [Nat.add_sub_cancel] at h
 rw [Nat.mul_comm, ← h, Nat.mul_div_cancel_left _ (by omega)]
theorem cnt_mono_d (n d : Nat) : cnt n d ≤ cnt n (d + 1) := by
 unfold cnt
 rw [← monTo_all n (d + 1), monTo_len, monTo_all]
 omega
theorem cnt_le_d (n d e : Nat) (h : d ≤ e) : cnt n d ≤ cnt n e := by
 obtain ⟨k, rfl⟩ : ∃ k, e = d + k := ⟨e - d, by omega⟩
 clear h
 induction k with
 | zero => exact Nat.le_refl _
 | succ k ih => exact Nat.le_trans ih (cnt_mono_d n (d + k))
theorem cnt_up (n d : Nat) : cnt (n + 1) d ≤ (d + 1) * cnt n d := by
 induction d with
 | zero => rw [cnt_d0, cnt_d0]; omega
 | succ d ih =>
   rw [cnt_succ]; have h := cnt_mono_d n d; have h2 : (d + 1) * cnt n d ≤ (d + 1) * cnt n (d + 1) := Nat.mul_le_mul_left _ h; rw [show d + 1 + 1 = (d + 1) + 1 from rfl, Nat.add_mul (d + 1) 1]; omega
theorem cnt_bound : ∀ (n d : Nat), cnt n d ≤ (d + 1) ^ n
  | 0, d => by rw [cnt_zero]; simp
  | n + 1, d => by
    rw [Nat.pow_succ, Nat.mul_comm]; exact Nat.le_trans (cnt_up n d) (Nat.mul_le_mul_left _ (cnt_bound n d))
theorem monTo_le (n d k : Nat) (h : k ≤ d + 1) : (monTo n k).length ≤ cnt n d := by
 cases k with
 | zero => simp [monTo_zero]
 | succ k => rw [monTo_all]; exact cnt_le_d n k d (by omega)
end
end Go.Mm
namespace Go.Proofs.Tg
section
open Go.RowKit Go.Mm
theorem cnt_fit {n d : Nat} (hn : n ≤ 6) (hd : d ≤ 24) : cnt n d ≤ 244140625 := by
 refine Nat.le_trans (cnt_bound n d) ?_
 refine Nat.le_trans (Nat.pow_le_pow_left (show d + 1 ≤ 25 by omega) n) ?_
 exact Nat.le_trans (Nat.pow_le_pow_right (by omega) hn) (by decide)
theorem choose_any (n d : Nat) (hn : n ≤ 6) (hd : d ≤ 24) (w : World) :
    Calls Tryz.prog 22 #[.int .i64 ((n + d : Nat) : Int), .int .i64 (n : Nat)] w fun e w' => e = .returned (.int .i64 (cnt n d : Nat)) ∧ Below w.heap.size w w' := by
  have hlt : decide (((n + d : Nat) : Int) < (n : Int)) = false := dF (by omega); obtain ⟨s, hs⟩ := eqx (n + d); rw [hs] at hlt ⊢
  have hsI : (s : Int) - (n : Int) = (d : Int) := by omega
  have hs30 : s ≤ 30 := by omega
  have w1 : IntKind.i64.wrap ((s : Int) - (n : Int)) = (d : Int) := by rw [hsI]; exact IntWalk.i64_in _ (by omega)
  have HC := zh (fun k (h : k ≤ 6) => cnt_fit (n := k) h hd); have H0 : Hid ((1 : Nat) = cnt 0 d) := zh (cnt_zero d).symm; clear hs; go_enter Tryz.func22, Tryz.ntmps22; go_wp2
  go_loopw [5, 6] (fun s5 s6 wr => ∃ (k r : Nat), s6 = .int .i64 ((k : Int) + 1) ∧ s5 = .int .i64 (r : Nat) ∧ k ≤ n ∧ r ≤ 244140625 ∧ Hid (r = cnt k d) ∧ Below w.heap.size w wr) (fun _ s6 _ => n + 1 - (intOf s6).toNat)
  case atStart => exact ⟨0, 1, by go_num, rfl, Nat.zero_le _, by omega, H0, Below.refl _ _⟩
  case round =>
   obtain ⟨wo, rfl⟩ : ∃ wo : World, wo = wr := ⟨_, rfl⟩; obtain ⟨k, r, rfl, rfl, hk, hr, HR, hbw⟩ := hrel
   by_cases hkn : k = n
   ·have hd1 : decide ((k : Int) + 1 ≤ (n : Int)) = false := dF (by omega); have HK := zh hkn; clear hkn; go_wp2; go_ret; exact ⟨by rw [← HK.out, ← HR.out]; rfl, hbw⟩
   ·have hkn2 : k < n := by omega
    have hd1 : decide ((k : Int) + 1 ≤ (n : Int)) = true := dT (by omega); obtain ⟨q, hq⟩ := eqx (r * (d + (k + 1)) / (k + 1)); have HQ : Hid (q = cnt (k + 1) d) := zh (by rw [← hq, HR.out, cnt_step])
    have hql : q ≤ 244140625 := by rw [HQ.out]; exact HC.out _ (by omega)
    have hpr : r * (d + (k + 1)) ≤ 244140625 * 30 := Nat.mul_le_mul hr (by omega); obtain ⟨pr, hpe⟩ := eqx (r * (d + (k + 1))); rw [hpe] at hq hpr
    have e1 : (r : Int) * ((d : Int) + ((k : Int) + 1)) = (pr : Int) := by
     rw [← hpe]; simp
    have w2 : IntKind.i64.wrap (pr : Int) = (pr : Int) := IntWalk.i64_in _ (by omega); have w4 : IntKind.i64.wrap ((d : Int) + ((k : Int) + 1)) = (d : Int) + ((k : Int) + 1) := IntWalk.i64_in _ (by omega)
    have e2 : Int.tdiv (pr : Int) ((k : Int) + 1) = (q : Int) := by
     rw [show (k : Int) + 1 = ((k + 1 : Nat) : Int) by omega, ← Int.ofNat_tdiv, hq]
    have w3 : IntKind.i64.wrap (q : Int) = (q : Int) := IntWalk.i64_in _ (by omega); have nz : (((k : Int) + 1) == 0) = false := beq_eq_false_iff_ne.2 (by omega); clear hpe hq hkn; go_wp2; go_roundw
    case rel => exact ⟨k + 1, q, by go_num, rfl, by omega, hql, HQ, hbw⟩
    case measure => simp [intOf]; omega
theorem count_any (n d : Nat) (hn : n ≤ 6) (hd : d ≤ 24) (w : World) :
    Calls Tryz.prog 13 #[.int .i64 (n : Nat), .int .i64 (d : Nat)] w fun e w' => e = .returned (.tuple #[.int .i64 (cnt n d : Nat), .bool true]) ∧ Below w.heap.size w w' := by
  have H := zh (choose_any n d hn hd w); have d1 : decide ((n : Int) < 0) = false := dF (by omega); have d2 : decide ((6 : Int) < (n : Int)) = false := dF (by omega); have d3 : decide ((d : Int) < 0) = false := dF (by omega); have d4 : decide ((24 : Int) < (d : Int)) = false := dF (by omega); obtain ⟨s, hs⟩ := eqx (n + d); rw [hs] at H
  have hsI : (n : Int) + (d : Int) = (s : Int) := by omega
  clear hs; go_enter Tryz.func13, Tryz.ntmps13; go_wp2_with (fail); refine H.out.mono ?_; rintro e w2 ⟨rfl, hb⟩; go_wp2
  go_ret2
  exact ⟨rfl, hb⟩
def RetMons (n d : Nat) (w : World) (e : Ending) (w' : World) : Prop :=
  ∃ A c rs, e = .returned (.tuple #[.slice A (List.length rs) c, .int .i64 0]) ∧ OwnI w.heap.size w' A c rs ∧ rs.map IRow.l = mons n d ∧ Below w.heap.size w w'
theorem all_any (n d : Nat) (hn : n ≤ 6) (hd : d ≤ 24) (hc : cnt n d ≤ 4096) (w : World) :
    Calls Tryz.prog 15 #[.int .i64 (n : Nat), .int .i64 (d : Nat)] w (RetMons n d w) := by
  obtain ⟨j0, hj, jz0, jz1, jz2⟩ := info_parts irow_info; have HCO := zh (count_any n d hn hd w); obtain ⟨k0, hk0⟩ := eqx (cnt n d); have HML := zh (fun k (h : k ≤ d + 1) => monTo_le n d k h); rw [hk0] at HCO hc HML; have d1 : decide ((4096 : Int) < (k0 : Int)) = false := dF (by omega)
  have hmk := fun W => run_make_own (P := Tryz.prog) W W.heap.size 44 48 j0 _ 1 Tryz.underlying44 hj jz0 jz1 .i64 .i64 k0 (by rw [jz2]; omega) (by simp only [maxLen]; omega) (Nat.le_refl _)
  have HMK := zh hmk; clear hk0 hmk; go_enter Tryz.func15, Tryz.ntmps15; go_wp2_with (fail); refine HCO.out.mono ?_; rintro e w1 ⟨rfl, hb1⟩; obtain ⟨w2, hrun, hown, hgrow⟩ := HMK.out w1; have hb2 : Below w.heap.size w w2 := hb1.grown hgrow hb1.size (fun k hk => by cases hk); have HST : Hid (OwnI w.heap.size w2 (some ⟨w1.heap.size, 0, none⟩) k0 [] ∧ Below w.heap.size w w2) := zh ⟨⟨own_base hown hb1.size, fun r hr => absurd hr (by simp)⟩, hb2⟩; clear hown hgrow HMK HCO; go_wp2
  go_loopw [8, 24] (fun s8 s24 wr => ∃ (k : Nat) (A : Option Addr) (c : Nat) (rs : List IRow), s8 = .slice A rs.length c ∧ s24 = .int .i64 (k : Nat) ∧ k ≤ d + 1 ∧ Hid (rs.map IRow.l = monTo n k) ∧ Hid (OwnI w.heap.size wr A c rs ∧ Below w.heap.size w wr)) (fun _ s24 _ => d + 1 - (intOf s24).toNat)
  case atStart => exact ⟨0, _, k0, [], rfl, rfl, Nat.zero_le _, zh rfl, HST⟩
  case round =>
   clear HST hrun; obtain ⟨wo, rfl⟩ : ∃ wo : World, wo = wr := ⟨_, rfl⟩; obtain ⟨k, A, c, rs, rfl, rfl, hk, HEQ, HST⟩ := hrel
   by_cases hkd : k = d + 1
   ·have e1 : decide ((k : Int) < (d : Int) + 1) = false := dF (by omega); have HK := zh hkd; clear hkd; go_wp2
    go_ret2
    exact ⟨A, c, rs, rfl, HST.out.1, by rw [HEQ.out, HK.out, monTo_all], HST.out.2⟩
   ·have hk2 : k ≤ d := by omega
    have e1 : decide ((k : Int) < (d : Int) + 1) = true := dT (by omega)
    have hrl : rs.length + (exactL n k).length ≤ 4096 := by
     have h1 := congrArg List.length HEQ.out; rw [List.length_map] at h1; have h2 := HML.out (k + 1) (by omega); rw [monTo_len] at h2; omega
    have HC := appdeg_any n k w.heap.size wo A c rs none 0 [] HST.out.1 HST.out.2.size (World.ownsRow_nil _ _ _ _) (by omega) (by simp; omega) (by omega) (by omega); unfold RetApp at HC
    have e2 : (exactL n k).map (· ++ ([] : List Int)) = exactL n k := by simp
    rw [e2, List.length_nil] at HC; obtain ⟨nr, hnr⟩ := eqx (rs.length); rw [hnr] at HC ⊢; have HNR := zh hnr; have HC := zh HC; clear e2 hnr hrl hkd; go_wp2_with (fail); refine HC.out.mono ?_; rintro e w5 ⟨A5, c5, rs5, rfl, hO5, he5, hg5, hat5⟩; go_wp2; go_roundw
    case rel =>
     refine ⟨k + 1, A5, c5, rs5, rfl, by go_num, by omega, zh (by rw [he5, HEQ.out, monTo_succ]), zh ⟨hO5, ?_⟩⟩; refine HST.out.2.grown hg5 HST.out.2.size (fun j hj => ?_); have := HST.out.1.own; rw [HNR.out] at this; exact (this.lt j hj).1
    case measure => simp [intOf]; omega
end
end Go.Proofs.Tg
section
namespace Go.Rq
def tmTo (w : Rat) (x : List Rat) (m : List Int) : Nat → Rat
  | 0 => w
  | k + 1 => tmTo w x m k * (x.getD k 0) ^ ((m.getD k 0).toNat)
def tm (w : Rat) (x : List Rat) (m : List Int) : Rat := tmTo w x m m.length
def sumTo (ws : List Rat) (xs : List (List Rat)) : Nat → List Int → Rat
  | 0, _ => 0
  | k + 1, m => sumTo ws xs k m + tm (ws.getD k 0) (xs.getD k []) m
def vals (f h : List Int → Rat) (ms : List (List Int)) (i : Nat) : List Rat := (ms.take i).map h ++ (ms.drop i).map f
theorem vals_zero (f h : List Int → Rat) (ms : List (List Int)) : vals f h ms 0 = ms.map f := by simp [vals]
theorem vals_all (f h : List Int → Rat) (ms : List (List Int)) : vals f h ms ms.length = ms.map h := by simp [vals]
theorem vals_at (f h : List Int → Rat) (ms : List (List Int)) {i : Nat} (hi : i < ms.length) : (vals f h ms i)[i]? = some (f ms[i]) := by
 unfold vals
 rw [List.getElem?_append_right (by simp; omega), List.length_map, List.length_take, Nat.min_eq_left (by omega), Nat.sub_self, List.drop_eq_getElem_cons hi]; rfl
theorem vals_set (f h : List Int → Rat) (ms : List (List Int)) {i : Nat} (hi : i < ms.length) : (vals f h ms i).set i (h ms[i]) = vals f h ms (i + 1) := by
 unfold vals
 rw [List.set_append_right _ _ (by simp; omega), List.length_map, List.length_take, Nat.min_eq_left (by omega), Nat.sub_self, List.drop_eq_getElem_cons hi, List.map_cons, List.set_cons_zero, List.take_succ_eq_append_getElem hi, List.map_append, List.map_cons, List.map_nil, List.append_assoc]
 rfl
end Go.Rq
namespace Go.Proofs.Tg.Fi
open Go.RowKit Go.Rq Go.Qn Go.Bn Go.Mm Go.Proofs.Tg
structure TRowsAt (w : World) (A : Option Addr) (xs : List (List Rat)) : Prop where
  ex : ∃ rows : List TRow, Sl w A rows.length 1 (rows.map TRow.cell) ∧ rows.map TRow.qs = xs ∧ ∀ r ∈ rows, Txts w r.A r.qs
theorem TRowsAt.keep {w w' : World} {A : Option Addr} {xs : List (List Rat)} (h : TRowsAt w A xs) (hb : Below w.heap.size w w') : TRowsAt w' A xs := by
 obtain ⟨rows, h1, h2, h3⟩ := h.ex
 exact ⟨rows, h1.keep hb, h2, fun r hr => (h3 r hr).keep hb⟩
theorem TRowsAt.at {w : World} {A : Option Addr} {xs : List (List Rat)} (h : TRowsAt w A xs) {k : Nat} (hk : k < xs.length) : ∃ ad R c, A = some ad ∧ w.cell? (ad.add k) = some (.slice R xs[k].length c) ∧ Txts w R xs[k] := by
 obtain ⟨rows, h1, h2, h3⟩ := h.ex
 have hl : rows.length = xs.length := by rw [← h2, List.length_map]
 have hk2 : k < rows.length := by omega
 obtain ⟨ad, e, hc⟩ := Sl.at1 h1 hk2
 have hx : xs[k] = rows[k].qs := by subst h2; simp
 refine ⟨ad, rows[k].A, rows[k].c, e, ?_, ?_⟩
 ·rw [hx]; simpa [TRow.cell] using hc
 ·rw [hx]; exact h3 _ (List.getElem_mem _)
theorem qtx_zero : qtx (0 : Rat) = ⟨#[48]⟩ := by
 rw [show (0 : Rat) = ((0 : Int) : Rat) from rfl, qtx_int]
 have : Lib.itoa 0 = [48] := by unfold Lib.itoa; rw [if_neg (by omega)]; exact dec_zero
 rw [this]; rfl
def RetFun (v d : Nat) (qs : List Rat) (w : World) (e : Ending) (w' : World) : Prop := ∃ A, e = .returned (.tuple #[.agg #[.int .i64 (v : Nat), .int .i64 (d : Nat), .slice A qs.length qs.length], .int .i64 0]) ∧ Txts w' A qs ∧ Below w.heap.size w w'
theorem txts_set {w : World} {g : Nat} {qs : List Rat} (h : Blk w g 9 (qs.map vq).toArray) (i : Nat) (q : Rat) : Blk (w.setCell ⟨g, i, none⟩ (.string (qtx q))) g 9 ((qs.set i q).map vq).toArray := by
 have := h.set i (.string (qtx q))
 rw [List.setIfInBounds_toArray, show Value.string (qtx q) = vq q from rfl, ← List.map_set] at this
 exact this
structure OfOkG (S M V : Rat → Prop) (v d : Nat) (ws : List Rat) (xs : List (List Rat)) : Prop where
  n1 : 1 ≤ xs.length
  n2 : xs.length ≤ 16
  lw : ws.length = xs.length
  dim : ∀ x ∈ xs, x.length = v
  v1 : 1 ≤ v
  v6 : v ≤ 6
  d24 : d ≤ 24
  few : cnt v d ≤ 1024
  shw : ∀ q ∈ ws, V q
  shx : ∀ x ∈ xs, ∀ q ∈ x, V q ∧ ∀ e, e ≤ d → M (q ^ e)
  sht : ∀ k, k < xs.length → ∀ m ∈ mons v d, ∀ j, j ≤ v → M (tmTo (ws.getD k 0) (xs.getD k []) m j)
  shs : ∀ k, k ≤ xs.length → ∀ m ∈ mons v d, S (sumTo ws xs k m)
abbrev OfOk (v d : Nat) (ws : List Rat) (xs : List (List Rat)) : Prop := OfOkG Sh Sh Sh v d ws xs
end Go.Proofs.Tg.Fi
end
