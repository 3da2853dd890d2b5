/- Parts of the proof: SS1, MO2, MO3, MO7. -/
import Derived.Maps.AppendAt
import Derived.Deep.AppendSrc
import Derived.Test.YtpkompfkhoceoaaGreatDoorMMT0
import Derived.Test.YtpkompfkhoceoaaGreatDoorMMT19
import Derived.Test.YtpkompfkhoceoaaGreatDoorMMT21
section
/- Plain: sums of terms that are worth the same; products. -/
namespace Go.Rs
open Go.Mo Go.Rq Go.Mm Go.Qn Go.Ev Go.Proofs.Tg
/-- What a sum of terms is. -/
theorem polyOk_of {v d : Nat} {ts : List TQ} {out : List (Rat × List Int)} (hm : ∀ t ∈ ts, t.el ∈ mons v d) (ho : out = col ((msrt leT ts.length ts).map TQ.qe)) (hn : out.length ≤ 4096) : PolyOk v d out := by
  have hlen : ∀ t ∈ (msrt leT ts.length ts).map TQ.qe, t.2 ∈ mons v d := fun t ht => by
    obtain ⟨x, hx, rfl⟩ := List.mem_map.1 ht
    exact hm x ((msrt_mem leT).1 hx)
  have hs : ((msrt leT ts.length ts).map TQ.qe).Pairwise (fun a b => 0 ≤ ord a.2 b.2) := by
    rw [List.pairwise_map]
    have h2 := sort_asc (leT) (P := fun t : TQ => t.el.length = v) (fun a b c ha hb hc h1 h2 => decide_eq_true (ord_trans (ha.trans hb.symm) (of_decide_eq_true h1) (of_decide_eq_true h2))) (fun a b ha hb => by
      unfold leT
      rw [ord_anti (ha.trans hb.symm)]
      rcases Int.le_total 0 (ord a.el b.el) with h | h
      · exact .inl (decide_eq_true h)
      · exact .inr (decide_eq_true (by omega))) ts.length ts (by omega) (fun t ht => (mons_mem (hm t ht)).1)
    exact h2.imp fun h => of_decide_eq_true h
  subst ho
  refine ⟨desc_col (v := v) _ (fun t ht => (mons_mem (hlen t ht)).1) hs, fun t ht => ?_, hn⟩
  obtain ⟨h1, s, hs2, h2⟩ := col_mem _ t ht
  exact ⟨h1, h2 ▸ hlen s hs2⟩
/-- Terms that are worth the same. -/
structure Eqv (v : Nat) (l m : List (Rat × List Int)) : Prop where
  lin : ∀ φ, lin φ l = lin φ m
  nm : ∀ D K, 0 < D → Nm D m K → Nm D l K
  mem : ∀ t ∈ l, ∃ s ∈ m, s.2 = t.2
theorem Eqv.nil (v : Nat) : Eqv v [] [] := ⟨fun _ => rfl, fun _ _ _ h => h, fun _ h => absurd h (by simp)⟩
theorem Nm.split {D : Nat} : ∀ {l m : List (Rat × List Int)} {K : Nat}, Nm D (l ++ m) K → ∃ K1 K2, K1 + K2 ≤ K ∧ Nm D l K1 ∧ Nm D m K2
  | [], m, K, h => ⟨0, K, by omega, trivial, h⟩
  | t :: l, m, K, ⟨k, e, h1, h2⟩ => by
    obtain ⟨K1, K2, h3, h4, h5⟩ := Nm.split h2
    exact ⟨k.natAbs + K1, K2, by omega, ⟨k, e, by omega, h4.mono (by omega)⟩, h5⟩
theorem Eqv.append {v : Nat} {l l' m m' : List (Rat × List Int)} (h : Eqv v l m) (h' : Eqv v l' m') : Eqv v (l ++ l') (m ++ m') where
  lin := fun φ => by rw [lin_append, lin_append, h.lin, h'.lin]
  nm := fun D K hD hn => by
    obtain ⟨K1, K2, h1, h2, h3⟩ := Nm.split hn
    exact ((h.nm D K1 hD h2).append (h'.nm D K2 hD h3)).mono h1
  mem := fun t ht => by
    rcases List.mem_append.1 ht with ht | ht
    · obtain ⟨s, hs, e⟩ := h.mem t ht; exact ⟨s, by simp [hs], e⟩
    · obtain ⟨s, hs, e⟩ := h'.mem t ht; exact ⟨s, by simp [hs], e⟩
theorem Eqv.trans {v : Nat} {l m n : List (Rat × List Int)} (h : Eqv v l m) (h' : Eqv v m n) : Eqv v l n where
  lin := fun φ => (h.lin φ).trans (h'.lin φ)
  nm := fun D K hD hn => h.nm D K hD (h'.nm D K hD hn)
  mem := fun t ht => by
    obtain ⟨s, hs, e⟩ := h.mem t ht
    obtain ⟨u, hu, e2⟩ := h'.mem s hs
    exact ⟨u, hu, e2.trans e⟩
/-- What Sum returns is worth its terms. -/
theorem eqv_col {v : Nat} {ts : List TQ} (hv : ∀ t ∈ ts, t.el.length = v) (n : Nat) : Eqv v (col ((msrt leT n ts).map TQ.qe)) (ts.map TQ.qe) where
  lin := fun φ => by
    rw [lin_col φ (v := v) _ (fun t ht => ?_)]
    · exact lin_perm φ ((msrt_perm leT n ts).map _)
    · obtain ⟨x, hx, rfl⟩ := List.mem_map.1 ht
      exact hv x ((msrt_mem leT).1 hx)
  nm := fun D K hD hn => Nm.col hD (Nm.perm ((msrt_perm leT n ts).map _).symm hn)
  mem := fun t ht => by
    obtain ⟨_, s, hs, e⟩ := col_mem _ t ht
    obtain ⟨x, hx, rfl⟩ := List.mem_map.1 hs
    exact ⟨x.qe, List.mem_map.2 ⟨x, (msrt_mem leT).1 hx, rfl⟩, e⟩
/-- A product with a term, a product of polynomials. -/
def shL (G : List (Rat × List Int)) (p : Rat × List Int) : List (Rat × List Int) := G.map fun t => (t.1 * p.1, addL t.2 p.2)
def prL (G P : List (Rat × List Int)) : List (Rat × List Int) := P.flatMap (shL G)
theorem shL_nm {D E K L : Nat} {G : List (Rat × List Int)} {p : Rat × List Int} (h : Nm D G K) (hp : Bd E L p.1) : Nm (D * E) (shL G p) (K * L) := h.scale hp fun e => addL e p.2
theorem prL_nm {D E K : Nat} {G : List (Rat × List Int)} (h : Nm D G K) : ∀ {P : List (Rat × List Int)} {L : Nat}, Nm E P L → Nm (D * E) (prL G P) (K * L)
  | [], _, _ => trivial
  | p :: P, L, ⟨k, e, h1, h2⟩ => by
    have h3 := shL_nm (p := p) h (⟨k, e, Nat.le_refl _⟩ : Bd E k.natAbs p.1)
    have h4 := h3.append (prL_nm h h2)
    refine h4.mono ?_
    rw [← Nat.mul_add]
    exact Nat.mul_le_mul_left _ (by omega)
theorem shL_lin (φ : List Int → Rat) (p : Rat × List Int) : ∀ G : List (Rat × List Int), lin φ (shL G p) = p.1 * lin (fun e => φ (addL e p.2)) G
  | [] => by
    show (0 : Rat) = p.1 * 0
    rw [Rat.mul_zero]
  | t :: G => by
    have ih := shL_lin φ p G
    show lin φ ((t.1 * p.1, addL t.2 p.2) :: shL G p) = _
    rw [lin_cons, lin_cons, ih, Rat.mul_add, Rat.mul_comm t.1, Rat.mul_assoc]
/-- The value at a product. -/
theorem prL_lin (φ : List Int → Rat) (G : List (Rat × List Int)) : ∀ P : List (Rat × List Int), lin φ (prL G P) = lin (fun m => lin (fun e => φ (addL e m)) G) P
  | [] => rfl
  | p :: P => by
    have ih := prL_lin φ G P
    show lin φ (shL G p ++ prL G P) = _
    rw [lin_append, lin_cons, ih, shL_lin]
theorem prL_mem {v a b : Nat} {G P : List (Rat × List Int)} (hG : ∀ t ∈ G, t.2 ∈ mons v a) (hP : ∀ t ∈ P, t.2 ∈ mons v b) : ∀ t ∈ prL G P, t.2 ∈ mons v (a + b) := by
  intro t ht
  obtain ⟨p, hp, ht⟩ := List.mem_flatMap.1 ht
  obtain ⟨g, hg, rfl⟩ := List.mem_map.1 ht
  exact addL_mem (hG g hg) (hP p hp)
end Go.Rs
end
section
/- Rows of rows of integers of the call's own; append of integers. -/
namespace Go.Proofs.Tg
open Go.RowKit
set_option maxHeartbeats 4000000
set_option maxRecDepth 100000
theorem iint_info : (Tryz.prog.info? 3).map (fun i => (i.zero, i.size, i.bytes)) = some (some (.int .i64 0), 1, 8) := by kernel_rfl
theorem irow_info : (Tryz.prog.info? 41).map (fun i => (i.zero, i.size, i.bytes)) = some (some (.slice none 0 0), 1, 24) := by kernel_rfl
structure IRow where
  A : Option Addr
  c : Nat
  l : List Int
def IRow.cell (r : IRow) : Value := .slice r.A r.l.length r.c
structure OwnI (base : Nat) (w : World) (A : Option Addr) (c : Nat) (rs : List IRow) : Prop where
  own : w.ownsRow base 41 1 (.slice A rs.length c) rs.length (rs.map IRow.cell)
  rows : ∀ r ∈ rs, w.ownsRow base 3 1 (.slice r.A r.l.length r.c) r.l.length (r.l.map vi)
theorem OwnI.nil (base : Nat) (w : World) : OwnI base w none 0 [] := ⟨World.ownsRow_nil _ _ _ _, fun r h => absurd h (by simp)⟩
theorem OwnI.keep {base : Nat} {w w' : World} {A : Option Addr} {c : Nat} {rs : List IRow} (h : OwnI base w A c rs) (hb : Below w.heap.size w w') : OwnI base w' A c rs :=
  ⟨own_below h.own hb (Nat.le_refl _), fun r hr => own_below (h.rows r hr) hb (Nat.le_refl _)⟩
theorem OwnI.mono {base base' : Nat} {w : World} {A : Option Addr} {c : Nat} {rs : List IRow} (h : OwnI base w A c rs) (hb : base' ≤ base) : OwnI base' w A c rs := ⟨own_base h.own hb, fun r hr => own_base (h.rows r hr) hb⟩
theorem OwnI.push {base : Nat} {w w' : World} {A : Option Addr} {c : Nat} {rs : List IRow} {r : IRow} {A' : Option Addr} {c' : Nat} (h : OwnI base w A c rs) (hr : w.ownsRow base 3 1 (.slice r.A r.l.length r.c) r.l.length (r.l.map vi)) (hg : w.grownBy w' (Value.slice A rs.length c).ownBlock)
    (h' : w'.ownsRow base 41 1 (.slice A' (rs.length + 1) c') (rs.length + 1) (rs.map IRow.cell ++ [r.cell])) : OwnI base w' A' c' (rs ++ [r]) := by
  refine ⟨?_, fun x hx => ?_⟩
  · rw [List.length_append, List.map_append]
    simpa using h'
  · rcases List.mem_append.1 hx with hx | hx
    · exact (h.rows x hx).kept hg (own_ne (h.rows x hx) h.own (by decide))
    · rw [List.mem_singleton.1 hx]; exact hr.kept hg (own_ne hr h.own (by decide))
/-- A row of integers grows. -/
theorem OwnI.lists {base : Nat} {w : World} {A : Option Addr} {c : Nat} {rs : List IRow} (h : OwnI base w A c rs) {k : Nat} (hk : k < rs.length) : ∃ ad, A = some ad ∧ w.cell? (ad.add k) = some (.slice rs[k].A rs[k].l.length rs[k].c) ∧ Ints w rs[k].A rs[k].l := by
  obtain ⟨ad, e, hc⟩ := Sl.at1 (Sl.own h.own) hk
  exact ⟨ad, e, by simpa [IRow.cell] using hc, Sl.own (h.rows _ (List.getElem_mem hk))⟩
/-- append of integers onto a row of the call's own, from any slice. -/
theorem wpList_app_ints {ops : Array Oper} {rest : List Oper} {o : Oper} {a : Act} {Q : Exit → Act → World → Prop} (w : World) (hgd : o.guard = none) (s x : Operand)
    (ho : o.op = .call { callee := .builtin .append, args := #[s, x], argTypes := #[41, 41] }) (base : Nat) (v : Value) (n : Nat) (xs : List Value) (hs : a.eval s = v) (hown : w.ownsRow base 3 1 v n xs) (hv : ∃ ad c, v = .slice (some ad) n c)
    (E : Option Addr) (m ce : Nat) (el : List Int) (hm : el.length = m) (hx : a.eval x = .slice E m ce) (hI : Ints w E el) (hn : n + m ≤ 1000000) (hbase : base ≤ w.heap.size)
    (h : ∀ A c w', w'.ownsRow base 3 1 (.slice A (n + m) c) (n + m) (xs ++ el.map vi) → w.grownBy w' v.ownBlock → wpList Tryz.prog ops Q rest (a.put o.dst (.slice A (n + m) c)) w') : wpList Tryz.prog ops Q (o :: rest) a w := by
  subst hm
  obtain ⟨ii, hii, iz0, iz1, iz2⟩ := info_parts iint_info
  by_cases h0 : el = []
  · subst h0
    obtain ⟨ad, c, rfl⟩ := hv
    have hx' : a.eval x = .slice E 0 ce := hx
    have hr : (Builtin.append_ #[41, 41] o.type #[.slice (some ad) n c, .slice E 0 ce]).run Tryz.prog w = .ok (.slice (some ad) n c) w := by
      rcases hown.2 with ⟨e, _⟩ | ⟨g, cap, cur, e, _, hg, hnc, _⟩
      · cases e
      · injection e with e1 e2 e3
        injection e1 with e1
        subst e1 e3
        have hS : Src Tryz.prog ii.size 41 (.slice E 0 ce) 0 [] w := by
          cases E with
          | none => exact Src.ofNil _ Tryz.underlying41 ce
          | some ad => exact Src.ofSlice _ Tryz.underlying41 ad 0 ce [] (by simp) (by simp) (by simp)
        have := run_append_room_src (P := Tryz.prog) w 41 41 o.type 3 ii Tryz.underlying41 hii g 0 n c (.slice E 0 ce) 0 [] hS (by simpa using hnc) (by simp) (by simp)
        simpa [World.setCells] using this
    refine wpList_plain hgd fun K hK => ?_
    unfold Oper.wp execOp
    simp only [ho, resolve, invoke, builtin, Sem.run_bind, Sem.run_pure, Result.andThen_ok, List.map_toArray, List.map_cons, List.map_nil, hs, hx', hr]
    refine hK _ _ (h (some ad) c w ?_ (World.grownBy.refl _ _))
    simpa using hown
  · have hp : 0 < el.length := List.length_pos_iff.2 h0
    obtain ⟨ad, rfl, _, hc⟩ := hI.lies hp
    refine wpList_append_own w hgd s x 41 ho base 3 ii (.int .i64 0) 1 8 Tryz.underlying41 hii iz0 iz1 iz2 rfl (by decide) v n xs hs hown ad el.length ce (el.map vi) hx (by simp) hc (by simp [vi, Value.oneCell']) (by simp only [maxLen]; omega) (by omega) hbase ?_
    intro v' w' hown' hgrow _
    obtain ⟨A, c, rfl, _, _⟩ := Sl.of_own hown'
    exact h A c w' hown' hgrow
end Go.Proofs.Tg
end
section
/- The program's list of monomials: appendDegree. -/
namespace Go.Proofs.Tg
open Go.RowKit Go.Mm
set_option maxHeartbeats 8000000
set_option maxRecDepth 100000
/-- What a call leaves that appends rows to a list. -/
def RetApp (base : Nat) (w : World) (A : Option Addr) (c : Nat) (rs : List IRow) (ms : List (List Int)) (e : Ending) (w' : World) : Prop :=
  ∃ A' c' rs', e = .returned (.slice A' (List.length rs') c') ∧ OwnI base w' A' c' rs' ∧ rs'.map IRow.l = rs.map IRow.l ++ ms ∧ w.grownBy w' (Value.slice A rs.length c).ownBlock ∧ ((Value.slice A' rs'.length c').ownBlock = (Value.slice A rs.length c).ownBlock ∨ ∃ k, (Value.slice A' rs'.length c').ownBlock = some k ∧ w.heap.size ≤ k)
structure ApSt (base : Nat) (w : World) (A : Option Addr) (c : Nat) (rs : List IRow) (ms : List (List Int)) (wr : World) (A' : Option Addr) (c' : Nat) (rs' : List IRow) : Prop where
  own : OwnI base wr A' c' rs'
  eq : rs'.map IRow.l = rs.map IRow.l ++ ms
  grown : w.grownBy wr (Value.slice A rs.length c).ownBlock
  at_ : (Value.slice A' rs'.length c').ownBlock = (Value.slice A rs.length c).ownBlock ∨ ∃ k, (Value.slice A' rs'.length c').ownBlock = some k ∧ w.heap.size ≤ k
theorem own_keep0 {w w' : World} {b sz n : Nat} {t t' : TypeId} {v v' : Value} {xs ys : List Value} {b' sz' n' : Nat} (h : w.ownsRow b t sz v n xs) (hg : w.grownBy w' v'.ownBlock) (h' : w.ownsRow b' t' sz' v' n' ys) (hne : t ≠ t') : w'.ownsRow b t sz v n xs := h.kept hg (own_ne h h' hne)
theorem grown_chain {w V V' : World} {r v' : Option Nat} (h : w.grownBy V r) (hg : V.grownBy V' v') (hv : v' = r ∨ ∃ k, v' = some k ∧ w.heap.size ≤ k) : w.grownBy V' r := by
  refine ⟨hg.os.trans h.os, hg.tape.trans h.tape, hg.output.trans h.output, Nat.le_trans h.size hg.size, fun k hk hkr => (hg.block k (Nat.lt_of_lt_of_le hk h.size) ?_).trans (h.block k hk hkr)⟩
  rcases hv with rfl | ⟨j, rfl, hj⟩
  · exact hkr
  · intro e; injection e with e; omega
theorem grown_below {w V V' : World} {r : Option Nat} (h : w.grownBy V r) (hb : Below V.heap.size V V') : w.grownBy V' r :=
  grown_chain h (⟨hb.os, hb.tape, hb.output, hb.size, fun k hk _ => hb.block k hk⟩ : V.grownBy V' r) (.inl rfl)
theorem appdeg_any (n : Nat) : ∀ (d base : Nat) (w : World) (A : Option Addr) (c : Nat) (rs : List IRow) (T : Option Addr) (ct : Nat) (tl : List Int), OwnI base w A c rs → base ≤ w.heap.size → w.ownsRow 0 3 1 (.slice T tl.length ct) tl.length (tl.map vi) → rs.length + (exactL n d).length ≤ 100000 → tl.length + n ≤ 100 → d ≤ 1000 → n ≤ 100 →
    Calls Tryz.prog 65 #[.slice A rs.length c, .int .i64 (n : Nat), .int .i64 (d : Nat), .slice T tl.length ct] w (RetApp base w A c rs ((exactL n d).map (· ++ tl))) := by
  induction n with
  | zero =>
    intro d base w A c rs T ct tl hO hbase hT hl ht hd _
    by_cases h0 : d = 0
    · subst h0
      obtain ⟨j0, hj, jz0, jz1, jz2⟩ := info_parts irow_info
      have e0 : (exactL 0 0).map (· ++ tl) = [tl] := by simp [exactL]
      rw [e0]
      have hrl : rs.length ≤ 100000 := by omega
      obtain ⟨nr, hnr⟩ : ∃ x, rs.length = x := ⟨_, rfl⟩
      obtain ⟨nt, hnt⟩ : ∃ x, tl.length = x := ⟨_, rfl⟩
      have HO := Lib.hid hO
      have HT := Lib.hid hT
      have hown := hO.own
      unfold RetApp
      rw [hnr] at hrl hown ⊢
      rw [hnt] at ht ⊢
      have HNR := Lib.hid hnr
      have HNT := Lib.hid hnt
      clear hl hnr hnt hO hT e0
      have hownA := hown.alloc (.cells #[] 3)
      have hO0 : (w.alloc (.cells #[] 3)).ownsRow w.heap.size 3 1 (.slice (some ⟨w.heap.size, 0, none⟩) 0 0) 0 [] := World.ownsRow_lit w #[] 0 (Nat.le_refl _) (by simp) (by simp)
      go_enter Tryz.func65, Tryz.ntmps65
      go_wp2_with (first
        | (at_builtin; refine wpList_app_ints _ rfl _ _ rfl w.heap.size (.slice (some ⟨w.heap.size, 0, none⟩) 0 0) 0 [] rfl hO0 ⟨_, _, rfl⟩ T nt ct tl HNT.out rfl ((Sl.own HT.out).alloc _) (by omega) (by simp) ?_))
      intro E ce w2 hE hgE
      have hb2 : Below w.heap.size w w2 := ((Below.refl w.heap.size w).alloc (Nat.le_refl _) _).grown hgE (by simp) (fun k hk => by simp [Value.ownBlock] at hk; omega)
      have hown2 := own_below hown hb2 (Nat.le_refl _)
      have hbz : base ≤ w2.heap.size := Nat.le_trans hbase hb2.size
      clear hownA hO0 hgE
      go_wp2_with (first
        | (at_builtin; refine wpList_append_own_at _ rfl _ _ 80 rfl base 41 j0 _ 1 24 Tryz.underlying80 hj jz0 jz1 jz2 rfl (by decide) (.slice A nr c) nr _ rfl (hown2.alloc _) ⟨w2.heap.size, 0, none⟩ 1 1 [.slice E nt ce] rfl rfl ?c1 ?c2 ?c3 ?c4 ?c5 ?_
           case c1 => exact cell_one_new _ _ _
           case c2 => simp [Value.oneCell']
           case c3 => simp only [maxLen]; omega
           case c4 => omega
           case c5 => simp; omega
           intro v' w5 hown' hgrow _ hat))
      go_ret
      obtain ⟨A2, cs2, hv2, _, _⟩ := Sl.of_own hown'
      subst hv2
      have hal := Below.alloc (Below.refl w2.heap.size w2) (Nat.le_refl _) (.cells #[.slice E nt ce] 41)
      refine ⟨A2, cs2, rs ++ [⟨E, ce, tl⟩], by rw [List.length_append, HNR.out]; rfl, ?_, by simp, ?_, ?_⟩
      · refine OwnI.push ((HO.out.keep hb2).keep hal) ?_ (by rw [HNR.out]; exact hgrow) ?_
        · rw [HNT.out]; exact (own_base hE hbase).alloc _
        · rw [HNR.out]
          have e : IRow.cell ⟨E, ce, tl⟩ = .slice E nt ce := by unfold IRow.cell; rw [HNT.out]
          rw [e]; exact hown'
      · exact grown_chain (grown_below (World.grownBy.refl w _) (below_all hb2 hal)) hgrow (.inl rfl)
      · rw [List.length_append, HNR.out]
        rcases hat with h | h
        · exact .inl h
        · exact .inr ⟨_, h, by have := hb2.size; simp; omega⟩
    · have e0 : (exactL 0 d).map (· ++ tl) = [] := by unfold exactL; rw [if_neg h0]; rfl
      rw [e0]
      have hd0 : decide ((0 : Int) < (d : Int)) = true := decide_eq_true (by omega)
      have hd0' : decide (0 < d) = true := decide_eq_true (by omega)
      have HO := Lib.hid hO
      unfold RetApp
      obtain ⟨nr, hnr⟩ : ∃ x, rs.length = x := ⟨_, rfl⟩
      obtain ⟨nt, hnt⟩ : ∃ x, tl.length = x := ⟨_, rfl⟩
      rw [hnr, hnt]
      have HNR := Lib.hid hnr
      clear hl hO hT hnr hnt ht e0
      go_enter Tryz.func65, Tryz.ntmps65
      go_wp2
      go_ret
      exact ⟨A, c, rs, by rw [HNR.out]; rfl, HO.out, by simp, World.grownBy.refl _ _, .inl (by rw [HNR.out])⟩
  | succ n ih =>
    intro d base w A c rs T ct tl hO hbase hT hl ht hd hn
    have IH := Lib.hid ih
    have HL := Lib.hid hl
    have HT := Lib.hid hT
    have HO0 := Lib.hid hO.own
    have HQ : Hid ((exTo n d (d + 1)).map (· ++ tl) = (exactL (n + 1) d).map (· ++ tl)) := Lib.hid (by rw [exTo_all])
    have HST : Hid (ApSt base w A c rs ((exTo n d 0).map (· ++ tl)) w A c rs) := Lib.hid ⟨hO, by simp [exTo_zero], World.grownBy.refl _ _, .inl rfl⟩
    have HLE := Lib.hid (exTo_le n d)
    unfold RetApp
    rw [← HQ.out]
    have nz : (((n : Int) + 1) == 0) = false := beq_eq_false_iff_ne.2 (by omega)
    have nz' : (((n + 1 : Nat) : Int) == 0) = false := beq_eq_false_iff_ne.2 (by omega)
    have hc1 : ((n + 1 : Nat) : Int) = (n : Int) + 1 := by omega
    rw [hc1]
    obtain ⟨nt, hnt⟩ : ∃ x, tl.length = x := ⟨_, rfl⟩
    rw [hnt] at ht ⊢
    have HNT := Lib.hid hnt
    clear ih hl hO hT hnt
    go_enter Tryz.func65, Tryz.ntmps65
    go_wp2
    go_loopw [0, 9] (fun s0 s9 wr => ∃ (j : Nat) (i : Int) (A' : Option Addr) (c' : Nat) (rs' : List IRow), s0 = .slice A' rs'.length c' ∧ s9 = .int .i64 i ∧ j ≤ d + 1 ∧ i = (d : Int) - (j : Int) ∧ Hid (ApSt base w A c rs ((exTo n d j).map (· ++ tl)) wr A' c' rs')) (fun _ s9 _ => (intOf s9 + 1).toNat)
    case atStart => exact ⟨0, d, A, c, rs, rfl, rfl, by omega, by simp, HST⟩
    case round =>
      clear HST
      obtain ⟨wo, rfl⟩ : ∃ wo : World, wo = wr := ⟨_, rfl⟩
      obtain ⟨j, i, A', c', rs', rfl, rfl, hj, hi, HST⟩ := hrel
      by_cases hjd : j = d + 1
      · have hi0 : decide ((0 : Int) ≤ i) = false := decide_eq_false (by omega)
        have HJ := Lib.hid hjd
        clear hjd hi
        go_wp2
        go_ret
        have h := HST.out
        rw [HJ.out] at h
        exact ⟨A', c', rs', rfl, h.own, h.eq, h.grown, h.at_⟩
      · have hj2 : j ≤ d := by omega
        have hi2 : (0 : Int) ≤ i := by omega
        have hi1 : decide ((0 : Int) ≤ i) = true := decide_eq_true hi2
        have w1 : IntKind.i64.wrap ((d : Int) - i) = (j : Int) := by
          rw [show (d : Int) - i = (j : Int) by omega]; exact IntWalk.i64_in _ (by omega)
        have w3 : IntKind.i64.wrap (i - 1) = i - 1 := IntWalk.i64_in _ (by omega)
        have HI : Hid (i = ((d - j : Nat) : Int)) := Lib.hid (by omega)
        have HTO := Lib.hid (own_keep0 HT.out HST.out.grown HO0.out (by decide))
        have hsz : w.heap.size ≤ wo.heap.size := HST.out.grown.size
        have hrl : rs'.length + (exactL n j).length ≤ 100000 := by
          have h1 := congrArg List.length HST.out.eq
          simp only [List.length_map, List.length_append] at h1
          have h2 := HLE.out (j + 1) (by omega)
          rw [exTo_len] at h2
          have h3 := HL.out
          omega
        have hRL := Lib.hid hrl
        obtain ⟨nr, hnr⟩ : ∃ x, rs'.length = x := ⟨_, rfl⟩
        rw [hnr]
        have HNR := Lib.hid hnr
        have hO1 : (wo.alloc (.cells #[.int .i64 i] 3)).ownsRow wo.heap.size 3 1 (.slice (some ⟨wo.heap.size, 0, none⟩) 1 1) 1 [.int .i64 i] := World.ownsRow_lit wo #[.int .i64 i] 1 (Nat.le_refl _) (by simp [maxLen]) rfl
        clear hrl hnr hi hjd
        go_wp2_with (first
          | (at_builtin; refine wpList_app_ints _ rfl _ _ rfl wo.heap.size (.slice (some ⟨wo.heap.size, 0, none⟩) 1 1) 1 [.int .i64 i] rfl hO1 ⟨_, _, rfl⟩ T nt ct tl HNT.out rfl ((Sl.own HTO.out).alloc _) (by omega) (by simp) ?_
             intro E ce w2 hE hgE))
        have hb2 : Below wo.heap.size wo w2 := ((Below.refl wo.heap.size wo).alloc (Nat.le_refl _) _).grown hgE (by simp) (fun k hk => by simp [Value.ownBlock] at hk; omega)
        have hOI := HST.out.own.keep hb2
        have htl : (i :: tl).length = 1 + nt := by rw [List.length_cons, HNT.out]; omega
        have hE2 : w2.ownsRow 0 3 1 (.slice E (i :: tl).length ce) (i :: tl).length ((i :: tl).map vi) := by
          rw [htl]
          exact own_base hE (Nat.zero_le _)
        have HC := IH.out j base w2 A' c' rs' E ce (i :: tl) hOI (by have := hb2.size; omega) hE2 hRL.out (by rw [htl]; omega) (by omega) (by omega)
        rw [htl, HNR.out] at HC
        unfold RetApp at HC
        rw [HNR.out] at HC
        have HC := Lib.hid HC
        have HB2 := Lib.hid hb2
        clear hOI htl hE2 hE hgE hO1 hb2
        go_wp2_with (fail)
        refine HC.out.mono ?_
        rintro e w5 ⟨A5, c5, rs5, rfl, hO5, he5, hg5, hat5⟩
        go_wp2
        go_roundw
        case rel =>
          refine ⟨j + 1, i - 1, A5, c5, rs5, rfl, by go_num, by omega, by have := HI.out; omega, Lib.hid ⟨hO5, ?_, ?_, ?_⟩⟩
          · rw [he5, HST.out.eq, exTo_succ, ← HI.out]
            simp [List.append_assoc]
          · refine grown_chain (grown_below HST.out.grown HB2.out) hg5 ?_
            have := HST.out.at_
            rw [HNR.out] at this
            exact this
          · have h1 := HST.out.at_
            rw [HNR.out] at h1
            rcases hat5 with h | ⟨k, h, hk⟩
            · rcases h1 with h1 | ⟨k1, h1, hk1⟩
              · exact .inl (h.trans h1)
              · exact .inr ⟨k1, h.trans h1, hk1⟩
            · exact .inr ⟨k, h, by have := HB2.out.size; omega⟩
        case measure => simp [intOf]; omega
end Go.Proofs.Tg
end
section
/- The reference's list of monomials: exact. -/
namespace Go.Proofs.Tg
open Go.RowKit Go.Mm
set_option maxHeartbeats 8000000
set_option maxRecDepth 100000
theorem OwnI.apart {base : Nat} {w w' : World} {A : Option Addr} {c : Nat} {rs : List IRow} {b' n' : Nat} {v' : Value} {ys : List Value} (h : OwnI base w A c rs) (ho : w.ownsRow b' 41 1 v' n' ys) (hg : w.grownBy w' v'.ownBlock) (hne : ∀ b, (Value.slice A rs.length c).ownBlock = some b → v'.ownBlock ≠ some b) : OwnI base w' A c rs := by
  refine ⟨h.own.kept hg ?_, fun r hr => (h.rows r hr).kept hg (own_ne (h.rows r hr) ho (by decide))⟩
  cases hb : (Value.slice A rs.length c).ownBlock with
  | none => exact .inl rfl
  | some b => exact .inr (fun e => hne b hb e.symm)
/-- The inner loop of exact. -/
structure ExIn (base : Nat) (w : World) (A : Option Addr) (c : Nat) (rs : List IRow) (ms : List (List Int)) (bR : Nat) (RA : Option Addr) (rc : Nat) (rr : List IRow) (wr : World) (A' : Option Addr) (c' : Nat) (rs' : List IRow) : Prop where
  st : ApSt base w A c rs ms wr A' c' rs'
  rest : OwnI bR wr RA rc rr
  apart : ∀ b, (Value.slice RA rr.length rc).ownBlock = some b → (Value.slice A' rs'.length c').ownBlock ≠ some b
theorem exact_ref (n : Nat) : ∀ (d base : Nat) (w : World) (A : Option Addr) (c : Nat) (rs : List IRow), OwnI base w A c rs → base ≤ w.heap.size → rs.length + (exactL (n + 1) d).length ≤ 100000 → n ≤ 90 → d ≤ 1000 →
    Calls Tryz.prog 86 #[.slice A rs.length c, .int .i64 ((n + 1 : Nat) : Int), .int .i64 (d : Nat)] w (RetApp base w A c rs (exactL (n + 1) d)) := by
  induction n with
  | zero =>
    intro d base w A c rs hO hbase hl hn hd
    obtain ⟨j0, hj, jz0, jz1, jz2⟩ := info_parts irow_info
    rw [exact_one] at hl ⊢
    have hrl : rs.length ≤ 100000 := by omega
    obtain ⟨nr, hnr⟩ : ∃ x, rs.length = x := ⟨_, rfl⟩
    have HO := Lib.hid hO
    have hown := hO.own
    unfold RetApp
    rw [hnr] at hrl hown ⊢
    have HNR := Lib.hid hnr
    clear hl hnr hO
    have hO1 : (w.alloc (.cells #[.int .i64 (d : Nat)] 3)).ownsRow w.heap.size 3 1 (.slice (some ⟨w.heap.size, 0, none⟩) 1 1) 1 [.int .i64 (d : Nat)] := World.ownsRow_lit w #[.int .i64 (d : Nat)] 1 (Nat.le_refl _) (by simp [maxLen]) rfl
    obtain ⟨w2, hw2⟩ : ∃ w2, w.alloc (.cells #[.int .i64 (d : Nat)] 3) = w2 := ⟨_, rfl⟩
    rw [hw2] at hO1
    have hb2 : Below w.heap.size w w2 := by rw [← hw2]; exact (Below.refl _ _).alloc (Nat.le_refl _) _
    have hown2 := own_below hown hb2 (Nat.le_refl _)
    have hbz : base ≤ w2.heap.size := Nat.le_trans hbase hb2.size
    have hs2 : w2.heap.size = w.heap.size + 1 := by rw [← hw2]; simp
    have hcn := cell_one_new w2 (.slice (some ⟨w.heap.size, 0, none⟩) 1 1) 41
    rw [hs2] at hcn
    have HCN := Lib.hid hcn
    have HW2 := Lib.hid hw2
    clear hw2 hown hcn
    rw [show ((0 + 1 : Nat) : Int) = 1 from rfl]
    go_enter Tryz.func86, Tryz.ntmps86
    go_wp2_with (first
      | (at_builtin; rw [HW2.out]; refine wpList_append_own_at _ rfl _ _ 80 rfl base 41 j0 _ 1 24 Tryz.underlying80 hj jz0 jz1 jz2 rfl (by decide) (.slice A nr c) nr _ rfl (hown2.alloc _) ⟨w.heap.size + 1, 0, none⟩ 1 1 [.slice (some ⟨w.heap.size, 0, none⟩) 1 1] rfl rfl ?c1 ?c2 ?c3 ?c4 ?c5 ?_
         case c1 => exact HCN.out
         case c2 => simp [Value.oneCell']
         case c3 => simp only [maxLen]; omega
         case c4 => omega
         case c5 => simp; omega
         intro v' w5 hown' hgrow _ hat))
    go_ret
    obtain ⟨A2, cs2, hv2, _, _⟩ := Sl.of_own hown'
    subst hv2
    have hal := Below.alloc (Below.refl w2.heap.size w2) (Nat.le_refl _) (.cells #[.slice (some ⟨w.heap.size, 0, none⟩) 1 1] 41)
    refine ⟨A2, cs2, rs ++ [⟨some ⟨w.heap.size, 0, none⟩, 1, [(d : Int)]⟩], by rw [List.length_append, HNR.out]; rfl, ?_, by simp, ?_, ?_⟩
    · refine OwnI.push ((HO.out.keep hb2).keep hal) ?_ (by rw [HNR.out]; exact hgrow) ?_
      · exact (own_base hO1 hbase).alloc _
      · rw [HNR.out]; exact hown'
    · exact grown_chain (grown_below (World.grownBy.refl w _) (below_all hb2 hal)) hgrow (.inl rfl)
    · rw [List.length_append, HNR.out]
      rcases hat with h | h
      · exact .inl h
      · exact .inr ⟨_, h, by have := hb2.size; simp; omega⟩
  | succ n ih =>
    intro d base w A c rs hO hbase hl hn hd
    have IH := Lib.hid ih
    have HL := Lib.hid hl
    have HQ : Hid (exTo (n + 1) d (d + 1) = exactL (n + 1 + 1) d) := Lib.hid (exTo_all _ _)
    have HST : Hid (ApSt base w A c rs (exTo (n + 1) d 0) w A c rs) := Lib.hid ⟨hO, by simp [exTo_zero], World.grownBy.refl _ _, .inl rfl⟩
    have HLE := Lib.hid (exTo_le (n + 1) d)
    unfold RetApp
    rw [← HQ.out]
    obtain ⟨N, hN⟩ : ∃ N, n + 1 + 1 = N := ⟨_, rfl⟩
    rw [hN] at HL HLE
    rw [hN]
    have nz : ((N : Int) == 0) = false := beq_eq_false_iff_ne.2 (by omega)
    have nz1 : ((N : Int) == 1) = false := beq_eq_false_iff_ne.2 (by omega)
    have nz' : (N == 0) = false := beq_eq_false_iff_ne.2 (by omega)
    have nz1' : (N == 1) = false := beq_eq_false_iff_ne.2 (by omega)
    have hNw : IntKind.i64.wrap ((N : Int) - 1) = ((n + 1 : Nat) : Int) := by
      rw [show (N : Int) - 1 = ((n + 1 : Nat) : Int) by omega]; exact IntWalk.i64_in _ (by omega)
    obtain ⟨M, hM⟩ : ∃ M, n + 1 = M := ⟨_, rfl⟩
    rw [hM] at IH HLE HST hNw
    rw [hM]
    have hMn : M ≤ 91 := by omega
    have HMN : Hid (M = n + 1) := Lib.hid hM.symm
    clear ih hl hO hN HQ hM
    go_enter Tryz.func86, Tryz.ntmps86
    go_wp2
    go_loopw [0, 7] (fun s0 s7 wr => ∃ (j : Nat) (i : Int) (A' : Option Addr) (c' : Nat) (rs' : List IRow), s0 = .slice A' rs'.length c' ∧ s7 = .int .i64 i ∧ j ≤ d + 1 ∧ i = (d : Int) - (j : Int) ∧ Hid (ApSt base w A c rs (exTo M d j) wr A' c' rs')) (fun _ s7 _ => (intOf s7 + 1).toNat)
    case atStart => exact ⟨0, d, A, c, rs, rfl, rfl, by omega, by simp, HST⟩
    case round =>
      clear HST
      obtain ⟨wo, rfl⟩ : ∃ wo : World, wo = wr := ⟨_, rfl⟩
      obtain ⟨j, i, A', c', rs', rfl, rfl, hj, hi, HST⟩ := hrel
      by_cases hjd : j = d + 1
      · have hi0 : decide ((0 : Int) ≤ i) = false := decide_eq_false (by omega)
        have HJ := Lib.hid hjd
        clear hjd hi
        go_wp2
        go_ret
        have h := HST.out
        rw [HJ.out] at h
        exact ⟨A', c', rs', rfl, h.own, h.eq, h.grown, h.at_⟩
      · have hj2 : j ≤ d := by omega
        have hi2 : (0 : Int) ≤ i := by omega
        have hi1 : decide ((0 : Int) ≤ i) = true := decide_eq_true hi2
        have w1 : IntKind.i64.wrap ((d : Int) - i) = (j : Int) := by
          rw [show (d : Int) - i = (j : Int) by omega]; exact IntWalk.i64_in _ (by omega)
        have w3 : IntKind.i64.wrap (i - 1) = i - 1 := IntWalk.i64_in _ (by omega)
        have HI : Hid (i = ((d - j : Nat) : Int)) := Lib.hid (by omega)
        have hrl : rs'.length + (exactL M j).length ≤ 100000 := by
          have h1 := congrArg List.length HST.out.eq
          simp only [List.length_map, List.length_append] at h1
          have h2 := HLE.out (j + 1) (by omega)
          rw [exTo_len] at h2
          have h3 := HL.out
          omega
        have hRL := Lib.hid hrl
        have HC := IH.out j wo.heap.size wo none 0 [] (OwnI.nil _ _) (Nat.le_refl _) (by simp; omega) (by omega) (by omega)
        unfold RetApp at HC
        rw [List.length_nil, List.map_nil, List.nil_append] at HC
        have HC := Lib.hid HC
        clear hrl hi hjd
        go_wp2_with (fail)
        refine HC.out.mono ?_
        rintro e w2 ⟨RA, rc, rr, rfl, hR, hre, hgR, _⟩
        have hb2 : Below wo.heap.size wo w2 := (Below.refl _ _).grown hgR (Nat.le_refl _) (fun k hk => by simp [Value.ownBlock] at hk)
        obtain ⟨q, hq⟩ : ∃ q, rr.length = q := ⟨_, rfl⟩
        have hql : q = (exactL M j).length := by rw [← hq, ← hre, List.length_map]
        have HIN : Hid (ExIn base w A c rs (exTo M d j ++ ((exactL M j).take 0).map (· ++ [i])) wo.heap.size RA rc rr w2 A' c' rs') := Lib.hid (by
          have h := HST.out
          refine ⟨⟨h.own.keep hb2, by rw [h.eq]; simp, grown_below h.grown hb2, h.at_⟩, hR, fun b hb e => ?_⟩
          have h1 := (hR.own.lt b hb).1
          have h2 := (h.own.own.lt b e).2
          omega)
        rw [hq]
        have HQL := Lib.hid hql
        have HRE := Lib.hid hre
        have HQ2 := Lib.hid hq
        have hzo : w.heap.size ≤ wo.heap.size := HST.out.grown.size
        have hq5 : q ≤ 100000 := by have := hRL.out; omega
        have HTA : Hid ((exactL M j).take q = exactL M j) := Lib.hid (by rw [hql, List.take_length])
        clear hR hre hgR hb2 HC hql hq
        go_wp2
        go_loopw [0, 9] (fun s0 s9 wr => ∃ (t : Nat) (A' : Option Addr) (c' : Nat) (rs' : List IRow), s0 = .slice A' rs'.length c' ∧ s9 = .int .i64 (t : Nat) ∧ t ≤ q ∧ Hid (ExIn base w A c rs (exTo M d j ++ ((exactL M j).take t).map (· ++ [i])) wo.heap.size RA rc rr wr A' c' rs')) (fun _ s9 _ => q - (intOf s9).toNat)
        case atStart => exact ⟨0, A', c', rs', rfl, rfl, Nat.zero_le _, HIN⟩
        case round =>
          clear HIN HST
          obtain ⟨wi, rfl⟩ : ∃ wi : World, wi = wr := ⟨_, rfl⟩
          obtain ⟨t, A', c', rs', rfl, rfl, ht, HIN⟩ := hrel
          by_cases htq : t = q
          · have e1 : decide ((t : Int) < (q : Int)) = false := decide_eq_false (by omega)
            have e1' : decide (t < q) = false := decide_eq_false (by omega)
            have HTQ := Lib.hid htq
            clear htq
            go_wp2
            go_roundw
            case rel =>
              refine ⟨j + 1, i - 1, A', c', rs', rfl, by go_num, by omega, by have := HI.out; omega, Lib.hid ?_⟩
              have h := HIN.out.st
              rw [HTQ.out, HTA.out, HI.out, ← exTo_succ] at h
              exact h
            case measure => simp [intOf]; omega
          · have htl : t < q := by omega
            have e1 : decide ((t : Int) < (q : Int)) = true := decide_eq_true (by omega)
            have e1' : decide (t < q) = true := decide_eq_true htl
            have q0 : (0 : Int) ≤ (t : Int) := by omega
            have q1 : (t : Int) < (q : Int) := by omega
            have htr : t < rr.length := by rw [HQ2.out]; exact htl
            have hte : t < (exactL M j).length := by rw [← HQL.out]; exact htl
            obtain ⟨ad, hRA, hcR, hIR⟩ := HIN.out.rest.lists htr
            subst hRA
            have hrow : rr[t].l = (exactL M j)[t] := by
              have h1 : (rr.map IRow.l)[t]? = (exactL M j)[t]? := by rw [HRE.out]
              simpa [htr, hte] using h1
            have hmem : (exactL M j)[t] ∈ exactL M j := List.getElem_mem _
            have HTS : Hid ((exactL M j).take (t + 1) = (exactL M j).take t ++ [(exactL M j)[t]]) := Lib.hid (List.take_succ_eq_append_getElem hte)
            rw [hrow] at hcR hIR
            obtain ⟨mo, hmo⟩ : ∃ mo, (exactL M j)[t] = mo := ⟨_, rfl⟩
            rw [hmo] at hcR hIR hmem HTS
            have hmol := (exact_mem _ _ _ hmem).1
            rw [hmol] at hcR
            have HMOL := Lib.hid hmol
            have HIR := Lib.hid hIR
            have hsz : wo.heap.size ≤ wi.heap.size := by
              have h1 := HIN.out.rest.own.lt
              have h2 := (Sl.own HIN.out.rest.own).lies (by omega)
              obtain ⟨ad', e', hl', _⟩ := h2
              injection e' with e'
              subst e'
              rcases HIN.out.rest.own.2 with ⟨e2, _⟩ | ⟨g, cap, cur, e2, hg2, hh2, _⟩
              · cases e2
              · have := (Array.getElem?_eq_some_iff.1 hh2).1; omega
            have hrl : rs'.length + 1 ≤ 100001 := by
              have h1 := congrArg List.length HIN.out.st.eq
              simp only [List.length_map, List.length_append, List.length_take] at h1
              have h2 := HLE.out (j + 1) (by omega)
              rw [exTo_len] at h2
              have h3 := HL.out
              omega
            obtain ⟨nr, hnr⟩ : ∃ x, rs'.length = x := ⟨_, rfl⟩
            rw [hnr] at hrl ⊢
            have HNR := Lib.hid hnr
            generalize rr[t].A = mA at *
            generalize rr[t].c = mC at *
            have hO0 : (wi.alloc (.cells #[] 3)).ownsRow wi.heap.size 3 1 (.slice (some ⟨wi.heap.size, 0, none⟩) 0 0) 0 [] := World.ownsRow_lit wi #[] 0 (Nat.le_refl _) (by simp) (by simp)
            have hcR2 := cell_alloc hcR (.cells #[] 3)
            have hadl := World.block_lt_of_cell? wi _ hcR
            clear hrow hmo hmem hmol hIR hnr htq hte
            go_wp2_with (first
              | (at_builtin; refine wpList_app_ints _ rfl _ _ rfl wi.heap.size (.slice (some ⟨wi.heap.size, 0, none⟩) 0 0) 0 [] rfl hO0 ⟨_, _, rfl⟩ mA M mC mo HMOL.out rfl (HIR.out.alloc _) (by omega) (by simp) ?_
                 intro E ce w3 hE hgE
                 refine Hid.out ?_))
            refine Lib.hid ?_
            rw [Nat.zero_add] at *
            have hb3 : Below wi.heap.size wi w3 := ((Below.refl wi.heap.size wi).alloc (Nat.le_refl _) _).grown hgE (by simp) (fun k hk => by simp [Value.ownBlock] at hk; omega)
            rw [List.nil_append] at hE
            obtain ⟨gE, hEE⟩ : ∃ g, E = some g := by
              rcases hE.2 with ⟨e, h0⟩ | ⟨g, cap, cur, e, _⟩
              · have := HMN.out; omega
              · injection e with e; exact ⟨_, e⟩
            subst hEE
            have hIA : (w3.alloc (.cells #[.int .i64 i] 3)).ownsRow 0 3 1 (.slice (some ⟨w3.heap.size, 0, none⟩) 1 1) 1 [.int .i64 i] := own_base (World.ownsRow_lit w3 #[.int .i64 i] 1 (Nat.le_refl _) (by simp [maxLen]) rfl) (Nat.zero_le _)
            have hII : Ints (w3.alloc (.cells #[.int .i64 i] 3)) (some ⟨w3.heap.size, 0, none⟩) [i] := Sl.own hIA
            have hEA := hE.alloc (.cells #[.int .i64 i] 3)
            have HB3 := Lib.hid hb3
            have hz3 : wi.heap.size ≤ w3.heap.size := hb3.size
            clear hgE hO0 hcR hcR2 hb3 hE hIA
            go_wp2_with (first
              | (at_builtin; refine wpList_app_ints _ rfl _ _ rfl wi.heap.size (.slice (some gE) M ce) M (mo.map vi) rfl hEA ⟨_, _, rfl⟩ (some ⟨w3.heap.size, 0, none⟩) 1 1 [i] rfl rfl hII (by omega) (by simp; omega) ?_
                 intro E2 ce2 w4 hE2 hgE2
                 refine Hid.out ?_))
            refine Lib.hid ?_
            have hb4 : Below wi.heap.size wi w4 := (HB3.out.alloc hz3 _).grown hgE2 (by simp; omega) (fun k hk => (hEA.lt k hk).1)
            obtain ⟨j0, hj0, jz0, jz1, jz2⟩ := info_parts irow_info
            have hIN4 := HIN.out.st.own.keep hb4
            have hown4 := hIN4.own
            rw [HNR.out] at hown4
            have hbz4 : base ≤ w4.heap.size := Nat.le_trans hbase (Nat.le_trans hzo (Nat.le_trans hsz hb4.size))
            have HB4 := Lib.hid hb4
            have HE2 := Lib.hid hE2
            have HIN4 := Lib.hid hIN4
            clear hb4 hE2 hIN4 hgE2 hEA hII HB3
            go_wp2_with (first
              | (at_builtin; refine wpList_append_own_at _ rfl _ _ 80 rfl base 41 j0 _ 1 24 Tryz.underlying80 hj0 jz0 jz1 jz2 rfl (by decide) (.slice A' nr c') nr _ rfl (hown4.alloc _) ⟨w4.heap.size, 0, none⟩ 1 1 [.slice E2 (M + 1) ce2] rfl rfl ?c1 ?c2 ?c3 ?c4 ?c5 ?_
                 case c1 => exact cell_one_new _ _ _
                 case c2 => simp [Value.oneCell']
                 case c3 => simp only [maxLen]; omega
                 case c4 => omega
                 case c5 => simp; omega
                 intro v' w5 hown' hgrow _ hat))
            obtain ⟨A2, cs2, hv2, _, _⟩ := Sl.of_own hown'
            subst hv2
            have hal := Below.alloc (Below.refl w4.heap.size w4) (Nat.le_refl _) (.cells #[.slice E2 (M + 1) ce2] 41)
            have hml : (mo ++ [i]).length = M + 1 := by rw [List.length_append, HMOL.out]; rfl
            have hcell : IRow.cell ⟨E2, ce2, mo ++ [i]⟩ = .slice E2 (M + 1) ce2 := by unfold IRow.cell; rw [hml]
            have hz4 : wi.heap.size ≤ w4.heap.size := HB4.out.size
            go_roundw
            case rel =>
              refine ⟨t + 1, A2, cs2, rs' ++ [⟨E2, ce2, mo ++ [i]⟩], by rw [List.length_append, HNR.out]; rfl, by go_num, by omega, Lib.hid ⟨⟨?_, ?_, ?_, ?_⟩, ?_, ?_⟩⟩
              · refine OwnI.push (HIN4.out.keep hal) ?_ (by rw [HNR.out]; exact hgrow) ?_
                · rw [hml]
                  have := (own_base HE2.out (Nat.le_trans hbase (Nat.le_trans hzo hsz))).alloc (.cells #[.slice E2 (M + 1) ce2] 41)
                  simpa using this
                · rw [HNR.out, hcell]; exact hown'
              · rw [List.map_append, HIN.out.st.eq, HTS.out]
                simp [List.append_assoc]
              · have h1 := HIN.out.st.at_
                rw [HNR.out] at h1
                exact grown_chain (grown_below HIN.out.st.grown (below_all HB4.out hal)) hgrow h1
              · have h1 := HIN.out.st.at_
                rw [HNR.out] at h1
                rw [List.length_append, HNR.out]
                rcases hat with h | h
                · rcases h1 with h1 | ⟨k1, h1, hk1⟩
                  · exact .inl (h.trans h1)
                  · exact .inr ⟨k1, h.trans h1, hk1⟩
                · exact .inr ⟨_, h, by simp; omega⟩
              · have h1 := HIN.out.apart
                rw [HNR.out] at h1
                exact ((HIN.out.rest.keep HB4.out).keep hal).apart (hown4.alloc _) hgrow h1
              · intro b hb e
                have h1 := HIN.out.apart b hb
                rw [HNR.out] at h1
                rw [List.length_append, HNR.out] at e
                rcases hat with h | h
                · exact h1 (h.symm.trans e)
                · have h2 := (HIN.out.rest.own.lt b hb).2
                  have h3 := h.symm.trans e
                  injection h3 with h3
                  simp at h3
                  omega
            case measure => simp [intOf]; omega
end Go.Proofs.Tg
end
