/- Parts of the proof: WAP, XA0, XA2. -/
import Derived.Deep.AppendSrc
import Derived.Test.YtpkompfkhoceoaaGreatDoorMMV3
import Derived.Test.YtpkompfkhoceoaaGreatDoorMMV8
import Derived.Test.YtpkompfkhoceoaaGreatDoorMMV13
import Derived.Test.YtpkompfkhoceoaaGreatDoorMMV15
import Derived.Test.YtpkompfkhoceoaaGreatDoorMMV23
section
/- The program's Apply. -/
namespace Go.Proofs.Tg
open Go.RowKit Go.Gr Go.Ev Go.Qn Go.Mo
set_option maxHeartbeats 4000000
set_option maxRecDepth 100000
theorem But.own {g : Nat} {W W' : World} (h : But g W W') {base : Nat} {t : TypeId} {sz n : Nat} {v : Value} {xs : List Value} (ho : W.ownsRow base t sz v n xs) (hne : some g ≠ v.ownBlock) : W'.ownsRow base t sz v n xs := by
  refine ⟨ho.1, ?_⟩
  rcases ho.2 with h2 | ⟨g', cap, cur, rfl, hb, hg, r⟩
  · exact .inl h2
  · exact .inr ⟨g', cap, cur, rfl, hb, h.blk g' t cur (fun e => hne (by rw [e]; rfl)) hg, r⟩
theorem term_info : (Tryz.prog.info? 110).map (fun i => (i.zero, i.size, i.bytes)) = some (some (.agg #[.string ByteArray.empty, .slice none 0 0]), 2, 40) := by kernel_rfl
end Go.Proofs.Tg
end
section
/- The copy of a slice of numbers by append onto an empty slice of the call's own. -/
namespace Go.Proofs.Tg
open Go.RowKit
set_option maxHeartbeats 4000000
set_option maxRecDepth 100000
/-- At a step: the copy of a slice of numbers by append onto an empty slice of the call's own. -/
theorem step_clone {ops : Array Oper} {o : Oper} {a : Act} {K : Act → World → Prop} {Q : Exit → Act → World → Prop} {E0 : Prop} {w : World} (hgd : o.guard = none) (s x : Operand)
    (ho : o.op = .call { callee := .builtin .append, args := #[s, x], argTypes := #[41, 41] })
    (g0 base : Nat) (hs : a.eval s = .slice (some ⟨g0, 0, none⟩) 0 0) (hB : Blk w g0 3 #[]) (hb : base ≤ g0) (E : Option Addr) (ce : Nat) (el : List Int) (hx : a.eval x = .slice E el.length ce) (hI : Ints w E el) (hn : el.length ≤ 1000)
    (h : ∀ A c w', w'.ownsRow base 3 1 (.slice A el.length c) el.length (el.map vi) → Below g0 w w' → K (a.put o.dst (.slice A el.length c)) w') :
    if Region.wanted o (yielded ops a.tmps) = true then Oper.wp Tryz.prog o a w K Q else E0 := by
  have hw : Region.wanted o (yielded ops a.tmps) = true := by simp [Region.wanted, hgd]
  rw [if_pos hw]
  obtain ⟨ii, hii, iz0, iz1, iz2⟩ := info_parts int_info
  have hown : w.ownsRow base 3 1 (.slice (some ⟨g0, 0, none⟩) 0 0) 0 [] := ⟨rfl, .inr ⟨g0, 0, #[], rfl, hb, hB, Nat.le_refl _, by simp, by simp, by simp⟩⟩
  by_cases h0 : el = []
  · subst h0
    have hx' : a.eval x = .slice E 0 ce := hx
    have hr : (Builtin.append_ #[41, 41] o.type #[.slice (some ⟨g0, 0, none⟩) 0 0, .slice E 0 ce]).run Tryz.prog w = .ok (.slice (some ⟨g0, 0, none⟩) 0 0) w := by
      have hS : Src Tryz.prog ii.size 41 (.slice E 0 ce) 0 [] w := by
        cases E with
        | none => exact Src.ofNil _ Tryz.underlying41 ce
        | some ad => exact Src.ofSlice _ Tryz.underlying41 ad 0 ce [] (by simp) (by simp) (by simp)
      have := run_append_room_src (P := Tryz.prog) w 41 41 o.type 3 ii Tryz.underlying41 hii g0 0 0 0 (.slice E 0 ce) 0 [] hS (by simp) (by simp) (by simp)
      simpa [World.setCells] using this
    unfold Oper.wp execOp
    simp only [ho, resolve, invoke, builtin, Sem.run_bind, Sem.run_pure, Result.andThen_ok, List.map_toArray, List.map_cons, List.map_nil, hs, hx', hr]
    exact h (some ⟨g0, 0, none⟩) 0 w hown (Below.refl _ _)
  · have hp : 0 < el.length := List.length_pos_iff.2 h0
    obtain ⟨ad, rfl, _, hc⟩ := hI.lies hp
    have hlt := hB.lt
    refine wp_append_own w s x 41 ho base 3 ii (.int .i64 0) 1 8 Tryz.underlying41 hii iz0 iz1 iz2 rfl (by decide) _ 0 [] hs hown ad el.length ce (el.map vi) hx (by simp) hc (by simp [vi, Value.oneCell']) (by simp only [maxLen]; omega) (by omega) (by omega) ?_
    intro v' w' hown' hgrow _
    obtain ⟨A, c, rfl, _, _⟩ := Sl.of_own hown'
    have e : 0 + el.length = el.length := Nat.zero_add _
    rw [e] at hown' ⊢
    exact h A c w' hown' ((Below.refl _ _).grown hgrow (by omega) (fun j hj => by simp [Value.ownBlock] at hj; omega))
end Go.Proofs.Tg
end
section
/- The reference's Write: what it starts from and what its loop holds. -/
namespace Go.Proofs.Tg
open Go.RowKit Go.Gr Go.Mo Go.Qn
set_option maxHeartbeats 4000000
set_option maxRecDepth 100000
/-- The coefficient's cells hold the number with this text. -/
def RNm (w : World) (t : RT) (u : ByteArray) : Prop := ∃ b n m N cn D cd, n ≠ 0 ∧ n < 1000000000 ∧ m < 1000000000 ∧ m ≠ 0 ∧ t.c0 = .bool b ∧ t.c1 = .slice N (mg n).length cn ∧ t.c2 = .bool false ∧ t.c3 = .slice D (dl m).length cd ∧ Digs w N (mg n) ∧ Digs w D (dl m) ∧ bs (text b n m) = u
theorem RNm.keep {w w' : World} {t : RT} {s : ByteArray} (h : RNm w t s) (hb : Below w.heap.size w w') : RNm w' t s := by
  obtain ⟨b, n, m, N, cn, D, cd, h0, h2, h3, h4, h5, h6, h7, h8, h9, h10, h11⟩ := h
  exact ⟨b, n, m, N, cn, D, cd, h0, h2, h3, h4, h5, h6, h7, h8, h9.keep hb, h10.keep hb, h11⟩
theorem RNm.grown {w w' : World} {t : RT} {s : ByteArray} {ys : List Value} {b sz n : Nat} {ty : TypeId} {v : Value} (h : RNm w t s) (ho : w.ownsRow b ty sz v n ys) (hg : w.grownBy w' v.ownBlock) (hne : ty ≠ 137) : RNm w' t s := by
  obtain ⟨b, n, m, N, cn, D, cd, h0, h2, h3, h4, h5, h6, h7, h8, h9, h10, h11⟩ := h
  exact ⟨b, n, m, N, cn, D, cd, h0, h2, h3, h4, h5, h6, h7, h8, h9.grown ho hg hne, h10.grown ho hg hne, h11⟩
theorem RNm.far {w : World} {t : RT} {s : ByteArray} {g : Nat} {ty : TypeId} {cs : Array Value} (h : RNm w t s) (B : Blk w g ty cs) (hne : ty ≠ 137) (i : Nat) (u : Value) : RNm (w.setCell ⟨g, i, none⟩ u) t s := by
  obtain ⟨b, n, m, N, cn, D, cd, h0, h2, h3, h4, h5, h6, h7, h8, h9, h10, h11⟩ := h
  exact ⟨b, n, m, N, cn, D, cd, h0, h2, h3, h4, h5, h6, h7, h8, h9.far (h9.off_ty B hne) i u, h10.far (h10.off_ty B hne) i u, h11⟩
theorem RCo.rnm {w : World} {t : RT} {s : ByteArray} (h : RCo w t s) (hc : coefOk s = true) : RNm w t s := by
  obtain ⟨b, n, m, N, cn, D, cd, h1, h2, h3, h4, h5, h6, h7, h8, h9, h10⟩ := h
  obtain ⟨b', n', m', h1', h0⟩ := coef_some hc
  rw [h1] at h1'
  injection h1' with h1'
  injection h1' with e1 e2
  injection e2 with e2 e3
  subst e1 e2 e3
  refine ⟨b, n, m, N, cn, D, cd, h0, h2, h3, h4, h5, h6, h7, h8, h9, h10, ?_⟩
  rw [← (rd_some h1).2, bs_self]
theorem RCo.neg {w : World} {t : RT} {s : ByteArray} (h : RNm w t s) : ∃ b, t.c0 = .bool b ∧ RNm w { t with c0 := .bool (!b) } (negB s) := by
  obtain ⟨b, n, m, N, cn, D, cd, h0, h2, h3, h4, h5, h6, h7, h8, h9, h10, h11⟩ := h
  refine ⟨b, h5, !b, n, m, N, cn, D, cd, h0, h2, h3, h4, rfl, h6, h7, h8, h9, h10, ?_⟩
  subst h11
  unfold negB
  rw [show (bs (text b n m)).data.toList = text b n m by simp [bs], negL_text]
  rfl
/-- Terms that the call itself has made. -/
structure OwnTerms (base : Nat) (w : World) (A : Option Addr) (c : Nat) (tv : List TV) : Prop where
  own : w.ownsRow base 110 2 (.slice A tv.length c) tv.length (tv.flatMap TV.cells)
  mine : ∀ t ∈ tv, w.ownsRow base 3 1 (.slice t.adr t.exps.length t.cap) t.exps.length (t.exps.map vi)
theorem OwnTerms.terms {base : Nat} {w : World} {A : Option Addr} {c : Nat} {tv : List TV} (h : OwnTerms base w A c tv) : TermsAt w A tv := ⟨Sl.own h.own, fun t ht => Sl.own (h.mine t ht)⟩
theorem OwnTerms.far {base : Nat} {w : World} {A : Option Addr} {c : Nat} {tv : List TV} (h : OwnTerms base w A c tv) {g : Nat} (hg : g < base) (i : Nat) (u : Value) : OwnTerms base (w.setCell ⟨g, i, none⟩ u) A c tv :=
  ⟨own_far h.own (fun e => by have := (h.own.lt _ e.symm).1; simp only at this; omega) u, fun t ht => own_far (h.mine t ht) (fun e => by have := ((h.mine t ht).lt _ e.symm).1; simp only at this; omega) u⟩
/-- What the terms read as behind the writing. -/
def wrPl (us : List ByteArray) (ts : List RT) : List Term := List.zipWith (fun u t => (u, t.exps)) us ts
/-- What the writing has made after k terms. -/
structure WrSt (w : World) (v : Int) (O : Option Addr) (co : Nat) (us : List ByteArray) (ts : List RT) (wr : World) (k : Nat) (A : Option Addr) (c : Nat) (tv : List TV) : Prop where
  pl : tv.map TV.pl = (wrPl us ts).take k
  below : Below w.heap.size w wr
  b1 : Blk wr w.heap.size 65 #[.int .i64 v, .slice O ts.length co]
  b2 : Blk wr (w.heap.size + 1) 71 #[.int .i64 0, .slice none 0 0]
  b3 : Blk wr (w.heap.size + 1 + 1) 71 #[.int .i64 v, .slice A tv.length c]
  own : wr.ownsRow (w.heap.size + 3) 110 2 (.slice A tv.length c) tv.length (tv.flatMap TV.cells)
  mine : ∀ t ∈ tv, wr.ownsRow w.heap.size 3 1 (.slice t.adr t.exps.length t.cap) t.exps.length (t.exps.map vi)
theorem RT5.at {w : World} {T : Option Addr} {ts : List RT} (h : Sl w T ts.length 5 (ts.flatMap RT.cells)) {k : Nat} (hk : k < ts.length) :
    ∃ ad, T = some ad ∧ ad.block < w.heap.size ∧ w.cell? (ad.add (k * 5)) = some ts[k].c0 ∧ w.cell? ⟨(ad.add (k * 5)).block, (ad.add (k * 5)).off + 1, none⟩ = some ts[k].c1 ∧ w.cell? ⟨(ad.add (k * 5)).block, (ad.add (k * 5)).off + 2, none⟩ = some ts[k].c2 ∧
      w.cell? ⟨(ad.add (k * 5)).block, (ad.add (k * 5)).off + 3, none⟩ = some ts[k].c3 ∧ w.cell? ⟨(ad.add (k * 5)).block, (ad.add (k * 5)).off + 4, none⟩ = some (.slice ts[k].adr ts[k].exps.length ts[k].cap) := by
  obtain ⟨ad, rfl, hlt, ha⟩ := h.lies (by omega)
  have off : ∀ i, (⟨(ad.add (k * 5)).block, (ad.add (k * 5)).off + (i + 1), none⟩ : Addr) = ad.add (k * 5 + (i + 1)) := fun i => by rw [← add_add]; simp [Addr.add]
  have g := fun j hj => flat_get RT.cells 5 (fun _ => rfl) ts k j hk hj
  refine ⟨ad, rfl, hlt, ha _ _ ?_, (congrArg w.cell? (off 0)).trans (ha _ _ ?_), (congrArg w.cell? (off 1)).trans (ha _ _ ?_), (congrArg w.cell? (off 2)).trans (ha _ _ ?_), (congrArg w.cell? (off 3)).trans (ha _ _ ?_)⟩
  · have := g 0 (by omega); rw [Nat.add_zero] at this; exact this
  · exact g 1 (by omega)
  · exact g 2 (by omega)
  · exact g 3 (by omega)
  · exact g 4 (by omega)
end Go.Proofs.Tg
end
