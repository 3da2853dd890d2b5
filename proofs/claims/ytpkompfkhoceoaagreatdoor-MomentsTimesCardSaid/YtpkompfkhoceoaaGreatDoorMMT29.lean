/- Parts of the proof: LO1, ST5, ST9, XD2, WM2. -/
import Derived.Carry
import Derived.Test.YtpkompfkhoceoaaGreatDoorMMT2
import Derived.Test.YtpkompfkhoceoaaGreatDoorMMT3
import Derived.Test.YtpkompfkhoceoaaGreatDoorMMT7
import Derived.Test.YtpkompfkhoceoaaGreatDoorMMT14
import Derived.Test.YtpkompfkhoceoaaGreatDoorMMT21
import Derived.Test.YtpkompfkhoceoaaGreatDoorMMT22
import Derived.Test.YtpkompfkhoceoaaGreatDoorMMT23
import Derived.Test.YtpkompfkhoceoaaGreatDoorMMT27
import Derived.Test.YtpkompfkhoceoaaGreatDoorMMT28
section
/- Plain: the bounds of the numbers in the law on functionals of points. -/
namespace Go.Rq
open Go.Mm
/-- Up to four points with small whole coordinates, and their weights. -/
structure PtOk (v : Nat) (ws : List Rat) (xs : List (List Rat)) : Prop where
  n1 : 1 ≤ xs.length
  n4 : xs.length ≤ 4
  lw : ws.length = xs.length
  dim : ∀ x ∈ xs, x.length = v
  co : ∀ x ∈ xs, ∀ q ∈ x, ∃ z : Int, z.natAbs ≤ 2 ∧ q = (z : Rat)
  wt : ∀ q ∈ ws, Bd 12 108 q
theorem bd_weight (n : Int) (d : Nat) (hn : n.natAbs ≤ 9) (h1 : 1 ≤ d) (h4 : d ≤ 4) : Bd 12 108 (mkRat n d) := by
  have h : d ∣ 12 ∧ 9 * (12 / d) ≤ 108 := by
    have : d = 1 ∨ d = 2 ∨ d = 3 ∨ d = 4 := by omega
    rcases this with rfl | rfl | rfl | rfl <;> decide
  exact (((Bd.of n d).mono hn).over h.1 (by decide)).mono h.2
theorem bd_pow {K : Nat} {q : Rat} (h : Bd 1 K q) : ∀ e, Bd 1 (K ^ e) (q ^ e)
  | 0 => by
    have h1 : Bd 1 1 ((1 : Int) : Rat) := Bd.int 1
    rw [Rat.pow_zero]
    exact h1
  | e + 1 => by
    rw [Rat.pow_succ]
    exact (bd_pow h e).mul h
theorem bd_co {q : Rat} (h : ∃ z : Int, z.natAbs ≤ 2 ∧ q = (z : Rat)) : Bd 1 2 q := by
  obtain ⟨z, hz, rfl⟩ := h
  exact (Bd.int z).mono hz
theorem bd_pow16 {q : Rat} (h : Bd 1 2 q) (e : Nat) (he : e ≤ 4) : Bd 1 16 (q ^ e) :=
  (bd_pow h e).mono (Nat.pow_le_pow_right (by decide) he)
theorem bd_zero' (D K : Nat) : Bd D K 0 := (Bd.zero D).mono (Nat.zero_le _)
theorem getD_all {α : Type} {P : α → Prop} {l : List α} {z : α} (h : ∀ x ∈ l, P x) (hz : P z) (k : Nat) : P (l.getD k z) := by
  rw [List.getD_eq_getElem?_getD]
  rcases Nat.lt_or_ge k l.length with hk | hk
  · rw [List.getElem?_eq_getElem hk]; exact h _ (List.getElem_mem hk)
  · rw [List.getElem?_eq_none hk]; exact hz
theorem bd_pr {x : List Rat} {m : List Int} (hx : ∀ q ∈ x, Bd 1 2 q) (hm : ∀ e ∈ m, 0 ≤ e ∧ e ≤ 4) : ∀ k, Bd 1 (16 ^ k) (prTo x m k)
  | 0 => by
    have h1 : Bd 1 1 ((1 : Int) : Rat) := Bd.int 1
    exact h1
  | k + 1 => by
    have h1 := bd_pr hx hm k
    have h2 : Bd 1 2 (x.getD k 0) := getD_all hx (bd_zero' _ _) k
    have h3 : 0 ≤ m.getD k 0 ∧ m.getD k 0 ≤ 4 := getD_all hm (by decide) k
    have h4 := bd_pow16 h2 (m.getD k 0).toNat (by omega)
    show Bd 1 (16 ^ (k + 1)) (prTo x m k * _)
    rw [Nat.pow_succ]
    exact h1.mul h4
theorem bd_tm {w : Rat} {x : List Rat} {m : List Int} (hw : Bd 12 108 w) (hx : ∀ q ∈ x, Bd 1 2 q) (hm : ∀ e ∈ m, 0 ≤ e ∧ e ≤ 4) (k : Nat) (hk : k ≤ 3) : Bd 12 442368 (tmTo w x m k) := by
  rw [tm_pr]
  have h := hw.mul (bd_pr hx hm k)
  have h2 : 108 * 16 ^ k ≤ 442368 := by
    have : 16 ^ k ≤ 16 ^ 3 := Nat.pow_le_pow_right (by decide) hk
    omega
  exact h.mono h2
theorem PtOk.cb {v : Nat} {ws : List Rat} {xs : List (List Rat)} (h : PtOk v ws xs) : ∀ x ∈ xs, ∀ q ∈ x, Bd 1 2 q := fun x hx q hq => bd_co (h.co x hx q hq)
theorem PtOk.tm {v d : Nat} {ws : List Rat} {xs : List (List Rat)} (h : PtOk v ws xs) (hd : d ≤ 4) {m : List Int} (hm : m ∈ mons v d) (j k : Nat) (hk : k ≤ 3) : Bd 12 442368 (tmTo (ws.getD j 0) (xs.getD j []) m k) :=
  bd_tm (getD_all h.wt (bd_zero' _ _) j) (getD_all (P := fun x => ∀ q ∈ x, Bd 1 2 q) h.cb (fun q hq => absurd hq (by simp)) j) (fun e he => by have := (mons_mem hm).2 e he; omega) k hk
theorem PtOk.sum {v d : Nat} {ws : List Rat} {xs : List (List Rat)} (h : PtOk v ws xs) (hv : v ≤ 3) (hd : d ≤ 4) {m : List Int} (hm : m ∈ mons v d) : ∀ k, Bd 12 (k * 442368) (sumTo ws xs k m)
  | 0 => (bd_zero' _ _)
  | k + 1 => by
    have h1 := h.sum hv hd hm k
    have h2 := h.tm hd hm k m.length (by rw [(mons_mem hm).1]; omega)
    have h3 := h1.add h2 (by decide)
    exact h3.mono (by omega)
theorem Bd.qs' {D K : Nat} {q : Rat} (h : Bd D K q) (hD : 0 < D) (hD2 : D < 65536) (hK : K < 1000000000) : Go.Proofs.Tg.QS q :=
  Go.Proofs.Tg.Bd.qs h hD hD2 (Nat.lt_of_lt_of_le hK (by unfold Go.Bn.B; exact Nat.le_trans (by decide : 1000000000 ≤ (2 ^ 32) ^ 1) (Nat.pow_le_pow_right (by decide) (by decide))))
end Go.Rq
end
section
/- The law's polynomials: drawn from the tape. -/
namespace Go.Proofs.Tg
open Go.RowKit Go.Gr Go.Bn Go.Rq Go.Mo Go.Rs Go.Mm
set_option maxHeartbeats 16000000
set_option maxRecDepth 100000
/-- A coefficient from the tape. -/
def CoefT (q : Rat) : Prop := ∃ (n : Int) (d : Nat), n.natAbs ≤ 9 ∧ 1 ≤ d ∧ d ≤ 4 ∧ q = mkRat n d
/-- What the loop of Poly holds. -/
structure PySt (w1 : World) (g b0 g8 v d m : Nat) (L : Option Addr) (cL : Nat) (rows : List IRow) (wr : World) (k : Nat) (A : Option Addr) (c : Nat) (ts : List TQ) : Prop where
  own : wr.ownsRow w1.heap.size 99 5 (.slice A ts.length c) ts.length (ts.flatMap TQ.cells)
  ok : ∀ t ∈ ts, t.r.Ok wr
  mem : ∀ t ∈ ts, CoefT t.r.q ∧ ∃ s ∈ rows, t.E = s.A ∧ t.el = s.l ∧ t.ce = s.c
  rows : OwnI b0 wr L cL rows
  tape : TapeAt wr g
  tk : Tk g w1 wr
  b8 : Blk wr g8 65 #[.int .i64 0, .slice none 0 0]
  len : ts.length + k = m
theorem low20_of {l : List Int} {d : Nat} (h : ∀ e ∈ l, 0 ≤ e ∧ e ≤ d) (hd : d ≤ 1000) : low20 l = true := low20_iff.2 (fun e he => by have := h e he; omega)
theorem own_ge {w : World} {base : Nat} {t : TypeId} {sz n c : Nat} {A : Option Addr} {xs : List Value} (h : w.ownsRow base t sz (.slice A n c) n xs) : ∀ ad, A = some ad → base ≤ ad.block := by
  intro ad e
  rcases h.2 with ⟨e2, _⟩ | ⟨k, cap, cur, e2, hk, _⟩
  · injection e2 with e3 _ _
    rw [e] at e3; cases e3
  · injection e2 with e3 _ _
    rw [e] at e3
    injection e3 with e3
    rw [e3]; exact hk
/-- A polynomial's memory lies apart from a block. -/
structure Apart (g : Nat) (R : Option Addr) (out : List TQ) : Prop where
  r : ∀ ad, R = some ad → ad.block ≠ g
  e : ∀ t ∈ out, ∀ ad, t.E = some ad → ad.block ≠ g
theorem Sl.tk' {g : Nat} {w w' : World} {A : Option Addr} {n sz : Nat} {xs : List Value} (h : Sl w A n sz xs) (hg : Tk g w w') (hne : ∀ ad, A = some ad → ad.block ≠ g) : Sl w' A n sz xs := by
  refine ⟨h.len, fun hp => ?_⟩
  obtain ⟨ad, e, hlt, ha⟩ := h.lies hp
  exact ⟨ad, e, Nat.lt_of_lt_of_le hlt hg.size, fun j u hu => hg.cell (ha j u hu) (by rw [add_block]; intro e2; injection e2 with e2; exact hne ad e e2)⟩
theorem TQs.tk {g : Nat} {w w' : World} {R : Option Addr} {out : List TQ} (h : TQs w R out) (ha : Apart g R out) (hT : TapeAt w g) (hg : Tk g w w') : TQs w' R out := by
  obtain ⟨cs, B⟩ := hT.blk
  exact ⟨Sl.tk' h.sl hg ha.r, fun t ht => ⟨(h.ok t ht).r.tk hg B (by decide), Sl.tk' (h.ok t ht).e hg (ha.e t ht)⟩⟩
theorem tpoly_any (g vp d terms : Nat) (w : World) (hT : TapeAt w g) (hv : vp ≤ 5) (hd : d ≤ 24) (hc : cnt (vp + 1) d ≤ 4096) (h1 : 1 ≤ cnt (vp + 1) d) (ht : terms ≤ 8) :
    Calls Tryz.prog 28 #[.pointer (some ⟨g, 0, none⟩), .int .i64 ((vp + 1 : Nat) : Int), .int .i64 (d : Nat), .int .i64 (terms : Nat)] w (RetT g (fun v w' => ∃ R c out, v = .agg #[.int .i64 ((vp + 1 : Nat) : Int), .slice R (List.length out) c] ∧ TQs w' R out ∧ out.length ≤ c ∧ out.length ≤ terms ∧ Apart g R out ∧
      ∃ ts : List TQ, ts.length ≤ terms ∧ (∀ t ∈ ts, CoefT t.r.q ∧ t.el ∈ mons (vp + 1) d) ∧ out.map TQ.qe = col ((msrt leT ts.length ts).map TQ.qe)) w) := by
  obtain ⟨v, hv'⟩ : ∃ x, vp + 1 = x := ⟨_, rfl⟩
  have HLI : Hid (∀ V, Calls Tryz.prog 50 #[.int .i64 (v : Nat), .int .i64 (d : Nat)] V (RetList v d V)) := Lib.hid (fun V => by
    subst hv'
    exact list_ref vp d hv hd hc V)
  rw [hv'] at hc h1 ⊢
  have hv6 : v ≤ 6 := by omega
  have HNX : Hid (∀ V (n : Nat), TapeAt V g → 0 < n → n ≤ 1000000 → Calls Tryz.prog 16 #[.pointer (some ⟨g, 0, none⟩), .int .i64 (n : Nat)] V (RetT g (fun v _ => ∃ k : Nat, k < n ∧ v = .int .i64 (k : Nat)) V)) := Lib.hid (fun V n h h2 h3 => next_any g n V h h2 h3)
  have HNU : Hid (∀ V, TapeAt V g → Calls Tryz.prog 18 #[.pointer (some ⟨g, 0, none⟩)] V (RetT g (fun v w' => ∃ (n : Int) (d : Nat), n.natAbs ≤ 9 ∧ 1 ≤ d ∧ d ≤ 4 ∧ QAt w' v (mkRat n d)) V)) := Lib.hid (fun V h => num_any g V h)
  obtain ⟨i0, hi0, hz0, hz1, hz2⟩ := info_parts Sx.rt5_info
  have hg := hT.lt
  have B8 := Blk.new w 65 #[.int .i64 0, .slice none 0 0]
  have hb8 : Below w.heap.size w (w.alloc (.cells #[.int .i64 0, .slice none 0 0] 65)) := (Below.refl _ _).alloc (Nat.le_refl _) _
  go_enter Tryz.func28, Tryz.ntmps28
  go_wp2_with (fail)
  refine (HLI.out _).mono ?_
  rintro e w1 ⟨L, cL, rows, rfl, hOI, hms, hb1⟩
  obtain ⟨nr, hnr⟩ : ∃ x, rows.length = x := ⟨_, rfl⟩
  have HNR := Lib.hid hnr
  have hnr2 : nr = cnt v d := by rw [← hnr, ← List.length_map (f := IRow.l), hms]; rfl
  have hnr3 : 0 < nr ∧ nr ≤ 4096 := by omega
  rw [hnr]
  have HMS := Lib.hid hms
  have HT1 := Lib.hid ((hT.keep hb8).keep hb1)
  have HB8 := Lib.hid (B8.keep hb1 B8.lt)
  have HOI := Lib.hid hOI
  have HB1 := Lib.hid (below_all hb8 hb1)
  have hnr4 := hnr3.1
  have hnr5 := hnr3.2
  clear hOI hms hb1 B8 hb8 hnr hnr2 hnr3 hT
  have HNX1 : Hid (∀ V, TapeAt V g → Calls Tryz.prog 16 #[.pointer (some ⟨g, 0, none⟩), .int .i64 ((terms : Int) + 1)] V (RetT g (fun v _ => ∃ k : Nat, k ≤ terms ∧ v = .int .i64 (k : Nat)) V)) := Lib.hid (fun V h => by
    have h2 := HNX.out V (terms + 1) h (by omega) (by omega)
    rw [show ((terms + 1 : Nat) : Int) = (terms : Int) + 1 by omega] at h2
    refine h2.mono ?_
    rintro e w' ⟨x, e1, ⟨k, hk, e2⟩, r⟩
    exact ⟨x, e1, ⟨k, by omega, e2⟩, r⟩)
  go_wp2_with (fail)
  refine (HNX1.out _ HT1.out).mono ?_
  rintro e w2 ⟨_, rfl, ⟨m, hm, rfl⟩, hT2, ht2⟩
  have hgw1 : g < w1.heap.size := HT1.out.lt
  have hg8 : w.heap.size < w1.heap.size := HB8.out.lt
  have HST0 : Hid (PySt w1 g (w.heap.size + 1) w.heap.size v d m L cL rows w2 m none 0 []) := Lib.hid (by
    obtain ⟨cs, BT⟩ := HT1.out.blk
    refine ⟨World.ownsRow_nil _ _ _ _, fun t h => absurd h (by simp), fun t h => absurd h (by simp), ?_, hT2, ht2, ?_, by simp⟩
    · exact OwnI.tk (HOI.out.mono (by simp)) ht2 (by omega)
    · exact (ht2.block _ hg8 (fun e => by injection e with e; omega)).trans HB8.out)
  clear hT2 ht2 HNX1 HLI
  go_wp2
  go_loopw [10, 11] (fun s10 s11 wr => ∃ (k : Nat) (A : Option Addr) (c : Nat) (ts : List TQ), s10 = .slice A ts.length c ∧ s11 = .int .i64 (k : Nat) ∧ k ≤ m ∧ Hid (PySt w1 g (w.heap.size + 1) w.heap.size v d m L cL rows wr k A c ts)) (fun _ s11 _ => (intOf s11).toNat)
  case atStart => exact ⟨m, none, 0, [], rfl, rfl, Nat.le_refl _, HST0⟩
  case round =>
    clear HST0
    obtain ⟨wo, rfl⟩ : ∃ wo : World, wo = wr := ⟨_, rfl⟩
    obtain ⟨k, A, c, ts, rfl, rfl, hk, HST⟩ := hrel
    obtain ⟨N, hN⟩ : ∃ x, ts.length = x := ⟨_, rfl⟩
    have HN := Lib.hid hN
    rw [hN]
    have hNm : N + k = m := by rw [← hN]; exact HST.out.len
    have HNM := Lib.hid hNm
    have hN8 : N ≤ 8 := by omega
    have hNt : N ≤ terms := by omega
    by_cases hk0 : k = 0
    · have e1 : decide ((0 : Int) < (k : Int)) = false := decide_eq_false (by omega)
      have e1' : decide (0 < k) = false := decide_eq_false (by omega)
      clear hN hNm
      have hown := HST.out.own
      have hbs : ∀ t ∈ ts, t.Ok wo ∧ t.el.length = v ∧ low20 t.el = true ∧ Bd 12 108 t.r.q := fun t ht => by
        obtain ⟨⟨zn, zd, z1, z2, z3, e0⟩, s, hs, e1, e2, e3⟩ := HST.out.mem t ht
        have hml : s.l ∈ mons v d := by rw [← HMS.out]; exact List.mem_map.2 ⟨s, hs, rfl⟩
        obtain ⟨h1, h2⟩ := mons_mem hml
        refine ⟨⟨HST.out.ok t ht, ?_⟩, by rw [e2]; exact h1, by rw [e2]; exact low20_of h2 (by omega), by rw [e0]; exact bd_weight zn zd z1 z2 z3⟩
        rw [e1, e2]; exact Sl.own (HST.out.rows.rows s hs)
      have HSU : Hid (∀ V, Below wo.heap.size wo V → Calls Tryz.prog 51 #[.int .i64 (v : Nat), .slice A N c] V fun e w' => ∃ R dd out, e = .returned (.agg #[.int .i64 (v : Nat), .slice R (List.length out) dd]) ∧ OwnTQ V.heap.size w' R dd out ∧ (∀ t ∈ out, ∃ s ∈ ts, t.E = s.E ∧ t.el = s.el) ∧ out.length ≤ dd ∧ out.length ≤ N ∧ out.map TQ.qe = col ((msrt leT ts.length ts).map TQ.qe) ∧ Below V.heap.size V w') := Lib.hid (fun V hb => by
        obtain ⟨_, _, hv9, hcap, _⟩ := Sl.of_own hown
        injection hv9 with _ _ hv9
        have h1 := sum_any v 12 108 (by omega) (by decide) (by decide) ts A c V (by rw [HN.out]; omega) (by rw [HN.out]; omega) (by omega) (TQs.keep ⟨Sl.own hown, fun t ht => (hbs t ht).1⟩ hb) (fun t ht => ⟨(hbs t ht).2.1, (hbs t ht).2.2.1⟩) (fun t ht => (hbs t ht).2.2.2)
        have h2 := HN.out
        rw [h2] at h1 ⊢
        exact h1)
      clear hown hbs
      go_wp2_with (fail)
      refine (HSU.out _ (Below.refl _ _)).mono ?_
      rintro e w9 ⟨R, dd, out, rfl, hQ, hmm, hl1, hl2, hq, hb9⟩
      have G8 := HST.out.b8.keep hb9 HST.out.b8.lt
      obtain ⟨p0, p1, f0, f1⟩ := G8.two
      have hk9 : Tk g w w9 := ((Tk.of HB1.out).trans HST.out.tk).then hb9
      have HRES : Hid (RetT g (fun x w' => ∃ R c out, x = .agg #[.int .i64 (v : Nat), .slice R (List.length out) c] ∧ TQs w' R out ∧ out.length ≤ c ∧ out.length ≤ terms ∧ Apart g R out ∧ ∃ ts : List TQ, ts.length ≤ terms ∧ (∀ t ∈ ts, CoefT t.r.q ∧ t.el ∈ mons v d) ∧ out.map TQ.qe = col ((msrt leT ts.length ts).map TQ.qe)) w (.returned (.agg #[.int .i64 (v : Nat), .slice R out.length dd])) ((w9.setCell ⟨w.heap.size, 0, none⟩ (.int .i64 (v : Nat))).setCell ⟨w.heap.size, 1, none⟩ (.slice R out.length dd))) := Lib.hid (by
        have hown := hQ.own
        have G1 := G8.set 0 (.int .i64 (v : Nat))
        have o1 := own_far (p := ⟨w.heap.size, 0, none⟩) hown (own_blk_ne hown G8 (by decide)) (.int .i64 (v : Nat))
        have o2 := own_far (p := ⟨w.heap.size, 1, none⟩) o1 (own_blk_ne o1 G1 (by decide)) (.slice R out.length dd)
        have hR9 : OwnI (w.heap.size + 1) w9 L cL rows := HST.out.rows.keep hb9
        have hT9 := HST.out.tape.keep hb9
        refine ⟨_, rfl, ⟨R, dd, out, rfl, ⟨Sl.own o2, fun t ht => ?_⟩, hl1, by omega, ⟨fun ad e => by have h1 := own_ge hQ.own ad e; have h2 := HST.out.tape.lt; omega, fun t ht ad e => ?_⟩, ts, by rw [HN.out]; omega, fun t ht => ?_, hq⟩, (hT9.far hg _ _).far hg _ _, (hk9.far (Nat.le_refl _) _ _).far (Nat.le_refl _) _ _⟩
        · refine ⟨((hQ.ok t ht).r.far G8 (by decide) 0 _).far G1 (by decide) 1 _, ?_⟩
          obtain ⟨s, hs, e1, e2⟩ := hmm t ht
          obtain ⟨_, q, hq1, e3, e4, _⟩ := HST.out.mem s hs
          have h1 := hR9.rows q hq1
          have n0 : some w.heap.size ≠ (Value.slice q.A q.l.length q.c).ownBlock := fun e => by have := (h1.lt _ e.symm).1; omega
          have h2 := own_far (p := ⟨w.heap.size, 0, none⟩) h1 n0 (.int .i64 (v : Nat))
          have h3 := own_far (p := ⟨w.heap.size, 1, none⟩) h2 n0 (.slice R out.length dd)
          rw [e1, e2, e3, e4]
          exact Sl.own h3
        · obtain ⟨s, hs, e1, _⟩ := hmm t ht
          obtain ⟨_, q, hq1, e3, _, _⟩ := HST.out.mem s hs
          have h1 := own_ge (hR9.rows q hq1) ad (by rw [← e3, ← e1]; exact e)
          omega
        · obtain ⟨hc1, s, hs, _, e2, _⟩ := HST.out.mem t ht
          exact ⟨hc1, by rw [e2, ← HMS.out]; exact List.mem_map.2 ⟨s, hs, rfl⟩⟩)
      clear hQ hmm hl1 hl2 hq hb9 hk9
      generalize out.length = no at *
      go_wp2
      obtain ⟨t0, t1, _, _⟩ := ((G8.set 0 (.int .i64 (v : Nat))).set 1 (.slice R no dd)).two
      exact bodyPost_ret (v := .agg #[.int .i64 (v : Nat), .slice R no dd]) (by simp [results, Tryz.results28, go_sem, t0, t1]) rfl HRES.out
    · have hk1 : 0 < k := by omega
      have e1 : decide ((0 : Int) < (k : Int)) = true := decide_eq_true (by omega)
      have e1' : decide (0 < k) = true := decide_eq_true hk1
      clear hN hNm hk0
      go_wp2_with (fail)
      refine (HNU.out _ HST.out.tape).mono ?_
      rintro e w5 ⟨_, rfl, ⟨zn, zd, z1, z2, z3, hQ⟩, hT5, ht5⟩
      obtain ⟨r, hrq, rfl, hok⟩ := hQ.rval
      have HCO : Hid (CoefT r.q) := Lib.hid ⟨zn, zd, z1, z2, z3, hrq⟩
      have HOK := Lib.hid hok
      have HT5 := Lib.hid hT5
      have HK5 := Lib.hid ht5
      clear hQ hrq z1 z2 z3 hok hT5 ht5
      unfold RVal.val
      go_wp2_with (fail)
      refine (HNX.out _ nr HT5.out (by omega) (by omega)).mono ?_
      rintro e w6 ⟨_, rfl, ⟨j, hj, rfl⟩, hT6, ht6⟩
      obtain ⟨cs5, BT5⟩ := HT5.out.blk
      obtain ⟨cs0, BT0⟩ := HST.out.tape.blk
      have hown := own_tk (own_tk HST.out.own HK5.out hgw1) ht6 hgw1
      rw [HN.out] at hown
      have HRO := Lib.hid (OwnI.tk (OwnI.tk HST.out.rows HK5.out (by omega)) ht6 (by omega))
      have HOKS : Hid (∀ t ∈ ts, t.r.Ok w6) := Lib.hid (fun t ht => ((HST.out.ok t ht).tk HK5.out BT0 (by decide)).tk ht6 BT5 (by decide))
      have HOK6 := Lib.hid (HOK.out.tk ht6 BT5 (by decide))
      have hsz1 : w1.heap.size ≤ w6.heap.size := Nat.le_trans HST.out.tk.size (Nat.le_trans HK5.out.size ht6.size)
      have HB86 : Hid (Blk w6 w.heap.size 65 #[.int .i64 0, .slice none 0 0]) := Lib.hid (by
        have h1 := HST.out.b8.lt
        have h2 := HK5.out.size
        exact (ht6.block _ (by omega) (fun e => by injection e with e; omega)).trans ((HK5.out.block _ h1 (fun e => by injection e with e; omega)).trans HST.out.b8))
      have HTK6 := Lib.hid ((HST.out.tk.trans HK5.out).trans ht6)
      have HT6 := Lib.hid hT6
      have hjr : j < rows.length := by rw [HNR.out]; exact hj
      obtain ⟨al, hAL, hcl, hIN⟩ := HRO.out.lists hjr
      subst hAL
      obtain ⟨s, hs⟩ : ∃ s, rows[j] = s := ⟨_, rfl⟩
      have HSM : Hid (s ∈ rows) := Lib.hid (by rw [← hs]; exact List.getElem_mem _)
      rw [hs] at hcl
      have hsl : s.l.length = v := (mons_mem (show s.l ∈ mons v d by rw [← HMS.out]; exact List.mem_map.2 ⟨s, HSM.out, rfl⟩)).1
      rw [hsl] at hcl
      have HSL := Lib.hid hsl
      have q1 : (0 : Int) ≤ (j : Int) := by omega
      have q2 : (j : Int) < (nr : Int) := by omega
      have HNC := Lib.hid (cells_new w6 99 [.bool (decide (r.q.num < 0)), .slice r.N (dg r.q.num.natAbs).length r.cn, .bool false, .slice r.D (dg (dnz r.q.den)).length r.cd, .slice s.A v s.c])
      clear hIN hs hsl hjr hT6 ht6 BT5 BT0
      go_wp2_with (first
        | (at_builtin; refine wpList_append_own_at _ rfl _ _ 63 rfl w1.heap.size 99 i0 _ 5 88 Tryz.underlying63 hi0 hz0 hz1 hz2 rfl (by decide) (.slice A N c) N _ rfl (hown.alloc _) ⟨w6.heap.size, 0, none⟩ 1 1 [.bool (decide (r.q.num < 0)), .slice r.N (dg r.q.num.natAbs).length r.cn, .bool false, .slice r.D (dg (dnz r.q.den)).length r.cd, .slice s.A v s.c] rfl rfl ?c1 ?c2 ?c3 ?c4 ?c5 ?_
           case c1 => exact HNC.out
           case c2 => simp [Value.oneCell']
           case c3 => simp only [maxLen]; omega
           case c4 => omega
           case c5 => simp; omega
           intro v' w7 hown' hgrow _ hat))
      obtain ⟨A2, cs2, hv2, _, _⟩ := Sl.of_own hown'
      subst hv2
      have hal := Below.alloc (Below.refl w6.heap.size w6) (Nat.le_refl _) (.cells #[.bool (decide (r.q.num < 0)), .slice r.N (dg r.q.num.natAbs).length r.cn, .bool false, .slice r.D (dg (dnz r.q.den)).length r.cd, .slice s.A v s.c] 99)
      have hownA := hown.alloc (.cells #[.bool (decide (r.q.num < 0)), .slice r.N (dg r.q.num.natAbs).length r.cn, .bool false, .slice r.D (dg (dnz r.q.den)).length r.cd, .slice s.A v s.c] 99)
      have HNEW : Hid (PySt w1 g (w.heap.size + 1) w.heap.size v d m (some al) cL rows w7 (k - 1) A2 cs2 (ts ++ [⟨r, s.A, s.c, s.l⟩])) := Lib.hid (by
        have hl : (ts ++ [(⟨r, s.A, s.c, s.l⟩ : TQ)]).length = N + 1 := by rw [List.length_append, HN.out]; rfl
        have hRA := HRO.out.keep hal
        refine ⟨?_, fun x hx => ?_, fun x hx => ?_, ⟨hRA.own.kept hgrow (own_ne hRA.own hownA (by decide)), fun x hx => (hRA.rows x hx).kept hgrow (own_ne (hRA.rows x hx) hownA (by decide))⟩, (HT6.out.keep hal).grown hownA hgw1 hgrow, (HTK6.out.then hal).grown hownA (Nat.le_refl _) hgrow, (HB86.out.keep hal HB86.out.lt).grown hgrow (own_blk_ne hownA (HB86.out.keep hal HB86.out.lt) (by decide)), by rw [hl]; have := HNM.out; omega⟩
        · rw [hl, List.flatMap_append]
          have e : TQ.cells ⟨r, s.A, s.c, s.l⟩ = [.bool (decide (r.q.num < 0)), .slice r.N (dg r.q.num.natAbs).length r.cn, .bool false, .slice r.D (dg (dnz r.q.den)).length r.cd, .slice s.A v s.c] := by unfold TQ.cells; rw [HSL.out]
          rw [List.flatMap_cons, List.flatMap_nil, List.append_nil, e]
          exact hown'
        · rcases List.mem_append.1 hx with hx | hx
          · exact ((HOKS.out x hx).keep hal).grown hownA hgrow (by decide)
          · rw [List.mem_singleton.1 hx]; exact (HOK6.out.keep hal).grown hownA hgrow (by decide)
        · rcases List.mem_append.1 hx with hx | hx
          · exact HST.out.mem x hx
          · rw [List.mem_singleton.1 hx]; exact ⟨HCO.out, s, HSM.out, rfl, rfl, rfl⟩)
      go_roundw
      case rel => exact ⟨k - 1, A2, cs2, _, by rw [List.length_append, HN.out]; rfl, by go_num, by omega, HNEW⟩
      case measure => simp [intOf]; omega
end Go.Proofs.Tg
end
section
/- Plain: the bounds of the coefficients that the tape gives, of the values of a functional of points. -/
namespace Go.Rs
open Go.Mo Go.Rq Go.Mm Go.Qn Go.Ev Go.Proofs.Tg
theorem coefs_ds : ∀ (l : List (Rat × List Int)), (∀ t ∈ l, CoefT t.1) → ∃ ds : List Nat, ds.length = l.length ∧ (∀ d ∈ ds, 1 ≤ d ∧ d ≤ 4) ∧ ∀ D, 0 < D → (∀ d ∈ ds, D % d = 0) → Nm D l (9 * (ds.map fun d => D / d).sum)
  | [], _ => ⟨[], rfl, by simp, fun _ _ _ => trivial⟩
  | t :: l, h => by
    obtain ⟨ds, h1, h2, h3⟩ := coefs_ds l (fun s hs => h s (by simp [hs]))
    obtain ⟨n, d, hn, hd1, hd4, e⟩ := h t (by simp)
    refine ⟨d :: ds, by simp [h1], fun x hx => ?_, fun D hD hx => ?_⟩
    · rcases List.mem_cons.1 hx with rfl | hx
      · exact ⟨hd1, hd4⟩
      · exact h2 x hx
    · have hdv : d ∣ D := Nat.dvd_of_mod_eq_zero (hx d (by simp))
      obtain ⟨k, e2, hk⟩ := (Bd.of n d).over hdv hD
      have h4 := h3 D hD (fun y hy => hx y (by simp [hy]))
      have hm : n.natAbs * (D / d) ≤ 9 * (D / d) := Nat.mul_le_mul_right _ hn
      rw [List.map_cons, List.sum_cons, Nat.mul_add]
      generalize D / d = q at *
      exact ⟨k, e.trans e2, by omega, h4.mono (by omega)⟩
theorem fit_nm {l : List (Rat × List Int)} {ds : List Nat} {D : Nat} (hD : 0 < D) (h : ∀ D, 0 < D → (∀ d ∈ ds, D % d = 0) → Nm D l (9 * (ds.map fun d => D / d).sum)) (hf : fitD ds D = true) : Nm D l (if ds.length ≤ 3 then 171 else 279) := by
  unfold fitD at hf
  rw [Bool.and_eq_true] at hf
  refine (h D hD (fun d hd => ?_)).mono (of_decide_eq_true hf.2)
  exact of_decide_eq_true (List.all_eq_true.1 hf.1 d hd)
theorem nm_coefs {l : List (Rat × List Int)} (hl : l.length ≤ 4) (h : ∀ t ∈ l, CoefT t.1) : ∃ D, 0 < D ∧ D ≤ 12 ∧ Nm D l (if l.length ≤ 3 then 171 else 279) := by
  obtain ⟨ds, h1, h2, h3⟩ := coefs_ds l h
  have hf := fits_all ds (by omega) h2
  unfold fits at hf
  rw [← h1]
  rw [Bool.or_eq_true, Bool.or_eq_true] at hf
  rcases hf with (hf | hf) | hf
  · exact ⟨4, by decide, by decide, fit_nm (by decide) h3 hf⟩
  · exact ⟨6, by decide, by decide, fit_nm (by decide) h3 hf⟩
  · exact ⟨12, by decide, by decide, fit_nm (by decide) h3 hf⟩
/-- The weights as terms. -/
def wl (ws : List Rat) (k : Nat) : List (Rat × List Int) := (List.range k).map fun i => (ws.getD i 0, [(i : Int)])
theorem sumTo_lin (ws : List Rat) (xs : List (List Rat)) (m : List Int) : ∀ k, sumTo ws xs k m = lin (fun e => prTo (xs.getD (e.getD 0 0).toNat []) m m.length) (wl ws k)
  | 0 => rfl
  | k + 1 => by
    show sumTo ws xs k m + tm (ws.getD k 0) (xs.getD k []) m = _
    rw [sumTo_lin ws xs m k]
    unfold wl
    rw [List.range_succ, List.map_append, lin_append, List.map_cons, List.map_nil, lin_cons, lin_nil, Rat.add_zero]
    unfold tm
    rw [tm_pr]
    rfl
theorem bd_prs {x : List Rat} {m : List Int} (hx : ∀ q ∈ x, Bd 1 2 q) (hm : ∀ e ∈ m, 0 ≤ e) : ∀ k, k ≤ m.length → Bd 1 (2 ^ (m.take k).sum.toNat) (prTo x m k)
  | 0, _ => by
    have h1 : Bd 1 1 ((1 : Int) : Rat) := Bd.int 1
    exact h1
  | k + 1, hk => by
    have h1 := bd_prs hx hm k (by omega)
    have h2 : Bd 1 2 (x.getD k 0) := getD_all hx (bd_zero' _ _) k
    have h3 : m.getD k 0 = m[k] := by rw [List.getD_eq_getElem?_getD, List.getElem?_eq_getElem (by omega)]; rfl
    have h4 := bd_pow h2 (m.getD k 0).toNat
    have h5 := hm m[k] (List.getElem_mem _)
    have h6 := sum_nonneg (m.take k) (fun e he => hm e (List.mem_of_mem_take he))
    show Bd 1 _ (prTo x m k * _)
    rw [sum_take_succ m k (by omega), Int.toNat_add h6 h5, Nat.pow_add, ← h3]
    exact h1.mul h4
/-- The values of a functional of points at monomials of a degree at most 5. -/
theorem val_bd {v : Nat} {ws : List Rat} {xs : List (List Rat)} {D K n : Nat} (h : PtOk v ws xs) (hD : 0 < D) (hn : Nm D (wl ws n) K) {m : List Int} (hm : m ∈ mons v 5) (k : Nat) (hk : k ≤ n) : Bd D (K * 32) (sumTo ws xs k m) := by
  have h1 : wl ws k = (wl ws n).take k := by
    unfold wl
    rw [← List.map_take, List.take_range, Nat.min_eq_left hk]
  rw [sumTo_lin]
  have h2 : Nm D (wl ws k) K := h1 ▸ hn.take k
  have h3 := h2.lin (E := 1) (L := 32) (φ := fun e => prTo (xs.getD (e.getD 0 0).toNat []) m m.length) hD (by decide) (fun t _ => by
    have h4 := bd_prs (x := xs.getD (t.2.getD 0 0).toNat []) (m := m) (getD_all (P := fun x => ∀ q ∈ x, Bd 1 2 q) h.cb (fun q hq => absurd hq (by simp)) _) (fun e he => ((mons_mem hm).2 e he).1) m.length (Nat.le_refl _)
    refine h4.mono ?_
    rw [List.take_length]
    have := (mons_sum hm).2
    exact Nat.le_trans (Nat.pow_le_pow_right (by decide) (show m.sum.toNat ≤ 5 by omega)) (by decide))
  rw [Nat.mul_one] at h3
  exact h3
end Go.Rs
end
section
/- Memory of the reference's classes: keys that stay and classes that grow, all apart. -/
namespace Go.Proofs.Tg
open Go.RowKit
structure KInv (base : Nat) (KA : Option Addr) (kc : Nat) (K : List (List Int)) (kval : Nat → Value) (C : Option Addr) (cc : Nat) (Cl : List (List Nat)) (val : Nat → Value) (w : World) : Prop where
  fam : Fam base C cc Cl val w
  krow : w.ownsRow base 41 1 (.slice KA K.length kc) K.length ((List.range K.length).map kval)
  kown : ∀ j, j < K.length → w.ownsRow base 3 1 (kval j) (K.getD j []).length ((K.getD j []).map vi)
  ksep : ∀ i j, i < K.length → j < Cl.length → (kval i).ownBlock = none ∨ (kval i).ownBlock ≠ (val j).ownBlock
  rsep : (Value.slice KA K.length kc).ownBlock = none ∨ (Value.slice KA K.length kc).ownBlock ≠ (Value.slice C Cl.length cc).ownBlock
theorem KInv.nil (base : Nat) (w : World) : KInv base none 0 [] (fun _ => .slice none 0 0) none 0 [] (fun _ => .slice none 0 0) w :=
  ⟨Fam.nil _ _, World.ownsRow_nil _ _ _ _, fun j h => absurd h (by simp), fun i j h => absurd h (by simp), .inl rfl⟩
theorem KInv.keep {base : Nat} {KA : Option Addr} {kc : Nat} {K : List (List Int)} {kval : Nat → Value} {C : Option Addr} {cc : Nat} {Cl : List (List Nat)} {val : Nat → Value} {w w' : World} (h : KInv base KA kc K kval C cc Cl val w) (hb : Below w.heap.size w w') : KInv base KA kc K kval C cc Cl val w' :=
  ⟨h.fam.keep hb, own_below h.krow hb (Nat.le_refl _), fun j hj => own_below (h.kown j hj) hb (Nat.le_refl _), h.ksep, h.rsep⟩
theorem KInv.alloc {base : Nat} {KA : Option Addr} {kc : Nat} {K : List (List Int)} {kval : Nat → Value} {C : Option Addr} {cc : Nat} {Cl : List (List Nat)} {val : Nat → Value} {w : World} (h : KInv base KA kc K kval C cc Cl val w) (o : Obj) : KInv base KA kc K kval C cc Cl val (w.alloc o) :=
  h.keep ((Below.refl _ _).alloc (Nat.le_refl _) o)
theorem KInv.add {base : Nat} {KA : Option Addr} {kc : Nat} {K : List (List Int)} {kval : Nat → Value} {g : Nat} {cc : Nat} {Cl : List (List Nat)} {val : Nat → Value} {w w' : World} {k i : Nat} {v' : Value} (h : KInv base KA kc K kval (some ⟨g, 0, none⟩) cc Cl val w) (hk : k < Cl.length)
    (hr : w'.ownsRow base 3 1 v' ((Cl.getD k []).length + 1) ((Cl.getD k []).map vn ++ [vn i])) (hg : w.grownBy w' (val k).ownBlock) (hat : v'.ownBlock = (val k).ownBlock ∨ v'.ownBlock = some w.heap.size) :
    KInv base KA kc K kval (some ⟨g, 0, none⟩) cc (Cl.set k (Cl.getD k [] ++ [i])) (fun j => if j = k then v' else val j) (w'.setCell ⟨g, k, none⟩ v') := by
  have hlen : (Cl.set k (Cl.getD k [] ++ [i])).length = Cl.length := by simp
  have hrow' := h.fam.row.kept hg (own_ne h.fam.row (h.fam.own k hk) (by decide))
  have hst := hrow'.stored k v'
  have hkr := h.krow.kept hg (own_ne h.krow (h.fam.own k hk) (by decide))
  refine ⟨h.fam.add hk hr hg hat, ?_, fun j hj => ?_, fun a b ha hb => ?_, ?_⟩
  · exact hkr.kept hst.2 (by
      rcases h.rsep with e | e
      · exact .inl e
      · exact .inr (by simpa [Value.ownBlock] using e))
  · have h1 := (h.kown j hj).kept hg (h.ksep j k hj hk)
    exact h1.kept hst.2 (own_ne h1 hrow' (by decide))
  · rw [hlen] at hb
    by_cases e : b = k
    · rw [if_pos e]
      rcases hat with hx | hx
      · rw [hx]; exact h.ksep a k ha hk
      · cases hbk : (kval a).ownBlock with
        | none => exact .inl rfl
        | some z =>
          right
          rw [hx]
          intro e2
          injection e2 with e2
          have := ((h.kown a ha).lt z hbk).2
          omega
    · rw [if_neg e]; exact h.ksep a b ha hb
  · rw [hlen]; exact h.rsep
end Go.Proofs.Tg
end
section
/- Walks: the product of two valid monomials. -/
namespace Go.Proofs.Tg
open Go.RowKit Go.Gr Go.Ev Go.Mo
set_option maxHeartbeats 4000000
set_option maxRecDepth 100000
theorem mulf_any (x y : Int) (w : World) : Calls Tryz.prog 124 #[.int .i64 x, .int .i64 y] w fun e w' => e = .returned (.int .i64 (wrap64 (x + y))) ∧ w = w' := by
  go_enter Tryz.func124, Tryz.ntmps124
  go_wp2
  go_ret
  exact ⟨rfl, rfl⟩
theorem vpair_ok (A B : Option Addr) (c d : Nat) (a b : List Int) (w : World) (hA : Ints w A a) (hB : Ints w B b) (hl : a.length = b.length) (ha : vldM a = true) (hb : vldM b = true) :
    Calls Tryz.prog 154 #[.slice A a.length c, .slice B b.length d] w fun e w' => e = .returned (.bool true) ∧ w = w' := by
  have h6 := (small_of_vld ha).1
  have HA := Lib.hid (valid_any A c a w hA (by omega))
  have HB := Lib.hid (valid_any B d b w hB (by omega))
  rw [ha] at HA
  rw [hb] at HB
  have he : ((a.length : Int) == (b.length : Int)) = true := by simp [hl]
  clear hl ha hb hA hB h6
  go_enter Tryz.func154, Tryz.ntmps154
  go_wp2_with (first
    | (go_at_call 122; with_reducible refine Calls.mono HA.out ?_; rintro e w' ⟨rfl, rfl⟩)
    | (go_at_call 122; with_reducible refine Calls.mono HB.out ?_; rintro e w' ⟨rfl, rfl⟩))
  go_ret
  exact ⟨rfl, rfl⟩
theorem addL_at {a b : List Int} (h : a.length = b.length) {k : Nat} (hk : k < a.length) : (addL a b)[k]'(by rw [addL_len h]; exact hk) = a[k] + b[k]'(by omega) := by simp [addL]
/-- The product, or none. -/
def RetMul (n : Nat) (s : List Int) (ok : Bool) (w : World) (e : Ending) (w' : World) : Prop := Below w.heap.size w w' ∧
  ((ok = false ∧ e = .returned (.tuple #[.slice none 0 0, .bool false])) ∨ (ok = true ∧ ∃ O co, e = .returned (.tuple #[.slice O n co, .bool true]) ∧ Ints w' O s))
theorem comb_ok (A B : Option Addr) (c d : Nat) (a b : List Int) (w : World) (hA : Ints w A a) (hB : Ints w B b) (hl : a.length = b.length) (ha : vldM a = true) (hb : vldM b = true) (ok : Bool) (hok : vldM (addL a b) = ok) :
    Calls Tryz.prog 123 #[.slice A a.length c, .slice B b.length d, .func (.func 124) #[] #[]] w (RetMul a.length (addL a b) ok w) := by
  have h6 := (small_of_vld ha).1
  have HAX := Lib.hid (small_of_vld ha).2
  have HBX := Lib.hid (small_of_vld hb).2
  have HVP := Lib.hid (vpair_ok A B c d a b w hA hB hl ha hb)
  have HAL := Lib.hid (addL_len hl)
  have HAT : Hid (∀ k (h1 : k < a.length) (h2 : k < b.length) (h3 : k < (addL a b).length), (addL a b)[k] = a[k] + b[k]) := Lib.hid (fun k h1 h2 h3 => addL_at hl h1)
  have HVD := Lib.hid (fun W (h : Ints W (some ⟨w.heap.size, 0, none⟩) (addL a b)) => valid_any (some ⟨w.heap.size, 0, none⟩) (addL a b).length (addL a b) W h (by rw [addL_len hl]; omega))
  have HL := Lib.hid hl
  have hmk := fun W => make_ints a.length a.length (Nat.le_refl _) (by omega) W
  rw [hok, addL_len hl] at HVD
  clear ha hb hl hok
  generalize addL a b = s at *
  go_enter Tryz.func123, Tryz.ntmps123
  go_wp2_with (go_at_call 154; refine HVP.out.mono ?_; rintro e w' ⟨rfl, rfl⟩)
  clear hmk
  go_loopw [20] (fun i wr => ∃ k : Nat, k ≤ a.length ∧ i = .int .i64 k ∧ Blk wr w.heap.size 3 (iarr (s.take k ++ List.replicate (a.length - k) 0)) ∧ Below w.heap.size w wr) (fun i _ => a.length - (intOf i).toNat)
  case atStart =>
    refine ⟨0, Nat.zero_le _, rfl, ?_, (Below.refl _ _).alloc (Nat.le_refl _) _⟩
    have e : iarr (s.take 0 ++ List.replicate (a.length - 0) 0) = madeCells #[.int .i64 0] a.length := (iarr_made a.length).symm
    rw [e]
    exact Blk.new w 3 _
  case round =>
    obtain ⟨wo, rfl⟩ : ∃ wo : World, wo = wr := ⟨_, rfl⟩
    obtain ⟨k, hk, rfl, B0, hbw⟩ := hrel
    by_cases hlt : k < a.length
    · obtain ⟨ad, rfl, hca⟩ := Ints.at (hA.keep hbw) hlt
      have hltb : k < b.length := by have := HL.out; omega
      obtain ⟨bd, rfl, hcb⟩ := Ints.at (hB.keep hbw) hltb
      have hx := HAX.out a[k] (List.getElem_mem _)
      have hy := HBX.out b[k] (List.getElem_mem _)
      have hl2 : (s.take k ++ List.replicate (a.length - k) 0).length = a.length := by
        have := HAL.out
        rw [List.length_append, List.length_take, List.length_replicate]; omega
      have HST : Hid ((s.take k ++ List.replicate (a.length - k) 0).set k (a[k] + b[k]) = s.take (k + 1) ++ List.replicate (a.length - (k + 1)) 0) := Lib.hid (fill_set _ k _ _ HAL.out hlt (HAT.out k hlt hltb (by rw [HAL.out]; exact hlt)))
      have c0 := B0.cell k
      have f0 := B0.frozen k
      rw [iarr_at _ (by rw [hl2]; exact hlt)] at c0
      generalize (s.take k ++ List.replicate (a.length - k) 0)[k]'(by rw [hl2]; exact hlt) = old at c0
      have HB0 := Lib.hid B0
      generalize b[k] = y at *
      generalize a[k] = x at *
      have HF := Lib.hid (fun W => mulf_any x y W)
      have hw : wrap64 (x + y) = x + y := by unfold wrap64; omega
      rw [hw] at HF
      have q0 : (0 : Int) ≤ (k : Int) := by omega
      have q1 : (k : Int) < (a.length : Int) := by omega
      have q2 : (k : Int) < (b.length : Int) := by omega
      have q3 : ((k : Int)).toNat = k := by omega
      clear B0 hl2 hw hx hy
      go_wp2_with (go_at_call 124; refine (HF.out _).mono ?_; rintro e w' ⟨rfl, rfl⟩)
      go_roundw
      case rel =>
        refine ⟨k + 1, by omega, by go_num, ?_, hbw.setCell (Nat.le_refl _) _⟩
        have := HB0.out.set k (.int .i64 (x + y))
        rw [iarr_set, HST.out] at this
        exact this
      case measure => simp [intOf]; omega
    · obtain rfl : k = a.length := by omega
      rw [Nat.sub_self, List.replicate_zero, List.append_nil, List.take_of_length_le (by rw [HAL.out]; omega)] at B0
      have hI := sl_new B0
      have HVD2 := Lib.hid (HVD.out wo hI)
      clear HVD B0
      cases ok with
      | true =>
        go_wp2_with (go_at_call 122; refine HVD2.out.mono ?_; rintro e w' ⟨rfl, rfl⟩)
        go_ret2
        exact ⟨hbw, .inr ⟨rfl, _, _, rfl, hI⟩⟩
      | false =>
        go_wp2_with (go_at_call 122; refine HVD2.out.mono ?_; rintro e w' ⟨rfl, rfl⟩)
        go_ret2
        exact ⟨hbw, .inl ⟨rfl, rfl⟩⟩
end Go.Proofs.Tg
end
