/- Parts of the proof: ST4. -/
import Derived.Test.YtpkompfkhoceoaaGreatDoorMMV20
import Derived.Test.YtpkompfkhoceoaaGreatDoorMMV24
section
/- The harness's sum of terms: Sum. -/
namespace Go.Proofs.Tg
open Go.RowKit Go.Gr Go.Bn Go.Rq Go.Mo Go.Rs
set_option maxHeartbeats 16000000
set_option maxRecDepth 100000
theorem bd_qs {D K : Nat} {q : Rat} (h : Rq.Bd D K q) (hD : 0 < D) (hD2 : D < 65536) (hK : K < 1000000000) : QS q :=
  Bd.qs h hD hD2 (Nat.lt_of_lt_of_le hK (by unfold B; exact Nat.le_trans (by decide : 1000000000 ≤ (2 ^ 32) ^ 1) (Nat.pow_le_pow_right (by decide) (by decide))))
def TQ.qe (t : TQ) : Rat × List Int := (t.r.q, t.el)
theorem cell_far1 {V : World} {g i : Nat} {a u : Value} {ad : Addr} (h : V.cell? ad = some u) (hne : ad.block ≠ g) : (V.setCell ⟨g, i, none⟩ a).cell? ad = some u := by
  have e : (⟨g, i, none⟩ : Addr) ≠ ad := fun e => hne (by rw [← e])
  rw [World.cell?_setCell_other _ _ _ _ e]
  exact h
/-- Whether term k has the monomial e. -/
def sameT (ss : List TQ) (e : List Int) (k : Nat) : Bool :=
  match ss[k]? with
  | some s => decide (Mo.ord e s.el = 0)
  | none => false
theorem same_true {ss : List TQ} {e : List Int} {k : Nat} (h : sameT ss e k = true) : ∃ hk : k < ss.length, Mo.ord e ss[k].el = 0 := by
  unfold sameT at h
  rcases Nat.lt_or_ge k ss.length with hk | hk
  · rw [List.getElem?_eq_getElem hk] at h
    exact ⟨hk, of_decide_eq_true h⟩
  · rw [List.getElem?_eq_none hk] at h; exact absurd h (by simp)
theorem same_false {ss : List TQ} {e : List Int} {k : Nat} (h : sameT ss e k = false) : ∀ hk : k < ss.length, Mo.ord e ss[k].el ≠ 0 := by
  intro hk
  unfold sameT at h
  rw [List.getElem?_eq_getElem hk] at h
  exact of_decide_eq_false h
/-- What the outer loop of Sum holds. -/
structure SuSt (w2 : World) (g6 bs v : Nat) (ss : List TQ) (wr : World) (i : Nat) (R : Option Addr) (c : Nat) (out : List TQ) : Prop where
  b6 : Blk wr g6 65 #[.int .i64 (v : Nat), .slice R out.length c]
  own : wr.ownsRow bs 99 5 (.slice R out.length c) out.length (out.flatMap TQ.cells)
  mem : ∀ t ∈ out, t.r.Ok wr ∧ ∃ s ∈ ss, t.E = s.E ∧ t.el = s.el ∧ t.ce = s.ce
  below : Below w2.heap.size w2 wr
  few : out.length ≤ i
  eq : out.map TQ.qe ++ col ((ss.drop i).map TQ.qe) = col (ss.map TQ.qe)
theorem SuSt.keep {w2 wr w' : World} {g6 bs v i c : Nat} {ss out : List TQ} {R : Option Addr} (h : SuSt w2 g6 bs v ss wr i R c out) (hb : Below wr.heap.size wr w') : SuSt w2 g6 bs v ss w' i R c out :=
  ⟨h.b6.keep hb h.b6.lt, own_below h.own hb (Nat.le_refl _), fun t ht => ⟨(h.mem t ht).1.keep hb, (h.mem t ht).2⟩, below_all h.below hb, h.few, h.eq⟩
theorem SuSt.push {w2 W V : World} {g6 bs v i k N c c' : Nat} {ss out : List TQ} {R R' : Option Addr} {t : TQ} {r : RVal} (h : SuSt w2 g6 bs v ss W i R c out) (hN : out.length = N) (hr : r.Ok W) (ht : t ∈ ss) (hik : i < k) (hg : W.grownBy V (Value.slice R N c).ownBlock)
    (ho : V.ownsRow bs 99 5 (.slice R' (N + 1) c') (N + 1) (out.flatMap TQ.cells ++ TQ.cells ⟨r, t.E, t.ce, t.el⟩)) (hg6 : w2.heap.size ≤ g6) (hbs : w2.heap.size ≤ bs) (heq : out.map TQ.qe ++ ([(r.q, t.el)] ++ col ((ss.drop k).map TQ.qe)) = col (ss.map TQ.qe)) :
    SuSt w2 g6 bs v ss (V.setCell ⟨g6, 1, none⟩ (.slice R' (N + 1) c')) k R' c' (out ++ [⟨r, t.E, t.ce, t.el⟩]) := by
  have hl : (out ++ [(⟨r, t.E, t.ce, t.el⟩ : TQ)]).length = N + 1 := by rw [List.length_append, hN]; rfl
  have hown := h.own
  have hb6 := h.b6
  rw [hN] at hown hb6
  have B6 : Blk V g6 65 #[.int .i64 (v : Nat), .slice R N c] := hb6.grown hg (own_blk_ne hown hb6 (by decide))
  refine ⟨?_, ?_, fun x hx => ?_, ?_, by rw [hl]; have := h.few; omega, ?_⟩
  · rw [hl]; exact B6.set 1 (.slice R' (N + 1) c')
  · rw [hl, List.flatMap_append]
    have := own_far (p := ⟨g6, 1, none⟩) ho (own_blk_ne ho B6 (by decide)) (.slice R' (N + 1) c')
    simpa using this
  · rcases List.mem_append.1 hx with hx | hx
    · obtain ⟨h1, h2⟩ := h.mem x hx
      exact ⟨(h1.grown hown hg (by decide)).far B6 (by decide) 1 _, h2⟩
    · rw [List.mem_singleton.1 hx]
      exact ⟨(hr.grown hown hg (by decide)).far B6 (by decide) 1 _, t, ht, rfl, rfl, rfl⟩
  · refine below_far (h.below.grown hg h.below.size (fun j hj => ?_)) hg6 _ _
    have := (hown.lt j hj).1
    omega
  · rw [List.map_append, List.append_assoc]; exact heq
/-- What the inner loop of Sum holds. -/
structure SiSt (wo : World) (g8 : Nat) (ss : List TQ) (D K i : Nat) (e : List Int) (wr : World) (k : Nat) (r : RVal) : Prop where
  b8 : RBlk wr g8 r
  below : Below wo.heap.size wo wr
  eq : colR ((ss.drop k).map TQ.qe) r.q e = col ((ss.drop i).map TQ.qe)
  bd : Bd D ((k - i) * K) r.q
theorem col_drop {ss : List TQ} {i : Nat} (hi : i < ss.length) : col ((ss.drop i).map TQ.qe) = colR ((ss.drop (i + 1)).map TQ.qe) ss[i].r.q ss[i].el := by
  rw [List.drop_eq_getElem_cons hi]; rfl
theorem colR_step {ss : List TQ} {k : Nat} (hk : k < ss.length) {c : Rat} {e : List Int} (h : Mo.ord e ss[k].el = 0) : colR ((ss.drop k).map TQ.qe) c e = colR ((ss.drop (k + 1)).map TQ.qe) (c + ss[k].r.q) e := by
  rw [List.drop_eq_getElem_cons hk, List.map_cons]
  show colR ((ss[k].r.q, ss[k].el) :: _) c e = _
  rw [colR, if_pos h]
theorem colR_stop {ss : List TQ} {k : Nat} {c : Rat} {e : List Int} (h : ∀ hk : k < ss.length, Mo.ord e ss[k].el ≠ 0) : colR ((ss.drop k).map TQ.qe) c e = (if c = 0 then [] else [(c, e)]) ++ col ((ss.drop k).map TQ.qe) := by
  rcases Nat.lt_or_ge k ss.length with hk | hk
  · rw [List.drop_eq_getElem_cons hk, List.map_cons]
    show colR ((ss[k].r.q, ss[k].el) :: _) c e = _ ++ col ((ss[k].r.q, ss[k].el) :: _)
    rw [colR, if_neg (h hk)]; rfl
  · rw [List.drop_eq_nil_of_le hk]
    show (if c = 0 then [] else [(c, e)]) = _ ++ []
    rw [List.append_nil]

theorem sum_any (v D K : Nat) (hv : v ≤ 10) (hD : 0 < D) (hD2 : D < 65536) (ts : List TQ) (L : Option Addr) (c : Nat) (w : World) (hn : ts.length ≤ 1000) (hK : (ts.length + 1) * K < 1000000000) (hc : ts.length ≤ c) (hT : TQs w L ts) (hE : ∀ t ∈ ts, t.el.length = v ∧ low20 t.el = true) (hB : ∀ t ∈ ts, Bd D K t.r.q) :
    Calls Tryz.prog 51 #[.int .i64 (v : Nat), .slice L ts.length c] w fun e w' => ∃ R d out, e = .returned (.agg #[.int .i64 (v : Nat), .slice R (List.length out) d]) ∧ OwnTQ w.heap.size w' R d out ∧ (∀ t ∈ out, ∃ s ∈ ts, t.E = s.E ∧ t.el = s.el) ∧ out.length ≤ d ∧ out.length ≤ ts.length ∧ out.map TQ.qe = col ((msrt leT ts.length ts).map TQ.qe) ∧ Below w.heap.size w w' := by
  obtain ⟨ss, hss⟩ : ∃ x, msrt leT ts.length ts = x := ⟨_, rfl⟩
  obtain ⟨n, hnn⟩ : ∃ x, ts.length = x := ⟨_, rfl⟩
  have hsl : ss.length = n := by rw [← hss, msrt_len, hnn]
  have HSL := Lib.hid hsl
  have HSE : Hid (∀ t ∈ ss, t.el.length = v ∧ low20 t.el = true) := Lib.hid (fun t ht => hE t ((msrt_mem leT).1 (hss ▸ ht)))
  have HSB : Hid (∀ t ∈ ss, Bd D K t.r.q) := Lib.hid (fun t ht => hB t ((msrt_mem leT).1 (hss ▸ ht)))
  have HSM : Hid (∀ t ∈ ss, t ∈ ts) := Lib.hid (fun t ht => (msrt_mem leT).1 (hss ▸ ht))
  have HTW : Hid (∀ t ∈ ss, Ints w t.E t.el) := Lib.hid (fun t ht => (hT.ok t ((msrt_mem leT).1 (hss ▸ ht))).e)
  have HS : Hid (∀ V, Below w.heap.size w V → Calls Tryz.prog 87 #[.slice L n c] V fun e w' => ∃ B d, e = .returned (.slice B n d) ∧ TQs w' B ss ∧ Below V.heap.size V w') := Lib.hid (fun V hb => by
    have h1 := sorted_any v hv ts.length ts L c V (by omega) hn hc (hT.keep hb) hE
    rw [hss, hnn] at h1
    exact h1.mono fun e w' ⟨B, d, e1, _, h2, h3⟩ => ⟨B, d, e1, h2, h3⟩)
  rw [hss, hnn]
  rw [hnn] at hn hK hc
  have hKb : ∀ m, m ≤ n + 1 → m * K < 1000000000 := fun m hm => Nat.lt_of_le_of_lt (Nat.mul_le_mul_right _ hm) hK
  have HKB := Lib.hid hKb
  clear hss hnn hsl hT hE hB hK hKb
  have B4 := Blk.new w 65 #[.int .i64 0, .slice none 0 0]
  have hb4 : Below w.heap.size w (w.alloc (.cells #[.int .i64 0, .slice none 0 0] 65)) := (Below.refl _ _).alloc (Nat.le_refl _) _
  go_enter Tryz.func51, Tryz.ntmps51
  go_wp2_with (fail)
  refine (HS.out _ hb4).mono ?_
  rintro e w2 ⟨B, d, rfl, hTB, hb2⟩
  have HTB := Lib.hid hTB
  have HB4 := Lib.hid (B4.keep hb2 B4.lt)
  have HBW := Lib.hid (below_all hb4 hb2)
  have hg4 : w.heap.size < w2.heap.size := HB4.out.lt
  clear hTB hb2 B4 hb4 HS
  have HST0 : Hid (SuSt w2 w2.heap.size (w2.heap.size + 1) v ss (w2.alloc (.cells #[.int .i64 (v : Nat), .slice none 0 0] 65)) 0 none 0 []) := Lib.hid ⟨Blk.new _ _ _, World.ownsRow_nil _ _ _ _, fun t h => absurd h (by simp), (Below.refl _ _).alloc (Nat.le_refl _) _, Nat.zero_le _, rfl⟩
  go_upto_region 3 with (fail)
  generalize w2.alloc (.cells #[.int .i64 (v : Nat), .slice none 0 0] 65) = W6 at *
  go_wp2
  go_loopw [7] (fun s7 wr => ∃ (i : Nat) (R : Option Addr) (cr : Nat) (out : List TQ), s7 = .int .i64 (i : Nat) ∧ i ≤ n ∧ Hid (SuSt w2 w2.heap.size (w2.heap.size + 1) v ss wr i R cr out)) (fun s7 _ => n - (intOf s7).toNat)
  case atStart => exact ⟨0, none, 0, [], rfl, Nat.zero_le _, HST0⟩
  case round =>
    clear HST0
    obtain ⟨wo, rfl⟩ : ∃ wo : World, wo = wr := ⟨_, rfl⟩
    obtain ⟨i, R, cr, out, rfl, hi, HST⟩ := hrel
    by_cases hin : i = n
    · have e1 : decide ((i : Int) < (n : Int)) = false := decide_eq_false (by omega)
      have e1' : decide (i < n) = false := decide_eq_false (by omega)
      obtain ⟨x0, x1, _, _⟩ := HST.out.b6.two
      have HG4 := Lib.hid (HB4.out.keep HST.out.below hg4)
      obtain ⟨y0, y1, f0, f1⟩ := HG4.out.two
      obtain ⟨N, hN⟩ : ∃ x, out.length = x := ⟨_, rfl⟩
      rw [hN] at x1
      have HRES : Hid (∃ R' d' out', Ending.returned (.agg #[.int .i64 (v : Nat), .slice R N cr]) = .returned (.agg #[.int .i64 (v : Nat), .slice R' (List.length out') d']) ∧ OwnTQ w.heap.size ((wo.setCell ⟨w.heap.size, 0, none⟩ (.int .i64 (v : Nat))).setCell ⟨w.heap.size, 1, none⟩ (.slice R N cr)) R' d' out' ∧ (∀ t ∈ out', ∃ s ∈ ts, t.E = s.E ∧ t.el = s.el) ∧ out'.length ≤ d' ∧ out'.length ≤ n ∧ out'.map TQ.qe = col (ss.map TQ.qe) ∧ Below w.heap.size w ((wo.setCell ⟨w.heap.size, 0, none⟩ (.int .i64 (v : Nat))).setCell ⟨w.heap.size, 1, none⟩ (.slice R N cr))) := Lib.hid (by
        have hown := HST.out.own
        obtain ⟨B', d', hv', hcap, _⟩ := Sl.of_own hown
        injection hv' with h1 h2 h3
        have he := HST.out.eq
        rw [hin, List.drop_of_length_le (by rw [HSL.out]; exact Nat.le_refl _)] at he
        have hnb : ∀ (A : Option Addr) (k cc : Nat), True := fun _ _ _ => trivial
        have o1 := own_far (p := ⟨w.heap.size, 0, none⟩) hown (own_blk_ne hown HG4.out (by decide)) (.int .i64 (v : Nat))
        have G1 := HG4.out.set 0 (.int .i64 (v : Nat))
        have o2 := own_far (p := ⟨w.heap.size, 1, none⟩) o1 (own_blk_ne o1 G1 (by decide)) (.slice R N cr)
        refine ⟨R, cr, out, by rw [hN], ⟨own_base o2 (by omega), fun t ht => ?_⟩, fun t ht => ?_, by rw [h3]; exact hcap, Nat.le_trans HST.out.few hi, ?_, below_far (below_far (below_all HBW.out HST.out.below) (Nat.le_refl _) _ _) (Nat.le_refl _) _ _⟩
        · obtain ⟨h5, s, hs, e1, e2, e3⟩ := HST.out.mem t ht
          refine ⟨(h5.far HG4.out (by decide) 0 _).far G1 (by decide) 1 _, ?_⟩
          have hI : Ints w t.E t.el := by rw [e1, e2]; exact HTW.out s hs
          exact hI.keep (below_far (below_far (below_all HBW.out HST.out.below) (Nat.le_refl _) _ _) (Nat.le_refl _) _ _)
        · obtain ⟨_, s, hs, e1, e2, _⟩ := HST.out.mem t ht
          exact ⟨s, HSM.out s hs, e1, e2⟩
        · have he2 : out.map TQ.qe ++ col [] = col (ss.map TQ.qe) := he
          rw [← he2]; show _ = _ ++ []; rw [List.append_nil])
      have HIN := Lib.hid hin
      clear hin hN
      go_wp2
      obtain ⟨p0, p1, _, _⟩ := ((HG4.out.set 0 (.int .i64 (v : Nat))).set 1 (.slice R N cr)).two
      exact bodyPost_ret (v := .agg #[.int .i64 (v : Nat), .slice R N cr]) (by simp [results, Tryz.results51, go_sem, p0, p1]) rfl HRES.out
    · have hil : i < n := by omega
      have e1 : decide ((i : Int) < (n : Int)) = true := decide_eq_true (by omega)
      have e1' : decide (i < n) = true := decide_eq_true hil
      have q1 : (0 : Int) ≤ (i : Int) := by omega
      have q2 : (i : Int) < (n : Int) := by omega
      have his : i < ss.length := by rw [HSL.out]; exact hil
      obtain ⟨b1, hB1, c0, c1, c2, c3, c4⟩ := (HTB.out.keep HST.out.below).at his
      subst hB1
      obtain ⟨t, ht⟩ : ∃ t, ss[i] = t := ⟨_, rfl⟩
      rw [ht] at c0 c1 c3 c4
      have HTM : Hid (t ∈ ss) := Lib.hid (by rw [← ht]; exact List.getElem_mem _)
      have htv : t.el.length = v := (HSE.out t HTM.out).1
      rw [htv] at c4
      have HTV := Lib.hid htv
      have HC4 := Lib.hid c4
      have hb1 : b1.block ≠ wo.heap.size := by
        obtain ⟨ax, eA, hlt, _⟩ := HTB.out.sl.lies (by omega)
        injection eA with eA
        subst eA
        have := HST.out.below.size
        omega
      have htok : t.Ok w2 := HTB.out.ok t HTM.out
      obtain ⟨r0, hr0⟩ : ∃ r, t.r = r := ⟨_, rfl⟩
      have hok0 : r0.Ok wo := by rw [← hr0]; exact htok.r.keep HST.out.below
      rw [hr0] at c0 c1 c3
      have hb8 : Below wo.heap.size wo (wo.alloc (.cells #[.bool (decide (r0.q.num < 0)), .slice r0.N (dg r0.q.num.natAbs).length r0.cn, .bool false, .slice r0.D (dg (dnz r0.q.den)).length r0.cd] 52)) := (Below.refl _ _).alloc (Nat.le_refl _) _
      have HSI0 : Hid (SiSt wo wo.heap.size ss D K i t.el (wo.alloc (.cells #[.bool (decide (r0.q.num < 0)), .slice r0.N (dg r0.q.num.natAbs).length r0.cn, .bool false, .slice r0.D (dg (dnz r0.q.den)).length r0.cd] 52)) (i + 1) r0) := Lib.hid ⟨⟨Blk.new _ _ _, hok0.keep hb8⟩, hb8, by rw [col_drop his, ht, hr0], by
        have h1 := HSB.out t HTM.out
        rw [hr0] at h1
        rw [show i + 1 - i = 1 by omega, Nat.one_mul]; exact h1⟩
      have HCI : Hid (IntKind.i64.wrap ((i : Int) + 1) = ((i + 1 : Nat) : Int)) := Lib.hid (by rw [show (i : Int) + 1 = ((i + 1 : Nat) : Int) by omega]; exact IntWalk.i64_in _ (by omega))
      clear his ht htv htok hr0 hok0 hb8 hin
      go_upto_region 6 with (fail)
      obtain ⟨g8, hg8⟩ : ∃ x, wo.heap.size = x := ⟨_, rfl⟩
      have HG8 := Lib.hid hg8
      rw [hg8] at HSI0 hb1 ⊢
      generalize wo.alloc (.cells #[.bool (decide (r0.q.num < 0)), .slice r0.N (dg r0.q.num.natAbs).length r0.cn, .bool false, .slice r0.D (dg (dnz r0.q.den)).length r0.cd] 52) = W8 at *
      clear c0 c1 c2 c3 c4 hg8
      go_wp2
      go_loopw [9] (fun s9 wr => ∃ (k : Nat) (r : RVal), s9 = .int .i64 (k : Nat) ∧ i < k ∧ k ≤ n ∧ Hid (SiSt wo g8 ss D K i t.el wr k r)) (fun s9 _ => n - (intOf s9).toNat)
      case atStart => exact ⟨i + 1, r0, by go_num, by omega, by omega, HSI0⟩
      case round =>
        clear HSI0
        obtain ⟨wi, rfl⟩ : ∃ wo : World, wo = wr := ⟨_, rfl⟩
        obtain ⟨k, r, rfl, hik, hk, HIT⟩ := hrel
        have HWI := Lib.hid (below_all HST.out.below HIT.out.below)
        obtain ⟨tb, htb⟩ : ∃ b, sameT ss t.el k = b := ⟨_, rfl⟩
        have HTBB := Lib.hid htb
        clear htb
        have x4 := keep_cell HIT.out.below HC4.out
        go_upto_region 7 with (fail)
        go_cut [42] (fun s42 wx => s42 = .bool tb ∧ Hid (Below wi.heap.size wi wx))
        case first =>
          by_cases hkl : k < n
          · have e2 : decide ((k : Int) < (n : Int)) = true := decide_eq_true (by omega)
            have e2' : decide (k < n) = true := decide_eq_true hkl
            have hks : k < ss.length := by rw [HSL.out]; exact hkl
            obtain ⟨b2, hB2, _, _, _, _, y4⟩ := (HTB.out.keep HWI.out).at hks
            injection hB2 with hB2
            subst hB2
            obtain ⟨u, hu⟩ : ∃ u, ss[k] = u := ⟨_, rfl⟩
            have hum : u ∈ ss := by rw [← hu]; exact List.getElem_mem _
            have hue := HSE.out u hum
            have hte := HSE.out t HTM.out
            rw [hu, hue.1] at y4
            obtain ⟨z, hz⟩ : ∃ z, Mo.ord t.el u.el = z := ⟨_, rfl⟩
            have htz : decide (z = 0) = tb := by
              rw [← HTBB.out]
              unfold sameT
              rw [List.getElem?_eq_getElem hks, hu]
              show _ = decide (Mo.ord t.el u.el = 0)
              rw [hz]
            have htz2 : (z == 0) = tb := htz
            have HOR : Hid (∀ V, Below wi.heap.size wi V → Calls Tryz.prog 88 #[.slice t.E v t.ce, .slice u.E v u.ce] V fun e w' => e = .returned (.int .i64 z) ∧ Below V.heap.size V w') := Lib.hid (fun V hb => by
              have h1 := rord_any t.E u.E t.ce u.ce t.el u.el V (((HTB.out.ok t HTM.out).e.keep HWI.out).keep hb) (((HTB.out.ok u hum).e.keep HWI.out).keep hb) (by rw [hte.1, hue.1]) (by rw [hte.1]; omega) hte.2 hue.2
              rw [hte.1, hue.1, hz] at h1
              exact h1.mono fun e w' h2 => ⟨h2.1, h2.2.below⟩)
            have q3 : (0 : Int) ≤ (k : Int) := by omega
            have q4 : (k : Int) < (n : Int) := by omega
            clear hz hu hum hue hte hkl
            generalize u.E = uE at *
            generalize u.ce = uce at *
            have BZ : Below wi.heap.size wi wi.drew := (Below.refl _ _).drew
            refine wp_region_held_drew (S := (fun w' => w'.cell? ⟨(b1.add (i * 5)).block, (b1.add (i * 5)).off + 4, none⟩ = some (.slice t.E v t.ce) ∧ w'.cell? ⟨(b1.add (k * 5)).block, (b1.add (k * 5)).off + 4, none⟩ = some (.slice uE v uce))) (by kernel_rfl) ⟨keep_cell BZ x4, keep_cell BZ y4⟩ (fun hHeld => ?_)
            generalize wi.drew = Z at *
            refine wpAnyH_get 0 (some 25) (.int .i64 (k : Nat)) rfl rfl (by kernel_rfl) (by kernel_rfl) (by kernel_rfl) (fun _ _ _ h => h) (by rfl) hHeld ?_ ?_
            · (intro w hSw; (try dsimp only at hSw); go_simp; all_goals (try with_reducible rfl))
            (try simp only [Act.put, List.setIfInBounds_toArray, List.set_cons_zero, List.set_cons_succ])
            refine wpAnyH_get 1 (some 26) (.slice (some b1) n d) rfl rfl (by kernel_rfl) (by kernel_rfl) (by kernel_rfl) (fun _ _ _ h => h) (by rfl) hHeld ?_ ?_
            · (intro w hSw; (try dsimp only at hSw); go_simp; all_goals (try with_reducible rfl))
            (try simp only [Act.put, List.setIfInBounds_toArray, List.set_cons_zero, List.set_cons_succ])
            refine wpAnyH_get 2 (some 27) (.int .i64 (n : Nat)) rfl rfl (by kernel_rfl) (by kernel_rfl) (by kernel_rfl) (fun _ _ _ h => h) (by rfl) hHeld ?_ ?_
            · (intro w hSw; (try dsimp only at hSw); go_simp; all_goals (try with_reducible rfl))
            (try simp only [Act.put, List.setIfInBounds_toArray, List.set_cons_zero, List.set_cons_succ])
            refine wpAnyH_get 3 (some 28) (.bool true) rfl rfl (by kernel_rfl) (by kernel_rfl) (by kernel_rfl) (fun _ _ _ h => h) (by rfl) hHeld ?_ ?_
            · (intro w hSw; (try dsimp only at hSw); go_simp; all_goals (try with_reducible rfl))
            (try simp only [Act.put, List.setIfInBounds_toArray, List.set_cons_zero, List.set_cons_succ])
            refine wpAnyH_get 4 (some 29) (.bool true) rfl rfl (by kernel_rfl) (by kernel_rfl) (by kernel_rfl) (fun _ _ _ h => h) (by rfl) hHeld ?_ ?_
            · (intro w hSw; (try dsimp only at hSw); go_simp; all_goals (try with_reducible rfl))
            (try simp only [Act.put, List.setIfInBounds_toArray, List.set_cons_zero, List.set_cons_succ])
            refine wpAnyH_get 5 (some 30) (.slice (some b1) n d) rfl rfl (by kernel_rfl) (by kernel_rfl) (by kernel_rfl) (fun _ _ _ h => h) (by rfl) hHeld ?_ ?_
            · (intro w hSw; (try dsimp only at hSw); go_simp; all_goals (try with_reducible rfl))
            (try simp only [Act.put, List.setIfInBounds_toArray, List.set_cons_zero, List.set_cons_succ])
            refine wpAnyH_get 6 (some 31) (.int .i64 (i : Nat)) rfl rfl (by kernel_rfl) (by kernel_rfl) (by kernel_rfl) (fun _ _ _ h => h) (by rfl) hHeld ?_ ?_
            · (intro w hSw; (try dsimp only at hSw); go_simp; all_goals (try with_reducible rfl))
            (try simp only [Act.put, List.setIfInBounds_toArray, List.set_cons_zero, List.set_cons_succ])
            refine wpAnyH_get 7 (some 32) (.pointer (some (b1.add (i * 5)))) rfl rfl (by kernel_rfl) (by kernel_rfl) (by kernel_rfl) (fun _ _ _ h => h) (by rfl) hHeld ?_ ?_
            · (intro w hSw; (try dsimp only at hSw); go_simp; all_goals (try with_reducible rfl))
            (try simp only [Act.put, List.setIfInBounds_toArray, List.set_cons_zero, List.set_cons_succ])
            refine wpAnyH_get 8 (some 33) (.pointer (some ⟨(b1.add (i * 5)).block, (b1.add (i * 5)).off + 4, none⟩)) rfl rfl (by kernel_rfl) (by kernel_rfl) (by kernel_rfl) (fun _ _ _ h => h) (by rfl) hHeld ?_ ?_
            · (intro w hSw; (try dsimp only at hSw); go_simp; all_goals (try with_reducible rfl))
            (try simp only [Act.put, List.setIfInBounds_toArray, List.set_cons_zero, List.set_cons_succ])
            refine wpAnyH_get 9 (some 34) (.slice t.E v t.ce) rfl rfl (by kernel_rfl) (by kernel_rfl) (by kernel_rfl) (fun _ _ _ h => h) (by rfl) hHeld ?_ ?_
            · (intro w hSw; (try dsimp only at hSw); go_simp; all_goals (try with_reducible rfl))
            (try simp only [Act.put, List.setIfInBounds_toArray, List.set_cons_zero, List.set_cons_succ])
            refine wpAnyH_get 10 (some 35) (.slice (some b1) n d) rfl rfl (by kernel_rfl) (by kernel_rfl) (by kernel_rfl) (fun _ _ _ h => h) (by rfl) hHeld ?_ ?_
            · (intro w hSw; (try dsimp only at hSw); go_simp; all_goals (try with_reducible rfl))
            (try simp only [Act.put, List.setIfInBounds_toArray, List.set_cons_zero, List.set_cons_succ])
            refine wpAnyH_get 11 (some 36) (.int .i64 (k : Nat)) rfl rfl (by kernel_rfl) (by kernel_rfl) (by kernel_rfl) (fun _ _ _ h => h) (by rfl) hHeld ?_ ?_
            · (intro w hSw; (try dsimp only at hSw); go_simp; all_goals (try with_reducible rfl))
            (try simp only [Act.put, List.setIfInBounds_toArray, List.set_cons_zero, List.set_cons_succ])
            refine wpAnyH_get 12 (some 37) (.pointer (some (b1.add (k * 5)))) rfl rfl (by kernel_rfl) (by kernel_rfl) (by kernel_rfl) (fun _ _ _ h => h) (by rfl) hHeld ?_ ?_
            · (intro w hSw; (try dsimp only at hSw); go_simp; all_goals (try with_reducible rfl))
            (try simp only [Act.put, List.setIfInBounds_toArray, List.set_cons_zero, List.set_cons_succ])
            refine wpAnyH_get 13 (some 38) (.pointer (some ⟨(b1.add (k * 5)).block, (b1.add (k * 5)).off + 4, none⟩)) rfl rfl (by kernel_rfl) (by kernel_rfl) (by kernel_rfl) (fun _ _ _ h => h) (by rfl) hHeld ?_ ?_
            · (intro w hSw; (try dsimp only at hSw); go_simp; all_goals (try with_reducible rfl))
            (try simp only [Act.put, List.setIfInBounds_toArray, List.set_cons_zero, List.set_cons_succ])
            refine wpAnyH_get 14 (some 39) (.slice uE v uce) rfl rfl (by kernel_rfl) (by kernel_rfl) (by kernel_rfl) (fun _ _ _ h => h) (by rfl) hHeld ?_ ?_
            · (intro w hSw; (try dsimp only at hSw); go_simp; all_goals (try with_reducible rfl))
            (try simp only [Act.put, List.setIfInBounds_toArray, List.set_cons_zero, List.set_cons_succ])
            refine wpAnyH_ready (rs := [15]) (by kernel_rfl) (by simp) ?_
            refine AllReadyH.cons rfl (fun K hK => ?_) AllReadyH.nil
            go_simp
            refine (HOR.out _ BZ).mono ?_
            rintro e wz ⟨rfl, hb⟩
            (try go_simp)
            have BZ := below_all BZ hb
            refine hK.out _ _ ⟨keep_cell BZ x4, keep_cell BZ y4⟩ (fun hHeld => ?_)
            clear hK K hb
            (try simp only [Act.put, List.setIfInBounds_toArray, List.set_cons_zero, List.set_cons_succ])
            refine wpAnyH_get 16 (some 41) (.bool tb) rfl rfl (by kernel_rfl) (by kernel_rfl) (by kernel_rfl) (fun _ _ _ h => h) (by rfl) hHeld ?_ ?_
            · (intro w hSw; (try dsimp only at hSw); go_simp; all_goals (try with_reducible rfl))
            (try simp only [Act.put, List.setIfInBounds_toArray, List.set_cons_zero, List.set_cons_succ])
            refine wpAnyH_get 17 (some 42) (.bool tb) rfl rfl (by kernel_rfl) (by kernel_rfl) (by kernel_rfl) (fun _ _ _ h => h) (by rfl) hHeld ?_ ?_
            · (intro w hSw; (try dsimp only at hSw); go_simp; all_goals (try with_reducible rfl))
            (try simp only [Act.put, List.setIfInBounds_toArray, List.set_cons_zero, List.set_cons_succ])
            refine wpAnyH_done (by kernel_rfl) ?_ _
            have HBZ := Lib.hid BZ
            go_wp2
            go_meet
            exact ⟨rfl, HBZ⟩
          · have e2 : decide ((k : Int) < (n : Int)) = false := decide_eq_false (by omega)
            have e2' : decide (k < n) = false := decide_eq_false hkl
            have htf : tb = false := by
              rw [← HTBB.out]
              unfold sameT
              rw [List.getElem?_eq_none (by rw [HSL.out]; omega)]
            subst htf
            have BZ : Below wi.heap.size wi wi.drew := (Below.refl _ _).drew
            refine wp_region_held_drew (S := (fun w' => True)) (by kernel_rfl) trivial (fun hHeld => ?_)
            generalize wi.drew = Z at *
            refine wpAnyH_get 0 (some 25) (.int .i64 (k : Nat)) rfl rfl (by kernel_rfl) (by kernel_rfl) (by kernel_rfl) (fun _ _ _ h => h) (by rfl) hHeld ?_ ?_
            · (intro w hSw; (try dsimp only at hSw); go_simp; all_goals (try with_reducible rfl))
            (try simp only [Act.put, List.setIfInBounds_toArray, List.set_cons_zero, List.set_cons_succ])
            refine wpAnyH_get 1 (some 26) (.slice (some b1) n d) rfl rfl (by kernel_rfl) (by kernel_rfl) (by kernel_rfl) (fun _ _ _ h => h) (by rfl) hHeld ?_ ?_
            · (intro w hSw; (try dsimp only at hSw); go_simp; all_goals (try with_reducible rfl))
            (try simp only [Act.put, List.setIfInBounds_toArray, List.set_cons_zero, List.set_cons_succ])
            refine wpAnyH_get 2 (some 27) (.int .i64 (n : Nat)) rfl rfl (by kernel_rfl) (by kernel_rfl) (by kernel_rfl) (fun _ _ _ h => h) (by rfl) hHeld ?_ ?_
            · (intro w hSw; (try dsimp only at hSw); go_simp; all_goals (try with_reducible rfl))
            (try simp only [Act.put, List.setIfInBounds_toArray, List.set_cons_zero, List.set_cons_succ])
            refine wpAnyH_get 3 (some 28) (.bool false) rfl rfl (by kernel_rfl) (by kernel_rfl) (by kernel_rfl) (fun _ _ _ h => h) (by rfl) hHeld ?_ ?_
            · (intro w hSw; (try dsimp only at hSw); go_simp; all_goals (try with_reducible rfl))
            (try simp only [Act.put, List.setIfInBounds_toArray, List.set_cons_zero, List.set_cons_succ])
            refine wpAnyH_get 4 (some 29) (.bool false) rfl rfl (by kernel_rfl) (by kernel_rfl) (by kernel_rfl) (fun _ _ _ h => h) (by rfl) hHeld ?_ ?_
            · (intro w hSw; (try dsimp only at hSw); go_simp; all_goals (try with_reducible rfl))
            (try simp only [Act.put, List.setIfInBounds_toArray, List.set_cons_zero, List.set_cons_succ])
            refine wpAnyH_pass 5 (some 30) rfl rfl (by kernel_rfl) (by kernel_rfl) (by kernel_rfl) (fun _ _ _ h => h) (by rfl) hHeld ?_
            (try simp only [Act.put, List.setIfInBounds_toArray, List.set_cons_zero, List.set_cons_succ])
            refine wpAnyH_pass 6 (some 31) rfl rfl (by kernel_rfl) (by kernel_rfl) (by kernel_rfl) (fun _ _ _ h => h) (by rfl) hHeld ?_
            (try simp only [Act.put, List.setIfInBounds_toArray, List.set_cons_zero, List.set_cons_succ])
            refine wpAnyH_pass 7 (some 32) rfl rfl (by kernel_rfl) (by kernel_rfl) (by kernel_rfl) (fun _ _ _ h => h) (by rfl) hHeld ?_
            (try simp only [Act.put, List.setIfInBounds_toArray, List.set_cons_zero, List.set_cons_succ])
            refine wpAnyH_pass 8 (some 33) rfl rfl (by kernel_rfl) (by kernel_rfl) (by kernel_rfl) (fun _ _ _ h => h) (by rfl) hHeld ?_
            (try simp only [Act.put, List.setIfInBounds_toArray, List.set_cons_zero, List.set_cons_succ])
            refine wpAnyH_pass 9 (some 34) rfl rfl (by kernel_rfl) (by kernel_rfl) (by kernel_rfl) (fun _ _ _ h => h) (by rfl) hHeld ?_
            (try simp only [Act.put, List.setIfInBounds_toArray, List.set_cons_zero, List.set_cons_succ])
            refine wpAnyH_pass 10 (some 35) rfl rfl (by kernel_rfl) (by kernel_rfl) (by kernel_rfl) (fun _ _ _ h => h) (by rfl) hHeld ?_
            (try simp only [Act.put, List.setIfInBounds_toArray, List.set_cons_zero, List.set_cons_succ])
            refine wpAnyH_pass 11 (some 36) rfl rfl (by kernel_rfl) (by kernel_rfl) (by kernel_rfl) (fun _ _ _ h => h) (by rfl) hHeld ?_
            (try simp only [Act.put, List.setIfInBounds_toArray, List.set_cons_zero, List.set_cons_succ])
            refine wpAnyH_pass 12 (some 37) rfl rfl (by kernel_rfl) (by kernel_rfl) (by kernel_rfl) (fun _ _ _ h => h) (by rfl) hHeld ?_
            (try simp only [Act.put, List.setIfInBounds_toArray, List.set_cons_zero, List.set_cons_succ])
            refine wpAnyH_pass 13 (some 38) rfl rfl (by kernel_rfl) (by kernel_rfl) (by kernel_rfl) (fun _ _ _ h => h) (by rfl) hHeld ?_
            (try simp only [Act.put, List.setIfInBounds_toArray, List.set_cons_zero, List.set_cons_succ])
            refine wpAnyH_pass 14 (some 39) rfl rfl (by kernel_rfl) (by kernel_rfl) (by kernel_rfl) (fun _ _ _ h => h) (by rfl) hHeld ?_
            (try simp only [Act.put, List.setIfInBounds_toArray, List.set_cons_zero, List.set_cons_succ])
            refine wpAnyH_pass 15 (some 40) rfl rfl (by kernel_rfl) (by kernel_rfl) (by kernel_rfl) (fun _ _ _ h => h) (by rfl) hHeld ?_
            (try simp only [Act.put, List.setIfInBounds_toArray, List.set_cons_zero, List.set_cons_succ])
            refine wpAnyH_pass 16 (some 41) rfl rfl (by kernel_rfl) (by kernel_rfl) (by kernel_rfl) (fun _ _ _ h => h) (by rfl) hHeld ?_
            (try simp only [Act.put, List.setIfInBounds_toArray, List.set_cons_zero, List.set_cons_succ])
            refine wpAnyH_get 17 (some 42) (.bool false) rfl rfl (by kernel_rfl) (by kernel_rfl) (by kernel_rfl) (fun _ _ _ h => h) (by rfl) hHeld ?_ ?_
            · (intro w hSw; (try dsimp only at hSw); go_simp; all_goals (try with_reducible rfl))
            (try simp only [Act.put, List.setIfInBounds_toArray, List.set_cons_zero, List.set_cons_succ])
            refine wpAnyH_done (by kernel_rfl) ?_ _
            have HBZ := Lib.hid BZ
            go_wp2
            go_meet
            exact ⟨rfl, HBZ⟩
        obtain ⟨hs42, HC⟩ := hcut
        subst hs42
        have HIX : Hid (SiSt wo g8 ss D K i t.el wc k r) := Lib.hid ⟨HIT.out.b8.keep HC.out, below_all HIT.out.below HC.out, HIT.out.eq, HIT.out.bd⟩
        have HWX := Lib.hid (below_all HWI.out HC.out)
        have hbw := below_all HIT.out.below HC.out
        clear x4 HIT HWI HC
        obtain ⟨wi, rfl⟩ : ∃ x : World, x = wc := ⟨_, rfl⟩
        cases tb
        · skip
          have hstop := same_false HTBB.out
          have hEQ := HST.out.eq
          rw [← HIX.out.eq, colR_stop hstop] at hEQ
          have hbr := HIX.out.bd
          have hqr : QS r.q := bd_qs hbr hD hD2 (HKB.out _ (by omega))
          have HEQ := Lib.hid hEQ
          have hlr := hqr.num
          have HSGN : Hid (∀ V, Below wi.heap.size wi V → Calls Tryz.prog 89 #[.agg #[.bool (decide (r.q.num < 0)), .slice r.N (dg r.q.num.natAbs).length r.cn, .bool false, .slice r.D (dg (dnz r.q.den)).length r.cd]] V fun e w' => e = .returned (.int .i64 r.q.num.sign) ∧ Below V.heap.size V w') := Lib.hid (fun V h => rsign_q r.q r.val V (HIX.out.b8.ok.keep h).at (by omega))
          obtain ⟨y0, y1, y2, y3, _, _, _, _⟩ := HIX.out.b8.b.four
          clear hstop hEQ hbr hqr hlr
          by_cases hz : r.q = 0
          · have hsg : r.q.num.sign = 0 := by rw [hz]; rfl
            rw [hsg] at HSGN
            have HZ := Lib.hid hz
            clear hsg hz
            go_wp2_with (fail)
            refine (HSGN.out _ (Below.refl _ _)).mono ?_
            rintro e w10 ⟨rfl, hb10⟩
            have HNX : Hid (SuSt w2 w2.heap.size (w2.heap.size + 1) v ss w10 k R cr out) := Lib.hid (by
              have h1 := HST.out.keep (below_all hbw hb10)
              have h2 := HEQ.out
              rw [if_pos HZ.out, List.nil_append] at h2
              exact ⟨h1.b6, h1.own, h1.mem, h1.below, by have := h1.few; omega, h2⟩)
            clear hb10
            go_wp2
            go_roundw
            case rel => exact ⟨k, R, cr, out, rfl, by omega, HNX⟩
            case measure => simp [intOf]; omega
          · obtain ⟨sg, hsg⟩ : ∃ s, r.q.num.sign = s := ⟨_, rfl⟩
            have hsn : sg ≠ 0 := by
              rw [← hsg]
              intro h
              have h1 : r.q.num = 0 := Int.sign_eq_zero_iff_zero.1 h
              exact hz (Rat.num_eq_zero.1 h1)
            rw [hsg] at HSGN
            have HZ := Lib.hid hz
            have e5 : (sg = 0) = False := eq_false hsn
            have e6 : decide (sg = 0) = false := decide_eq_false hsn
            have e7 : (sg == 0) = false := e6
            have e8 : (sg != 0) = true := by rw [bne, e7]; rfl
            clear hsg hz hsn
            go_wp2_with (fail)
            refine (HSGN.out _ (Below.refl _ _)).mono ?_
            rintro e w10 ⟨rfl, hb10⟩
            obtain ⟨N, hN⟩ : ∃ x, out.length = x := ⟨_, rfl⟩
            have HNN := Lib.hid hN
            have HSX : Hid (SuSt w2 w2.heap.size (w2.heap.size + 1) v ss w10 i R cr out) := Lib.hid (HST.out.keep (below_all hbw hb10))
            have hb6 := HSX.out.b6
            have hownx := HSX.out.own
            rw [hN] at hb6 hownx
            have HB6 := Lib.hid hb6
            have HOX := Lib.hid hownx
            have HN1000 : N ≤ 1000 := by rw [← hN]; exact Nat.le_trans HST.out.few (by omega)
            have HRB := Lib.hid (HIX.out.b8.keep hb10)
            have hg86 : g8 ≠ w2.heap.size := by
              have h1 := HST.out.b6.lt
              have h2 := HG8.out
              omega
            have hb1l : b1.block < w2.heap.size := by
              obtain ⟨ax, eA, hlt, _⟩ := HTB.out.sl.lies (by rw [HSL.out]; omega)
              injection eA with eA
              subst eA
              exact hlt
            have x4 := keep_cell (below_all hbw hb10) HC4.out
            have q1 : (0 : Int) ≤ (i : Int) := by omega
            have q2 : (i : Int) < (n : Int) := by omega
            obtain ⟨i0, hi0, hz0, hz1, hz2⟩ := info_parts Sx.rt5_info
            have hcap : IntKind.i64.wrap 0 = 0 := rfl
            clear hcap
            clear y0 y1 y2 y3 hN hb6 hownx hb10 e5 e6 e7
            obtain ⟨y0, y1, y2, y3, _, _, _, _⟩ := HRB.out.b.four
            go_upto_region 11 with (fail)
            have BZ : Below w10.heap.size w10 w10.drew := (Below.refl _ _).drew
            refine wp_region_held_drew (S := (fun w' => w'.cell? ⟨g8, 0, none⟩ = some (.bool (decide (r.q.num < 0))) ∧ w'.cell? ⟨g8, 1, none⟩ = some (.slice r.N (dg r.q.num.natAbs).length r.cn) ∧ w'.cell? ⟨g8, 2, none⟩ = some (.bool false) ∧ w'.cell? ⟨g8, 3, none⟩ = some (.slice r.D (dg (dnz r.q.den)).length r.cd) ∧ w'.cell? ⟨(b1.add (i * 5)).block, (b1.add (i * 5)).off + 4, none⟩ = some (.slice t.E v t.ce))) (by kernel_rfl) ⟨keep_cell BZ y0, keep_cell BZ y1, keep_cell BZ y2, keep_cell BZ y3, keep_cell BZ x4⟩ (fun hHeld => ?_)
            generalize w10.drew = Z at *
            refine wpAnyH_get 0 (some 55) (.pointer (some ⟨w2.heap.size, 1, none⟩)) rfl rfl (by kernel_rfl) (by kernel_rfl) (by kernel_rfl) (fun _ _ _ h => h) (by rfl) hHeld ?_ ?_
            · (intro w hSw; (try dsimp only at hSw); go_simp; all_goals (try with_reducible rfl))
            (try simp only [Act.put, List.setIfInBounds_toArray, List.set_cons_zero, List.set_cons_succ])
            refine wpAnyH_get 2 (some 57) (.agg #[.bool (decide (r.q.num < 0)), .slice r.N (dg r.q.num.natAbs).length r.cn, .bool false, .slice r.D (dg (dnz r.q.den)).length r.cd]) rfl rfl (by kernel_rfl) (by kernel_rfl) (by kernel_rfl) (fun _ _ _ h => h) (by rfl) hHeld ?_ ?_
            · (intro w hSw; (try dsimp only at hSw); go_simp; all_goals (try with_reducible rfl))
            (try simp only [Act.put, List.setIfInBounds_toArray, List.set_cons_zero, List.set_cons_succ])
            refine wpAnyH_get 3 (some 58) (.slice (some b1) n d) rfl rfl (by kernel_rfl) (by kernel_rfl) (by kernel_rfl) (fun _ _ _ h => h) (by rfl) hHeld ?_ ?_
            · (intro w hSw; (try dsimp only at hSw); go_simp; all_goals (try with_reducible rfl))
            (try simp only [Act.put, List.setIfInBounds_toArray, List.set_cons_zero, List.set_cons_succ])
            refine wpAnyH_get 4 (some 59) (.int .i64 (i : Nat)) rfl rfl (by kernel_rfl) (by kernel_rfl) (by kernel_rfl) (fun _ _ _ h => h) (by rfl) hHeld ?_ ?_
            · (intro w hSw; (try dsimp only at hSw); go_simp; all_goals (try with_reducible rfl))
            (try simp only [Act.put, List.setIfInBounds_toArray, List.set_cons_zero, List.set_cons_succ])
            refine wpAnyH_get 5 (some 60) (.pointer (some (b1.add (i * 5)))) rfl rfl (by kernel_rfl) (by kernel_rfl) (by kernel_rfl) (fun _ _ _ h => h) (by rfl) hHeld ?_ ?_
            · (intro w hSw; (try dsimp only at hSw); go_simp; all_goals (try with_reducible rfl))
            (try simp only [Act.put, List.setIfInBounds_toArray, List.set_cons_zero, List.set_cons_succ])
            refine wpAnyH_get 6 (some 61) (.pointer (some ⟨(b1.add (i * 5)).block, (b1.add (i * 5)).off + 4, none⟩)) rfl rfl (by kernel_rfl) (by kernel_rfl) (by kernel_rfl) (fun _ _ _ h => h) (by rfl) hHeld ?_ ?_
            · (intro w hSw; (try dsimp only at hSw); go_simp; all_goals (try with_reducible rfl))
            (try simp only [Act.put, List.setIfInBounds_toArray, List.set_cons_zero, List.set_cons_succ])
            refine wpAnyH_get 7 (some 62) (.slice t.E v t.ce) rfl rfl (by kernel_rfl) (by kernel_rfl) (by kernel_rfl) (fun _ _ _ h => h) (by rfl) hHeld ?_ ?_
            · (intro w hSw; (try dsimp only at hSw); go_simp; all_goals (try with_reducible rfl))
            (try simp only [Act.put, List.setIfInBounds_toArray, List.set_cons_zero, List.set_cons_succ])
            refine wpAnyH_get 8 (some 63) (.agg #[.bool (decide (r.q.num < 0)), .slice r.N (dg r.q.num.natAbs).length r.cn, .bool false, .slice r.D (dg (dnz r.q.den)).length r.cd, .slice t.E v t.ce]) rfl rfl (by kernel_rfl) (by kernel_rfl) (by kernel_rfl) (fun _ _ _ h => h) (by rfl) hHeld ?_ ?_
            · (intro w hSw; (try dsimp only at hSw); go_simp; all_goals (try with_reducible rfl))
            (try simp only [Act.put, List.setIfInBounds_toArray, List.set_cons_zero, List.set_cons_succ])
            refine wpAnyH_ready (rs := [1, 9]) (by kernel_rfl) (by simp) ?_
            refine AllReadyH.cons rfl (fun K hK => ?_) (AllReadyH.cons rfl (fun K hK => ?_) AllReadyH.nil)
            · obtain ⟨k0, k1, f0, f1⟩ := (HB6.out.keep BZ HB6.out.lt).two
              go_simp
              obtain ⟨Z1, rfl⟩ : ∃ x : World, x = Z := ⟨_, rfl⟩
              have BZ1 := BZ
              refine hK.out _ _ ⟨keep_cell BZ1 y0, keep_cell BZ1 y1, keep_cell BZ1 y2, keep_cell BZ1 y3, keep_cell BZ1 x4⟩ (fun hHeld => ?_)
              clear hK K k0 k1 f0 f1
              (try simp only [Act.put, List.setIfInBounds_toArray, List.set_cons_zero, List.set_cons_succ])
              refine wpAnyH_ready (rs := [9]) (by kernel_rfl) (by simp) ?_
              refine AllReadyH.cons rfl (fun K hK => ?_) AllReadyH.nil
              go_simp
              have hba : Below Z1.heap.size Z1 (Z1.alloc (.cells #[.bool (decide (r.q.num < 0)), .slice r.N (dg r.q.num.natAbs).length r.cn, .bool false, .slice r.D (dg (dnz r.q.den)).length r.cd, .slice t.E v t.ce] 99)) := (Below.refl _ _).alloc (Nat.le_refl _) _
              have BZ2 := below_all BZ1 hba
              have HNC := Lib.hid (cells_new Z1 99 [.bool (decide (r.q.num < 0)), .slice r.N (dg r.q.num.natAbs).length r.cn, .bool false, .slice r.D (dg (dnz r.q.den)).length r.cd, .slice t.E v t.ce])
              have hsz : (Z1.alloc (.cells #[.bool (decide (r.q.num < 0)), .slice r.N (dg r.q.num.natAbs).length r.cn, .bool false, .slice r.D (dg (dnz r.q.den)).length r.cd, .slice t.E v t.ce] 99)).heap.size = Z1.heap.size + 1 := by simp
              have hlo := BZ1.size
              refine hK.out _ _ ⟨keep_cell BZ2 y0, keep_cell BZ2 y1, keep_cell BZ2 y2, keep_cell BZ2 y3, keep_cell BZ2 x4⟩ (fun hHeld => ?_)
              clear hK K hba
              (try simp only [Act.put, List.setIfInBounds_toArray, List.set_cons_zero, List.set_cons_succ])
              generalize Z1.alloc (.cells #[.bool (decide (r.q.num < 0)), .slice r.N (dg r.q.num.natAbs).length r.cn, .bool false, .slice r.D (dg (dnz r.q.den)).length r.cd, .slice t.E v t.ce] 99) = Z2 at *
              generalize Z1.heap.size = g13 at *
              (try simp only [Act.put, List.setIfInBounds_toArray, List.set_cons_zero, List.set_cons_succ])
              refine wpAnyH_ready (rs := [10]) (by kernel_rfl) (by simp) ?_
              refine AllReadyH.cons rfl (fun K hK => ?_) AllReadyH.nil
              have hown := own_below HOX.out BZ2 (Nat.le_refl _)
              have hbsz : w2.heap.size + 1 ≤ Z2.heap.size := Nat.le_trans HB6.out.lt BZ2.size
              refine step_append_lies _ (by rfl) _ _ 63 (by rfl) (w2.heap.size + 1) 99 i0 _ 5 88 Tryz.underlying63 hi0 hz0 hz1 hz2 rfl (by decide) (.slice R N cr) N (out.flatMap TQ.cells) (by simp [Act.eval]) hown ⟨g13, 0, none⟩ 1 1 [.bool (decide (r.q.num < 0)), .slice r.N (dg r.q.num.natAbs).length r.cn, .bool false, .slice r.D (dg (dnz r.q.den)).length r.cd, .slice t.E v t.ce] (by simp [Act.eval]) rfl HNC.out (by simp [Value.oneCell']) (by omega) (by simp only [maxLen]; omega) (by omega) hbsz (g13 + 1) hsz ?_
              intro gn cap Z3 hown' hgrow hg2 _
              have HPU := Lib.hid (SuSt.push (HSX.out.keep BZ2) HNN.out (HRB.out.ok.keep BZ2) HTM.out hik hgrow (by rw [show TQ.cells ⟨r, t.E, t.ce, t.el⟩ = [.bool (decide (r.q.num < 0)), .slice r.N (dg r.q.num.natAbs).length r.cn, .bool false, .slice r.D (dg (dnz r.q.den)).length r.cd, .slice t.E v t.ce] by unfold TQ.cells; rw [HTV.out]]; exact hown') (Nat.le_refl _) (Nat.le_succ _) (by
                have h2 := HEQ.out
                rw [if_neg HZ.out] at h2
                exact h2))
              have HOG := Lib.hid ((HB6.out.keep BZ2 HB6.out.lt).grown hgrow (own_blk_ne hown (HB6.out.keep BZ2 HB6.out.lt) (by decide)))
              have hRB8 := (HRB.out.keep BZ2).b
              have m8 := hRB8.grown hgrow (own_blk_ne hown hRB8 (by decide))
              obtain ⟨m0, m1, m2, m3, _, _, _, _⟩ := m8.four
              have m4 := hgrow.cell (keep_cell BZ2 x4) (fun e => by
                have h1 := (hown.lt _ e.symm).1
                rw [add_block] at h1
                omega)
              refine hK.out _ _ ⟨m0, m1, m2, m3, m4⟩ (fun hHeld => ?_)
              clear hK K hown hown' hgrow hg2 hbsz hsz hRB8 m8
              (try simp only [Act.put, List.setIfInBounds_toArray, List.set_cons_zero, List.set_cons_succ])
              refine wpAnyH_get 11 (some 66) (.pointer (some ⟨w2.heap.size, 1, none⟩)) rfl rfl (by kernel_rfl) (by kernel_rfl) (by kernel_rfl) (fun _ _ _ h => h) (by rfl) hHeld ?_ ?_
              · (intro w hSw; (try dsimp only at hSw); go_simp; all_goals (try with_reducible rfl))
              (try simp only [Act.put, List.setIfInBounds_toArray, List.set_cons_zero, List.set_cons_succ])
              refine wpAnyH_ready (rs := [12]) (by kernel_rfl) (by simp) ?_
              refine AllReadyH.cons rfl (fun K hK => ?_) AllReadyH.nil
              obtain ⟨k0, k1, f0, f1⟩ := HOG.out.two
              go_simp
              refine hK.out _ _ ⟨cell_far1 m0 hg86, cell_far1 m1 hg86, cell_far1 m2 hg86, cell_far1 m3 hg86, cell_far1 m4 (by simp only [add_block]; omega)⟩ (fun hHeld => ?_)
              clear hK K k0 k1 f0 f1 m0 m1 m2 m3 m4
              (try simp only [Act.put, List.setIfInBounds_toArray, List.set_cons_zero, List.set_cons_succ])
              refine wpAnyH_done (by kernel_rfl) ?_ _
              have HXX := HPU
              go_wp2
              go_roundw
              case rel => exact ⟨k, _, _, _, rfl, by omega, HXX⟩
              case measure => simp [intOf]; omega
            · go_simp
              have hba : Below Z.heap.size Z (Z.alloc (.cells #[.bool (decide (r.q.num < 0)), .slice r.N (dg r.q.num.natAbs).length r.cn, .bool false, .slice r.D (dg (dnz r.q.den)).length r.cd, .slice t.E v t.ce] 99)) := (Below.refl _ _).alloc (Nat.le_refl _) _
              have BZ5 := below_all BZ hba
              have HNC := Lib.hid (cells_new Z 99 [.bool (decide (r.q.num < 0)), .slice r.N (dg r.q.num.natAbs).length r.cn, .bool false, .slice r.D (dg (dnz r.q.den)).length r.cd, .slice t.E v t.ce])
              have hsz : (Z.alloc (.cells #[.bool (decide (r.q.num < 0)), .slice r.N (dg r.q.num.natAbs).length r.cn, .bool false, .slice r.D (dg (dnz r.q.den)).length r.cd, .slice t.E v t.ce] 99)).heap.size = Z.heap.size + 1 := by simp
              have hlo := BZ.size
              refine hK.out _ _ ⟨keep_cell BZ5 y0, keep_cell BZ5 y1, keep_cell BZ5 y2, keep_cell BZ5 y3, keep_cell BZ5 x4⟩ (fun hHeld => ?_)
              clear hK K hba
              (try simp only [Act.put, List.setIfInBounds_toArray, List.set_cons_zero, List.set_cons_succ])
              generalize Z.alloc (.cells #[.bool (decide (r.q.num < 0)), .slice r.N (dg r.q.num.natAbs).length r.cn, .bool false, .slice r.D (dg (dnz r.q.den)).length r.cd, .slice t.E v t.ce] 99) = Z5 at *
              generalize Z.heap.size = g13 at *
              (try simp only [Act.put, List.setIfInBounds_toArray, List.set_cons_zero, List.set_cons_succ])
              refine wpAnyH_ready (rs := [1]) (by kernel_rfl) (by simp) ?_
              refine AllReadyH.cons rfl (fun K hK => ?_) AllReadyH.nil
              obtain ⟨k0, k1, f0, f1⟩ := (HB6.out.keep BZ5 HB6.out.lt).two
              go_simp
              obtain ⟨Z6, rfl⟩ : ∃ x : World, x = Z5 := ⟨_, rfl⟩
              have BZ6 := BZ5
              refine hK.out _ _ ⟨keep_cell BZ6 y0, keep_cell BZ6 y1, keep_cell BZ6 y2, keep_cell BZ6 y3, keep_cell BZ6 x4⟩ (fun hHeld => ?_)
              clear hK K k0 k1 f0 f1
              (try simp only [Act.put, List.setIfInBounds_toArray, List.set_cons_zero, List.set_cons_succ])
              refine wpAnyH_ready (rs := [10]) (by kernel_rfl) (by simp) ?_
              refine AllReadyH.cons rfl (fun K hK => ?_) AllReadyH.nil
              have hown := own_below HOX.out BZ6 (Nat.le_refl _)
              have hbsz : w2.heap.size + 1 ≤ Z6.heap.size := Nat.le_trans HB6.out.lt BZ6.size
              refine step_append_lies _ (by rfl) _ _ 63 (by rfl) (w2.heap.size + 1) 99 i0 _ 5 88 Tryz.underlying63 hi0 hz0 hz1 hz2 rfl (by decide) (.slice R N cr) N (out.flatMap TQ.cells) (by simp [Act.eval]) hown ⟨g13, 0, none⟩ 1 1 [.bool (decide (r.q.num < 0)), .slice r.N (dg r.q.num.natAbs).length r.cn, .bool false, .slice r.D (dg (dnz r.q.den)).length r.cd, .slice t.E v t.ce] (by simp [Act.eval]) rfl HNC.out (by simp [Value.oneCell']) (by omega) (by simp only [maxLen]; omega) (by omega) hbsz (g13 + 1) hsz ?_
              intro gn cap Z7 hown' hgrow hg2 _
              have HPU := Lib.hid (SuSt.push (HSX.out.keep BZ6) HNN.out (HRB.out.ok.keep BZ6) HTM.out hik hgrow (by rw [show TQ.cells ⟨r, t.E, t.ce, t.el⟩ = [.bool (decide (r.q.num < 0)), .slice r.N (dg r.q.num.natAbs).length r.cn, .bool false, .slice r.D (dg (dnz r.q.den)).length r.cd, .slice t.E v t.ce] by unfold TQ.cells; rw [HTV.out]]; exact hown') (Nat.le_refl _) (Nat.le_succ _) (by
                have h2 := HEQ.out
                rw [if_neg HZ.out] at h2
                exact h2))
              have HOG := Lib.hid ((HB6.out.keep BZ6 HB6.out.lt).grown hgrow (own_blk_ne hown (HB6.out.keep BZ6 HB6.out.lt) (by decide)))
              have hRB8 := (HRB.out.keep BZ6).b
              have m8 := hRB8.grown hgrow (own_blk_ne hown hRB8 (by decide))
              obtain ⟨m0, m1, m2, m3, _, _, _, _⟩ := m8.four
              have m4 := hgrow.cell (keep_cell BZ6 x4) (fun e => by
                have h1 := (hown.lt _ e.symm).1
                rw [add_block] at h1
                omega)
              refine hK.out _ _ ⟨m0, m1, m2, m3, m4⟩ (fun hHeld => ?_)
              clear hK K hown hown' hgrow hg2 hbsz hsz hRB8 m8
              (try simp only [Act.put, List.setIfInBounds_toArray, List.set_cons_zero, List.set_cons_succ])
              refine wpAnyH_get 11 (some 66) (.pointer (some ⟨w2.heap.size, 1, none⟩)) rfl rfl (by kernel_rfl) (by kernel_rfl) (by kernel_rfl) (fun _ _ _ h => h) (by rfl) hHeld ?_ ?_
              · (intro w hSw; (try dsimp only at hSw); go_simp; all_goals (try with_reducible rfl))
              (try simp only [Act.put, List.setIfInBounds_toArray, List.set_cons_zero, List.set_cons_succ])
              refine wpAnyH_ready (rs := [12]) (by kernel_rfl) (by simp) ?_
              refine AllReadyH.cons rfl (fun K hK => ?_) AllReadyH.nil
              obtain ⟨k0, k1, f0, f1⟩ := HOG.out.two
              go_simp
              refine hK.out _ _ ⟨cell_far1 m0 hg86, cell_far1 m1 hg86, cell_far1 m2 hg86, cell_far1 m3 hg86, cell_far1 m4 (by simp only [add_block]; omega)⟩ (fun hHeld => ?_)
              clear hK K k0 k1 f0 f1 m0 m1 m2 m3 m4
              (try simp only [Act.put, List.setIfInBounds_toArray, List.set_cons_zero, List.set_cons_succ])
              refine wpAnyH_done (by kernel_rfl) ?_ _
              have HXX := HPU
              go_wp2
              go_roundw
              case rel => exact ⟨k, _, _, _, rfl, by omega, HXX⟩
              case measure => simp [intOf]; omega
        · skip
          obtain ⟨hks, hord⟩ := same_true HTBB.out
          have hkl : k < n := by rw [← HSL.out]; exact hks
          obtain ⟨b2, hB2, d0, d1, d2, d3, _⟩ := (HTB.out.keep HWX.out).at hks
          injection hB2 with hB2
          subst hB2
          obtain ⟨u, hu⟩ : ∃ u, ss[k] = u := ⟨_, rfl⟩
          have hum : u ∈ ss := by rw [← hu]; exact List.getElem_mem _
          have hEQ := HIX.out.eq
          rw [colR_step hks hord, hu] at hEQ
          rw [hu] at d0 d1 d3
          have hur := (HTB.out.ok u hum).r
          have hub := HSB.out u hum
          obtain ⟨ru, hru⟩ : ∃ x, u.r = x := ⟨_, rfl⟩
          rw [hru] at d0 d1 d3 hEQ hur hub
          have hbr := HIX.out.bd
          have hsum := hbr.add hub hD
          rw [show (k - i) * K + K = (k + 1 - i) * K by rw [show k + 1 - i = (k - i) + 1 by omega, Nat.add_mul, Nat.one_mul]] at hsum
          have hqr : QS r.q := bd_qs hbr hD hD2 (HKB.out _ (by omega))
          have hqu : QS ru.q := bd_qs hub hD hD2 (by have := HKB.out 1 (by omega); omega)
          have HADD : Hid (∀ V, Below wi.heap.size wi V → Calls Tryz.prog 25 #[.agg #[.bool (decide (r.q.num < 0)), .slice r.N (dg r.q.num.natAbs).length r.cn, .bool false, .slice r.D (dg (dnz r.q.den)).length r.cd], .agg #[.bool (decide (ru.q.num < 0)), .slice ru.N (dg ru.q.num.natAbs).length ru.cn, .bool false, .slice ru.D (dg (dnz ru.q.den)).length ru.cd]] V fun e w' => ∃ r3 : RVal, r3.q = r.q + ru.q ∧ e = .returned r3.val ∧ r3.Ok w' ∧ Below V.heap.size V w') := Lib.hid (fun V h => (radd_q r.q ru.q r.val ru.val V (HIX.out.b8.ok.keep h).at ((hur.keep HWX.out).keep h).at hqr hqu).mono fun _ _ h => h.rval)
          have HNEW : Hid (∀ (V : World) (r3 : RVal), Below wi.heap.size wi V → r3.q = r.q + ru.q → r3.Ok V → SiSt wo g8 ss D K i t.el ((((V.setCell ⟨g8, 0, none⟩ (.bool (decide (r3.q.num < 0)))).setCell ⟨g8, 1, none⟩ (.slice r3.N (dg r3.q.num.natAbs).length r3.cn)).setCell ⟨g8, 2, none⟩ (.bool false)).setCell ⟨g8, 3, none⟩ (.slice r3.D (dg (dnz r3.q.den)).length r3.cd)) (k + 1) r3) := Lib.hid (fun V r3 h h2 h3 => by
            have hg : wo.heap.size ≤ g8 := Nat.le_of_eq HG8.out
            refine ⟨RBlk.put (HIX.out.b8.keep h).b h3, below_far (below_far (below_far (below_far (below_all HIX.out.below h) hg _ _) hg _ _) hg _ _) hg _ _, by rw [h2]; exact hEQ, by rw [h2]; exact hsum⟩)
          have q3 : (0 : Int) ≤ (k : Int) := by omega
          have q4 : (k : Int) < (n : Int) := by omega
          clear hord hu hum hEQ hur hub hru hbr hsum hqr hqu hbw
          go_upto_region 8 with (fail)
          have BZ : Below wi.heap.size wi wi.drew := (Below.refl _ _).drew
          refine wp_region_held_drew (S := (fun w' => w'.cell? (b1.add (k * 5)) = some (.bool (decide (ru.q.num < 0))) ∧ w'.cell? ⟨(b1.add (k * 5)).block, (b1.add (k * 5)).off + 1, none⟩ = some (.slice ru.N (dg ru.q.num.natAbs).length ru.cn) ∧ w'.cell? ⟨(b1.add (k * 5)).block, (b1.add (k * 5)).off + 2, none⟩ = some (.bool false) ∧ w'.cell? ⟨(b1.add (k * 5)).block, (b1.add (k * 5)).off + 3, none⟩ = some (.slice ru.D (dg (dnz ru.q.den)).length ru.cd))) (by kernel_rfl) ⟨keep_cell BZ d0, keep_cell BZ d1, keep_cell BZ d2, keep_cell BZ d3⟩ (fun hHeld => ?_)
          generalize wi.drew = Z at *
          refine wpAnyH_get 1 (some 44) (.slice (some b1) n d) rfl rfl (by kernel_rfl) (by kernel_rfl) (by kernel_rfl) (fun _ _ _ h => h) (by rfl) hHeld ?_ ?_
          · (intro w hSw; (try dsimp only at hSw); go_simp; all_goals (try with_reducible rfl))
          (try simp only [Act.put, List.setIfInBounds_toArray, List.set_cons_zero, List.set_cons_succ])
          refine wpAnyH_get 2 (some 45) (.int .i64 (k : Nat)) rfl rfl (by kernel_rfl) (by kernel_rfl) (by kernel_rfl) (fun _ _ _ h => h) (by rfl) hHeld ?_ ?_
          · (intro w hSw; (try dsimp only at hSw); go_simp; all_goals (try with_reducible rfl))
          (try simp only [Act.put, List.setIfInBounds_toArray, List.set_cons_zero, List.set_cons_succ])
          refine wpAnyH_get 3 (some 46) (.pointer (some (b1.add (k * 5)))) rfl rfl (by kernel_rfl) (by kernel_rfl) (by kernel_rfl) (fun _ _ _ h => h) (by rfl) hHeld ?_ ?_
          · (intro w hSw; (try dsimp only at hSw); go_simp; all_goals (try with_reducible rfl))
          (try simp only [Act.put, List.setIfInBounds_toArray, List.set_cons_zero, List.set_cons_succ])
          refine wpAnyH_get 4 (some 47) (.pointer (some (b1.add (k * 5)))) rfl rfl (by kernel_rfl) (by kernel_rfl) (by kernel_rfl) (fun _ _ _ h => h) (by rfl) hHeld ?_ ?_
          · (intro w hSw; (try dsimp only at hSw); go_simp; all_goals (try with_reducible rfl))
          (try simp only [Act.put, List.setIfInBounds_toArray, List.set_cons_zero, List.set_cons_succ])
          refine wpAnyH_get 5 (some 48) (.agg #[.bool (decide (ru.q.num < 0)), .slice ru.N (dg ru.q.num.natAbs).length ru.cn, .bool false, .slice ru.D (dg (dnz ru.q.den)).length ru.cd]) rfl rfl (by kernel_rfl) (by kernel_rfl) (by kernel_rfl) (fun _ _ _ h => h) (by rfl) hHeld ?_ ?_
          · (intro w hSw; (try dsimp only at hSw); go_simp; all_goals (try with_reducible rfl))
          (try simp only [Act.put, List.setIfInBounds_toArray, List.set_cons_zero, List.set_cons_succ])
          refine wpAnyH_ready (rs := [0]) (by kernel_rfl) (by simp) ?_
          refine AllReadyH.cons rfl (fun K hK => ?_) AllReadyH.nil
          obtain ⟨k0, k1, k2, k3, _, _, _, _⟩ := (HIX.out.b8.keep BZ).b.four
          go_simp
          obtain ⟨Z1, rfl⟩ : ∃ x : World, x = Z := ⟨_, rfl⟩
          have BZ1 := BZ
          refine hK.out _ _ ⟨keep_cell BZ1 d0, keep_cell BZ1 d1, keep_cell BZ1 d2, keep_cell BZ1 d3⟩ (fun hHeld => ?_)
          clear hK K k0 k1 k2 k3
          (try simp only [Act.put, List.setIfInBounds_toArray, List.set_cons_zero, List.set_cons_succ])
          refine wpAnyH_ready (rs := [6]) (by kernel_rfl) (by simp) ?_
          refine AllReadyH.cons rfl (fun K hK => ?_) AllReadyH.nil
          go_simp
          refine (HADD.out _ BZ1).mono ?_
          rintro e Z2 ⟨r3, hq3, rfl, hok3, hb⟩
          have HQ3 := Lib.hid hq3
          have HOK3 := Lib.hid hok3
          clear hq3 hok3
          have BZ2 := below_all BZ1 hb
          (try unfold RVal.val)
          (try go_simp)
          refine hK.out _ _ ⟨keep_cell BZ2 d0, keep_cell BZ2 d1, keep_cell BZ2 d2, keep_cell BZ2 d3⟩ (fun hHeld => ?_)
          clear hK K hb
          (try simp only [Act.put, List.setIfInBounds_toArray, List.set_cons_zero, List.set_cons_succ])
          refine wpAnyH_ready (rs := [7]) (by kernel_rfl) (by simp) ?_
          refine AllReadyH.cons rfl (fun K hK => ?_) AllReadyH.nil
          have Y := HIX.out.b8.keep BZ2
          obtain ⟨k0, k1, k2, k3, f0, f1, f2, f3⟩ := Y.b.four
          have HNX := Lib.hid (HNEW.out Z2 r3 BZ2 HQ3.out HOK3.out)
          clear Y
          go_simp
          refine hK.out _ _ ⟨cell_four (keep_cell BZ2 d0) (by simp only [add_block]; exact hb1), cell_four (keep_cell BZ2 d1) (by simp only [add_block]; exact hb1), cell_four (keep_cell BZ2 d2) (by simp only [add_block]; exact hb1), cell_four (keep_cell BZ2 d3) (by simp only [add_block]; exact hb1)⟩ (fun hHeld => ?_)
          clear hK K k0 k1 k2 k3 f0 f1 f2 f3
          (try simp only [Act.put, List.setIfInBounds_toArray, List.set_cons_zero, List.set_cons_succ])
          refine wpAnyH_done (by kernel_rfl) ?_ _
          go_wp2
          go_roundw
          case rel => exact ⟨k + 1, r3, by go_num, by omega, by omega, HNX⟩
          case measure => simp [intOf]; omega
end Go.Proofs.Tg
end
