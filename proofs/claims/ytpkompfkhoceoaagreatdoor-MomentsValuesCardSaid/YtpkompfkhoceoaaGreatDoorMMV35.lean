/- Parts of the proof: TM3, ST5, ST9, TS1, TS2. -/
import Derived.Deep.AppendSrc
import Derived.Test.YtpkompfkhoceoaaGreatDoorMMV15
import Derived.Test.YtpkompfkhoceoaaGreatDoorMMV17
import Derived.Test.YtpkompfkhoceoaaGreatDoorMMV18
import Derived.Test.YtpkompfkhoceoaaGreatDoorMMV23
import Derived.Test.YtpkompfkhoceoaaGreatDoorMMV25
import Derived.Test.YtpkompfkhoceoaaGreatDoorMMV26
import Derived.Test.YtpkompfkhoceoaaGreatDoorMMV27
import Derived.Test.YtpkompfkhoceoaaGreatDoorMMV28
import Derived.Test.YtpkompfkhoceoaaGreatDoorMMV30
import Derived.Test.YtpkompfkhoceoaaGreatDoorMMV31
import Derived.Test.YtpkompfkhoceoaaGreatDoorMMV33
section
/- Walks: the value of a functional at a polynomial in other variables, or of a greater degree. -/
namespace Go.Proofs.Tg
open Go.RowKit Go.Gr Go.Ev Go.Mo Go.Mm Go.Rq Go.Rs
open Go.Proofs.Tg.Fi (Txts vq PT fvalid_any)
set_option maxHeartbeats 8000000
set_option maxRecDepth 100000
/-- A polynomial of a degree that is too great. -/
theorem value_range (v d n : Nat) (φ : List Int → Rat) (B : Option Addr) (cB : Nat) (T : Option Addr) (cT tn : Nat) (tv : List TV) (l : List (Rat × List Int)) (w : World) (hB : Txts w B ((mons v d).map φ)) (hn : cnt v d = n) (hP : PolyAt w v 24 T tn tv l) (hdeg : (d : Int) < topd l)
    (hsh : ∀ m ∈ mons v d, Sh (φ m)) (hv1 : 1 ≤ v) (hv : v ≤ 6) (hd : d ≤ 24) (hf : n ≤ 1024) (hp : PT w) (hT : Tab w) :
    Calls Tryz.prog 29 #[.agg #[.int .i64 (v : Nat), .int .i64 (d : Nat), .slice B n cB], .agg #[.int .i64 (v : Nat), .slice T tn cT]] w fun e w' => e = .returned (.tuple #[.string ⟨#[]⟩, .int .i64 3]) ∧ Below w.heap.size w w' := by
  have hml : ((mons v d).map φ).length = n := by rw [List.length_map]; exact hn
  have HVA : Hid (∀ V, Below w.heap.size w V → Calls Tryz.prog 11 #[.agg #[.int .i64 (v : Nat), .int .i64 (d : Nat), .slice B n cB]] V fun e w' => e = .returned (.bool true) ∧ Below V.heap.size V w') := Lib.hid (fun V hb => by
    have h := fvalid_any v d B cB _ V hv1 hv hd (by omega) (by rw [hml, hn]) (hB.keep hb) (fun q hq => by
      obtain ⟨m, hm, rfl⟩ := List.mem_map.1 hq
      exact hsh m hm)
    rw [hml] at h
    exact h)
  have HPV : Hid (∀ V, Below w.heap.size w V → Calls Tryz.prog 57 #[.agg #[.int .i64 (v : Nat), .slice T tn cT]] V fun e w' => e = .returned (.bool true) ∧ Below V.heap.size V w') := Lib.hid (fun V hb => (hP.keep hb).valid hv (by omega) (hT.below hb hT.1) cT)
  have HPD : Hid (∀ V, Below w.heap.size w V → Calls Tryz.prog 58 #[.agg #[.int .i64 (v : Nat), .slice T tn cT]] V fun e w' => e = .returned (.int .i64 (topd l)) ∧ Below V.heap.size V w') := Lib.hid (fun V hb => pdeg_any (hP.keep hb) hv (by omega) (hT.below hb hT.1) cT)
  obtain ⟨W, hW⟩ : ∃ W, (w.alloc (.cells #[.int .i64 (v : Nat), .int .i64 (d : Nat), .slice B n cB] 24)).alloc (.cells #[.int .i64 (v : Nat), .slice T tn cT] 71) = W := ⟨_, rfl⟩
  have HBW : Hid (Below w.heap.size w W) := Lib.hid (by rw [← hW]; exact ((Below.refl _ _).alloc (Nat.le_refl _) _).alloc (by simp) _)
  have HB1 : Hid (Blk W w.heap.size 24 #[.int .i64 (v : Nat), .int .i64 (d : Nat), .slice B n cB]) := Lib.hid (by rw [← hW]; exact (Blk.new _ _ _).alloc _)
  have HB2 : Hid (Blk W (w.heap.size + 1) 71 #[.int .i64 (v : Nat), .slice T tn cT]) := Lib.hid (by
    rw [← hW]
    have := Blk.new (w.alloc (.cells #[.int .i64 (v : Nat), .int .i64 (d : Nat), .slice B n cB] 24)) 71 #[.int .i64 (v : Nat), .slice T tn cT]
    simpa using this)
  have HWW := Lib.hid hW
  have d1 : decide ((d : Int) < topd l) = true := decide_eq_true hdeg
  generalize topd l = z at *
  obtain ⟨x0, x1, x2, _, _, _⟩ := HB1.out.three
  obtain ⟨y0, y1, _, _⟩ := HB2.out.two
  clear hW hB hn hP hsh hp hT hml hdeg
  go_enter Tryz.func29, Tryz.ntmps29
  go_upto_region 1 with (fail)
  rw [HWW.out]
  clear HWW
  go_upto_region 5 with (first
    | (go_at_call 11; with_reducible refine Calls.mono (HVA.out _ HBW.out) ?_; rintro e w2 ⟨rfl, hb2⟩; have HC2 := Lib.hid hb2; obtain ⟨x0, x1, x2, _, _, _⟩ := (HB1.out.keep hb2 HB1.out.lt).three; obtain ⟨y0, y1, _, _⟩ := (HB2.out.keep hb2 HB2.out.lt).two; clear hb2)
    | (go_at_call 57; with_reducible refine Calls.mono (HPV.out _ (below_all HBW.out HC2.out)) ?_; rintro e w3 ⟨rfl, hb3⟩; have HC3 := Lib.hid (below_all HC2.out hb3); obtain ⟨x0, x1, x2, _, _, _⟩ := (HB1.out.keep HC3.out HB1.out.lt).three; obtain ⟨y0, y1, _, _⟩ := (HB2.out.keep HC3.out HB2.out.lt).two; clear hb3))
  have HPD5 : Hid (∀ V, Below w3.heap.size w3 V → Calls Tryz.prog 58 #[.agg #[.int .i64 (v : Nat), .slice T tn cT]] V fun e w' => e = .returned (.int .i64 z) ∧ Below V.heap.size V w') := Lib.hid (fun V hb => HPD.out V (below_all (below_all HBW.out HC3.out) hb))
  go_cut [23] (fun s23 wx => s23 = .bool true ∧ Hid (Below w3.heap.size w3 wx))
  case first =>
    clear HVA HPV HPD
    have hbe : Below w3.heap.size w3 w3.drew := (Below.refl _ _).drew
    go_region_held3 (fun w' => w'.cell? ⟨w.heap.size, 1, none⟩ = some (.int .i64 (d : Nat)) ∧ w'.cell? ⟨w.heap.size + 1, 0, none⟩ = some (.int .i64 (v : Nat)) ∧ w'.cell? ⟨w.heap.size + 1, 1, none⟩ = some (.slice T tn cT))
      (first | exact ⟨keep_cell hbe x1, keep_cell hbe y0, keep_cell hbe y1⟩ | go_keep)
      (first | (go_at_call 58; with_reducible refine Calls.mono (HPD5.out _ (by assumption)) ?_; rintro e w4 ⟨rfl, hb4⟩; have hbe := below_all hbe hb4))
    all_goals
      go_wp2
      go_meet
      exact ⟨rfl, Lib.hid hbe⟩
  obtain ⟨rfl, HW5⟩ := hcut
  go_wp2
  go_ret2
  exact ⟨rfl, below_all (below_all HBW.out HC3.out) HW5.out⟩
/-- A polynomial in other variables. -/
theorem value_shape (v u d n : Nat) (φ : List Int → Rat) (B : Option Addr) (cB : Nat) (T : Option Addr) (cT tn : Nat) (tv : List TV) (l : List (Rat × List Int)) (w : World) (hB : Txts w B ((mons v d).map φ)) (hn : cnt v d = n) (hP : PolyAt w u 24 T tn tv l) (hu : u ≤ 6) (huv : u ≠ v)
    (hsh : ∀ m ∈ mons v d, Sh (φ m)) (hv1 : 1 ≤ v) (hv : v ≤ 6) (hd : d ≤ 24) (hf : n ≤ 1024) (hp : PT w) (hT : Tab w) :
    Calls Tryz.prog 29 #[.agg #[.int .i64 (v : Nat), .int .i64 (d : Nat), .slice B n cB], .agg #[.int .i64 (u : Nat), .slice T tn cT]] w fun e w' => e = .returned (.tuple #[.string ⟨#[]⟩, .int .i64 4]) ∧ Below w.heap.size w w' := by
  have hml : ((mons v d).map φ).length = n := by rw [List.length_map]; exact hn
  have HVA : Hid (∀ V, Below w.heap.size w V → Calls Tryz.prog 11 #[.agg #[.int .i64 (v : Nat), .int .i64 (d : Nat), .slice B n cB]] V fun e w' => e = .returned (.bool true) ∧ Below V.heap.size V w') := Lib.hid (fun V hb => by
    have h := fvalid_any v d B cB _ V hv1 hv hd (by omega) (by rw [hml, hn]) (hB.keep hb) (fun q hq => by
      obtain ⟨m, hm, rfl⟩ := List.mem_map.1 hq
      exact hsh m hm)
    rw [hml] at h
    exact h)
  have HPV : Hid (∀ V, Below w.heap.size w V → Calls Tryz.prog 57 #[.agg #[.int .i64 (u : Nat), .slice T tn cT]] V fun e w' => e = .returned (.bool true) ∧ Below V.heap.size V w') := Lib.hid (fun V hb => (hP.keep hb).valid hu (by omega) (hT.below hb hT.1) cT)
  obtain ⟨W, hW⟩ : ∃ W, (w.alloc (.cells #[.int .i64 (v : Nat), .int .i64 (d : Nat), .slice B n cB] 24)).alloc (.cells #[.int .i64 (u : Nat), .slice T tn cT] 71) = W := ⟨_, rfl⟩
  have HBW : Hid (Below w.heap.size w W) := Lib.hid (by rw [← hW]; exact ((Below.refl _ _).alloc (Nat.le_refl _) _).alloc (by simp) _)
  have HB1 : Hid (Blk W w.heap.size 24 #[.int .i64 (v : Nat), .int .i64 (d : Nat), .slice B n cB]) := Lib.hid (by rw [← hW]; exact (Blk.new _ _ _).alloc _)
  have HB2 : Hid (Blk W (w.heap.size + 1) 71 #[.int .i64 (u : Nat), .slice T tn cT]) := Lib.hid (by
    rw [← hW]
    have := Blk.new (w.alloc (.cells #[.int .i64 (v : Nat), .int .i64 (d : Nat), .slice B n cB] 24)) 71 #[.int .i64 (u : Nat), .slice T tn cT]
    simpa using this)
  have HWW := Lib.hid hW
  have e1 : decide ((u : Int) = (v : Int)) = false := decide_eq_false (by omega)
  have e1' : ((u : Int) = (v : Int)) = False := eq_false (by omega)
  have e1'' : (u = v) = False := eq_false huv
  have e1b : ((u : Int) == (v : Int)) = false := beq_eq_false_iff_ne.2 (by omega)
  obtain ⟨x0, x1, x2, _, _, _⟩ := HB1.out.three
  obtain ⟨y0, y1, _, _⟩ := HB2.out.two
  clear hW hB hn hP hsh hp hT hml huv
  go_enter Tryz.func29, Tryz.ntmps29
  go_upto_region 1 with (fail)
  rw [HWW.out]
  clear HWW
  go_wp2_with (first
    | (go_at_call 11; with_reducible refine Calls.mono (HVA.out _ HBW.out) ?_; rintro e w2 ⟨rfl, hb2⟩; have HC2 := Lib.hid hb2; obtain ⟨x0, x1, x2, _, _, _⟩ := (HB1.out.keep hb2 HB1.out.lt).three; obtain ⟨y0, y1, _, _⟩ := (HB2.out.keep hb2 HB2.out.lt).two; clear hb2)
    | (go_at_call 57; with_reducible refine Calls.mono (HPV.out _ (below_all HBW.out HC2.out)) ?_; rintro e w3 ⟨rfl, hb3⟩; have HC3 := Lib.hid (below_all HC2.out hb3); obtain ⟨x0, x1, x2, _, _, _⟩ := (HB1.out.keep HC3.out HB1.out.lt).three; obtain ⟨y0, y1, _, _⟩ := (HB2.out.keep HC3.out HB2.out.lt).two; clear hb3))
  go_ret2
  exact ⟨rfl, below_all HBW.out HC3.out⟩
end Go.Proofs.Tg
end
section
/- The law's polynomials: drawn from the tape. -/
namespace Go.Proofs.Tg
open Go.RowKit Go.Gr Go.Bn Go.Rq Go.Mo Go.Rs Go.Mm
set_option maxHeartbeats 16000000
set_option maxRecDepth 100000
/-- A coefficient from the tape. -/
def CoefT (q : Rat) : Prop := ∃ (n : Int) (d : Nat), n.natAbs ≤ 9 ∧ 1 ≤ d ∧ d ≤ 4 ∧ q = mkRat n d
/-- What the loop of Poly holds. -/
structure PySt (w1 : World) (g b0 g8 v d m : Nat) (L : Option Addr) (cL : Nat) (rows : List IRow) (wr : World) (k : Nat) (A : Option Addr) (c : Nat) (ts : List TQ) : Prop where
  own : wr.ownsRow w1.heap.size 99 5 (.slice A ts.length c) ts.length (ts.flatMap TQ.cells)
  ok : ∀ t ∈ ts, t.r.Ok wr
  mem : ∀ t ∈ ts, CoefT t.r.q ∧ ∃ s ∈ rows, t.E = s.A ∧ t.el = s.l ∧ t.ce = s.c
  rows : OwnI b0 wr L cL rows
  tape : TapeAt wr g
  tk : Tk g w1 wr
  b8 : Blk wr g8 65 #[.int .i64 0, .slice none 0 0]
  len : ts.length + k = m
theorem low20_of {l : List Int} {d : Nat} (h : ∀ e ∈ l, 0 ≤ e ∧ e ≤ d) (hd : d ≤ 1000) : low20 l = true := low20_iff.2 (fun e he => by have := h e he; omega)
theorem own_ge {w : World} {base : Nat} {t : TypeId} {sz n c : Nat} {A : Option Addr} {xs : List Value} (h : w.ownsRow base t sz (.slice A n c) n xs) : ∀ ad, A = some ad → base ≤ ad.block := by
  intro ad e
  rcases h.2 with ⟨e2, _⟩ | ⟨k, cap, cur, e2, hk, _⟩
  · injection e2 with e3 _ _
    rw [e] at e3; cases e3
  · injection e2 with e3 _ _
    rw [e] at e3
    injection e3 with e3
    rw [e3]; exact hk
/-- A polynomial's memory lies apart from a block. -/
structure Apart (g : Nat) (R : Option Addr) (out : List TQ) : Prop where
  r : ∀ ad, R = some ad → ad.block ≠ g
  e : ∀ t ∈ out, ∀ ad, t.E = some ad → ad.block ≠ g
theorem Sl.tk' {g : Nat} {w w' : World} {A : Option Addr} {n sz : Nat} {xs : List Value} (h : Sl w A n sz xs) (hg : Tk g w w') (hne : ∀ ad, A = some ad → ad.block ≠ g) : Sl w' A n sz xs := by
  refine ⟨h.len, fun hp => ?_⟩
  obtain ⟨ad, e, hlt, ha⟩ := h.lies hp
  exact ⟨ad, e, Nat.lt_of_lt_of_le hlt hg.size, fun j u hu => hg.cell (ha j u hu) (by rw [add_block]; intro e2; injection e2 with e2; exact hne ad e e2)⟩
theorem TQs.tk {g : Nat} {w w' : World} {R : Option Addr} {out : List TQ} (h : TQs w R out) (ha : Apart g R out) (hT : TapeAt w g) (hg : Tk g w w') : TQs w' R out := by
  obtain ⟨cs, B⟩ := hT.blk
  exact ⟨Sl.tk' h.sl hg ha.r, fun t ht => ⟨(h.ok t ht).r.tk hg B (by decide), Sl.tk' (h.ok t ht).e hg (ha.e t ht)⟩⟩
theorem tpoly_any (g vp d terms : Nat) (w : World) (hT : TapeAt w g) (hv : vp ≤ 5) (hd : d ≤ 24) (hc : cnt (vp + 1) d ≤ 4096) (h1 : 1 ≤ cnt (vp + 1) d) (ht : terms ≤ 8) :
    Calls Tryz.prog 28 #[.pointer (some ⟨g, 0, none⟩), .int .i64 ((vp + 1 : Nat) : Int), .int .i64 (d : Nat), .int .i64 (terms : Nat)] w (RetT g (fun v w' => ∃ R c out, v = .agg #[.int .i64 ((vp + 1 : Nat) : Int), .slice R (List.length out) c] ∧ TQs w' R out ∧ out.length ≤ c ∧ out.length ≤ terms ∧ Apart g R out ∧
      ∃ ts : List TQ, ts.length ≤ terms ∧ (∀ t ∈ ts, CoefT t.r.q ∧ t.el ∈ mons (vp + 1) d) ∧ out.map TQ.qe = col ((msrt leT ts.length ts).map TQ.qe)) w) := by
  obtain ⟨v, hv'⟩ : ∃ x, vp + 1 = x := ⟨_, rfl⟩
  have HLI : Hid (∀ V, Calls Tryz.prog 50 #[.int .i64 (v : Nat), .int .i64 (d : Nat)] V (RetList v d V)) := Lib.hid (fun V => by
    subst hv'
    exact list_ref vp d hv hd hc V)
  rw [hv'] at hc h1 ⊢
  have hv6 : v ≤ 6 := by omega
  have HNX : Hid (∀ V (n : Nat), TapeAt V g → 0 < n → n ≤ 1000000 → Calls Tryz.prog 16 #[.pointer (some ⟨g, 0, none⟩), .int .i64 (n : Nat)] V (RetT g (fun v _ => ∃ k : Nat, k < n ∧ v = .int .i64 (k : Nat)) V)) := Lib.hid (fun V n h h2 h3 => next_any g n V h h2 h3)
  have HNU : Hid (∀ V, TapeAt V g → Calls Tryz.prog 18 #[.pointer (some ⟨g, 0, none⟩)] V (RetT g (fun v w' => ∃ (n : Int) (d : Nat), n.natAbs ≤ 9 ∧ 1 ≤ d ∧ d ≤ 4 ∧ QAt w' v (mkRat n d)) V)) := Lib.hid (fun V h => num_any g V h)
  obtain ⟨i0, hi0, hz0, hz1, hz2⟩ := info_parts Sx.rt5_info
  have hg := hT.lt
  have B8 := Blk.new w 65 #[.int .i64 0, .slice none 0 0]
  have hb8 : Below w.heap.size w (w.alloc (.cells #[.int .i64 0, .slice none 0 0] 65)) := (Below.refl _ _).alloc (Nat.le_refl _) _
  go_enter Tryz.func28, Tryz.ntmps28
  go_wp2_with (fail)
  refine (HLI.out _).mono ?_
  rintro e w1 ⟨L, cL, rows, rfl, hOI, hms, hb1⟩
  obtain ⟨nr, hnr⟩ : ∃ x, rows.length = x := ⟨_, rfl⟩
  have HNR := Lib.hid hnr
  have hnr2 : nr = cnt v d := by rw [← hnr, ← List.length_map (f := IRow.l), hms]; rfl
  have hnr3 : 0 < nr ∧ nr ≤ 4096 := by omega
  rw [hnr]
  have HMS := Lib.hid hms
  have HT1 := Lib.hid ((hT.keep hb8).keep hb1)
  have HB8 := Lib.hid (B8.keep hb1 B8.lt)
  have HOI := Lib.hid hOI
  have HB1 := Lib.hid (below_all hb8 hb1)
  have hnr4 := hnr3.1
  have hnr5 := hnr3.2
  clear hOI hms hb1 B8 hb8 hnr hnr2 hnr3 hT
  have HNX1 : Hid (∀ V, TapeAt V g → Calls Tryz.prog 16 #[.pointer (some ⟨g, 0, none⟩), .int .i64 ((terms : Int) + 1)] V (RetT g (fun v _ => ∃ k : Nat, k ≤ terms ∧ v = .int .i64 (k : Nat)) V)) := Lib.hid (fun V h => by
    have h2 := HNX.out V (terms + 1) h (by omega) (by omega)
    rw [show ((terms + 1 : Nat) : Int) = (terms : Int) + 1 by omega] at h2
    refine h2.mono ?_
    rintro e w' ⟨x, e1, ⟨k, hk, e2⟩, r⟩
    exact ⟨x, e1, ⟨k, by omega, e2⟩, r⟩)
  go_wp2_with (fail)
  refine (HNX1.out _ HT1.out).mono ?_
  rintro e w2 ⟨_, rfl, ⟨m, hm, rfl⟩, hT2, ht2⟩
  have hgw1 : g < w1.heap.size := HT1.out.lt
  have hg8 : w.heap.size < w1.heap.size := HB8.out.lt
  have HST0 : Hid (PySt w1 g (w.heap.size + 1) w.heap.size v d m L cL rows w2 m none 0 []) := Lib.hid (by
    obtain ⟨cs, BT⟩ := HT1.out.blk
    refine ⟨World.ownsRow_nil _ _ _ _, fun t h => absurd h (by simp), fun t h => absurd h (by simp), ?_, hT2, ht2, ?_, by simp⟩
    · exact OwnI.tk (HOI.out.mono (by simp)) ht2 (by omega)
    · exact (ht2.block _ hg8 (fun e => by injection e with e; omega)).trans HB8.out)
  clear hT2 ht2 HNX1 HLI
  go_wp2
  go_loopw [10, 11] (fun s10 s11 wr => ∃ (k : Nat) (A : Option Addr) (c : Nat) (ts : List TQ), s10 = .slice A ts.length c ∧ s11 = .int .i64 (k : Nat) ∧ k ≤ m ∧ Hid (PySt w1 g (w.heap.size + 1) w.heap.size v d m L cL rows wr k A c ts)) (fun _ s11 _ => (intOf s11).toNat)
  case atStart => exact ⟨m, none, 0, [], rfl, rfl, Nat.le_refl _, HST0⟩
  case round =>
    clear HST0
    obtain ⟨wo, rfl⟩ : ∃ wo : World, wo = wr := ⟨_, rfl⟩
    obtain ⟨k, A, c, ts, rfl, rfl, hk, HST⟩ := hrel
    obtain ⟨N, hN⟩ : ∃ x, ts.length = x := ⟨_, rfl⟩
    have HN := Lib.hid hN
    rw [hN]
    have hNm : N + k = m := by rw [← hN]; exact HST.out.len
    have HNM := Lib.hid hNm
    have hN8 : N ≤ 8 := by omega
    have hNt : N ≤ terms := by omega
    by_cases hk0 : k = 0
    · have e1 : decide ((0 : Int) < (k : Int)) = false := decide_eq_false (by omega)
      have e1' : decide (0 < k) = false := decide_eq_false (by omega)
      clear hN hNm
      have hown := HST.out.own
      have hbs : ∀ t ∈ ts, t.Ok wo ∧ t.el.length = v ∧ low20 t.el = true ∧ Bd 12 108 t.r.q := fun t ht => by
        obtain ⟨⟨zn, zd, z1, z2, z3, e0⟩, s, hs, e1, e2, e3⟩ := HST.out.mem t ht
        have hml : s.l ∈ mons v d := by rw [← HMS.out]; exact List.mem_map.2 ⟨s, hs, rfl⟩
        obtain ⟨h1, h2⟩ := mons_mem hml
        refine ⟨⟨HST.out.ok t ht, ?_⟩, by rw [e2]; exact h1, by rw [e2]; exact low20_of h2 (by omega), by rw [e0]; exact bd_weight zn zd z1 z2 z3⟩
        rw [e1, e2]; exact Sl.own (HST.out.rows.rows s hs)
      have HSU : Hid (∀ V, Below wo.heap.size wo V → Calls Tryz.prog 51 #[.int .i64 (v : Nat), .slice A N c] V fun e w' => ∃ R dd out, e = .returned (.agg #[.int .i64 (v : Nat), .slice R (List.length out) dd]) ∧ OwnTQ V.heap.size w' R dd out ∧ (∀ t ∈ out, ∃ s ∈ ts, t.E = s.E ∧ t.el = s.el) ∧ out.length ≤ dd ∧ out.length ≤ N ∧ out.map TQ.qe = col ((msrt leT ts.length ts).map TQ.qe) ∧ Below V.heap.size V w') := Lib.hid (fun V hb => by
        obtain ⟨_, _, hv9, hcap, _⟩ := Sl.of_own hown
        injection hv9 with _ _ hv9
        have h1 := sum_any v 12 108 (by omega) (by decide) (by decide) ts A c V (by rw [HN.out]; omega) (by rw [HN.out]; omega) (by omega) (TQs.keep ⟨Sl.own hown, fun t ht => (hbs t ht).1⟩ hb) (fun t ht => ⟨(hbs t ht).2.1, (hbs t ht).2.2.1⟩) (fun t ht => (hbs t ht).2.2.2)
        have h2 := HN.out
        rw [h2] at h1 ⊢
        exact h1)
      clear hown hbs
      go_wp2_with (fail)
      refine (HSU.out _ (Below.refl _ _)).mono ?_
      rintro e w9 ⟨R, dd, out, rfl, hQ, hmm, hl1, hl2, hq, hb9⟩
      have G8 := HST.out.b8.keep hb9 HST.out.b8.lt
      obtain ⟨p0, p1, f0, f1⟩ := G8.two
      have hk9 : Tk g w w9 := ((Tk.of HB1.out).trans HST.out.tk).then hb9
      have HRES : Hid (RetT g (fun x w' => ∃ R c out, x = .agg #[.int .i64 (v : Nat), .slice R (List.length out) c] ∧ TQs w' R out ∧ out.length ≤ c ∧ out.length ≤ terms ∧ Apart g R out ∧ ∃ ts : List TQ, ts.length ≤ terms ∧ (∀ t ∈ ts, CoefT t.r.q ∧ t.el ∈ mons v d) ∧ out.map TQ.qe = col ((msrt leT ts.length ts).map TQ.qe)) w (.returned (.agg #[.int .i64 (v : Nat), .slice R out.length dd])) ((w9.setCell ⟨w.heap.size, 0, none⟩ (.int .i64 (v : Nat))).setCell ⟨w.heap.size, 1, none⟩ (.slice R out.length dd))) := Lib.hid (by
        have hown := hQ.own
        have G1 := G8.set 0 (.int .i64 (v : Nat))
        have o1 := own_far (p := ⟨w.heap.size, 0, none⟩) hown (own_blk_ne hown G8 (by decide)) (.int .i64 (v : Nat))
        have o2 := own_far (p := ⟨w.heap.size, 1, none⟩) o1 (own_blk_ne o1 G1 (by decide)) (.slice R out.length dd)
        have hR9 : OwnI (w.heap.size + 1) w9 L cL rows := HST.out.rows.keep hb9
        have hT9 := HST.out.tape.keep hb9
        refine ⟨_, rfl, ⟨R, dd, out, rfl, ⟨Sl.own o2, fun t ht => ?_⟩, hl1, by omega, ⟨fun ad e => by have h1 := own_ge hQ.own ad e; have h2 := HST.out.tape.lt; omega, fun t ht ad e => ?_⟩, ts, by rw [HN.out]; omega, fun t ht => ?_, hq⟩, (hT9.far hg _ _).far hg _ _, (hk9.far (Nat.le_refl _) _ _).far (Nat.le_refl _) _ _⟩
        · refine ⟨((hQ.ok t ht).r.far G8 (by decide) 0 _).far G1 (by decide) 1 _, ?_⟩
          obtain ⟨s, hs, e1, e2⟩ := hmm t ht
          obtain ⟨_, q, hq1, e3, e4, _⟩ := HST.out.mem s hs
          have h1 := hR9.rows q hq1
          have n0 : some w.heap.size ≠ (Value.slice q.A q.l.length q.c).ownBlock := fun e => by have := (h1.lt _ e.symm).1; omega
          have h2 := own_far (p := ⟨w.heap.size, 0, none⟩) h1 n0 (.int .i64 (v : Nat))
          have h3 := own_far (p := ⟨w.heap.size, 1, none⟩) h2 n0 (.slice R out.length dd)
          rw [e1, e2, e3, e4]
          exact Sl.own h3
        · obtain ⟨s, hs, e1, _⟩ := hmm t ht
          obtain ⟨_, q, hq1, e3, _, _⟩ := HST.out.mem s hs
          have h1 := own_ge (hR9.rows q hq1) ad (by rw [← e3, ← e1]; exact e)
          omega
        · obtain ⟨hc1, s, hs, _, e2, _⟩ := HST.out.mem t ht
          exact ⟨hc1, by rw [e2, ← HMS.out]; exact List.mem_map.2 ⟨s, hs, rfl⟩⟩)
      clear hQ hmm hl1 hl2 hq hb9 hk9
      generalize out.length = no at *
      go_wp2
      obtain ⟨t0, t1, _, _⟩ := ((G8.set 0 (.int .i64 (v : Nat))).set 1 (.slice R no dd)).two
      exact bodyPost_ret (v := .agg #[.int .i64 (v : Nat), .slice R no dd]) (by simp [results, Tryz.results28, go_sem, t0, t1]) rfl HRES.out
    · have hk1 : 0 < k := by omega
      have e1 : decide ((0 : Int) < (k : Int)) = true := decide_eq_true (by omega)
      have e1' : decide (0 < k) = true := decide_eq_true hk1
      clear hN hNm hk0
      go_wp2_with (fail)
      refine (HNU.out _ HST.out.tape).mono ?_
      rintro e w5 ⟨_, rfl, ⟨zn, zd, z1, z2, z3, hQ⟩, hT5, ht5⟩
      obtain ⟨r, hrq, rfl, hok⟩ := hQ.rval
      have HCO : Hid (CoefT r.q) := Lib.hid ⟨zn, zd, z1, z2, z3, hrq⟩
      have HOK := Lib.hid hok
      have HT5 := Lib.hid hT5
      have HK5 := Lib.hid ht5
      clear hQ hrq z1 z2 z3 hok hT5 ht5
      unfold RVal.val
      go_wp2_with (fail)
      refine (HNX.out _ nr HT5.out (by omega) (by omega)).mono ?_
      rintro e w6 ⟨_, rfl, ⟨j, hj, rfl⟩, hT6, ht6⟩
      obtain ⟨cs5, BT5⟩ := HT5.out.blk
      obtain ⟨cs0, BT0⟩ := HST.out.tape.blk
      have hown := own_tk (own_tk HST.out.own HK5.out hgw1) ht6 hgw1
      rw [HN.out] at hown
      have HRO := Lib.hid (OwnI.tk (OwnI.tk HST.out.rows HK5.out (by omega)) ht6 (by omega))
      have HOKS : Hid (∀ t ∈ ts, t.r.Ok w6) := Lib.hid (fun t ht => ((HST.out.ok t ht).tk HK5.out BT0 (by decide)).tk ht6 BT5 (by decide))
      have HOK6 := Lib.hid (HOK.out.tk ht6 BT5 (by decide))
      have hsz1 : w1.heap.size ≤ w6.heap.size := Nat.le_trans HST.out.tk.size (Nat.le_trans HK5.out.size ht6.size)
      have HB86 : Hid (Blk w6 w.heap.size 65 #[.int .i64 0, .slice none 0 0]) := Lib.hid (by
        have h1 := HST.out.b8.lt
        have h2 := HK5.out.size
        exact (ht6.block _ (by omega) (fun e => by injection e with e; omega)).trans ((HK5.out.block _ h1 (fun e => by injection e with e; omega)).trans HST.out.b8))
      have HTK6 := Lib.hid ((HST.out.tk.trans HK5.out).trans ht6)
      have HT6 := Lib.hid hT6
      have hjr : j < rows.length := by rw [HNR.out]; exact hj
      obtain ⟨al, hAL, hcl, hIN⟩ := HRO.out.lists hjr
      subst hAL
      obtain ⟨s, hs⟩ : ∃ s, rows[j] = s := ⟨_, rfl⟩
      have HSM : Hid (s ∈ rows) := Lib.hid (by rw [← hs]; exact List.getElem_mem _)
      rw [hs] at hcl
      have hsl : s.l.length = v := (mons_mem (show s.l ∈ mons v d by rw [← HMS.out]; exact List.mem_map.2 ⟨s, HSM.out, rfl⟩)).1
      rw [hsl] at hcl
      have HSL := Lib.hid hsl
      have q1 : (0 : Int) ≤ (j : Int) := by omega
      have q2 : (j : Int) < (nr : Int) := by omega
      have HNC := Lib.hid (cells_new w6 99 [.bool (decide (r.q.num < 0)), .slice r.N (dg r.q.num.natAbs).length r.cn, .bool false, .slice r.D (dg (dnz r.q.den)).length r.cd, .slice s.A v s.c])
      clear hIN hs hsl hjr hT6 ht6 BT5 BT0
      go_wp2_with (first
        | (at_builtin; refine wpList_append_own_at _ rfl _ _ 63 rfl w1.heap.size 99 i0 _ 5 88 Tryz.underlying63 hi0 hz0 hz1 hz2 rfl (by decide) (.slice A N c) N _ rfl (hown.alloc _) ⟨w6.heap.size, 0, none⟩ 1 1 [.bool (decide (r.q.num < 0)), .slice r.N (dg r.q.num.natAbs).length r.cn, .bool false, .slice r.D (dg (dnz r.q.den)).length r.cd, .slice s.A v s.c] rfl rfl ?c1 ?c2 ?c3 ?c4 ?c5 ?_
           case c1 => exact HNC.out
           case c2 => simp [Value.oneCell']
           case c3 => simp only [maxLen]; omega
           case c4 => omega
           case c5 => simp; omega
           intro v' w7 hown' hgrow _ hat))
      obtain ⟨A2, cs2, hv2, _, _⟩ := Sl.of_own hown'
      subst hv2
      have hal := Below.alloc (Below.refl w6.heap.size w6) (Nat.le_refl _) (.cells #[.bool (decide (r.q.num < 0)), .slice r.N (dg r.q.num.natAbs).length r.cn, .bool false, .slice r.D (dg (dnz r.q.den)).length r.cd, .slice s.A v s.c] 99)
      have hownA := hown.alloc (.cells #[.bool (decide (r.q.num < 0)), .slice r.N (dg r.q.num.natAbs).length r.cn, .bool false, .slice r.D (dg (dnz r.q.den)).length r.cd, .slice s.A v s.c] 99)
      have HNEW : Hid (PySt w1 g (w.heap.size + 1) w.heap.size v d m (some al) cL rows w7 (k - 1) A2 cs2 (ts ++ [⟨r, s.A, s.c, s.l⟩])) := Lib.hid (by
        have hl : (ts ++ [(⟨r, s.A, s.c, s.l⟩ : TQ)]).length = N + 1 := by rw [List.length_append, HN.out]; rfl
        have hRA := HRO.out.keep hal
        refine ⟨?_, fun x hx => ?_, fun x hx => ?_, ⟨hRA.own.kept hgrow (own_ne hRA.own hownA (by decide)), fun x hx => (hRA.rows x hx).kept hgrow (own_ne (hRA.rows x hx) hownA (by decide))⟩, (HT6.out.keep hal).grown hownA hgw1 hgrow, (HTK6.out.then hal).grown hownA (Nat.le_refl _) hgrow, (HB86.out.keep hal HB86.out.lt).grown hgrow (own_blk_ne hownA (HB86.out.keep hal HB86.out.lt) (by decide)), by rw [hl]; have := HNM.out; omega⟩
        · rw [hl, List.flatMap_append]
          have e : TQ.cells ⟨r, s.A, s.c, s.l⟩ = [.bool (decide (r.q.num < 0)), .slice r.N (dg r.q.num.natAbs).length r.cn, .bool false, .slice r.D (dg (dnz r.q.den)).length r.cd, .slice s.A v s.c] := by unfold TQ.cells; rw [HSL.out]
          rw [List.flatMap_cons, List.flatMap_nil, List.append_nil, e]
          exact hown'
        · rcases List.mem_append.1 hx with hx | hx
          · exact ((HOKS.out x hx).keep hal).grown hownA hgrow (by decide)
          · rw [List.mem_singleton.1 hx]; exact (HOK6.out.keep hal).grown hownA hgrow (by decide)
        · rcases List.mem_append.1 hx with hx | hx
          · exact HST.out.mem x hx
          · rw [List.mem_singleton.1 hx]; exact ⟨HCO.out, s, HSM.out, rfl, rfl, rfl⟩)
      go_roundw
      case rel => exact ⟨k - 1, A2, cs2, _, by rw [List.length_append, HN.out]; rfl, by go_num, by omega, HNEW⟩
      case measure => simp [intOf]; omega
end Go.Proofs.Tg
end
section
/- Plain: the bounds of the coefficients that the tape gives, of the values of a functional of points. -/
namespace Go.Rs
open Go.Mo Go.Rq Go.Mm Go.Qn Go.Ev Go.Proofs.Tg
theorem coefs_ds : ∀ (l : List (Rat × List Int)), (∀ t ∈ l, CoefT t.1) → ∃ ds : List Nat, ds.length = l.length ∧ (∀ d ∈ ds, 1 ≤ d ∧ d ≤ 4) ∧ ∀ D, 0 < D → (∀ d ∈ ds, D % d = 0) → Nm D l (9 * (ds.map fun d => D / d).sum)
  | [], _ => ⟨[], rfl, by simp, fun _ _ _ => trivial⟩
  | t :: l, h => by
    obtain ⟨ds, h1, h2, h3⟩ := coefs_ds l (fun s hs => h s (by simp [hs]))
    obtain ⟨n, d, hn, hd1, hd4, e⟩ := h t (by simp)
    refine ⟨d :: ds, by simp [h1], fun x hx => ?_, fun D hD hx => ?_⟩
    · rcases List.mem_cons.1 hx with rfl | hx
      · exact ⟨hd1, hd4⟩
      · exact h2 x hx
    · have hdv : d ∣ D := Nat.dvd_of_mod_eq_zero (hx d (by simp))
      obtain ⟨k, e2, hk⟩ := (Bd.of n d).over hdv hD
      have h4 := h3 D hD (fun y hy => hx y (by simp [hy]))
      have hm : n.natAbs * (D / d) ≤ 9 * (D / d) := Nat.mul_le_mul_right _ hn
      rw [List.map_cons, List.sum_cons, Nat.mul_add]
      generalize D / d = q at *
      exact ⟨k, e.trans e2, by omega, h4.mono (by omega)⟩
theorem fit_nm {l : List (Rat × List Int)} {ds : List Nat} {D : Nat} (hD : 0 < D) (h : ∀ D, 0 < D → (∀ d ∈ ds, D % d = 0) → Nm D l (9 * (ds.map fun d => D / d).sum)) (hf : fitD ds D = true) : Nm D l (if ds.length ≤ 3 then 171 else 279) := by
  unfold fitD at hf
  rw [Bool.and_eq_true] at hf
  refine (h D hD (fun d hd => ?_)).mono (of_decide_eq_true hf.2)
  exact of_decide_eq_true (List.all_eq_true.1 hf.1 d hd)
theorem nm_coefs {l : List (Rat × List Int)} (hl : l.length ≤ 4) (h : ∀ t ∈ l, CoefT t.1) : ∃ D, 0 < D ∧ D ≤ 12 ∧ Nm D l (if l.length ≤ 3 then 171 else 279) := by
  obtain ⟨ds, h1, h2, h3⟩ := coefs_ds l h
  have hf := fits_all ds (by omega) h2
  unfold fits at hf
  rw [← h1]
  rw [Bool.or_eq_true, Bool.or_eq_true] at hf
  rcases hf with (hf | hf) | hf
  · exact ⟨4, by decide, by decide, fit_nm (by decide) h3 hf⟩
  · exact ⟨6, by decide, by decide, fit_nm (by decide) h3 hf⟩
  · exact ⟨12, by decide, by decide, fit_nm (by decide) h3 hf⟩
/-- The weights as terms. -/
def wl (ws : List Rat) (k : Nat) : List (Rat × List Int) := (List.range k).map fun i => (ws.getD i 0, [(i : Int)])
end Go.Rs
end
section
/- The reference's product of a polynomial and a term, walked: any terms. -/
namespace Go.Proofs.Tg
open Go.RowKit Go.Gr Go.Bn Go.Rq Go.Mo Go.Rs Go.Mm Go.Ev
set_option maxHeartbeats 16000000
set_option maxRecDepth 100000
/-- What the loop of Shift holds. -/
structure ShQ (w : World) (v : Nat) (L : Option Addr) (nL cL : Nat) (pc : Array Value) (G : List (Rat × List Int)) (wr : World) (k : Nat) (R : Option Addr) (c : Nat) (us : List TQ) : Prop where
  below : Below w.heap.size w wr
  b2 : Blk wr w.heap.size 65 #[.int .i64 (v : Nat), .slice L nL cL]
  b3 : Blk wr (w.heap.size + 1) 99 pc
  b4 : Blk wr (w.heap.size + 2) 65 #[.int .i64 0, .slice none 0 0]
  own : wr.ownsRow (w.heap.size + 3) 99 5 (.slice R k c) k (us.flatMap TQ.cells)
  ok : ∀ u ∈ us, u.r.Ok wr ∧ ∃ g, u.E = some ⟨g, 0, none⟩ ∧ Blk wr g 3 (iarr u.el)
  len : us.length = k
  qe : us.map TQ.qe = G.take k
theorem ShQ.keep {w wr wz : World} {v nL cL k c : Nat} {L R : Option Addr} {pc : Array Value} {G : List (Rat × List Int)} {us : List TQ} (h : ShQ w v L nL cL pc G wr k R c us) (hb : Below wr.heap.size wr wz) : ShQ w v L nL cL pc G wz k R c us :=
  ⟨below_all h.below hb, h.b2.keep hb h.b2.lt, h.b3.keep hb h.b3.lt, h.b4.keep hb h.b4.lt, own_below h.own hb (Nat.le_refl _), fun u hu => by
    obtain ⟨h1, g, h2, h3⟩ := h.ok u hu
    exact ⟨h1.keep hb, g, h2, h3.keep hb h3.lt⟩, h.len, h.qe⟩
/-- What Shift needs of the numbers. -/
structure ShOk (v D K : Nat) (ts : List TQ) (p : TQ) : Prop where
  v6 : v ≤ 6
  few : ts.length ≤ 8
  dp : p.el.length = v ∧ ∀ e ∈ p.el, 0 ≤ e ∧ e ≤ 1000
  dt : ∀ t ∈ ts, t.el.length = v ∧ ∀ e ∈ t.el, 0 ≤ e ∧ e ≤ 1000
  qp : QS p.r.q
  qt : ∀ t ∈ ts, QS t.r.q
  bd : ∀ t ∈ ts, Bd D K (t.r.q * p.r.q)
  d0 : 0 < D
  d1 : D < 65536
  k1 : 9 * K < 1000000000
end Go.Proofs.Tg
end
section
/- The reference's product of two polynomials, walked. Printed by mk_ts2.py. -/
namespace Go.Proofs.Tg
open Go.RowKit Go.Gr Go.Bn Go.Rq Go.Mo Go.Rs Go.Mm Go.Ev
set_option maxHeartbeats 16000000
set_option maxRecDepth 100000
/-- What the loop of Times holds. -/
structure TmSt (w : World) (v : Nat) (L : Option Addr) (nG cL : Nat) (P : Option Addr) (nP cP : Nat) (G Q : List (Rat × List Int)) (wr : World) (k : Nat) (R : Option Addr) (c N : Nat) (us : List TQ) : Prop where
  below : Below w.heap.size w wr
  b2 : Blk wr w.heap.size 65 #[.int .i64 (v : Nat), .slice L nG cL]
  b3 : Blk wr (w.heap.size + 1) 65 #[.int .i64 (v : Nat), .slice P nP cP]
  b4 : Blk wr (w.heap.size + 2) 65 #[.int .i64 0, .slice none 0 0]
  own : wr.ownsRow (w.heap.size + 3) 99 5 (.slice R N c) N (us.flatMap TQ.cells)
  ok : ∀ u ∈ us, u.r.Ok wr ∧ ∃ g, u.E = some ⟨g, 0, none⟩ ∧ Blk wr g 3 (iarr u.el)
  len : us.length = N
  few : N ≤ 3 * k
  eqv : Eqv v (us.map TQ.qe) (prL G (Q.take k))
theorem TmSt.keep {w wr wz : World} {v nG cL nP cP k c N : Nat} {L P R : Option Addr} {G Q : List (Rat × List Int)} {us : List TQ} (h : TmSt w v L nG cL P nP cP G Q wr k R c N us) (hb : Below wr.heap.size wr wz) : TmSt w v L nG cL P nP cP G Q wz k R c N us :=
  ⟨below_all h.below hb, h.b2.keep hb h.b2.lt, h.b3.keep hb h.b3.lt, h.b4.keep hb h.b4.lt, own_below h.own hb (Nat.le_refl _), fun u hu => by
    obtain ⟨h1, g, h2, h3⟩ := h.ok u hu
    exact ⟨h1.keep hb, g, h2, h3.keep hb h3.lt⟩, h.len, h.few, h.eqv⟩
/-- What Times needs of its polynomials. -/
structure TmOk (v DG DP KG KP : Nat) (gs ps : List TQ) : Prop where
  v6 : v ≤ 6
  ng : gs.length ≤ 3
  np : ps.length ≤ 3
  dg : ∀ t ∈ gs, t.el.length = v ∧ ∀ e ∈ t.el, 0 ≤ e ∧ e ≤ 1000
  dp : ∀ t ∈ ps, t.el.length = v ∧ ∀ e ∈ t.el, 0 ≤ e ∧ e ≤ 1000
  ag : Rs.Nm DG (gs.map TQ.qe) KG
  ap : Rs.Nm DP (ps.map TQ.qe) KP
  d1 : 0 < DG ∧ DG ≤ 12
  d2 : 0 < DP ∧ DP ≤ 12
  k1 : KG ≤ 171
  k2 : KP ≤ 171
theorem TmOk.kk {v DG DP KG KP : Nat} {gs ps : List TQ} (h : TmOk v DG DP KG KP gs ps) : KG * KP ≤ 29241 ∧ 0 < DG * DP ∧ DG * DP ≤ 144 :=
  ⟨Nat.mul_le_mul h.k1 h.k2, Nat.mul_pos h.d1.1 h.d2.1, Nat.mul_le_mul h.d1.2 h.d2.2⟩
theorem qe_mem {ts : List TQ} {t : TQ} (ht : t ∈ ts) : t.qe ∈ ts.map TQ.qe := List.mem_map.2 ⟨t, ht, rfl⟩
theorem TmOk.sh {v DG DP KG KP : Nat} {gs ps : List TQ} (h : TmOk v DG DP KG KP gs ps) {p : TQ} (hp : p ∈ ps) : ShOk v (DG * DP) (KG * KP) gs p := by
  have hbp : Bd DP KP p.r.q := h.ap.mem _ (qe_mem hp)
  have hbg : ∀ t ∈ gs, Bd DG KG t.r.q := fun t ht => h.ag.mem _ (qe_mem ht)
  have hkk := h.kk
  have k1 := h.k1
  have k2 := h.k2
  have d1 := h.d1
  have d2 := h.d2
  have ng := h.ng
  exact ⟨h.v6, by omega, h.dp p hp, h.dg, bd_qs hbp d2.1 (by omega) (by omega), fun t ht => bd_qs (hbg t ht) d1.1 (by omega) (by omega), fun t ht => (hbg t ht).mul hbp, hkk.2.1, by omega, by omega⟩
end Go.Proofs.Tg
end
