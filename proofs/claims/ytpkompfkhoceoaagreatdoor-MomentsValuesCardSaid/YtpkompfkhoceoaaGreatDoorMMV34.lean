/- Parts of the proof: KN1, WR1, MA1, LO2, FU1. -/
import Derived.Deep.RegionHeld3
import Derived.Test.YtpkompfkhoceoaaGreatDoorMMV18
import Derived.Test.YtpkompfkhoceoaaGreatDoorMMV24
import Derived.Test.YtpkompfkhoceoaaGreatDoorMMV26
import Derived.Test.YtpkompfkhoceoaaGreatDoorMMV31
import Derived.Test.YtpkompfkhoceoaaGreatDoorMMV33
section
/- The law's known functional: the program gives it. -/
namespace Go.Proofs.Tg.Fi
open Go.RowKit Go.Gr Go.Bn Go.Rq Go.Qn Go.Mm
set_option maxHeartbeats 8000000
set_option maxRecDepth 100000
theorem blk_at {w : World} {g g' : Nat} {t : TypeId} {cs : Array Value} (h : g = g') (B : Blk w g t cs) : Blk w g' t cs := h ▸ B
theorem kn_sh3 : ∀ q ∈ ([2, 0, 2] : List Rat), Sh q := by
  intro q hq
  have h : ∀ q ∈ ([2, 0, 2] : List Rat), q.num.natAbs < 1000000000 ∧ q.den < 1000000000 := by decide +kernel
  exact h q hq
theorem kn_at {w : World} {A : Option Addr} (h : Txts w A [2, 0, 2]) : ∃ ad, (A = some ad ∧ w.cell? ad = some (.string ⟨#[50]⟩)) ∧ w.cell? ⟨ad.block, ad.off + 1, none⟩ = some (.string ⟨#[48]⟩) ∧ w.cell? ⟨ad.block, ad.off + 2, none⟩ = some (.string ⟨#[50]⟩) := by
  obtain ⟨ad, e, c0⟩ := Txts.at h (k := 0) (by decide)
  obtain ⟨a1, e1, c1⟩ := Txts.at h (k := 1) (by decide)
  obtain ⟨a2, e2, c2⟩ := Txts.at h (k := 2) (by decide)
  subst e
  injection e1 with e1
  injection e2 with e2
  subst e1
  subst e2
  have d0 : qtx ([2, 0, 2] : List Rat)[0] = ⟨#[50]⟩ := kn_tx.2.2.1
  have d1 : qtx ([2, 0, 2] : List Rat)[1] = ⟨#[48]⟩ := kn_tx.2.2.2
  have d2 : qtx ([2, 0, 2] : List Rat)[2] = ⟨#[50]⟩ := kn_tx.2.2.1
  rw [d0] at c0
  rw [d1] at c1
  rw [d2] at c2
  exact ⟨ad, ⟨rfl, by simpa [Addr.add] using c0⟩, by simpa [Addr.add] using c1, by simpa [Addr.add] using c2⟩
theorem known_any (w : World) (ht : PT w) : Calls Tryz.prog 9 #[] w fun e w' => e = .returned (.bool true) ∧ Below w.heap.size w w' := by
  obtain ⟨W, hW⟩ : ∃ W, (((w.alloc (.cells #[.string ⟨#[49]⟩] 9)).alloc (.cells #[.string ⟨#[45, 49]⟩] 9)).alloc (.cells #[.slice (some ⟨w.heap.size, 0, none⟩) 1 1, .slice (some ⟨w.heap.size + 1, 0, none⟩) 1 1] 22)).alloc (.cells #[.string ⟨#[49]⟩, .string ⟨#[49]⟩] 9) = W := ⟨_, rfl⟩
  have hbW : Below w.heap.size w W := by rw [← hW]; exact ((((Below.refl _ _).alloc (Nat.le_refl _) _).alloc (by simp) _).alloc (by simp; omega) _).alloc (by simp; omega) _
  have B1 : Blk W w.heap.size 9 #[.string ⟨#[49]⟩] := by rw [← hW]; exact (((Blk.new _ _ _).alloc _).alloc _).alloc _
  have B2 : Blk W (w.heap.size + 1) 9 #[.string ⟨#[45, 49]⟩] := by rw [← hW]; exact ((blk_at (by simp) (Blk.new (w.alloc (.cells #[.string ⟨#[49]⟩] 9)) 9 #[.string ⟨#[45, 49]⟩])).alloc _).alloc _
  have B3 : Blk W (w.heap.size + 1 + 1) 22 #[.slice (some ⟨w.heap.size, 0, none⟩) 1 1, .slice (some ⟨w.heap.size + 1, 0, none⟩) 1 1] := by rw [← hW]; exact (blk_at (by simp) (Blk.new ((w.alloc (.cells #[.string ⟨#[49]⟩] 9)).alloc (.cells #[.string ⟨#[45, 49]⟩] 9)) 22 _)).alloc _
  have B4 : Blk W (w.heap.size + 1 + 1 + 1) 9 #[.string ⟨#[49]⟩, .string ⟨#[49]⟩] := by rw [← hW]; exact blk_at (by simp) (Blk.new _ 9 _)
  have T1 : Txts W (some ⟨w.heap.size, 0, none⟩) [1] := txts_of (by rw [show ([1] : List Rat).map vq = [.string ⟨#[49]⟩] from congrArg (fun s => [Value.string s]) kn_tx.1]; exact B1)
  have T2 : Txts W (some ⟨w.heap.size + 1, 0, none⟩) [-1] := txts_of (by rw [show ([-1] : List Rat).map vq = [.string ⟨#[45, 49]⟩] from congrArg (fun s => [Value.string s]) kn_tx.2.1]; exact B2)
  have T4 : Txts W (some ⟨w.heap.size + 1 + 1 + 1, 0, none⟩) [1, 1] := txts_of (by rw [show ([1, 1] : List Rat).map vq = [.string ⟨#[49]⟩, .string ⟨#[49]⟩] from congrArg (fun s => [Value.string s, Value.string s]) kn_tx.1]; exact B4)
  have TR : TRowsAt W (some ⟨w.heap.size + 1 + 1, 0, none⟩) [[1], [-1]] := ⟨[⟨some ⟨w.heap.size, 0, none⟩, 1, [1]⟩, ⟨some ⟨w.heap.size + 1, 0, none⟩, 1, [-1]⟩], ⟨rfl, fun _ => ⟨_, rfl, B3.lt, fun j u hu => by rw [add_lit, Nat.zero_add, B3.cell j]; simpa [TRow.cell] using hu⟩⟩, rfl, fun r hr => by
    rcases List.mem_cons.1 hr with rfl | hr
    · exact T1
    · rw [List.mem_singleton.1 hr]; exact T2⟩
  have HOF : Hid (Calls Tryz.prog 12 #[.slice (some ⟨w.heap.size + 1 + 1, 0, none⟩) 2 2, .slice (some ⟨w.heap.size + 1 + 1 + 1, 0, none⟩) 2 2, .int .i64 2] W fun e w' => ∃ A, e = .returned (.tuple #[.agg #[.int .i64 1, .int .i64 2, .slice A 3 3], .int .i64 0]) ∧ Txts w' A [2, 0, 2] ∧ Below W.heap.size W w') := Lib.hid (by
    have := of_any (some ⟨w.heap.size + 1 + 1, 0, none⟩) (some ⟨w.heap.size + 1 + 1 + 1, 0, none⟩) 2 2 1 2 [[1], [-1]] [1, 1] W TR T4 kn_ok (ht.keep hbW)
    rw [show (mons 1 2).map (sumTo [1, 1] [[1], [-1]] ([[1], [-1]] : List (List Rat)).length) = [2, 0, 2] from knowns] at this
    exact this)
  have HWW := Lib.hid hW
  have HBW := Lib.hid hbW
  clear hW hbW B1 B2 B3 B4 T1 T2 T4 TR ht
  go_enter Tryz.func9, Tryz.ntmps9
  have HVL : Hid (∀ (A : Option Addr) (V : World), Txts V A [2, 0, 2] → Calls Tryz.prog 11 #[.agg #[.int .i64 1, .int .i64 2, .slice A 3 3]] V fun e w' => e = .returned (.bool true) ∧ Below V.heap.size V w') := Lib.hid (fun A V h => fvalid_any 1 2 A 3 [2, 0, 2] V (by decide) (by decide) (by decide) (by decide +kernel) (by decide +kernel) h kn_sh3)
  go_wp2_with (first
    | (go_at_call 12; rw [HWW.out]; refine HOF.out.mono ?_; rintro e w2 ⟨A, rfl, hT, hb2⟩; have HT2 := Lib.hid hT; have HB2 := Lib.hid (below_all HBW.out hb2); obtain ⟨ad, c0, c1, c2⟩ := kn_at hT; obtain ⟨rfl, c0⟩ := c0; have c0a := fun o => cell_alloc c0 o; have c1a := fun o => cell_alloc c1 o; have c2a := fun o => cell_alloc c2 o; clear hT hb2 HWW)
    | (go_at_call 11; with_reducible refine Calls.mono (HVL.out _ _ (HT2.out.keep ((Below.refl _ _).alloc (Nat.le_refl _) _))) ?_; rintro e w3 ⟨rfl, hb3⟩; have HB3 := Lib.hid (below_all (below_all HB2.out ((Below.refl _ _).alloc (Nat.le_refl _) _)) hb3); clear hb3))
  exact bodyPost_ret (v := .bool true) (by simp [results, Tryz.results9, go_sem]) rfl ⟨rfl, HB3.out⟩
end Go.Proofs.Tg.Fi
end
section
/- The reference's texts of a functional, and the comparison of two functionals. -/
namespace Go.Proofs.Tg.Fi
open Go.RowKit Go.Gr Go.Bn Go.Rq Go.Qn
set_option maxHeartbeats 8000000
set_option maxRecDepth 100000
theorem blk3 {V : World} {g : Nat} {a b c a' b' c' : Value} {t : TypeId} (h : Blk V g t #[a, b, c]) : Blk (((V.setCell ⟨g, 0, none⟩ a').setCell ⟨g, 1, none⟩ b').setCell ⟨g, 2, none⟩ c') g t #[a', b', c'] := by
  have := ((h.set 0 a').set 1 b').set 2 c'
  simpa using this
theorem txts_far3 {w : World} {g : Nat} {t : TypeId} {x y : Int} {a : Option Addr} {b c : Nat} {B : Option Addr} {qs : List Rat} {p q r : Value} (hT : Txts w B qs) (Y : Blk w g t #[.int .i64 x, .int .i64 y, .slice a b c]) : Txts (((w.setCell ⟨g, 0, none⟩ p).setCell ⟨g, 1, none⟩ q).setCell ⟨g, 2, none⟩ r) B qs := by
  refine ⟨hT.len, fun hp => ?_⟩
  obtain ⟨ad, e, hlt, ha⟩ := hT.lies hp
  have hne : ad.block ≠ g := by
    intro hg
    have h0 := ha 0 (vq (qs[0]'hp)) (by simp [hp])
    unfold World.cell? at h0
    unfold Blk at Y
    rw [show (ad.add 0).block = g from hg, Y] at h0
    simp only at h0
    split at h0
    · cases h0
    · generalize (ad.add 0).off = o at h0
      match o with
      | 0 => simp [vq] at h0
      | 1 => simp [vq] at h0
      | 2 => simp [vq] at h0
      | o + 3 => simp at h0
  refine ⟨ad, e, Nat.lt_of_lt_of_le hlt (below_far (below_far (below_far (Below.refl 0 w) (Nat.zero_le _) _ _) (Nat.zero_le _) _ _) (Nat.zero_le _) _ _).size, fun j u hu => ?_⟩
  have hn : ∀ k, (⟨g, k, none⟩ : Addr) ≠ ad.add j := fun k e => hne (by have := congrArg Addr.block e; rw [add_block] at this; exact this.symm)
  rw [World.cell?_setCell_other _ _ _ _ (hn 2), World.cell?_setCell_other _ _ _ _ (hn 1), World.cell?_setCell_other _ _ _ _ (hn 0)]
  exact ha j u hu
/-- The reference's functional written as texts. -/
theorem write_q (v d : Nat) (A : Option Addr) (c : Nat) (rs : List RVal) (w : World) (h : QsAt w A rs) (hs : ∀ r ∈ rs, Sh r.q) (hn : rs.length ≤ 1000000) :
    Calls Tryz.prog 24 #[.agg #[.int .i64 (v : Nat), .int .i64 (d : Nat), .slice A rs.length c]] w fun e w' => ∃ B, e = .returned (.agg #[.int .i64 (v : Nat), .int .i64 (d : Nat), .slice B rs.length rs.length]) ∧ Txts w' B (rs.map RVal.q) ∧ Below w.heap.size w w' := by
  have HTX : Hid (∀ V, Below w.heap.size w V → Calls Tryz.prog 19 #[.slice A rs.length c] V fun e w' => ∃ B, e = .returned (.slice B rs.length rs.length) ∧ Txts w' B (rs.map RVal.q) ∧ Below V.heap.size V w') := Lib.hid (fun V hb => by
    have := texts_q A c rs V (h.keep hb) hs hn
    unfold RetTxts at this
    rw [List.length_map] at this
    exact this)
  obtain ⟨W, hW⟩ : ∃ W, (w.alloc (.cells #[.int .i64 (v : Nat), .int .i64 (d : Nat), .slice A rs.length c] 29)).alloc (.cells #[.int .i64 0, .int .i64 0, .slice none 0 0] 24) = W := ⟨_, rfl⟩
  have hbW : Below w.heap.size w W := by rw [← hW]; exact ((Below.refl _ _).alloc (Nat.le_refl _) _).alloc (by simp) _
  have HBW := Lib.hid hbW
  have B1 : Blk W w.heap.size 29 #[.int .i64 (v : Nat), .int .i64 (d : Nat), .slice A rs.length c] := by rw [← hW]; exact (Blk.new _ _ _).alloc _
  have B2 : Blk W (w.heap.size + 1) 24 #[.int .i64 0, .int .i64 0, .slice none 0 0] := by
    rw [← hW]
    have := Blk.new (w.alloc (.cells #[.int .i64 (v : Nat), .int .i64 (d : Nat), .slice A rs.length c] 29)) 24 #[.int .i64 0, .int .i64 0, .slice none 0 0]
    simpa using this
  obtain ⟨x0, x1, x2, _, _, _⟩ := B1.three
  obtain ⟨y0, y1, y2, f0, f1, f2⟩ := B2.three
  have HB2 := Lib.hid B2
  have HWW := Lib.hid hW
  have HC : Hid (∀ V, Below W.heap.size W V → Calls Tryz.prog 19 #[.slice A rs.length c] V fun e w' => ∃ B, e = .returned (.slice B rs.length rs.length) ∧ Txts w' B (rs.map RVal.q) ∧ Below V.heap.size V w') := Lib.hid (fun V hb => HTX.out V (below_all hbW hb))
  have hbe : Below W.heap.size W W.drew := (Below.refl _ _).drew
  have HRL : Hid (∀ k, Hid (rs.length = k) → True) := Lib.hid (fun _ _ => trivial)
  clear hW hbW B1 B2 h HTX HRL
  generalize rs.length = n at *
  go_enter Tryz.func24, Tryz.ntmps24
  go_upto_region 1 with (fail)
  rw [HWW.out]
  go_region_held3 (fun w' => w'.cell? ⟨w.heap.size, 0, none⟩ = some (.int .i64 (v : Nat)) ∧ w'.cell? ⟨w.heap.size, 1, none⟩ = some (.int .i64 (d : Nat)) ∧ w'.cell? ⟨w.heap.size, 2, none⟩ = some (.slice A n c))
    (first | exact ⟨keep_cell hbe x0, keep_cell hbe x1, keep_cell hbe x2⟩ | go_keep)
    (first | (go_at_call 19; with_reducible refine Calls.mono (HC.out _ (by assumption)) ?_; rintro e w3 ⟨B, rfl, hT3, hb3⟩; have HT3 := Lib.hid hT3; clear hT3; have hbe := below_all hbe hb3; have Y2 := HB2.out.keep hbe HB2.out.lt; obtain ⟨y0, y1, y2, f0, f1, f2⟩ := Y2.three))
  all_goals
    go_wp2
    obtain ⟨p0, p1, p2, _⟩ := (blk3 (a' := .int .i64 (v : Nat)) (b' := .int .i64 (d : Nat)) (c' := .slice B n n) Y2).three
    refine bodyPost_ret (v := .agg #[.int .i64 (v : Nat), .int .i64 (d : Nat), .slice B n n]) (by simp [results, Tryz.results24, go_sem, p0, p1, p2]) rfl ⟨B, rfl, ?_, ?_⟩
    · exact txts_far3 HT3.out Y2
    · exact below_far (below_far (below_far (below_all HBW.out hbe) (by omega) _ _) (by omega) _ _) (by omega) _ _
end Go.Proofs.Tg.Fi
end
section
/- The program's sum of two functionals. -/
namespace Go.Proofs.Tg.Fi
open Go.RowKit Go.Gr Go.Bn Go.Rq Go.Qn Go.Mm
set_option maxHeartbeats 8000000
set_option maxRecDepth 100000
/-- What the loop of Add and of Scale holds. -/
structure FuSt (W : World) (gv gf v d n : Nat) (zs : List Rat) (wr : World) (k : Nat) : Prop where
  bv : Blk wr gv 9 (tpart zs n k)
  bf : Blk wr gf 24 #[.int .i64 (v : Nat), .int .i64 (d : Nat), .slice (some ⟨gv, 0, none⟩) n n]
  below : Below W.heap.size W wr
  gvl : W.heap.size ≤ gv
  gfl : W.heap.size ≤ gf
  ne : gv ≠ gf
theorem FuSt.step {W : World} {gv gf v d n : Nat} {zs : List Rat} {wr V : World} {k : Nat} (h : FuSt W gv gf v d n zs wr k) (hb : Below wr.heap.size wr V) (hl : zs.length = n) (hk : k < n) : FuSt W gv gf v d n zs (V.setCell ⟨gv, k, none⟩ (.string (qtx (zs[k]'(by omega))))) (k + 1) := by
  have hv := (h.bv.keep hb h.bv.lt).set k (.string (qtx (zs[k]'(by omega))))
  rw [tpart_set hl hk] at hv
  exact ⟨hv, (h.bf.keep hb h.bf.lt).far (by simpa using h.ne.symm) _, below_far (below_all h.below hb) h.gvl _ _, h.gvl, h.gfl, h.ne⟩
end Go.Proofs.Tg.Fi
end
section
/- What the law on functionals of points holds while it walks: rows of lists of texts, points that meet the bounds. -/
namespace Go.Proofs.Tg
open Go.RowKit Go.Gr Go.Bn Go.Rq Go.Mm
open Go.Proofs.Tg.Fi (QsAt Txts TRow TRowsAt vq txts_of of_any RetFun texts_q RetTxts write_q PT)
set_option maxHeartbeats 8000000
set_option maxRecDepth 100000
/-- A list of texts in a block of its own. -/
structure TB where
  g : Nat
  qs : List Rat
def TB.cell (r : TB) : Value := .slice (some ⟨r.g, 0, none⟩) r.qs.length r.qs.length
structure OwnTR (base : Nat) (w : World) (A : Option Addr) (c : Nat) (rows : List TB) : Prop where
  own : w.ownsRow base 22 1 (.slice A rows.length c) rows.length (rows.map TB.cell)
  rows : ∀ r ∈ rows, Blk w r.g 9 (r.qs.map vq).toArray
theorem OwnTR.nil (base : Nat) (w : World) : OwnTR base w none 0 [] := ⟨World.ownsRow_nil _ _ _ _, fun r h => absurd h (by simp)⟩
theorem OwnTR.keep {base : Nat} {w w' : World} {A : Option Addr} {c : Nat} {rows : List TB} (h : OwnTR base w A c rows) (hb : Below w.heap.size w w') : OwnTR base w' A c rows :=
  ⟨own_below h.own hb (Nat.le_refl _), fun r hr => (h.rows r hr).keep hb (h.rows r hr).lt⟩
theorem OwnTR.push {base : Nat} {w w' : World} {A : Option Addr} {c : Nat} {rows : List TB} {p : TB} {A' : Option Addr} {c' : Nat} (h : OwnTR base w A c rows) (hr : Blk w p.g 9 (p.qs.map vq).toArray) (hg : w.grownBy w' (Value.slice A rows.length c).ownBlock)
    (h' : w'.ownsRow base 22 1 (.slice A' (rows.length + 1) c') (rows.length + 1) (rows.map TB.cell ++ [p.cell])) : OwnTR base w' A' c' (rows ++ [p]) := by
  refine ⟨?_, fun x hx => ?_⟩
  · rw [List.length_append, List.map_append]
    simpa using h'
  · rcases List.mem_append.1 hx with hx | hx
    · exact (h.rows x hx).grown hg (own_blk_ne h.own (h.rows x hx) (by decide))
    · rw [List.mem_singleton.1 hx]; exact hr.grown hg (own_blk_ne h.own hr (by decide))
theorem OwnTR.rowsAt {base : Nat} {w : World} {A : Option Addr} {c : Nat} {rows : List TB} (h : OwnTR base w A c rows) : TRowsAt w A (rows.map TB.qs) := by
  refine ⟨rows.map fun r => ⟨some ⟨r.g, 0, none⟩, r.qs.length, r.qs⟩, ?_, ?_, fun r hr => ?_⟩
  · have := Sl.own h.own
    rw [List.length_map, List.map_map]
    exact this
  · rw [List.map_map]; rfl
  · obtain ⟨x, hx, rfl⟩ := List.mem_map.1 hr
    exact txts_of (h.rows x hx)
/-- What a loop that writes rows of texts holds. -/
structure TL (w0 wr : World) (A : Option Addr) (c : Nat) (rows : List TB) (xs : List (List Rat)) (k : Nat) : Prop where
  own : OwnTR w0.heap.size wr A c rows
  below : Below w0.heap.size w0 wr
  len : rows.length = k
  q : rows.map TB.qs = xs.take k
theorem TL.all {w0 wr : World} {A : Option Addr} {c : Nat} {rows : List TB} {xs : List (List Rat)} {k : Nat} (h : TL w0 wr A c rows xs k) (hk : k = xs.length) : TRowsAt wr A xs := by
  have := h.own.rowsAt
  rw [h.q, hk, List.take_length] at this
  exact this
theorem PtSt.ptOk {w wr : World} {g v m : Nat} {X Y : Option Addr} {cx cy : Nat} {ps : List PRow2} {us : List RVal} (h : PtSt w g v m wr 0 X cx ps Y cy us) (h1 : 1 ≤ ps.length) (h4 : ps.length ≤ 4) : PtOk v (us.map RVal.q) (ptQ ps) where
  n1 := by simpa [ptQ] using h1
  n4 := by simpa [ptQ] using h4
  lw := by simpa [ptQ] using h.lenw
  dim := fun x hx => by
    obtain ⟨p, hp, rfl⟩ := List.mem_map.1 hx
    rw [List.length_map]; exact (h.dim p hp).1
  co := fun x hx q hq => by
    obtain ⟨p, hp, rfl⟩ := List.mem_map.1 hx
    obtain ⟨r, hr, rfl⟩ := List.mem_map.1 hq
    obtain ⟨z, h1, h2⟩ := (h.dim p hp).2 r hr
    exact ⟨z, h1, h2⟩
  wt := fun q hq => by
    obtain ⟨r, hr, rfl⟩ := List.mem_map.1 hq
    obtain ⟨n, d, h1, h2, h3, h4, e⟩ := h.wt r hr
    rw [e]
    exact bd_weight n d (by omega) h3 h4
/-- A functional in a block of its own. -/
structure FunAt (w : World) (g v d N : Nat) (F : Option Addr) (qs : List Rat) : Prop where
  blk : Blk w g 24 #[.int .i64 (v : Nat), .int .i64 (d : Nat), .slice F N N]
  txt : Txts w F qs
theorem FunAt.keep {w w' : World} {g v d N : Nat} {F : Option Addr} {qs : List Rat} (h : FunAt w g v d N F qs) (hb : Below w.heap.size w w') : FunAt w' g v d N F qs := ⟨h.blk.keep hb h.blk.lt, h.txt.keep hb⟩
/-- The reference's functional in a block of its own. -/
structure LAt (w : World) (g v d N : Nat) (A : Option Addr) (c : Nat) (rs : List RVal) (qs : List Rat) : Prop where
  blk : Blk w g 29 #[.int .i64 (v : Nat), .int .i64 (d : Nat), .slice A N c]
  qsat : QsAt w A rs
  len : rs.length = N
  q : rs.map RVal.q = qs
theorem LAt.keep {w w' : World} {g v d N : Nat} {A : Option Addr} {c : Nat} {rs : List RVal} {qs : List Rat} (h : LAt w g v d N A c rs qs) (hb : Below w.heap.size w w') : LAt w' g v d N A c rs qs := ⟨h.blk.keep hb h.blk.lt, h.qsat.keep hb, h.len, h.q⟩
/-- A functional of the reference that is being filled: k of its values are there. -/
structure LH (bs : Nat) (wr : World) (g v d k : Nat) (A : Option Addr) (c : Nat) (rs : List RVal) (qs : List Rat) : Prop where
  b : Blk wr g 29 #[.int .i64 (v : Nat), .int .i64 (d : Nat), .slice A k c]
  o : OwnQ bs wr A c rs
  l : rs.length = k
  q : rs.map RVal.q = qs.take k
theorem LH.keep {bs : Nat} {w w' : World} {g v d k : Nat} {A : Option Addr} {c : Nat} {rs : List RVal} {qs : List Rat} (h : LH bs w g v d k A c rs qs) (hb : Below w.heap.size w w') : LH bs w' g v d k A c rs qs :=
  ⟨h.b.keep hb h.b.lt, h.o.keep hb, h.l, h.q⟩
theorem LH.own {bs : Nat} {w : World} {g v d k : Nat} {A : Option Addr} {c : Nat} {rs : List RVal} {qs : List Rat} (h : LH bs w g v d k A c rs qs) : w.ownsRow bs 52 4 (.slice A k c) k (rs.flatMap RVal.cells) := by
  have := h.o.own
  rw [h.l] at this
  exact this
theorem LH.grown {bs : Nat} {w w' : World} {g v d k : Nat} {A : Option Addr} {c : Nat} {rs : List RVal} {qs : List Rat} {r : RVal} {A' : Option Addr} {c' : Nat} (h : LH bs w g v d k A c rs qs) (hr : r.Ok w) (hgb : g < bs) (hg : w.grownBy w' (Value.slice A k c).ownBlock)
    (h' : w'.ownsRow bs 52 4 (.slice A' (k + 1) c') (k + 1) (rs.flatMap RVal.cells ++ r.cells)) :
    Blk w' g 29 #[.int .i64 (v : Nat), .int .i64 (d : Nat), .slice A k c] ∧ OwnQ bs w' A' c' (rs ++ [r]) := by
  have hown := h.own
  refine ⟨h.b.grown hg (own_blk_ne hown h.b (by decide)), OwnQ.push h.o hr (by rw [h.l]; exact hg) (by rw [h.l]; exact h')⟩
theorem LH.apart {bs : Nat} {w w' : World} {g v d k : Nat} {A : Option Addr} {c : Nat} {rs : List RVal} {qs : List Rat} {g' n sz : Nat} {ys : List Value} {u : Value} {cs : Array Value} {x : Value} (h : LH bs w g v d k A c rs qs) (ho : w.ownsRow bs 52 sz u n ys) (hg : w.grownBy w' u.ownBlock)
    (hne : (Value.slice A k c).ownBlock = none ∨ (Value.slice A k c).ownBlock ≠ u.ownBlock) (hgb : g' < bs) (hgg : g ≠ g') (hB : Blk w' g' 29 cs) : LH bs (w'.setCell ⟨g', 2, none⟩ x) g v d k A c rs qs := by
  have h1 : OwnQ bs w' A c rs := OwnQ.apart h.o ho hg (by rw [h.l]; exact hne)
  exact ⟨(h.b.grown hg (own_blk_ne ho h.b (by decide))).far hgg _, h1.tk (Tk.set _ _ _ _) hgb hB (by decide), h.l, h.q⟩
end Go.Proofs.Tg
end
section
/- The law's functionals: those of points, or any small values. Printed by mk_fu1.py. -/
namespace Go.Proofs.Tg
open Go.RowKit Go.Gr Go.Bn Go.Rq Go.Mm
open Go.Proofs.Tg.Fi (QsAt)
set_option maxHeartbeats 16000000
set_option maxRecDepth 100000
theorem flat_set4 (r : RVal) : ∀ (rs : List RVal) (k : Nat), k < rs.length → ((((rs.flatMap RVal.cells).set (k * 4) (.bool (decide (r.q.num < 0)))).set (k * 4 + 1) (.slice r.N (dg r.q.num.natAbs).length r.cn)).set (k * 4 + 2) (.bool false)).set (k * 4 + 3) (.slice r.D (dg (dnz r.q.den)).length r.cd) = (rs.set k r).flatMap RVal.cells
  | [], k, h => absurd h (by simp)
  | x :: rs, 0, _ => by simp [RVal.cells]
  | x :: rs, k + 1, h => by
    have ih := flat_set4 r rs k (by simpa using h)
    rw [List.set_cons_succ, List.flatMap_cons, List.flatMap_cons, ← ih]
    unfold RVal.cells
    rw [show (k + 1) * 4 = k * 4 + 1 + 1 + 1 + 1 by omega]
    simp [show k * 4 + 1 + 1 + 1 + 1 + 1 = (k * 4 + 1) + 1 + 1 + 1 + 1 by omega, show k * 4 + 1 + 1 + 1 + 1 + 2 = (k * 4 + 2) + 1 + 1 + 1 + 1 by omega, show k * 4 + 1 + 1 + 1 + 1 + 3 = (k * 4 + 3) + 1 + 1 + 1 + 1 by omega]
theorem OwnQ.set4 {base gA c k : Nat} {w : World} {rs : List RVal} {r : RVal} (h : OwnQ base w (some ⟨gA, 0, none⟩) c rs) (hk : k < rs.length) (hr : r.Ok w) :
    OwnQ base ((((w.setCell ⟨gA, k * 4, none⟩ (.bool (decide (r.q.num < 0)))).setCell ⟨gA, k * 4 + 1, none⟩ (.slice r.N (dg r.q.num.natAbs).length r.cn)).setCell ⟨gA, k * 4 + 2, none⟩ (.bool false)).setCell ⟨gA, k * 4 + 3, none⟩ (.slice r.D (dg (dnz r.q.den)).length r.cd)) (some ⟨gA, 0, none⟩) c (rs.set k r) ∧ w.grownBy ((((w.setCell ⟨gA, k * 4, none⟩ (.bool (decide (r.q.num < 0)))).setCell ⟨gA, k * 4 + 1, none⟩ (.slice r.N (dg r.q.num.natAbs).length r.cn)).setCell ⟨gA, k * 4 + 2, none⟩ (.bool false)).setCell ⟨gA, k * 4 + 3, none⟩ (.slice r.D (dg (dnz r.q.den)).length r.cd)) (some gA) := by
  obtain ⟨o1, g1⟩ := h.own.stored (k * 4) (.bool (decide (r.q.num < 0)))
  obtain ⟨o2, g2⟩ := o1.stored (k * 4 + 1) (.slice r.N (dg r.q.num.natAbs).length r.cn)
  obtain ⟨o3, g3⟩ := o2.stored (k * 4 + 2) (.bool false)
  obtain ⟨o4, g4⟩ := o3.stored (k * 4 + 3) (.slice r.D (dg (dnz r.q.den)).length r.cd)
  have hg := ((g1.trans g2).trans g3).trans g4
  rw [flat_set4 r rs k hk] at o4
  refine ⟨⟨by rw [List.length_set]; exact o4, fun x hx => ?_⟩, hg⟩
  rcases List.mem_or_eq_of_mem_set hx with hx | rfl
  · exact (h.ok x hx).grown h.own hg (by decide)
  · exact hr.grown h.own hg (by decide)
/-- A value's bound. -/
def FnV (r : RVal) : Prop := Bd 12 1769472 r.q
/-- What the loop over the values holds. -/
structure FnSt (w : World) (g g7 v d n gA c : Nat) (wr : World) (rs : List RVal) : Prop where
  own : OwnQ (w.heap.size + 1) wr (some ⟨gA, 0, none⟩) c rs
  b7 : Blk wr g7 29 #[.int .i64 (v : Nat), .int .i64 (d : Nat), .slice (some ⟨gA, 0, none⟩) n c]
  b2 : Blk wr w.heap.size 29 #[.int .i64 0, .int .i64 0, .slice none 0 0]
  tape : TapeAt wr g
  tk : Tk g w wr
  len : rs.length = n
  bd : ∀ r ∈ rs, FnV r
def RetFn (g : Nat) (w : World) (x : Value) (w' : World) : Prop :=
  ∃ v d n A c rs, x = .agg #[.int .i64 ((v : Nat) : Int), .int .i64 ((d : Nat) : Int), .slice A n c] ∧ 1 ≤ v ∧ v ≤ 3 ∧ d ≤ 4 ∧ cnt v d = n ∧ List.length rs = n ∧ OwnQ w.heap.size w' A c rs ∧ ∀ r ∈ rs, FnV r
theorem own_at0 {base : Nat} {w : World} {A : Option Addr} {c : Nat} {rs : List RVal} (h : OwnQ base w A c rs) (hp : 0 < rs.length) : ∃ gA, A = some ⟨gA, 0, none⟩ ∧ base ≤ gA ∧ gA < w.heap.size := by
  rcases h.own.2 with ⟨e, _⟩ | ⟨g, cap, cur, e, hb, hg, _⟩
  · injection e with _ e2 _
    omega
  · injection e with e1 _ _
    exact ⟨g, e1, hb, (Array.getElem?_eq_some_iff.1 hg).1⟩
theorem functional_any (g : Nat) (w : World) (hT : TapeAt w g) :
    Calls Tryz.prog 27 #[.pointer (some ⟨g, 0, none⟩)] w (RetT g (RetFn g w) w) := by
  have HN3 : Hid (∀ V, TapeAt V g → Calls Tryz.prog 16 #[.pointer (some ⟨g, 0, none⟩), .int .i64 3] V (RetT g (fun v _ => ∃ k : Nat, k < 3 ∧ v = .int .i64 (k : Nat)) V)) := Lib.hid (fun V h => next_any g 3 V h (by omega) (by omega))
  have HN5 : Hid (∀ V, TapeAt V g → Calls Tryz.prog 16 #[.pointer (some ⟨g, 0, none⟩), .int .i64 5] V (RetT g (fun v _ => ∃ k : Nat, k < 5 ∧ v = .int .i64 (k : Nat)) V)) := Lib.hid (fun V h => next_any g 5 V h (by omega) (by omega))
  have HPTS : Hid (∀ V (v : Nat), TapeAt V g → v ≤ 10 → Calls Tryz.prog 17 #[.pointer (some ⟨g, 0, none⟩), .int .i64 (v : Nat)] V (RetPts v g V)) := Lib.hid (fun V v h hv => points_any g v V h hv)
  have HWH : Hid (∀ V, TapeAt V g → Calls Tryz.prog 44 #[.pointer (some ⟨g, 0, none⟩), .int .i64 2] V (RetT g (fun v w' => ∃ r : RVal, FnV r ∧ v = .agg #[.bool (decide (r.q.num < 0)), .slice r.N (dg r.q.num.natAbs).length r.cn, .bool false, .slice r.D (dg (dnz r.q.den)).length r.cd] ∧ r.Ok w') V)) := Lib.hid (fun V h => by
    refine (whole_any g 2 V h (by omega)).mono ?_
    rintro e w' ⟨x, rfl, ⟨z, hz, hQ⟩, h1, h2⟩
    obtain ⟨r, hrq, rfl, hok⟩ := hQ.rval
    refine ⟨_, rfl, ⟨r, ?_, rfl, hok⟩, h1, h2⟩
    unfold FnV
    rw [hrq]
    exact (((Bd.int z).mono hz).over (by decide : 1 ∣ 12) (by decide)).mono (by decide))
  have hg := hT.lt
  obtain ⟨W, hW⟩ : ∃ W, w.alloc (.cells #[.int .i64 0, .int .i64 0, .slice none 0 0] 29) = W := ⟨_, rfl⟩
  have hbW : Below w.heap.size w W := by rw [← hW]; exact (Below.refl _ _).alloc (Nat.le_refl _) _
  have HB2 : Hid (Blk W w.heap.size 29 #[.int .i64 0, .int .i64 0, .slice none 0 0]) := Lib.hid (by rw [← hW]; exact Blk.new _ _ _)
  have HTW : Hid (TapeAt W g) := Lib.hid (hT.keep hbW)
  have HKW : Hid (Tk g w W) := Lib.hid (Tk.of hbW)
  have HWW := Lib.hid hW
  clear hW hbW hT
  go_enter Tryz.func27, Tryz.ntmps27
  go_upto_region 1 with (fail)
  rw [HWW.out]
  clear HWW
  go_wp2_with (fail)
  refine (HN3.out _ HTW.out).mono ?_
  rintro e w2 ⟨_, rfl, ⟨k0, hk3, rfl⟩, hT2, ht2⟩
  have HT2 := Lib.hid hT2
  have HK2 := Lib.hid (HKW.out.trans ht2)
  have HB2 : Hid (Blk w2 w.heap.size 29 #[.int .i64 0, .int .i64 0, .slice none 0 0]) := Lib.hid ((ht2.block _ HB2.out.lt (fun e => by injection e with e; omega)).trans HB2.out)
  clear hT2 ht2 HTW HKW
  go_wp2_with (fail)
  refine (HN5.out _ HT2.out).mono ?_
  rintro e w3 ⟨_, rfl, ⟨d, hd5, rfl⟩, hT3, ht3⟩
  have HT3 := Lib.hid hT3
  have HK3 := Lib.hid (HK2.out.trans ht3)
  have HB2 : Hid (Blk w3 w.heap.size 29 #[.int .i64 0, .int .i64 0, .slice none 0 0]) := Lib.hid ((ht3.block _ HB2.out.lt (fun e => by injection e with e; omega)).trans HB2.out)
  obtain ⟨v, hv⟩ : ∃ v : Nat, 1 + k0 = v := ⟨_, rfl⟩
  have hvI : (1 : Int) + (k0 : Int) = (v : Int) := by omega
  have hv1 : 1 ≤ v := by omega
  have hv3 : v ≤ 3 := by omega
  have hd4 : d ≤ 4 := by omega
  clear hT3 ht3 HT2 HK2
  go_upto_region 2 with (fail)
  try rw [hvI]
  clear hvI hv hk3 hd5 HN5
  go_wp2_with (fail)
  refine (HPTS.out _ v HT3.out (by omega)).mono ?_
  rintro e w4 ⟨X1, cx1, ps1, Y1, cy1, us1, rfl, h11, h14, hP⟩
  have HP := Lib.hid hP
  have HK4 := Lib.hid (HK3.out.trans hP.tk)
  have HB2 : Hid (Blk w4 w.heap.size 29 #[.int .i64 0, .int .i64 0, .slice none 0 0]) := Lib.hid ((hP.tk.block _ HB2.out.lt (fun e => by injection e with e; omega)).trans HB2.out)
  have hok := hP.ptOk h11 h14
  have hrok := hok.rOk hv1 hv3 hd4
  obtain ⟨m, hm⟩ : ∃ x, ps1.length = x := ⟨_, rfl⟩
  have hu : us1.length = m := by rw [← hm]; exact hP.lenw
  obtain ⟨n, hn⟩ : ∃ x, cnt v d = x := ⟨_, rfl⟩
  have hxm : (ptQ ps1).length = m := by unfold ptQ; rw [List.length_map]; exact hm
  have HOF : Hid (∀ V, PtsAt V X1 ps1 → QsAt V Y1 us1 → Calls Tryz.prog 23 #[.slice X1 m cx1, .slice Y1 m cy1, .int .i64 (d : Nat)] V fun e w' => ∃ A c rs, e = .returned (.agg #[.int .i64 (v : Nat), .int .i64 (d : Nat), .slice A n c]) ∧ OwnQ V.heap.size w' A c rs ∧ rs.length = n ∧ (∀ r ∈ rs, FnV r) ∧ Below V.heap.size V w') := Lib.hid (fun V h1 h2 => by
    have h := rof_any v d ps1 us1 X1 Y1 cx1 cy1 V h1 h2 hrok
    rw [hm, hu] at h
    refine h.mono ?_
    rintro e w' ⟨A, c, rs, e1, hO, hq, hb⟩
    have hl : rs.length = n := by
      have := congrArg List.length hq
      rw [List.length_map, List.length_map] at this
      exact this.trans hn
    rw [hl] at e1
    refine ⟨A, c, rs, e1, hO, hl, fun r hr => ?_, hb⟩
    have h3 : r.q ∈ (mons v d).map (sumTo (us1.map RVal.q) (ptQ ps1) m) := by rw [← hq]; exact List.mem_map.2 ⟨r, hr, rfl⟩
    obtain ⟨x, hx, e⟩ := List.mem_map.1 h3
    show Bd 12 1769472 r.q
    rw [← e]
    exact hok.sum4 hv3 hd4 hx m (by omega))
  have hn1 : 1 ≤ n := by
    have h4 := cnt_le_d v 0 d (Nat.zero_le _)
    rw [cnt_d0, hn] at h4
    exact h4
  have hn35 : n ≤ 35 := by rw [← hn]; exact cnt_small v d hv3 hd4
  have HNN := Lib.hid hn
  rw [hm, hu]
  clear hP h11 h14 hok hrok hm hu hn hxm HPTS HK3 HT3
  go_wp2_with (fail)
  refine (HOF.out _ HP.out.xs.pts (Fi.OwnQ.qs HP.out.ys)).mono ?_
  rintro e w5 ⟨AL, cL, rs, rfl, hO5, hrl, hrv, hb5⟩
  obtain ⟨gA, hgA, hgA1, hgA2⟩ := own_at0 hO5 (by omega)
  subst hgA
  have h24 : w.heap.size < w4.heap.size := HB2.out.lt
  have HO5 := Lib.hid (hO5.mono (show w.heap.size + 1 ≤ w4.heap.size by omega))
  have HRL := Lib.hid hrl
  have HRV := Lib.hid hrv
  have HT5 := Lib.hid (HP.out.tape.keep hb5)
  have HK5 := Lib.hid (HK4.out.then hb5)
  have HB2 := Lib.hid (HB2.out.keep hb5 HB2.out.lt)
  clear hO5 hrl hrv hb5 HOF HP HK4
  go_upto_region 4 with (fail)
  obtain ⟨W5, hW5⟩ : ∃ x, w5.alloc (.cells #[.int .i64 (v : Nat), .int .i64 (d : Nat), .slice (some ⟨gA, 0, none⟩) n cL] 29) = x := ⟨_, rfl⟩
  rw [hW5]
  have hb5 : Below w5.heap.size w5 W5 := by rw [← hW5]; exact (Below.refl _ _).alloc (Nat.le_refl _) _
  have HB7 : Hid (Blk W5 w5.heap.size 29 #[.int .i64 (v : Nat), .int .i64 (d : Nat), .slice (some ⟨gA, 0, none⟩) n cL]) := Lib.hid (by rw [← hW5]; exact Blk.new _ _ _)
  have HT5 := Lib.hid (HT5.out.keep hb5)
  have HK5 := Lib.hid (HK5.out.then hb5)
  have HB2 := Lib.hid (HB2.out.keep hb5 HB2.out.lt)
  have HO5 := Lib.hid (HO5.out.keep hb5)
  have hg7 : w.heap.size < w5.heap.size ∧ gA ≠ w5.heap.size := by omega
  generalize w5.heap.size = g7 at *
  clear hW5 hb5
  go_wp2_with (fail)
  refine (HN3.out _ HT5.out).mono ?_
  rintro e w6 ⟨_, rfl, ⟨k6, hk6, rfl⟩, hT6, ht6⟩
  have HST : Hid (FnSt w g g7 v d n gA cL w6 rs) := Lib.hid (by
    obtain ⟨cs, B⟩ := HT5.out.blk
    exact ⟨HO5.out.tk ht6 (by omega) B (by decide), (ht6.block _ HB7.out.lt (fun e => by injection e with e; omega)).trans HB7.out, (ht6.block _ HB2.out.lt (fun e => by injection e with e; omega)).trans HB2.out, hT6, HK5.out.trans ht6, HRL.out, HRV.out⟩)
  have HRES : Hid (∀ wr rs, FnSt w g g7 v d n gA cL wr rs → RetT g (RetFn g w) w (.returned (.agg #[.int .i64 (v : Nat), .int .i64 (d : Nat), .slice (some ⟨gA, 0, none⟩) n cL])) (((wr.setCell ⟨w.heap.size, 0, none⟩ (.int .i64 (v : Nat))).setCell ⟨w.heap.size, 1, none⟩ (.int .i64 (d : Nat))).setCell ⟨w.heap.size, 2, none⟩ (.slice (some ⟨gA, 0, none⟩) n cL))) := Lib.hid (fun wr rs h => by
    have h0 := h.b2
    have o1 := (h.own.tk (Tk.set w.heap.size wr 0 (.int .i64 (v : Nat))) (by omega) h0 (by decide))
    have h1 := h0.set 0 (.int .i64 (v : Nat))
    have o2 := (o1.tk (Tk.set w.heap.size _ 1 (.int .i64 (d : Nat))) (by omega) h1 (by decide))
    have h2 := h1.set 1 (.int .i64 (d : Nat))
    have o3 := (o2.tk (Tk.set w.heap.size _ 2 (.slice (some ⟨gA, 0, none⟩) n cL)) (by omega) h2 (by decide))
    exact ⟨_, rfl, ⟨v, d, n, _, cL, rs, rfl, hv1, hv3, hd4, HNN.out, h.len, o3.mono (by omega), h.bd⟩, ((h.tape.far hg _ _).far hg _ _).far hg _ _, ((h.tk.far (Nat.le_refl _) _ _).far (Nat.le_refl _) _ _).far (Nat.le_refl _) _ _⟩)
  have hgAg : g < gA := by omega
  clear hT6 ht6 HT5 HK5 HB2 HB7 HO5 HRL HRV HN3
  by_cases hk0 : k6 = 0
  · subst hk0
    obtain ⟨p0, p1, p2, _⟩ := HST.out.b7.three
    go_wp2
    go_loopw [30] (fun s30 wr => ∃ (k : Nat) (rs : List RVal), s30 = .int .i64 (k : Nat) ∧ k ≤ n ∧ Hid (FnSt w g g7 v d n gA cL wr rs)) (fun s30 _ => n - (intOf s30).toNat)
    case atStart => exact ⟨0, rs, rfl, Nat.zero_le _, HST⟩
    case round =>
      clear HST p0 p1 p2
      obtain ⟨wo, rfl⟩ : ∃ wo : World, wo = wr := ⟨_, rfl⟩
      obtain ⟨k, ls, rfl, hk, HST⟩ := hrel
      obtain ⟨p0, p1, p2, _⟩ := HST.out.b7.three
      by_cases hkl : k < n
      · have e1 : decide ((k : Int) < (n : Int)) = true := decide_eq_true (by omega)
        have e1' : decide (k < n) = true := decide_eq_true hkl
        have q1 : (0 : Int) ≤ (k : Int) := by omega
        have q2 : (k : Int) < (n : Int) := by omega
        have hg71 : g ≠ g7 := by omega
        go_upto_region 8 with (fail)
        have BZ : Below wo.heap.size wo wo.drew := (Below.refl _ _).drew
        refine wp_region_held_drew (S := (fun w' => w'.cell? ⟨g7, 2, none⟩ = some (.slice (some ⟨gA, 0, none⟩) n cL))) (by kernel_rfl) (keep_cell BZ p2) (fun hHeld => ?_)
        generalize wo.drew = Z at *
        refine wpAnyH_get 0 (some 33) (.pointer (some ⟨g7, 2, none⟩)) rfl rfl (by kernel_rfl) (by kernel_rfl) (by kernel_rfl) (fun _ _ _ h => h) (by rfl) hHeld ?_ ?_
        · (intro w hSw; (try dsimp only at hSw); go_simp; all_goals (try with_reducible rfl))
        (try simp only [Act.put, List.setIfInBounds_toArray, List.set_cons_zero, List.set_cons_succ])
        refine wpAnyH_get 1 (some 34) (.slice (some ⟨gA, 0, none⟩) n cL) rfl rfl (by kernel_rfl) (by kernel_rfl) (by kernel_rfl) (fun _ _ _ h => h) (by rfl) hHeld ?_ ?_
        · (intro w hSw; (try dsimp only at hSw); go_simp; all_goals (try with_reducible rfl))
        (try simp only [Act.put, List.setIfInBounds_toArray, List.set_cons_zero, List.set_cons_succ])
        refine wpAnyH_get 2 (some 35) (.int .i64 (k : Nat)) rfl rfl (by kernel_rfl) (by kernel_rfl) (by kernel_rfl) (fun _ _ _ h => h) (by rfl) hHeld ?_ ?_
        · (intro w hSw; (try dsimp only at hSw); go_simp; all_goals (try with_reducible rfl))
        (try simp only [Act.put, List.setIfInBounds_toArray, List.set_cons_zero, List.set_cons_succ])
        refine wpAnyH_get 3 (some 36) (.pointer (some ⟨g, 0, none⟩)) rfl rfl (by kernel_rfl) (by kernel_rfl) (by kernel_rfl) (fun _ _ _ h => h) (by rfl) hHeld ?_ ?_
        · (intro w hSw; (try dsimp only at hSw); go_simp; all_goals (try with_reducible rfl))
        (try simp only [Act.put, List.setIfInBounds_toArray, List.set_cons_zero, List.set_cons_succ])
        refine wpAnyH_ready (rs := [4]) (by kernel_rfl) (by simp) ?_
        refine AllReadyH.cons rfl (fun K hK => ?_) AllReadyH.nil
        go_simp
        refine (HWH.out _ (HST.out.tape.keep BZ)).mono ?_
        rintro e Z1 ⟨_, rfl, ⟨r, hrv, rfl, hok⟩, hT8, ht8⟩
        have HRV8 := Lib.hid hrv
        have HOK8 := Lib.hid hok
        have HT8 := Lib.hid hT8
        have HK8 := Lib.hid ((Tk.of BZ).trans ht8)
        have u2 := ht8.cell (keep_cell BZ p2) (fun e => by injection e with e; have e9 : g7 = g := e; omega)
        clear hrv hok hT8 ht8
        (try go_simp)
        refine hK.out _ _ u2 (fun hHeld => ?_)
        clear hK K
        (try simp only [Act.put, List.setIfInBounds_toArray, List.set_cons_zero, List.set_cons_succ])
        refine wpAnyH_get 5 (some 38) (.pointer (some ⟨gA, k * 4, none⟩)) rfl rfl (by kernel_rfl) (by kernel_rfl) (by kernel_rfl) (fun _ _ _ h => h) (by rfl) hHeld ?_ ?_
        · (intro w hSw; (try dsimp only at hSw); go_simp; all_goals (try with_reducible rfl))
        (try simp only [Act.put, List.setIfInBounds_toArray, List.set_cons_zero, List.set_cons_succ])
        refine wpAnyH_ready (rs := [6]) (by kernel_rfl) (by simp) ?_
        refine AllReadyH.cons rfl (fun K hK => ?_) AllReadyH.nil
        have S8 : FnSt w g g7 v d n gA cL Z1 ls := by
          obtain ⟨cs, B⟩ := HST.out.tape.blk
          exact ⟨HST.out.own.tk HK8.out (by omega) B (by decide), (HK8.out.block _ HST.out.b7.lt (fun e => by injection e with e; omega)).trans HST.out.b7, (HK8.out.block _ HST.out.b2.lt (fun e => by injection e with e; omega)).trans HST.out.b2, HT8.out, HST.out.tk.trans HK8.out, HST.out.len, HST.out.bd⟩
        have hkl8 : k < ls.length := by rw [S8.len]; exact hkl
        have hown8 := S8.own.own
        rw [S8.len] at hown8
        have HNEW : Hid (FnSt w g g7 v d n gA cL ((((Z1.setCell ⟨gA, k * 4, none⟩ (.bool (decide (r.q.num < 0)))).setCell ⟨gA, k * 4 + 1, none⟩ (.slice r.N (dg r.q.num.natAbs).length r.cn)).setCell ⟨gA, k * 4 + 2, none⟩ (.bool false)).setCell ⟨gA, k * 4 + 3, none⟩ (.slice r.D (dg (dnz r.q.den)).length r.cd)) (ls.set k r)) := Lib.hid (by
          obtain ⟨o4, hg4⟩ := S8.own.set4 hkl8 HOK8.out
          refine ⟨o4, (((S8.b7.far (by simp; omega) _).far (by simp; omega) _).far (by simp; omega) _).far (by simp; omega) _, (((S8.b2.far (by simp; omega) _).far (by simp; omega) _).far (by simp; omega) _).far (by simp; omega) _, (((S8.tape.far hgAg _ _).far hgAg _ _).far hgAg _ _).far hgAg _ _, (((S8.tk.far (by omega) _ _).far (by omega) _ _).far (by omega) _ _).far (by omega) _ _, by rw [List.length_set]; exact S8.len, fun x hx => ?_⟩
          rcases List.mem_or_eq_of_mem_set hx with hx | rfl
          · exact S8.bd x hx
          · exact HRV8.out)
        obtain ⟨a0, s0⟩ : ∃ u, Z1.cell? ⟨gA, k * 4, none⟩ = some u := ⟨_, (S8.own.own.cellAt (k * 4) (by omega)).trans (List.getElem?_eq_getElem (by rw [S8.own.own.1]; omega))⟩
        obtain ⟨a1, s1⟩ : ∃ u, Z1.cell? ⟨gA, k * 4 + 1, none⟩ = some u := ⟨_, (S8.own.own.cellAt (k * 4 + 1) (by omega)).trans (List.getElem?_eq_getElem (by rw [S8.own.own.1]; omega))⟩
        obtain ⟨a2, s2⟩ : ∃ u, Z1.cell? ⟨gA, k * 4 + 2, none⟩ = some u := ⟨_, (S8.own.own.cellAt (k * 4 + 2) (by omega)).trans (List.getElem?_eq_getElem (by rw [S8.own.own.1]; omega))⟩
        obtain ⟨a3, s3⟩ : ∃ u, Z1.cell? ⟨gA, k * 4 + 3, none⟩ = some u := ⟨_, (S8.own.own.cellAt (k * 4 + 3) (by omega)).trans (List.getElem?_eq_getElem (by rw [S8.own.own.1]; omega))⟩
        have f0 := S8.own.own.frozenAt (k * 4)
        have f1 := S8.own.own.frozenAt (k * 4 + 1)
        have f2 := S8.own.own.frozenAt (k * 4 + 2)
        have f3 := S8.own.own.frozenAt (k * 4 + 3)
        have u3 := HNEW.out.b7.cell 2
        clear S8 hkl8 hown8
        go_simp
        refine hK.out _ _ u3 (fun hHeld => ?_)
        clear hK K s0 s1 s2 s3 f0 f1 f2 f3
        (try simp only [Act.put, List.setIfInBounds_toArray, List.set_cons_zero, List.set_cons_succ])
        refine wpAnyH_done (by kernel_rfl) ?_ _
        go_wp2
        go_roundw
        case rel => exact ⟨k + 1, _, by go_num, by omega, HNEW⟩
        case measure => simp [intOf]; omega
      · obtain rfl : k = n := by omega
        have e1 : decide ((k : Int) < (k : Int)) = false := decide_eq_false (by omega)
        have e1' : decide (k < k) = false := decide_eq_false (by omega)
        obtain ⟨z0, z1, z2, f0, f1, f2⟩ := HST.out.b2.three
        have hne : w.heap.size ≠ g7 := by omega
        go_wp2
        obtain ⟨t0, t1, t2, _⟩ := (Fi.blk3 (a' := .int .i64 (v : Nat)) (b' := .int .i64 (d : Nat)) (c' := .slice (some ⟨gA, 0, none⟩) k cL) HST.out.b2).three
        exact bodyPost_ret (v := .agg #[.int .i64 (v : Nat), .int .i64 (d : Nat), .slice (some ⟨gA, 0, none⟩) k cL]) (by simp [results, Tryz.results27, go_sem, t0, t1, t2]) rfl (HRES.out _ _ HST.out)
  · have e0 : decide ((k6 : Int) = 0) = false := decide_eq_false (by omega)
    have e0' : ((k6 : Int) == 0) = false := beq_eq_false_iff_ne.2 (by omega)
    have e0'' : ((k6 : Int) = 0) = False := eq_false (by omega)
    have e0n : (k6 = 0) = False := eq_false hk0
    clear hk0 hk6 HWH HNN
    obtain ⟨p0, p1, p2, _⟩ := HST.out.b7.three
    obtain ⟨z0, z1, z2, f0, f1, f2⟩ := HST.out.b2.three
    have hne : w.heap.size ≠ g7 := by omega
    go_wp2
    obtain ⟨t0, t1, t2, _⟩ := (Fi.blk3 (a' := .int .i64 (v : Nat)) (b' := .int .i64 (d : Nat)) (c' := .slice (some ⟨gA, 0, none⟩) n cL) HST.out.b2).three
    exact bodyPost_ret (v := .agg #[.int .i64 (v : Nat), .int .i64 (d : Nat), .slice (some ⟨gA, 0, none⟩) n cL]) (by simp [results, Tryz.results27, go_sem, t0, t1, t2]) rfl (HRES.out _ _ HST.out)
end Go.Proofs.Tg
end
