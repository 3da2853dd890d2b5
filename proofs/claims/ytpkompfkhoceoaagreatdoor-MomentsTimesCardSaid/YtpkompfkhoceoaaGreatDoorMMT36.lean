/- Parts of the proof: KN1, LO2. -/
import Derived.Test.YtpkompfkhoceoaaGreatDoorMMT28
import Derived.Test.YtpkompfkhoceoaaGreatDoorMMT29
import Derived.Test.YtpkompfkhoceoaaGreatDoorMMT30
import Derived.Test.YtpkompfkhoceoaaGreatDoorMMT31
import Derived.Test.YtpkompfkhoceoaaGreatDoorMMT35
section
/- The law's known functional: the program gives it. -/
namespace Go.Proofs.Tg.Fi
open Go.RowKit Go.Gr Go.Bn Go.Rq Go.Qn Go.Mm
set_option maxHeartbeats 8000000
set_option maxRecDepth 100000
theorem blk_at {w : World} {g g' : Nat} {t : TypeId} {cs : Array Value} (h : g = g') (B : Blk w g t cs) : Blk w g' t cs := h ▸ B
theorem kn_sh3 : ∀ q ∈ ([2, 0, 2] : List Rat), Sh q := by
  intro q hq
  have h : ∀ q ∈ ([2, 0, 2] : List Rat), q.num.natAbs < 1000000000 ∧ q.den < 1000000000 := by decide +kernel
  exact h q hq
theorem kn_at {w : World} {A : Option Addr} (h : Txts w A [2, 0, 2]) : ∃ ad, (A = some ad ∧ w.cell? ad = some (.string ⟨#[50]⟩)) ∧ w.cell? ⟨ad.block, ad.off + 1, none⟩ = some (.string ⟨#[48]⟩) ∧ w.cell? ⟨ad.block, ad.off + 2, none⟩ = some (.string ⟨#[50]⟩) := by
  obtain ⟨ad, e, c0⟩ := Txts.at h (k := 0) (by decide)
  obtain ⟨a1, e1, c1⟩ := Txts.at h (k := 1) (by decide)
  obtain ⟨a2, e2, c2⟩ := Txts.at h (k := 2) (by decide)
  subst e
  injection e1 with e1
  injection e2 with e2
  subst e1
  subst e2
  have d0 : qtx ([2, 0, 2] : List Rat)[0] = ⟨#[50]⟩ := kn_tx.2.2.1
  have d1 : qtx ([2, 0, 2] : List Rat)[1] = ⟨#[48]⟩ := kn_tx.2.2.2
  have d2 : qtx ([2, 0, 2] : List Rat)[2] = ⟨#[50]⟩ := kn_tx.2.2.1
  rw [d0] at c0
  rw [d1] at c1
  rw [d2] at c2
  exact ⟨ad, ⟨rfl, by simpa [Addr.add] using c0⟩, by simpa [Addr.add] using c1, by simpa [Addr.add] using c2⟩
theorem known_any (w : World) (ht : PT w) : Calls Tryz.prog 9 #[] w fun e w' => e = .returned (.bool true) ∧ Below w.heap.size w w' := by
  obtain ⟨W, hW⟩ : ∃ W, (((w.alloc (.cells #[.string ⟨#[49]⟩] 9)).alloc (.cells #[.string ⟨#[45, 49]⟩] 9)).alloc (.cells #[.slice (some ⟨w.heap.size, 0, none⟩) 1 1, .slice (some ⟨w.heap.size + 1, 0, none⟩) 1 1] 22)).alloc (.cells #[.string ⟨#[49]⟩, .string ⟨#[49]⟩] 9) = W := ⟨_, rfl⟩
  have hbW : Below w.heap.size w W := by rw [← hW]; exact ((((Below.refl _ _).alloc (Nat.le_refl _) _).alloc (by simp) _).alloc (by simp; omega) _).alloc (by simp; omega) _
  have B1 : Blk W w.heap.size 9 #[.string ⟨#[49]⟩] := by rw [← hW]; exact (((Blk.new _ _ _).alloc _).alloc _).alloc _
  have B2 : Blk W (w.heap.size + 1) 9 #[.string ⟨#[45, 49]⟩] := by rw [← hW]; exact ((blk_at (by simp) (Blk.new (w.alloc (.cells #[.string ⟨#[49]⟩] 9)) 9 #[.string ⟨#[45, 49]⟩])).alloc _).alloc _
  have B3 : Blk W (w.heap.size + 1 + 1) 22 #[.slice (some ⟨w.heap.size, 0, none⟩) 1 1, .slice (some ⟨w.heap.size + 1, 0, none⟩) 1 1] := by rw [← hW]; exact (blk_at (by simp) (Blk.new ((w.alloc (.cells #[.string ⟨#[49]⟩] 9)).alloc (.cells #[.string ⟨#[45, 49]⟩] 9)) 22 _)).alloc _
  have B4 : Blk W (w.heap.size + 1 + 1 + 1) 9 #[.string ⟨#[49]⟩, .string ⟨#[49]⟩] := by rw [← hW]; exact blk_at (by simp) (Blk.new _ 9 _)
  have T1 : Txts W (some ⟨w.heap.size, 0, none⟩) [1] := txts_of (by rw [show ([1] : List Rat).map vq = [.string ⟨#[49]⟩] from congrArg (fun s => [Value.string s]) kn_tx.1]; exact B1)
  have T2 : Txts W (some ⟨w.heap.size + 1, 0, none⟩) [-1] := txts_of (by rw [show ([-1] : List Rat).map vq = [.string ⟨#[45, 49]⟩] from congrArg (fun s => [Value.string s]) kn_tx.2.1]; exact B2)
  have T4 : Txts W (some ⟨w.heap.size + 1 + 1 + 1, 0, none⟩) [1, 1] := txts_of (by rw [show ([1, 1] : List Rat).map vq = [.string ⟨#[49]⟩, .string ⟨#[49]⟩] from congrArg (fun s => [Value.string s, Value.string s]) kn_tx.1]; exact B4)
  have TR : TRowsAt W (some ⟨w.heap.size + 1 + 1, 0, none⟩) [[1], [-1]] := ⟨[⟨some ⟨w.heap.size, 0, none⟩, 1, [1]⟩, ⟨some ⟨w.heap.size + 1, 0, none⟩, 1, [-1]⟩], ⟨rfl, fun _ => ⟨_, rfl, B3.lt, fun j u hu => by rw [add_lit, Nat.zero_add, B3.cell j]; simpa [TRow.cell] using hu⟩⟩, rfl, fun r hr => by
    rcases List.mem_cons.1 hr with rfl | hr
    · exact T1
    · rw [List.mem_singleton.1 hr]; exact T2⟩
  have HOF : Hid (Calls Tryz.prog 12 #[.slice (some ⟨w.heap.size + 1 + 1, 0, none⟩) 2 2, .slice (some ⟨w.heap.size + 1 + 1 + 1, 0, none⟩) 2 2, .int .i64 2] W fun e w' => ∃ A, e = .returned (.tuple #[.agg #[.int .i64 1, .int .i64 2, .slice A 3 3], .int .i64 0]) ∧ Txts w' A [2, 0, 2] ∧ Below W.heap.size W w') := Lib.hid (by
    have := of_any (some ⟨w.heap.size + 1 + 1, 0, none⟩) (some ⟨w.heap.size + 1 + 1 + 1, 0, none⟩) 2 2 1 2 [[1], [-1]] [1, 1] W TR T4 kn_ok (ht.keep hbW)
    rw [show (mons 1 2).map (sumTo [1, 1] [[1], [-1]] ([[1], [-1]] : List (List Rat)).length) = [2, 0, 2] from knowns] at this
    exact this)
  have HWW := Lib.hid hW
  have HBW := Lib.hid hbW
  clear hW hbW B1 B2 B3 B4 T1 T2 T4 TR ht
  go_enter Tryz.func9, Tryz.ntmps9
  have HVL : Hid (∀ (A : Option Addr) (V : World), Txts V A [2, 0, 2] → Calls Tryz.prog 11 #[.agg #[.int .i64 1, .int .i64 2, .slice A 3 3]] V fun e w' => e = .returned (.bool true) ∧ Below V.heap.size V w') := Lib.hid (fun A V h => fvalid_any 1 2 A 3 [2, 0, 2] V (by decide) (by decide) (by decide) (by decide +kernel) (by decide +kernel) h kn_sh3)
  go_wp2_with (first
    | (go_at_call 12; rw [HWW.out]; refine HOF.out.mono ?_; rintro e w2 ⟨A, rfl, hT, hb2⟩; have HT2 := Lib.hid hT; have HB2 := Lib.hid (below_all HBW.out hb2); obtain ⟨ad, c0, c1, c2⟩ := kn_at hT; obtain ⟨rfl, c0⟩ := c0; have c0a := fun o => cell_alloc c0 o; have c1a := fun o => cell_alloc c1 o; have c2a := fun o => cell_alloc c2 o; clear hT hb2 HWW)
    | (go_at_call 11; with_reducible refine Calls.mono (HVL.out _ _ (HT2.out.keep ((Below.refl _ _).alloc (Nat.le_refl _) _))) ?_; rintro e w3 ⟨rfl, hb3⟩; have HB3 := Lib.hid (below_all (below_all HB2.out ((Below.refl _ _).alloc (Nat.le_refl _) _)) hb3); clear hb3))
  exact bodyPost_ret (v := .bool true) (by simp [results, Tryz.results9, go_sem]) rfl ⟨rfl, HB3.out⟩
end Go.Proofs.Tg.Fi
end
section
/- What the law on functionals of points holds while it walks: rows of lists of texts, points that meet the bounds. -/
namespace Go.Proofs.Tg
open Go.RowKit Go.Gr Go.Bn Go.Rq Go.Mm
open Go.Proofs.Tg.Fi (QsAt Txts TRow TRowsAt vq txts_of of_any RetFun PT)
set_option maxHeartbeats 8000000
set_option maxRecDepth 100000
/-- A list of texts in a block of its own. -/
structure TB where
  g : Nat
  qs : List Rat
def TB.cell (r : TB) : Value := .slice (some ⟨r.g, 0, none⟩) r.qs.length r.qs.length
structure OwnTR (base : Nat) (w : World) (A : Option Addr) (c : Nat) (rows : List TB) : Prop where
  own : w.ownsRow base 22 1 (.slice A rows.length c) rows.length (rows.map TB.cell)
  rows : ∀ r ∈ rows, Blk w r.g 9 (r.qs.map vq).toArray
theorem OwnTR.nil (base : Nat) (w : World) : OwnTR base w none 0 [] := ⟨World.ownsRow_nil _ _ _ _, fun r h => absurd h (by simp)⟩
theorem OwnTR.keep {base : Nat} {w w' : World} {A : Option Addr} {c : Nat} {rows : List TB} (h : OwnTR base w A c rows) (hb : Below w.heap.size w w') : OwnTR base w' A c rows :=
  ⟨own_below h.own hb (Nat.le_refl _), fun r hr => (h.rows r hr).keep hb (h.rows r hr).lt⟩
theorem OwnTR.push {base : Nat} {w w' : World} {A : Option Addr} {c : Nat} {rows : List TB} {p : TB} {A' : Option Addr} {c' : Nat} (h : OwnTR base w A c rows) (hr : Blk w p.g 9 (p.qs.map vq).toArray) (hg : w.grownBy w' (Value.slice A rows.length c).ownBlock)
    (h' : w'.ownsRow base 22 1 (.slice A' (rows.length + 1) c') (rows.length + 1) (rows.map TB.cell ++ [p.cell])) : OwnTR base w' A' c' (rows ++ [p]) := by
  refine ⟨?_, fun x hx => ?_⟩
  · rw [List.length_append, List.map_append]
    simpa using h'
  · rcases List.mem_append.1 hx with hx | hx
    · exact (h.rows x hx).grown hg (own_blk_ne h.own (h.rows x hx) (by decide))
    · rw [List.mem_singleton.1 hx]; exact hr.grown hg (own_blk_ne h.own hr (by decide))
theorem OwnTR.rowsAt {base : Nat} {w : World} {A : Option Addr} {c : Nat} {rows : List TB} (h : OwnTR base w A c rows) : TRowsAt w A (rows.map TB.qs) := by
  refine ⟨rows.map fun r => ⟨some ⟨r.g, 0, none⟩, r.qs.length, r.qs⟩, ?_, ?_, fun r hr => ?_⟩
  · have := Sl.own h.own
    rw [List.length_map, List.map_map]
    exact this
  · rw [List.map_map]; rfl
  · obtain ⟨x, hx, rfl⟩ := List.mem_map.1 hr
    exact txts_of (h.rows x hx)
/-- What a loop that writes rows of texts holds. -/
structure TL (w0 wr : World) (A : Option Addr) (c : Nat) (rows : List TB) (xs : List (List Rat)) (k : Nat) : Prop where
  own : OwnTR w0.heap.size wr A c rows
  below : Below w0.heap.size w0 wr
  len : rows.length = k
  q : rows.map TB.qs = xs.take k
theorem TL.all {w0 wr : World} {A : Option Addr} {c : Nat} {rows : List TB} {xs : List (List Rat)} {k : Nat} (h : TL w0 wr A c rows xs k) (hk : k = xs.length) : TRowsAt wr A xs := by
  have := h.own.rowsAt
  rw [h.q, hk, List.take_length] at this
  exact this
theorem PtSt.ptOk {w wr : World} {g v m : Nat} {X Y : Option Addr} {cx cy : Nat} {ps : List PRow2} {us : List RVal} (h : PtSt w g v m wr 0 X cx ps Y cy us) (h1 : 1 ≤ ps.length) (h4 : ps.length ≤ 4) : PtOk v (us.map RVal.q) (ptQ ps) where
  n1 := by simpa [ptQ] using h1
  n4 := by simpa [ptQ] using h4
  lw := by simpa [ptQ] using h.lenw
  dim := fun x hx => by
    obtain ⟨p, hp, rfl⟩ := List.mem_map.1 hx
    rw [List.length_map]; exact (h.dim p hp).1
  co := fun x hx q hq => by
    obtain ⟨p, hp, rfl⟩ := List.mem_map.1 hx
    obtain ⟨r, hr, rfl⟩ := List.mem_map.1 hq
    obtain ⟨z, h1, h2⟩ := (h.dim p hp).2 r hr
    exact ⟨z, h1, h2⟩
  wt := fun q hq => by
    obtain ⟨r, hr, rfl⟩ := List.mem_map.1 hq
    obtain ⟨n, d, h1, h2, h3, h4, e⟩ := h.wt r hr
    rw [e]
    exact bd_weight n d (by omega) h3 h4
/-- A functional in a block of its own. -/
structure FunAt (w : World) (g v d N : Nat) (F : Option Addr) (qs : List Rat) : Prop where
  blk : Blk w g 24 #[.int .i64 (v : Nat), .int .i64 (d : Nat), .slice F N N]
  txt : Txts w F qs
theorem FunAt.keep {w w' : World} {g v d N : Nat} {F : Option Addr} {qs : List Rat} (h : FunAt w g v d N F qs) (hb : Below w.heap.size w w') : FunAt w' g v d N F qs := ⟨h.blk.keep hb h.blk.lt, h.txt.keep hb⟩
/-- The reference's functional in a block of its own. -/
structure LAt (w : World) (g v d N : Nat) (A : Option Addr) (c : Nat) (rs : List RVal) (qs : List Rat) : Prop where
  blk : Blk w g 29 #[.int .i64 (v : Nat), .int .i64 (d : Nat), .slice A N c]
  qsat : QsAt w A rs
  len : rs.length = N
  q : rs.map RVal.q = qs
theorem LAt.keep {w w' : World} {g v d N : Nat} {A : Option Addr} {c : Nat} {rs : List RVal} {qs : List Rat} (h : LAt w g v d N A c rs qs) (hb : Below w.heap.size w w') : LAt w' g v d N A c rs qs := ⟨h.blk.keep hb h.blk.lt, h.qsat.keep hb, h.len, h.q⟩
theorem cell_three {V : World} {g : Nat} {a b c u : Value} {ad : Addr} (h : V.cell? ad = some u) (hne : ad.block ≠ g) : (((V.setCell ⟨g, 0, none⟩ a).setCell ⟨g, 1, none⟩ b).setCell ⟨g, 2, none⟩ c).cell? ad = some u :=
  Fi.cell_one (Fi.cell_one (Fi.cell_one h hne) hne) hne
/-- A functional of the reference that is being filled: k of its values are there. -/
structure LH (bs : Nat) (wr : World) (g v d k : Nat) (A : Option Addr) (c : Nat) (rs : List RVal) (qs : List Rat) : Prop where
  b : Blk wr g 29 #[.int .i64 (v : Nat), .int .i64 (d : Nat), .slice A k c]
  o : OwnQ bs wr A c rs
  l : rs.length = k
  q : rs.map RVal.q = qs.take k
theorem LH.keep {bs : Nat} {w w' : World} {g v d k : Nat} {A : Option Addr} {c : Nat} {rs : List RVal} {qs : List Rat} (h : LH bs w g v d k A c rs qs) (hb : Below w.heap.size w w') : LH bs w' g v d k A c rs qs :=
  ⟨h.b.keep hb h.b.lt, h.o.keep hb, h.l, h.q⟩
theorem LH.own {bs : Nat} {w : World} {g v d k : Nat} {A : Option Addr} {c : Nat} {rs : List RVal} {qs : List Rat} (h : LH bs w g v d k A c rs qs) : w.ownsRow bs 52 4 (.slice A k c) k (rs.flatMap RVal.cells) := by
  have := h.o.own
  rw [h.l] at this
  exact this
theorem LH.grown {bs : Nat} {w w' : World} {g v d k : Nat} {A : Option Addr} {c : Nat} {rs : List RVal} {qs : List Rat} {r : RVal} {A' : Option Addr} {c' : Nat} (h : LH bs w g v d k A c rs qs) (hr : r.Ok w) (hgb : g < bs) (hg : w.grownBy w' (Value.slice A k c).ownBlock)
    (h' : w'.ownsRow bs 52 4 (.slice A' (k + 1) c') (k + 1) (rs.flatMap RVal.cells ++ r.cells)) :
    Blk w' g 29 #[.int .i64 (v : Nat), .int .i64 (d : Nat), .slice A k c] ∧ OwnQ bs w' A' c' (rs ++ [r]) := by
  have hown := h.own
  refine ⟨h.b.grown hg (own_blk_ne hown h.b (by decide)), OwnQ.push h.o hr (by rw [h.l]; exact hg) (by rw [h.l]; exact h')⟩
theorem LH.apart {bs : Nat} {w w' : World} {g v d k : Nat} {A : Option Addr} {c : Nat} {rs : List RVal} {qs : List Rat} {g' n sz : Nat} {ys : List Value} {u : Value} {cs : Array Value} {x : Value} (h : LH bs w g v d k A c rs qs) (ho : w.ownsRow bs 52 sz u n ys) (hg : w.grownBy w' u.ownBlock)
    (hne : (Value.slice A k c).ownBlock = none ∨ (Value.slice A k c).ownBlock ≠ u.ownBlock) (hgb : g' < bs) (hgg : g ≠ g') (hB : Blk w' g' 29 cs) : LH bs (w'.setCell ⟨g', 2, none⟩ x) g v d k A c rs qs := by
  have h1 : OwnQ bs w' A c rs := OwnQ.apart h.o ho hg (by rw [h.l]; exact hne)
  exact ⟨(h.b.grown hg (own_blk_ne ho h.b (by decide))).far hgg _, h1.tk (Tk.set _ _ _ _) hgb hB (by decide), h.l, h.q⟩
end Go.Proofs.Tg
end
