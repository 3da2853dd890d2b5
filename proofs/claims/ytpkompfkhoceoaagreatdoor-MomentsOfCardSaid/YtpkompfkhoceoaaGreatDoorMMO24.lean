/- Parts of the proof: LO2. -/
import Derived.Test.YtpkompfkhoceoaaGreatDoorMMO19
import Derived.Test.YtpkompfkhoceoaaGreatDoorMMO21
import Derived.Test.YtpkompfkhoceoaaGreatDoorMMO22
import Derived.Test.YtpkompfkhoceoaaGreatDoorMMO23
section
/- What the law on functionals of points holds while it walks: rows of lists of texts, points that meet the bounds. -/
namespace Go.Proofs.Tg
open Go.RowKit Go.Gr Go.Bn Go.Rq Go.Mm
open Go.Proofs.Tg.Fi (QsAt Txts TRow TRowsAt vq txts_of of_any RetFun texts_q RetTxts fadd_any fscale_any same_any write_q PT)
set_option maxHeartbeats 8000000
set_option maxRecDepth 100000
/-- A list of texts in a block of its own. -/
structure TB where
  g : Nat
  qs : List Rat
def TB.cell (r : TB) : Value := .slice (some ⟨r.g, 0, none⟩) r.qs.length r.qs.length
structure OwnTR (base : Nat) (w : World) (A : Option Addr) (c : Nat) (rows : List TB) : Prop where
  own : w.ownsRow base 22 1 (.slice A rows.length c) rows.length (rows.map TB.cell)
  rows : ∀ r ∈ rows, Blk w r.g 9 (r.qs.map vq).toArray
theorem OwnTR.nil (base : Nat) (w : World) : OwnTR base w none 0 [] := ⟨World.ownsRow_nil _ _ _ _, fun r h => absurd h (by simp)⟩
theorem OwnTR.keep {base : Nat} {w w' : World} {A : Option Addr} {c : Nat} {rows : List TB} (h : OwnTR base w A c rows) (hb : Below w.heap.size w w') : OwnTR base w' A c rows :=
  ⟨own_below h.own hb (Nat.le_refl _), fun r hr => (h.rows r hr).keep hb (h.rows r hr).lt⟩
theorem OwnTR.push {base : Nat} {w w' : World} {A : Option Addr} {c : Nat} {rows : List TB} {p : TB} {A' : Option Addr} {c' : Nat} (h : OwnTR base w A c rows) (hr : Blk w p.g 9 (p.qs.map vq).toArray) (hg : w.grownBy w' (Value.slice A rows.length c).ownBlock)
    (h' : w'.ownsRow base 22 1 (.slice A' (rows.length + 1) c') (rows.length + 1) (rows.map TB.cell ++ [p.cell])) : OwnTR base w' A' c' (rows ++ [p]) := by
  refine ⟨?_, fun x hx => ?_⟩
  · rw [List.length_append, List.map_append]
    simpa using h'
  · rcases List.mem_append.1 hx with hx | hx
    · exact (h.rows x hx).grown hg (own_blk_ne h.own (h.rows x hx) (by decide))
    · rw [List.mem_singleton.1 hx]; exact hr.grown hg (own_blk_ne h.own hr (by decide))
theorem OwnTR.rowsAt {base : Nat} {w : World} {A : Option Addr} {c : Nat} {rows : List TB} (h : OwnTR base w A c rows) : TRowsAt w A (rows.map TB.qs) := by
  refine ⟨rows.map fun r => ⟨some ⟨r.g, 0, none⟩, r.qs.length, r.qs⟩, ?_, ?_, fun r hr => ?_⟩
  · have := Sl.own h.own
    rw [List.length_map, List.map_map]
    exact this
  · rw [List.map_map]; rfl
  · obtain ⟨x, hx, rfl⟩ := List.mem_map.1 hr
    exact txts_of (h.rows x hx)
/-- What a loop that writes rows of texts holds. -/
structure TL (w0 wr : World) (A : Option Addr) (c : Nat) (rows : List TB) (xs : List (List Rat)) (k : Nat) : Prop where
  own : OwnTR w0.heap.size wr A c rows
  below : Below w0.heap.size w0 wr
  len : rows.length = k
  q : rows.map TB.qs = xs.take k
theorem TL.all {w0 wr : World} {A : Option Addr} {c : Nat} {rows : List TB} {xs : List (List Rat)} {k : Nat} (h : TL w0 wr A c rows xs k) (hk : k = xs.length) : TRowsAt wr A xs := by
  have := h.own.rowsAt
  rw [h.q, hk, List.take_length] at this
  exact this
theorem PtSt.ptOk {w wr : World} {g v m : Nat} {X Y : Option Addr} {cx cy : Nat} {ps : List PRow2} {us : List RVal} (h : PtSt w g v m wr 0 X cx ps Y cy us) (h1 : 1 ≤ ps.length) (h4 : ps.length ≤ 4) : PtOk v (us.map RVal.q) (ptQ ps) where
  n1 := by simpa [ptQ] using h1
  n4 := by simpa [ptQ] using h4
  lw := by simpa [ptQ] using h.lenw
  dim := fun x hx => by
    obtain ⟨p, hp, rfl⟩ := List.mem_map.1 hx
    rw [List.length_map]; exact (h.dim p hp).1
  co := fun x hx q hq => by
    obtain ⟨p, hp, rfl⟩ := List.mem_map.1 hx
    obtain ⟨r, hr, rfl⟩ := List.mem_map.1 hq
    obtain ⟨z, h1, h2⟩ := (h.dim p hp).2 r hr
    exact ⟨z, h1, h2⟩
  wt := fun q hq => by
    obtain ⟨r, hr, rfl⟩ := List.mem_map.1 hq
    obtain ⟨n, d, h1, h2, h3, h4, e⟩ := h.wt r hr
    rw [e]
    exact bd_weight n d (by omega) h3 h4
theorem pt_shc {v : Nat} {us : List Rat} {ps : List PRow2} (h : PtOk v us (ptQ ps)) : ∀ p ∈ ps, ∀ r ∈ p.rs, Sh r.q := fun p hp r hr =>
  (h.cb (p.rs.map RVal.q) (List.mem_map.2 ⟨p, hp, rfl⟩) r.q (List.mem_map.2 ⟨r, hr, rfl⟩)).sh (by decide) (by decide) (by decide)
theorem pt_shw {v : Nat} {us : List RVal} {xs : List (List Rat)} (h : PtOk v (us.map RVal.q) xs) : ∀ r ∈ us, Sh r.q := fun r hr =>
  (h.wt r.q (List.mem_map.2 ⟨r, hr, rfl⟩)).sh (by decide) (by decide) (by decide)
theorem trow_info : (Tryz.prog.info? 22).map (fun i => (i.zero, i.size, i.bytes)) = some (some (.slice none 0 0), 1, 24) := by kernel_rfl
/-- A functional in a block of its own. -/
structure FunAt (w : World) (g v d N : Nat) (F : Option Addr) (qs : List Rat) : Prop where
  blk : Blk w g 24 #[.int .i64 (v : Nat), .int .i64 (d : Nat), .slice F N N]
  txt : Txts w F qs
theorem FunAt.keep {w w' : World} {g v d N : Nat} {F : Option Addr} {qs : List Rat} (h : FunAt w g v d N F qs) (hb : Below w.heap.size w w') : FunAt w' g v d N F qs := ⟨h.blk.keep hb h.blk.lt, h.txt.keep hb⟩
/-- The reference's functional in a block of its own. -/
structure LAt (w : World) (g v d N : Nat) (A : Option Addr) (c : Nat) (rs : List RVal) (qs : List Rat) : Prop where
  blk : Blk w g 29 #[.int .i64 (v : Nat), .int .i64 (d : Nat), .slice A N c]
  qsat : QsAt w A rs
  len : rs.length = N
  q : rs.map RVal.q = qs
theorem LAt.keep {w w' : World} {g v d N : Nat} {A : Option Addr} {c : Nat} {rs : List RVal} {qs : List Rat} (h : LAt w g v d N A c rs qs) (hb : Below w.heap.size w w') : LAt w' g v d N A c rs qs := ⟨h.blk.keep hb h.blk.lt, h.qsat.keep hb, h.len, h.q⟩
theorem cell_three {V : World} {g : Nat} {a b c u : Value} {ad : Addr} (h : V.cell? ad = some u) (hne : ad.block ≠ g) : (((V.setCell ⟨g, 0, none⟩ a).setCell ⟨g, 1, none⟩ b).setCell ⟨g, 2, none⟩ c).cell? ad = some u :=
  Fi.cell_one (Fi.cell_one (Fi.cell_one h hne) hne) hne
theorem blk_three_far {V : World} {g g' : Nat} {a' b' c' : Value} {t : TypeId} {cs : Array Value} (h : Blk V g' t cs) (hne : g' ≠ g) : Blk (((V.setCell ⟨g, 0, none⟩ a').setCell ⟨g, 1, none⟩ b').setCell ⟨g, 2, none⟩ c') g' t cs :=
  ((h.far hne _).far hne _).far hne _
theorem lo_len (f : List Int → Rat) (v d : Nat) : ((mons v d).map f).length = cnt v d := by rw [List.length_map]; rfl
theorem lo_texts {n : Nat} {us : List RVal} (hn : us.length = n) (h6 : n ≤ 1000000) (hs : ∀ r ∈ us, Sh r.q) (Y : Option Addr) (c : Nat) (V : World) (h : QsAt V Y us) :
    Calls Tryz.prog 19 #[.slice Y n c] V fun e w' => ∃ A, e = .returned (.slice A n n) ∧ Txts w' A (us.map RVal.q) ∧ Below V.heap.size V w' := by
  have h1 := texts_q Y c us V h hs (by omega)
  unfold RetTxts at h1
  rw [List.length_map, hn] at h1
  exact h1
theorem lo_of {v d n N : Nat} {ws : List Rat} {xs : List (List Rat)} (ok : PtOk v ws xs) (h1 : 1 ≤ v) (h3 : v ≤ 3) (hd : d ≤ 4) (hn : xs.length = n) (hN : cnt v d = N) (R A : Option Addr) (c c' : Nat) (V : World) (hR : TRowsAt V R xs) (hA : Txts V A ws) (hpt : PT V) :
    Calls Tryz.prog 12 #[.slice R n c, .slice A n c', .int .i64 (d : Nat)] V fun e w' => ∃ A', e = .returned (.tuple #[.agg #[.int .i64 (v : Nat), .int .i64 (d : Nat), .slice A' N N], .int .i64 0]) ∧ Txts w' A' ((mons v d).map (sumTo ws xs n)) ∧ Below V.heap.size V w' := by
  have h := of_any R A c c' v d xs ws V hR hA (ok.ofOk h1 h3 hd) hpt
  unfold RetFun at h
  rw [ok.lw, hn, lo_len, hN] at h
  exact h
theorem lo_add {v d N : Nat} {qs us : List Rat} (h1 : 1 ≤ v) (h3 : v ≤ 3) (hd : d ≤ 4) (hN : cnt v d = N) (hlq : qs.length = N) (hlu : us.length = N) (hsq : ∀ q ∈ qs, Sh q) (hsu : ∀ q ∈ us, Sh q) (A B : Option Addr) (ca cb : Nat) (V : World) (hA : Txts V A qs) (hB : Txts V B us) (hpt : PT V) :
    Calls Tryz.prog 20 #[.agg #[.int .i64 (v : Nat), .int .i64 (d : Nat), .slice A N ca], .agg #[.int .i64 (v : Nat), .int .i64 (d : Nat), .slice B N cb]] V fun e w' => ∃ A', e = .returned (.tuple #[.agg #[.int .i64 (v : Nat), .int .i64 (d : Nat), .slice A' N N], .int .i64 0]) ∧ Txts w' A' (List.zipWith (· + ·) qs us) ∧ Below V.heap.size V w' := by
  have h := fadd_any v d A B ca cb qs us V h1 (by omega) (by omega) (Nat.le_trans (cnt_small v d h3 hd) (by decide)) (by omega) (by omega) hA hB hsq hsu hpt
  unfold RetFun at h
  rw [List.length_zipWith, hlq, hlu, Nat.min_self] at h
  exact h
theorem lo_scale {v d N : Nat} {q : Rat} {qs : List Rat} (h1 : 1 ≤ v) (h3 : v ≤ 3) (hd : d ≤ 4) (hN : cnt v d = N) (hlq : qs.length = N) (hsq : ∀ q ∈ qs, Sh q) (hq : Sh q) (A : Option Addr) (ca : Nat) (V : World) (hA : Txts V A qs) (hpt : PT V) :
    Calls Tryz.prog 21 #[.string (qtx q), .agg #[.int .i64 (v : Nat), .int .i64 (d : Nat), .slice A N ca]] V fun e w' => ∃ A', e = .returned (.tuple #[.agg #[.int .i64 (v : Nat), .int .i64 (d : Nat), .slice A' N N], .int .i64 0]) ∧ Txts w' A' (qs.map (q * ·)) ∧ Below V.heap.size V w' := by
  have h := fscale_any v d q A ca qs V h1 (by omega) (by omega) (Nat.le_trans (cnt_small v d h3 hd) (by decide)) (by omega) hA hsq hq hpt
  unfold RetFun at h
  rw [List.length_map, hlq] at h
  exact h
theorem lo_rof {v d n N : Nat} {ps : List PRow2} {us : List RVal} (ok : PtOk v (us.map RVal.q) (ptQ ps)) (h1 : 1 ≤ v) (h3 : v ≤ 3) (hd : d ≤ 4) (hn : ps.length = n) (hu : us.length = n) (hN : cnt v d = N) (X Y : Option Addr) (cx cy : Nat) (V : World) (hX : PtsAt V X ps) (hY : QsAt V Y us) :
    Calls Tryz.prog 23 #[.slice X n cx, .slice Y n cy, .int .i64 (d : Nat)] V fun e w' => ∃ A c rs, e = .returned (.agg #[.int .i64 (v : Nat), .int .i64 (d : Nat), .slice A N c]) ∧ QsAt w' A rs ∧ rs.length = N ∧ rs.map RVal.q = (mons v d).map (sumTo (us.map RVal.q) (ptQ ps) n) ∧ Below V.heap.size V w' := by
  have h := rof_any v d ps us X Y cx cy V hX hY (ok.rOk h1 h3 hd)
  rw [hn, hu] at h
  refine h.mono ?_
  rintro e w' ⟨A, c, rs, e1, hO, hq, hb⟩
  have hl : rs.length = N := by
    have := congrArg List.length hq
    rw [List.length_map, lo_len, hN] at this
    exact this
  rw [hl] at e1
  exact ⟨A, c, rs, e1, Fi.OwnQ.qs hO, hl, hq, hb⟩
theorem lo_write {N : Nat} {rs : List RVal} {qs : List Rat} (v d : Nat) (hl : rs.length = N) (hq : rs.map RVal.q = qs) (hs : ∀ q ∈ qs, Sh q) (hN : N ≤ 1000000) (A : Option Addr) (c : Nat) (V : World) (h : QsAt V A rs) :
    Calls Tryz.prog 24 #[.agg #[.int .i64 (v : Nat), .int .i64 (d : Nat), .slice A N c]] V fun e w' => ∃ B, e = .returned (.agg #[.int .i64 (v : Nat), .int .i64 (d : Nat), .slice B N N]) ∧ Txts w' B qs ∧ Below V.heap.size V w' := by
  subst hq
  have h1 := write_q v d A c rs V h (fun r hr => hs r.q (List.mem_map.2 ⟨r, hr, rfl⟩)) (by omega)
  rw [hl] at h1
  exact h1
theorem lo_same {N : Nat} {qs : List Rat} (v d : Nat) (hl : qs.length = N) (hN : N ≤ 1000000) (A B : Option Addr) (ca cb : Nat) (V : World) (hA : Txts V A qs) (hB : Txts V B qs) :
    Calls Tryz.prog 14 #[.agg #[.int .i64 (v : Nat), .int .i64 (d : Nat), .slice A N ca], .agg #[.int .i64 (v : Nat), .int .i64 (d : Nat), .slice B N cb]] V fun e w' => e = .returned (.bool true) ∧ Below V.heap.size V w' := by
  have h := same_any v d A B ca cb qs V hA hB (by omega)
  rw [hl] at h
  exact h
/-- The bounds of the values of both functionals, of their sum and of a multiple. -/
theorem pt_vals {v d n : Nat} {ws : List Rat} {xs : List (List Rat)} (ok : PtOk v ws xs) (h3 : v ≤ 3) (hd : d ≤ 4) (hn : xs.length = n) : ∀ q ∈ (mons v d).map (sumTo ws xs n), Bd 12 1769472 q := by
  intro q hq
  obtain ⟨m, hm, rfl⟩ := List.mem_map.1 hq
  exact ok.sum4 h3 hd hm n (by omega)
theorem zip_all {P Q R : Rat → Prop} {f : Rat → Rat → Rat} (hf : ∀ a b, P a → Q b → R (f a b)) : ∀ (l m : List Rat), (∀ x ∈ l, P x) → (∀ x ∈ m, Q x) → ∀ x ∈ List.zipWith f l m, R x
  | [], _, _, _, x, hx => absurd hx (by simp)
  | _ :: _, [], _, _, x, hx => absurd hx (by simp)
  | a :: l, b :: m, h1, h2, x, hx => by
    rw [List.zipWith_cons_cons] at hx
    rcases List.mem_cons.1 hx with rfl | hx
    · exact hf a b (h1 a (by simp)) (h2 b (by simp))
    · exact zip_all hf l m (fun y hy => h1 y (by simp [hy])) (fun y hy => h2 y (by simp [hy])) x hx
theorem bd_sums {l m : List Rat} (h1 : ∀ q ∈ l, Bd 12 1769472 q) (h2 : ∀ q ∈ m, Bd 12 1769472 q) : ∀ q ∈ List.zipWith (· + ·) l m, Sh q :=
  zip_all (fun _ _ ha hb => (ha.add hb (by decide)).sh (by decide) (by decide) (by decide)) l m h1 h2
theorem bd_mults {l : List Rat} {c : Rat} (h1 : ∀ q ∈ l, Bd 12 1769472 q) (hc : Bd 12 108 c) : ∀ q ∈ l.map (c * ·), Sh q := by
  intro q hq
  obtain ⟨x, hx, rfl⟩ := List.mem_map.1 hq
  exact (hc.mul (h1 x hx)).sh (by decide) (by decide) (by decide)
/-- A functional of the reference that is being filled: k of its values are there. -/
structure LH (bs : Nat) (wr : World) (g v d k : Nat) (A : Option Addr) (c : Nat) (rs : List RVal) (qs : List Rat) : Prop where
  b : Blk wr g 29 #[.int .i64 (v : Nat), .int .i64 (d : Nat), .slice A k c]
  o : OwnQ bs wr A c rs
  l : rs.length = k
  q : rs.map RVal.q = qs.take k
theorem LH.keep {bs : Nat} {w w' : World} {g v d k : Nat} {A : Option Addr} {c : Nat} {rs : List RVal} {qs : List Rat} (h : LH bs w g v d k A c rs qs) (hb : Below w.heap.size w w') : LH bs w' g v d k A c rs qs :=
  ⟨h.b.keep hb h.b.lt, h.o.keep hb, h.l, h.q⟩
theorem LH.own {bs : Nat} {w : World} {g v d k : Nat} {A : Option Addr} {c : Nat} {rs : List RVal} {qs : List Rat} (h : LH bs w g v d k A c rs qs) : w.ownsRow bs 52 4 (.slice A k c) k (rs.flatMap RVal.cells) := by
  have := h.o.own
  rw [h.l] at this
  exact this
theorem LH.grown {bs : Nat} {w w' : World} {g v d k : Nat} {A : Option Addr} {c : Nat} {rs : List RVal} {qs : List Rat} {r : RVal} {A' : Option Addr} {c' : Nat} (h : LH bs w g v d k A c rs qs) (hr : r.Ok w) (hgb : g < bs) (hg : w.grownBy w' (Value.slice A k c).ownBlock)
    (h' : w'.ownsRow bs 52 4 (.slice A' (k + 1) c') (k + 1) (rs.flatMap RVal.cells ++ r.cells)) :
    Blk w' g 29 #[.int .i64 (v : Nat), .int .i64 (d : Nat), .slice A k c] ∧ OwnQ bs w' A' c' (rs ++ [r]) := by
  have hown := h.own
  refine ⟨h.b.grown hg (own_blk_ne hown h.b (by decide)), OwnQ.push h.o hr (by rw [h.l]; exact hg) (by rw [h.l]; exact h')⟩
theorem LH.next {bs : Nat} {w' : World} {g v d k : Nat} {A : Option Addr} {c : Nat} {rs : List RVal} {qs : List Rat} {r : RVal} {A' : Option Addr} {c' : Nat} (hb : Blk w' g 29 #[.int .i64 (v : Nat), .int .i64 (d : Nat), .slice A k c]) (ho : OwnQ bs w' A' c' (rs ++ [r])) (hgb : g < bs) (hl : rs.length = k) (hq : rs.map RVal.q = qs.take k) (hk : qs[k]? = some r.q) :
    LH bs (w'.setCell ⟨g, 2, none⟩ (.slice A' (k + 1) c')) g v d (k + 1) A' c' (rs ++ [r]) qs := by
  refine ⟨by simpa using hb.set 2 (.slice A' (k + 1) c'), ho.tk (Tk.set _ _ _ _) hgb hb (by decide), by rw [List.length_append, hl]; rfl, ?_⟩
  rw [List.map_append, hq, List.take_add_one, hk]; rfl
theorem LH.apart {bs : Nat} {w w' : World} {g v d k : Nat} {A : Option Addr} {c : Nat} {rs : List RVal} {qs : List Rat} {g' n sz : Nat} {ys : List Value} {u : Value} {cs : Array Value} {x : Value} (h : LH bs w g v d k A c rs qs) (ho : w.ownsRow bs 52 sz u n ys) (hg : w.grownBy w' u.ownBlock)
    (hne : (Value.slice A k c).ownBlock = none ∨ (Value.slice A k c).ownBlock ≠ u.ownBlock) (hgb : g' < bs) (hgg : g ≠ g') (hB : Blk w' g' 29 cs) : LH bs (w'.setCell ⟨g', 2, none⟩ x) g v d k A c rs qs := by
  have h1 : OwnQ bs w' A c rs := OwnQ.apart h.o ho hg (by rw [h.l]; exact hne)
  exact ⟨(h.b.grown hg (own_blk_ne ho h.b (by decide))).far hgg _, h1.tk (Tk.set _ _ _ _) hgb hB (by decide), h.l, h.q⟩
/-- What the loop that writes the sum and the multiple holds. -/
structure LS (wI : World) (bs g25 g26 v d : Nat) (sa sb : List Rat) (wr : World) (k l : Nat) (A1 : Option Addr) (c1 : Nat) (rs1 : List RVal) (A2 : Option Addr) (c2 : Nat) (rs2 : List RVal) : Prop where
  h1 : LH bs wr g25 v d k A1 c1 rs1 sa
  h2 : LH bs wr g26 v d l A2 c2 rs2 sb
  far : (Value.slice A1 k c1).ownBlock = none ∨ (Value.slice A1 k c1).ownBlock ≠ (Value.slice A2 l c2).ownBlock
  below : Below wI.heap.size wI wr
theorem far_symm {a b : Option Nat} (h : a = none ∨ a ≠ b) : b = none ∨ b ≠ a := by
  rcases h with h | h
  · subst h
    cases b with
    | none => exact .inl rfl
    | some x => exact .inr (by simp)
  · exact .inr h.symm
theorem far_step {w : World} {x y : Value} {g H : Nat} {bs sz m : Nat} {t : TypeId} {ys : List Value} (hf : x.ownBlock = none ∨ x.ownBlock ≠ y.ownBlock) (ho : w.ownsRow bs t sz y m ys) (hH : w.heap.size = H) (hg : x.ownBlock = some g ∨ g = H) : some g ≠ y.ownBlock := by
  intro e
  have h1 := (ho.lt g e.symm).2
  rcases hg with hg | hg
  · rcases hf with hf | hf
    · rw [hf] at hg; exact absurd hg (by simp)
    · exact hf (hg.trans e)
  · omega
end Go.Proofs.Tg
end
