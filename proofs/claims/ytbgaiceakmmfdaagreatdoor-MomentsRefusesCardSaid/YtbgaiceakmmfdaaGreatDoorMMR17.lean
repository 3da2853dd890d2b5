/- Parts of the proof: IL4, IL5, IL6. -/
import Derived.Test.YtbgaiceakmmfdaaGreatDoorMMR0
import Derived.Test.YtbgaiceakmmfdaaGreatDoorMMR7
import Derived.Test.YtbgaiceakmmfdaaGreatDoorMMR16
set_option maxHeartbeats 64000000
set_option maxRecDepth 100000
namespace Go.Proofs.Tg.Iw
section
open Go.RowKit Go.Bw Go.Gr Go.Proofs.Tg
structure PadW (w : World) (g c : Nat) (ys : List Nat) : Prop where
  ex : ∃ rs : List Nat, Blk w g 118 (warr (ys ++ rs)) ∧ ys.length + rs.length = c
  le : c ≤ maxLen
theorem PadW.keep {w w' : World} {g c : Nat} {ys : List Nat} (h : PadW w g c ys) (hb : Below w.heap.size w w') : PadW w' g c ys := by
 obtain ⟨rs, h1, h2⟩ := h.ex
 exact ⟨⟨rs, h1.keep hb h1.lt, h2⟩, h.le⟩
theorem PadW.lt {w : World} {g c : Nat} {ys : List Nat} (h : PadW w g c ys) : g < w.heap.size := by
 obtain ⟨rs, h1, _⟩ := h.ex
 exact h1.lt
theorem PadW.sets {w : World} {g c : Nat} {ys : List Nat} (h : PadW w g c ys) : Sets w (some ⟨g, 0, none⟩) ys := by
 obtain ⟨rs, h1, _⟩ := h.ex
 exact sets_pre h1 rfl
theorem PadW.grown {w w' : World} {g c : Nat} {ys : List Nat} {r : Option Nat} (h : PadW w g c ys) (hg : w.grownBy w' r) (hne : some g ≠ r) : PadW w' g c ys := by
 obtain ⟨rs, h1, h2⟩ := h.ex
 exact ⟨⟨rs, (hg.block g h1.lt hne).trans h1, h2⟩, h.le⟩
theorem PadW.of_cl {w : World} {g ex : Nat} {xs : List Nat} (h : Blk w g 118 (warr (xs ++ List.replicate ex 0))) (hm : xs.length + ex ≤ maxLen) : PadW w g (xs.length + ex) xs := ⟨⟨_, h, by simp⟩, hm⟩
theorem pad_append (w : World) (g c d k : Nat) (ys : List Nat) (hP : PadW w g c ys) (hk : w.cell? ⟨k, 0, none⟩ = some (.int .u64 0)) (hn : ys.length ≤ 1000000) :
    ∃ g' c' w', (Builtin.append_ #[66, 66] 66 #[.slice (some ⟨g, 0, none⟩) ys.length c, .slice (some ⟨k, 0, none⟩) 1 d]).run Tryz.prog w = .ok (.slice (some ⟨g', 0, none⟩) (ys.length + 1) c') w' ∧ PadW w' g' c' (ys ++ [0]) ∧ w.grownBy w' (some g) ∧ (g' = g ∨ g' = w.heap.size) := by
  obtain ⟨i0, hi0, hz0, hz1, hz2⟩ := info_parts u64_info; obtain ⟨rs, hB, hl⟩ := hP.ex
  have hsrc : Src Tryz.prog i0.size 66 (.slice (some ⟨k, 0, none⟩) 1 d) 1 [.int .u64 0] w := by
   rw [hz1]; refine Src.ofSlice w Tryz.underlying66 ⟨k, 0, none⟩ 1 d [.int .u64 0] rfl (fun j u hu => ?_) (by simp [Value.oneCell'])
   cases j with
   | zero => simp at hu; subst hu; simpa [Addr.add] using hk
   | succ j => simp at hu
  by_cases hroom : ys.length + 1 ≤ c
  ·have hr := run_append_room_src (P := Tryz.prog) w 66 66 66 118 i0 Tryz.underlying66 hi0 g 0 ys.length c _ 1 [.int .u64 0] hsrc hroom (fun j hj => by
    rw [hz1, hB.cell]
    have : j = 0 := by simpa using hj
    subst this; have hs := warr_size (ys ++ rs); simp at hs; simp [hs]
    omega) (fun j _ => hB.frozen _)
   rw [hz1] at hr
   have e : w.setCells g (0 + ys.length * 1) [.int .u64 0] = w.setCell ⟨g, ys.length, none⟩ (.int .u64 ((0 : Nat) : Int)) := by
    rw [Nat.zero_add, Nat.mul_one]; rfl
   rw [e] at hr
   obtain ⟨r0, rs', hrs⟩ : ∃ r0 rs', rs = r0 :: rs' := by
    cases rs with
    | nil => simp at hl; omega
    | cons a l => exact ⟨a, l, rfl⟩
   subst hrs; have hB2 := hB.set ys.length (.int .u64 ((0 : Nat) : Int)); rw [warr_set, List.set_append_right _ _ (Nat.le_refl _), Nat.sub_self, List.set_cons_zero] at hB2; refine ⟨g, c, _, hr, ⟨⟨rs', by rw [List.append_assoc]; exact hB2, by simp at hl ⊢; omega⟩, hP.le⟩, ?_, .inl rfl⟩; exact ⟨rfl, rfl, rfl, by simp [World.setCell], fun k' _ hne => Below.heap_setCell w ⟨g, ys.length, none⟩ _ k' (fun e => hne (by rw [e]))⟩
  ·have hr := run_append_grow_src (P := Tryz.prog) w 66 66 66 118 i0 (.int .u64 0) Tryz.underlying66 hi0 hz0 (some ⟨g, 0, none⟩) ys.length c (ys.map vs)
     (by
      rw [hz1]; refine run_firstCells_some _ 1 ys.length ⟨g, 0, none⟩ ys.length c (ys.map vs) (by simp) (fun j x hx => ?_); rw [add_lit, Nat.zero_add, World.cell?_drew, hB.cell]; unfold warr; rw [List.getElem?_toArray, List.map_append, List.getElem?_append_left (List.getElem?_eq_some_iff.1 hx).1]
      exact hx) _ 1 [.int .u64 0] hsrc (by omega) (by omega) (growslice_fits (by omega) (by rw [hz2]; omega))
   have hge := grownCap_ge w (ys.length + 1) c 118; have hcm : grownCap w (ys.length + 1) c 118 ≤ maxLen := grownCap_le_maxLen w (ys.length + 1) c 118 (by simp only [maxLen]; omega); generalize grownCap w (ys.length + 1) c 118 = cap at *; refine ⟨w.heap.size, cap, _, hr, ⟨⟨List.replicate (cap - (ys.length + 1)) 0, ?_, by simp; omega⟩, hcm⟩, ⟨rfl, rfl, rfl, by simp, fun k hk _ => heap_alloc_old w.drew _ hk⟩, .inr rfl⟩; rw [zero_words]; have := Blk.new w.drew 118 ((ys.map vs ++ [Value.int .u64 0]).toArray ++ warr (List.replicate (cap - (ys.length + 1)) 0))
   have e : (ys.map vs ++ [Value.int .u64 0]).toArray = warr (ys ++ [0]) := by simp [warr, vs]
   rw [e, warr_app] at this; rw [e, warr_app]; exact this
theorem wclone_nil (X : Option Addr) (c : Nat) (w : World) : Calls Tryz.prog 84 #[.slice X 0 c] w fun e w' => ∃ R c', e = .returned (.slice R 0 c') ∧ Below w.heap.size w w' := by
 cases X with
 | none =>
   have hnn : ∀ W : World, (binOp BinOp.eql 66 (.slice none 0 c) (.slice none 0 0)).run Tryz.prog W = .ok (.bool true) W := fun W => Lib.run_eql_slice_nil W _ _ none _ _ _ _ Tryz.underlying66
   go_enter Tryz.func84, Tryz.ntmps84; go_wp2; go_ret; exact ⟨none, 0, rfl, Below.refl _ _⟩
 | some ad =>
   obtain ⟨i0, hi0, hz0, hz1, hz2⟩ := info_parts u64_info
   have hnn : ∀ W : World, (binOp BinOp.eql 66 (.slice (some ad) 0 c) (.slice none 0 0)).run Tryz.prog W = .ok (.bool false) W := fun W => Lib.run_eql_slice_nil W _ _ _ _ _ _ _ Tryz.underlying66
   have hsrc : Src Tryz.prog i0.size 66 (.slice (some ad) 0 c) 0 [] (w.alloc (.cells #[] 118)) := by
    rw [hz1]; exact Src.ofSlice _ Tryz.underlying66 ad 0 c [] rfl (fun j u hu => by simp at hu) (by simp)
   have hr := run_append_room_src (P := Tryz.prog) (w.alloc (.cells #[] 118)) 66 66 66 118 i0 Tryz.underlying66 hi0 w.heap.size 0 0 0 _ 0 [] hsrc (Nat.le_refl _) (fun j hj => by simp at hj) (fun j hj => by simp at hj); have HB := zh ((Below.refl w.heap.size w).alloc (Nat.le_refl _) (.cells #[] 118)); have e : (w.alloc (.cells #[] 118)).setCells w.heap.size (0 + 0 * i0.size) [] = w.alloc (.cells #[] 118) := rfl; rw [e] at hr; clear hsrc e; go_enter Tryz.func84, Tryz.ntmps84; go_upto_region 3 with (fail); refine wp_region_list ?_; refine wpList_plain rfl (fun K hK => ?_); go_simp; refine hK _ _ ?_; clear hK K; refine wpList_plain rfl (fun K hK => ?_); go_simp; refine hK _ _ ?_; clear hK K; refine wpList_append_run _ rfl _ _ 66 rfl (.slice (some ⟨w.heap.size, 0, none⟩) 0 0) (.slice (some ad) 0 c) rfl rfl hr ?_; clear hr; go_wp2; go_ret; exact ⟨_, _, rfl, HB.out⟩
def rdw (w : World) : Value → Nat
  | .slice (some ad) n _ => val ((List.range n).map fun i => match w.cell? (ad.add i) with | some (.int _ z) => z.toNat | _ => 0)
  | _ => 0
theorem rdw_eq {w : World} {A : Option Addr} {c : Nat} {xs : List Nat} (h : 0 < xs.length → Sets w A xs) : rdw w (.slice A xs.length c) = val xs := by
 cases xs with
 | nil => cases A <;> simp [rdw, val]
 | cons x l =>
   obtain ⟨ad, rfl, _, hc⟩ := Sl.lies (h (by simp)) (by simp)
   show val _ = val _
   congr 1
   refine List.ext_getElem (by rw [List.length_map, List.length_range]) fun i h1 h2 => ?_
   have := hc i (.int .u64 ((x :: l)[i] : Nat)) (by rw [List.getElem?_map, List.getElem?_eq_getElem h2]; rfl); rw [List.getElem_map, List.getElem_range, this]; simp
structure GcM (base G N : Nat) (w0 wr : World) (ga ca : Nat) (Bd : Option Addr) (cb x y : Nat) : Prop where
  below : Below base w0 wr
  oa : PadW wr ga ca (dg x)
  la : base ≤ ga
  ob : 0 < y → ∃ gb, Bd = some ⟨gb, 0, none⟩ ∧ PadW wr gb cb (dg y) ∧ base ≤ gb ∧ ga ≠ gb
  le : y ≤ x
  pos : 0 < x
  gcd : Nat.gcd x y = G
  small : x ≤ N
  tiny : (dg y).length < 80
theorem GcM.rd {base G N ga ca cb x y : Nat} {w0 wr : World} {Bd : Option Addr} (h : GcM base G N w0 wr ga ca Bd cb x y) : rdw wr (.slice Bd (dg y).length cb) = y := by
 rw [rdw_eq (fun hp => ?_), val_dg]
 have hy : 0 < y := by
  rcases Nat.eq_zero_or_pos y with h | h
  ·rw [h, dg_zero] at hp; simp at hp
  ·exact h
 obtain ⟨gb, rfl, hP, _⟩ := h.ob hy
 exact hP.sets
theorem pad_trim {w : World} {g c : Nat} {zs ra : List Nat} (hB : Blk w g 118 (warr (zs ++ ra))) (hd : Dig zs) (hl : zs.length + ra.length = c) (hc : c ≤ maxLen) : PadW w g c (dg (val zs)) := by
 obtain ⟨h1, h2⟩ := Go.Bw.tzl_dg hd
 have e : dg (val zs) ++ (zs.drop (dg (val zs)).length ++ ra) = zs ++ ra := by
  rw [← List.append_assoc]
  congr 1
  rw [h2] at h1
  conv => lhs; lhs; rw [← h1]
  exact List.take_append_drop _ _
 refine ⟨⟨zs.drop (dg (val zs)).length ++ ra, by rw [e]; exact hB, ?_⟩, hc⟩
 have := congrArg List.length e
 simp only [List.length_append] at this ⊢
 omega
theorem apply_any (base ga gb ca cb n u0 u1 v0 v1 a b P R : Nat) (odd : Bool) (xs ys ra rb : List Nat) (w : World) (hA : Blk w ga 118 (warr (xs ++ ra))) (hB : Blk w gb 118 (warr (ys ++ rb))) (hxl : xs.length = n) (hyl : ys.length = n) (hxd : Dig xs) (hyd : Dig ys) (hxv : val xs = a) (hyv : val ys = b) (hn : n ≤ 500000)
    (hu0 : u0 < B) (hu1 : u1 < B) (hv0 : v0 < B) (hv1 : v1 < B) (hR : LmRet a b u0 u1 v0 v1 odd P R) (hab : ga ≠ gb) (h1 : base ≤ ga) (h2 : base ≤ gb) :
    Calls Tryz.prog 87 #[.agg #[.int .u64 (u0 : Nat), .int .u64 (u1 : Nat), .int .u64 (v0 : Nat), .int .u64 (v1 : Nat), .bool odd], .slice (some ⟨ga, 0, none⟩) n ca, .slice (some ⟨gb, 0, none⟩) n cb] w fun e w' => e = .returned (.tuple #[]) ∧ ∃ zs ws, zs.length = n ∧ ws.length = n ∧ Dig zs ∧ Dig ws ∧ val zs = P ∧ val ws = R ∧ Blk w' ga 118 (warr (zs ++ ra)) ∧ Blk w' gb 118 (warr (ws ++ rb)) ∧ Below base w w' := by
  cases odd with
  | false => exact apply_even base ga gb ca cb n u0 u1 v0 v1 a b P R xs ys ra rb w hA hB hxl hyl hxd hyd hxv hyv hn hu0 hu1 hv0 hv1 hR hab h1 h2
  | true => exact apply_odd base ga gb ca cb n u0 u1 v0 v1 a b P R xs ys ra rb w hA hB hxl hyl hxd hyd hxv hyv hn hu0 hu1 hv0 hv1 hR hab h1 h2
theorem nclone_any (X : Option Addr) (c n : Nat) (w : World) (hX : NW w X c n) (hn : (dg n).length ≤ 1000000) :
    Calls Tryz.prog 84 #[.slice X (dg n).length c] w fun e w' => ∃ R c', e = .returned (.slice R (dg n).length c') ∧ (0 < n → ∃ g, R = some ⟨g, 0, none⟩ ∧ PadW w' g c' (dg n) ∧ w.heap.size ≤ g) ∧ Below w.heap.size w w' := by
  rcases Nat.eq_zero_or_pos n with h0 | h0
  ·subst h0; have h := wclone_nil X c w; rw [dg_zero]; refine h.mono ?_; rintro e w' ⟨R, c', rfl, hb⟩; exact ⟨R, c', rfl, fun h => absurd h (by omega), hb⟩
  ·have hl : 0 < (dg n).length := Nat.pos_of_ne_zero fun e => by have := len_zero e; omega
   refine (wclone_any X c (dg n) w hX.wds hl hn).mono ?_; rintro e w' ⟨g, ex, rfl, hB, hg, hm, hb⟩; exact ⟨_, _, rfl, fun _ => ⟨g, rfl, PadW.of_cl hB hm, hg⟩, hb⟩
theorem PadW.nw {w : World} {g c n : Nat} (h : PadW w g c (dg n)) : NW w (some ⟨g, 0, none⟩) c n := ⟨h.sets, by obtain ⟨rs, _, h2⟩ := h.ex; omega⟩
theorem grown_base {w w' : World} {base g : Nat} (h : w.grownBy w' (some g)) (hb : base ≤ w.heap.size) (hg : base ≤ g) : Below base w w' :=
  ⟨h.os, h.tape, h.output, h.size, fun k hk => h.block k (by omega) (by simp; omega)⟩
def slen : Value → Nat
  | .slice _ n _ => n
  | _ => 0
theorem GcM.keep {base G N ga ca cb x y : Nat} {w0 wr wr' : World} {Bd : Option Addr} (h : GcM base G N w0 wr ga ca Bd cb x y) (hb : Below wr.heap.size wr wr') : GcM base G N w0 wr' ga ca Bd cb x y :=
  ⟨h.below.trans (hb.mono (by have := h.la; have := h.oa.lt; omega)), h.oa.keep hb, h.la, fun hy => by
   obtain ⟨gb, h1, h2, h3, h4⟩ := h.ob hy
   exact ⟨gb, h1, h2.keep hb, h3, h4⟩, h.le, h.pos, h.gcd, h.small, h.tiny⟩
theorem GcM.div {base G N ga ca gb cb c' p q : Nat} {w0 wr wr' : World} {R : Option Addr} (h : GcM base G N w0 wr ga ca (some ⟨gb, 0, none⟩) cb p q) (hq : 0 < q) (hPB : PadW wr gb cb (dg q)) (hgb : base ≤ gb) (hb : Below wr.heap.size wr wr')
    (hc : 0 < p % q → ∃ g, R = some ⟨g, 0, none⟩ ∧ PadW wr' g c' (dg (p % q)) ∧ wr.heap.size ≤ g) : GcM base G N w0 wr' gb cb R c' q (p % q) := by
  have hlt := Nat.mod_lt p hq; have hl := hPB.lt; refine ⟨(h.keep hb).below, hPB.keep hb, hgb, fun hy => ?_, by omega, hq, ?_, ?_, ?_⟩
  ·obtain ⟨g, h1, h2, h3⟩ := hc hy; exact ⟨g, h1, h2, by omega, by omega⟩
  ·rw [← h.gcd, Nat.gcd_comm, ← Nat.gcd_rec, Nat.gcd_comm]
  ·have := h.le; have := h.small; omega
  ·have := Go.Bw.dg_len_mono (a := p % q) (b := q) (by omega); have := h.tiny; omega
theorem GcM.app {base G N ga ca gb' cb cb' p q u0 u1 v0 v1 P R : Nat} {odd : Bool} {w0 wr wr' : World} {Bd : Option Addr} (h : GcM base G N w0 wr ga ca Bd cb p q) (hb : Below base wr wr') (hL : LmRet p q u0 u1 v0 v1 odd P R) (hA : PadW wr' ga ca (dg P)) (hB : PadW wr' gb' cb' (dg R)) (hg : base ≤ gb') (hne : ga ≠ gb') :
    GcM base G N w0 wr' ga ca (some ⟨gb', 0, none⟩) cb' P R := by
  have h1 := hL.lt; have h2 := hL.le; have h3 := h.le; have h4 := h.small; refine ⟨h.below.trans hb, hA, h.la, fun _ => ⟨gb', rfl, hB, hg, hne⟩, by omega, by omega, by rw [hL.gcd, h.gcd], by omega, ?_⟩; have := Go.Bw.dg_len_mono (a := R) (b := q) (by omega); have := h.tiny; omega
structure PdM (base gs ga ca p q lq u0 u1 v0 v1 : Nat) (odd : Bool) (w0 wr : World) (gb cb m : Nat) : Prop where
  below : Below base w0 wr
  oa : PadW wr ga ca (dg p)
  ob : PadW wr gb cb (dg q ++ List.replicate (m - lq) 0)
  os : Blk wr gs 133 (stp u0 u1 v0 v1 odd)
  lb : base ≤ gb
  nea : ga ≠ gb
  nes : gs ≠ gb
theorem PdM.push {base gs ga ca p q lq u0 u1 v0 v1 gb cb m g' c' : Nat} {odd : Bool} {w0 wr wa w' : World} (h : PdM base gs ga ca p q lq u0 u1 v0 v1 odd w0 wr gb cb m) (hm : lq ≤ m) (ha : Below wr.heap.size wr wa) (hP : PadW w' g' c' ((dg q ++ List.replicate (m - lq) 0) ++ [0])) (hg : wa.grownBy w' (some gb)) (hor : g' = gb ∨ g' = wa.heap.size) :
    PdM base gs ga ca p q lq u0 u1 v0 v1 odd w0 w' g' c' (m + 1) := by
  have h1 := h.oa.lt; have h2 := h.ob.lt; have h3 := h.os.lt; have h4 := ha.size; have h5 := h.nea; have h6 := h.nes; have h7 := h.lb; refine ⟨(h.below.trans (ha.mono (by omega))).trans (grown_base hg (by omega) h7), (h.oa.keep ha).grown hg (by simp; omega), ?_, ?_, by omega, by omega, by omega⟩
  ·rw [show m + 1 - lq = (m - lq) + 1 by omega, List.replicate_succ', ← List.append_assoc]; exact hP
  ·exact (hg.block gs (by omega) (by simp; omega)).trans (h.os.keep ha h3)
theorem pad_len {q m lq : Nat} (h : (dg q).length = lq) (hm : lq ≤ m) : (dg q ++ List.replicate (m - lq) 0).length = m := by simp [h]; omega
theorem pad_val (q k : Nat) : val (dg q ++ List.replicate k 0) = q := by
 induction k with
 | zero => simp [val_dg]
 | succ k ih => rw [List.replicate_succ', ← List.append_assoc, val_zero_end, ih]
theorem pad_dig (q k : Nat) : Dig (dg q ++ List.replicate k 0) := by
 intro x hx
 rcases List.mem_append.1 hx with h | h
 ·exact dg_dig q x h
 ·rw [List.eq_of_mem_replicate h]; decide
theorem ordered {a b : Nat} (X Y : Option Addr) (cx cy : Nat) (w : World) (hX : NW w X cx a) (hY : NW w Y cy b) (hn : (dg a).length ≤ 400000) (hnb : (dg b).length ≤ 400000) (hs : (dg a).length < 80 ∨ (dg b).length < 80) :
    ∃ x y U V cu cv, y ≤ x ∧ Nat.gcd x y = Nat.gcd a b ∧ NW w U cu x ∧ NW w V cv y ∧ (dg x).length ≤ 400000 ∧ (dg y).length < 80 ∧ ((a < b ∧ .slice U (dg x).length cu = (.slice Y (dg b).length cy : Value) ∧ .slice V (dg y).length cv = (.slice X (dg a).length cx : Value)) ∨ (¬ a < b ∧ .slice U (dg x).length cu = (.slice X (dg a).length cx : Value) ∧ .slice V (dg y).length cv = (.slice Y (dg b).length cy : Value))) := by
  by_cases h : a < b
  ·have := Go.Bw.dg_len_mono (Nat.le_of_lt h); exact ⟨b, a, Y, X, cy, cx, Nat.le_of_lt h, Nat.gcd_comm _ _, hY, hX, hnb, by omega, .inl ⟨h, rfl, rfl⟩⟩
  ·have := Go.Bw.dg_len_mono (a := b) (b := a) (by omega); exact ⟨a, b, X, Y, cx, cy, by omega, rfl, hX, hY, hn, by omega, .inr ⟨h, rfl, rfl⟩⟩
theorem gcdw_any (X Y : Option Addr) (cx cy a b : Nat) (w : World) (hX : NW w X cx a) (hY : NW w Y cy b) (hn : (dg a).length ≤ 400000) (hnb : (dg b).length ≤ 400000) (hs : (dg a).length < 80 ∨ (dg b).length < 80) (hT : Tab w) :
    Calls Tryz.prog 68 #[.slice X (dg a).length cx, .slice Y (dg b).length cy] w (RetW (Nat.gcd a b) w) := by
  obtain ⟨x, y, U, V, cu, cv, hyx, hg, hU, hV, hxl, hyl, hor⟩ := ordered X Y cx cy w hX hY hn hnb hs; have HOR : Hid _ := zh hor; rw [← hg]; obtain ⟨Q, hQ⟩ := eqx (RetW (Nat.gcd x y) w); obtain ⟨z, hz⟩ := eqx ((if a < b then (-1 : Int) else if a = b then 0 else 1) : Int); have HC := zh (cmp_n X Y cx cy a b w hX.wds hY.wds (by omega)); rw [hz] at HC; obtain ⟨t, ht⟩ := eqx (decide (z < 0))
  have HZ : Hid (t = decide (a < b)) := zh (by
   rw [← ht, ← hz]
   by_cases h : a < b
   ·simp [h]
   ·rw [if_neg h]; split <;> simp [h])
  have HX0 : Hid (y = 0 → ∀ V, Dr w V → Q (.returned (.slice U (dg x).length cu)) V) := zh (fun h V hd => by
   rw [← hQ, h, Nat.gcd_zero_right]
   exact ⟨U, cu, rfl, hU.keep hd.below, hd.below⟩)
  have HCU : Hid (∀ V, Below w.heap.size w V → Calls Tryz.prog 84 #[.slice U (dg x).length cu] V fun e w' => ∃ R c', e = .returned (.slice R (dg x).length c') ∧ Hid (0 < x → ∃ g, R = some ⟨g, 0, none⟩ ∧ PadW w' g c' (dg x) ∧ V.heap.size ≤ g) ∧ Hid (Below V.heap.size V w')) := zh (fun W hW => nclone_any U cu x W (hU.keep hW) (by omega)); have HCV : Hid (∀ W, Below w.heap.size w W → Calls Tryz.prog 84 #[.slice V (dg y).length cv] W fun e w' => ∃ R c', e = .returned (.slice R (dg y).length c') ∧ Hid (0 < y → ∃ g, R = some ⟨g, 0, none⟩ ∧ PadW w' g c' (dg y) ∧ W.heap.size ≤ g) ∧ Hid (Below W.heap.size W w')) := zh (fun W hW => nclone_any V cv y W (hV.keep hW) (by omega)); have HYX := zh hyx; obtain ⟨G, hG⟩ := eqx (Nat.gcd x y); have HG := zh hG; have HRQ : Hid (∀ e V, RetW G w e V → Q e V) := zh (fun e V h => by rw [← hQ, hG]; exact h); rw [hQ]; obtain ⟨la, hla⟩ := eqx ((dg a).length)
  obtain ⟨lb, hlb⟩ := eqx ((dg b).length); obtain ⟨lx, hlx⟩ := eqx ((dg x).length); obtain ⟨ly, hly⟩ := eqx ((dg y).length); rw [hla, hlb] at HC HOR ⊢; rw [hlx] at HX0 HCU HOR hxl; rw [hly] at HCV HOR hyl; have HLX := zh hlx; have HLY := zh hly; have HT := zh hT; clear hor hg hQ hz hX hY hU hV hyx hG hla hlb hlx hly hT hn hnb hs; go_enter Tryz.func68, Tryz.ntmps68
  go_upto_if 13 with (go_at_call 77; refine HC.out.mono ?_; rintro e w1 ⟨rfl, hd1⟩; have HD1 := zh hd1; clear hd1)
  go_cut [0, 1] (fun s0 s1 wx => s0 = .slice U lx cu ∧ s1 = .slice V ly cv ∧ wx = w1)
  case first =>
   clear ht HCU HCV HX0 HRQ HT
   rcases HOR.out with ⟨h, e1, e2⟩ | ⟨h, e1, e2⟩
   ·obtain rfl : t = true := HZ.out.trans (dT h); have E1 := zh e1; have E2 := zh e2; clear h e1 e2 HZ HC HOR; go_wp2; go_meet; exact ⟨E1.out.symm, E2.out.symm, rfl⟩
   ·obtain rfl : t = false := HZ.out.trans (dF h); have E1 := zh e1; have E2 := zh e2; clear h e1 e2 HZ HC HOR; go_wp2; go_meet; exact ⟨E1.out.symm, E2.out.symm, rfl⟩
  case rest =>
   obtain ⟨rfl, rfl, rfl⟩ := hcut; clear HC HOR HZ ht
   by_cases hy0 : ly = 0
   ·have HR := HX0.out (by rw [← HLY.out] at hy0; exact len_zero hy0) _ HD1.out; subst hy0; have HR2 := zh HR; clear HR HX0 HCU HCV HRQ HT; go_wp2; exact HR2.out
   ·have HB1 := zh HD1.out.below
    have hy1 : 0 < y := by
     rcases Nat.eq_zero_or_pos y with h | h
     ·rw [← HLY.out, h, dg_zero] at hy0; simp at hy0
     ·exact h
    have b0 : ((ly : Int) == 0) = false := beq_eq_false_iff_ne.2 (by omega); have b0' : (ly == 0) = false := beq_eq_false_iff_ne.2 hy0; have HCU1 := zh (HCU.out wc HB1.out); clear HX0 HCU HD1
    go_upto_block 0 with (first
      | (go_at_call 84; refine HCU1.out.mono ?_; rintro e w2 ⟨R, cr, rfl, HR1, HB2⟩; have HCV1 := zh (HCV.out w2 (below_all HB1.out HB2.out)))
      | (go_at_call 84; refine HCV1.out.mono ?_; rintro e w3 ⟨S, cs, rfl, HR2, HB3⟩))
    obtain ⟨ga, rfl, hPA, hga⟩ := HR1.out (by have := HYX.out; omega); obtain ⟨gb, rfl, hPB, hgb⟩ := HR2.out hy1; have hsz := HB1.out.size; have hsz2 := HB2.out.size; have hPAl := hPA.lt; have HS0 : Hid ((dg x).length = lx ∧ (dg y).length = ly ∧ GcM w.heap.size G x w w3 ga cr (some ⟨gb, 0, none⟩) cs x y) := zh ⟨HLX.out, HLY.out, below_all (below_all HB1.out HB2.out) HB3.out, hPA.keep HB3.out, by omega, fun _ => ⟨gb, rfl, hPB, by omega, by omega⟩, HYX.out, by have := HYX.out; omega, HG.out, Nat.le_refl _, by rw [HLY.out]; exact hyl⟩; have HN : Hid ((dg x).length ≤ 400000) := zh (by rw [HLX.out]; exact hxl); clear HR1 HR2 hPA hPB hga hgb hsz hsz2 hPAl HB1 HB2 HB3 HCU1 HCV1 HCV HYX HG HLX HLY b0 b0' hy0; generalize x = N at *; go_wp2
    go_loopw [5, 6] (fun s5 s6 wr => ∃ (ga ca cb p q lp lq : Nat) (Bd : Option Addr), s5 = .slice (some ⟨ga, 0, none⟩) lp ca ∧ s6 = .slice Bd lq cb ∧ lp ≤ 400000 ∧ lq ≤ lp ∧ Hid ((dg p).length = lp ∧ (dg q).length = lq ∧ GcM w.heap.size G N w wr ga ca Bd cb p q)) (fun _ s6 wr => rdw wr s6)
    case atStart => 
      have := Go.Bw.dg_len_mono HS0.out.2.2.le; rw [HS0.out.1, HS0.out.2.1] at this; exact ⟨ga, cr, cs, N, y, lx, ly, some ⟨gb, 0, none⟩, rfl, rfl, hxl, this, HS0⟩
    case round =>
     clear HS0; obtain ⟨wo, rfl⟩ : ∃ wo : World, wo = wr := ⟨_, rfl⟩; obtain ⟨ga, ca, cb, p, q, lp, lq, Bd, rfl, rfl, hlp, hlq, HS⟩ := hrel; have HM : Hid (rdw wo (.slice Bd lq cb) = q) := zh (by have := HS.out.2.2.rd; rwa [HS.out.2.1] at this); obtain ⟨h1, h2, hS⟩ := HS.out
     by_cases hq2 : 1 < lq
     ·have d1 : decide ((1 : Int) < (lq : Int)) = true := dT (by omega); have d2 : decide (1 < lq) = true := dT hq2
      have hq0 : 0 < q := by
       rcases Nat.eq_zero_or_pos q with h | h
       ·rw [h, dg_zero] at h2; simp at h2; omega
       ·exact h
      obtain ⟨gb, rfl, hPB, hgb, hab⟩ := hS.ob hq0; have HSIM := zh (sim_any (some ⟨ga, 0, none⟩) (some ⟨gb, 0, none⟩) ca cb p q wo hS.oa.nw hPB.nw (by omega) hS.le (by omega)); rw [h1, h2] at HSIM; clear hPB hgb hab hS h1 h2
      go_upto_if 32 with (go_at_call 85; refine HSIM.out.mono ?_; rintro e w4 ⟨u0, u1, v0, v1, odd, rfl, hu0, hu1, hv0, hv1, hLM, hb4⟩; have HLM := zh hLM; have HB4 := zh hb4; clear hLM hb4)
      have HB5 : Hid (Below wo.heap.size wo (w4.alloc (.cells #[.int .u64 (u0 : Nat), .int .u64 (u1 : Nat), .int .u64 (v0 : Nat), .int .u64 (v1 : Nat), .bool odd] 133))) := zh (HB4.out.alloc HB4.out.size _); have HBS : Hid (Blk (w4.alloc (.cells #[.int .u64 (u0 : Nat), .int .u64 (u1 : Nat), .int .u64 (v0 : Nat), .int .u64 (v1 : Nat), .bool odd] 133)) w4.heap.size 133 (stp u0 u1 v0 v1 odd)) := zh (Blk.new w4 133 (stp u0 u1 v0 v1 odd)); have HGS : Hid (wo.heap.size ≤ w4.heap.size) := zh HB4.out.size; generalize w4.alloc (.cells #[.int .u64 (u0 : Nat), .int .u64 (u1 : Nat), .int .u64 (v0 : Nat), .int .u64 (v1 : Nat), .bool odd] 133) = w5 at *; generalize w4.heap.size = gs at *; clear HSIM HB4; obtain ⟨hl1, hl2, hS⟩ := HS.out; obtain ⟨gb', he, hPB, hgb, hab⟩ := hS.ob hq0
      obtain rfl : gb = gb' := by simpa using he
      clear he; have HPB := zh hPB; have HM5 := zh (hS.keep HB5.out)
      by_cases hv : v0 = 0
      ·have HDIV := zh (divw_any (some ⟨ga, 0, none⟩) (some ⟨gb, 0, none⟩) ca cb p q w5 HM5.out.oa.nw (hPB.keep HB5.out).nw (by omega) (by omega) (by omega) (.inl hS.tiny)); rw [hl1, hl2] at HDIV; have HLQ : Hid ((dg q).length = lq) := zh hl2; have HGB : Hid (w.heap.size ≤ gb) := zh hgb
       have hlr : (dg (p % q)).length ≤ lq := by rw [← hl2]; exact Go.Bw.dg_len_mono (Nat.le_of_lt (Nat.mod_lt p hq0))
       obtain ⟨r, hr⟩ := eqx (p % q); have HR := zh hr; rw [hr] at hlr; obtain ⟨lr, hlr2⟩ := eqx ((dg r).length); have HLR := zh hlr2; rw [hlr2] at hlr
       have HNC : Hid (∀ (A : Option Addr) (c : Nat) (V : World), NW V A c r → Calls Tryz.prog 84 #[.slice A lr c] V fun e w' => ∃ R c', e = .returned (.slice R lr c') ∧ Hid (0 < r → ∃ g, R = some ⟨g, 0, none⟩ ∧ PadW w' g c' (dg r) ∧ V.heap.size ≤ g) ∧ Hid (Below V.heap.size V w')) := zh (fun A c V h => by
        have := nclone_any A c r V h (by omega)
        rwa [hlr2] at this)
       clear hl1 hl2 hS hPB hgb hab hr hlr2 HLM HBS HGS; subst hv
       go_wp2_with (first
         | (go_at_call 86; refine HDIV.out.mono ?_; rintro e w6 ⟨Q1, cq, R1, cr1, rfl, hq6, hr6, hb6⟩; rw [HR.out] at hr6 ⊢; rw [HLR.out]; have HN6 := zh (HNC.out R1 cr1 w6 hr6); have HB6 := zh hb6; clear hq6 hr6 hb6)
         | (go_at_call 84; refine HN6.out.mono ?_; rintro e w7 ⟨R2, cr2, rfl, HR7, HB7⟩))
       have HM7 : Hid (GcM w.heap.size G N w w7 gb cb R2 cr2 q r) := zh (by
        have hsz := HB6.out.size
        have hd := HM5.out.div (c' := cr2) (R := R2) (wr' := w7) hq0 (HPB.out.keep HB5.out) HGB.out (below_all HB6.out HB7.out) (by
         rw [HR.out]; intro h; obtain ⟨g, e1, e2, e3⟩ := HR7.out h
         exact ⟨g, e1, e2, by omega⟩)
        rwa [HR.out] at hd)
       refine ⟨⟨gb, cb, cr2, q, r, lq, lr, R2, rfl, rfl, by omega, hlr, zh ⟨HLQ.out, HLR.out, HM7.out⟩⟩, ?_⟩; rw [HM.out, ← HLR.out, HM7.out.rd, ← HR.out]; exact Nat.mod_lt _ hq0
      ·obtain ⟨P, R, hLM⟩ := HLM.out hv; have HL := zh hLM; have b0 : ((v0 : Int) == 0) = false := beq_eq_false_iff_ne.2 (by omega); have b0' : (v0 == 0) = false := beq_eq_false_iff_ne.2 hv; have b0n : ((v0 : Int) = 0) = False := eq_false (by omega); have b0m : (v0 = 0) = False := eq_false hv; have HLP := zh hl1; have HLQ := zh hl2
       have hgsb : w.heap.size ≤ gs := by have := HM5.out.la; have := hS.oa.lt; have := HGS.out; omega
       have HPD0 : Hid (PdM w.heap.size gs ga ca p q lq u0 u1 v0 v1 odd w5 w5 gb cb lq) := zh ⟨Below.refl _ _, HM5.out.oa, by rw [Nat.sub_self]; simpa using hPB.keep HB5.out, HBS.out, hgb, hab, by have := hPB.lt; have := HGS.out; omega⟩; have HGA : Hid (w.heap.size ≤ ga) := zh hS.la; clear hLM HLM hl1 hl2 hS hPB hgb hab HBS HGS hgsb hv HPB; rw [b0]; go_upto_block 2 with (fail); go_wp2
       go_loopw [6] (fun s6 wr => ∃ gb cb m : Nat, s6 = .slice (some ⟨gb, 0, none⟩) m cb ∧ lq ≤ m ∧ m ≤ lp ∧ Hid (PdM w.heap.size gs ga ca p q lq u0 u1 v0 v1 odd w5 wr gb cb m)) (fun s6 _ => lp - slen s6)
       case atStart => exact ⟨gb, cb, lq, rfl, Nat.le_refl _, hlq, HPD0⟩
       case round =>
        clear HPD0; obtain ⟨wi, rfl⟩ : ∃ wi : World, wi = wr := ⟨_, rfl⟩; obtain ⟨gb2, cb2, m, rfl, hm1, hm2, HPD⟩ := hrel
        by_cases hml : m < lp
        ·have d3 : decide ((m : Int) < (lp : Int)) = true := dT (by omega); have d4 : decide (m < lp) = true := dT hml; have HWA : Hid (Below wi.heap.size wi (wi.alloc (.cells #[.int .u64 0] 118))) := zh (bal); obtain ⟨g', c', w', hr, hP', hgr, hor⟩ := pad_append (wi.alloc (.cells #[.int .u64 0] 118)) gb2 cb2 1 wi.heap.size _ (HPD.out.ob.keep HWA.out) ((Blk.new wi 118 #[.int .u64 0]).cell 0) (by rw [pad_len HLQ.out hm1]; omega); rw [pad_len HLQ.out hm1] at hr; have HPN := zh (HPD.out.push hm1 HWA.out hP' hgr hor); clear hP' hgr hor HWA; go_upto_region 12 with (fail); refine wp_region_list ?_; refine wpList_plain rfl (fun K hK => ?_); go_simp; refine hK _ _ ?_; clear hK K; refine wpList_plain rfl (fun K hK => ?_); go_simp; refine hK _ _ ?_; clear hK K; refine wpList_append_run _ rfl _ _ 66 rfl (.slice (some ⟨gb2, 0, none⟩) m cb2) (.slice (some ⟨wi.heap.size, 0, none⟩) 1 1) rfl rfl hr ?_
         clear hr; go_wp2; go_roundw
         case rel => exact ⟨g', c', m + 1, rfl, by omega, by omega, HPN⟩
         case measure => simp [slen]; omega
        ·obtain rfl : m = lp := by omega
         clear hml; obtain ⟨ra, hA, hra⟩ := HPD.out.oa.ex; obtain ⟨rb, hB, hrb⟩ := HPD.out.ob.ex; obtain ⟨c0, c1, c2, c3, c4, _⟩ := stp_cells HPD.out.os; have HAP := zh (apply_any w.heap.size ga gb2 ca cb2 m u0 u1 v0 v1 p q P R odd _ _ ra rb wi hA hB HLP.out (pad_len HLQ.out hm1) (dg_dig p) (pad_dig q _) (val_dg p) (pad_val q _) (by omega) hu0 hu1 hv0 hv1 HL.out HPD.out.nea HGA.out HPD.out.lb); rw [HLP.out] at hra; rw [pad_len HLQ.out hm1] at hrb; have HRA := zh hra; have HRB := zh hrb
         have HTR : Hid (∀ (g c : Nat) (zs r : List Nat) (V : World), Blk V g 118 (warr (zs ++ r)) → zs.length = m → m + r.length = c → Dig zs → Calls Tryz.prog 88 #[.slice (some ⟨g, 0, none⟩) m c] V fun e w' => e = .returned (.slice (some ⟨g, 0, none⟩) (dg (val zs)).length c) ∧ V = w') := zh (fun g c zs r V hB hl hc hd => by
          have := trim_n (some ⟨g, 0, none⟩) c zs V (sets_pre hB rfl) hd (by omega) (by omega); rw [hl] at this
          exact this.mono fun e w' h => ⟨h.1, h.2.1⟩)
         clear hA hB hra hrb
         go_upto_region 14 with (go_at_call 87; refine HAP.out.mono ?_; rintro e w8 ⟨rfl, zs, ws, hzl, hwl, hzd, hwd, hzP, hwR, hA8, hB8, hb8⟩; have HA8 := zh hA8; have HB8 := zh hB8; have Hb8 := zh hb8; have HT1 := zh (HTR.out ga ca zs ra w8 hA8 hzl HRA.out hzd); have HT2 := zh (HTR.out gb2 cb2 ws rb w8 hB8 hwl HRB.out hwd); rw [hzP] at HT1; rw [hwR] at HT2; have HZ8 := zh (And.intro hzl (And.intro hwl (And.intro hzd (And.intro hwd (And.intro hzP hwR))))); clear hA8 hB8 hb8 hzl hwl hzd hwd hzP hwR)
         obtain ⟨lP, hlP⟩ := eqx ((dg P).length); obtain ⟨lR, hlR⟩ := eqx ((dg R).length); rw [hlP] at HT1; rw [hlR] at HT2
         have HNEW : Hid ((dg P).length = lP ∧ (dg R).length = lR ∧ GcM w.heap.size G N w w8 ga ca (some ⟨gb2, 0, none⟩) cb2 P R) := zh (by
          obtain ⟨z1, z2, z3, z4, z5, z6⟩ := HZ8.out; refine ⟨hlP, hlR, HM5.out.app (HPD.out.below.trans Hb8.out) HL.out ?_ ?_ HPD.out.lb HPD.out.nea⟩
          ·have := pad_trim HA8.out z3 (by rw [z1]; exact HRA.out) HPD.out.oa.le
           rwa [z5] at this
          ·have := pad_trim HB8.out z4 (by rw [z2]; exact HRB.out) HPD.out.ob.le
           rwa [z6] at this)
         have hP1 : lR ≤ lP := by rw [← hlP, ← hlR]; exact Go.Bw.dg_len_mono (Nat.le_of_lt HL.out.lt)
         have hP2 : lP ≤ m := by
          rw [← hlP, ← HLP.out]; exact Go.Bw.dg_len_mono (Nat.le_trans HL.out.le HS.out.2.2.le)
         clear hlP hlR HZ8 HA8 HB8 HTR HAP c0 c1 c2 c3 c4; refine wp_region_list ?_; refine wpList_plain rfl (fun K hK => ?_); go_simp; refine hK _ _ ?_; clear hK K; refine wpList_plain rfl (fun K hK => ?_); go_simp
         go_at_call 88
         refine HT1.out.mono ?_; rintro e w9 ⟨rfl, rfl⟩; refine hK _ _ ?_; clear hK K; refine wpList_plain rfl (fun K hK => ?_); go_simp; refine hK _ _ ?_; clear hK K; refine wpList_plain rfl (fun K hK => ?_); go_simp
         go_at_call 88
         refine HT2.out.mono ?_; rintro e w9 ⟨rfl, rfl⟩; refine hK _ _ ?_; clear hK K; refine wpList_plain rfl (fun K hK => ?_); go_simp; refine hK _ _ ?_; clear hK K; refine wpList_plain rfl (fun K hK => ?_); go_simp; refine hK _ _ ?_; clear hK K
         have HM2 := zh (show rdw w8 (.slice (some ⟨gb2, 0, none⟩) lR cb2) < rdw wo (.slice (some ⟨gb, 0, none⟩) lq cb) from by
          rw [HM.out, ← HNEW.out.2.1, HNEW.out.2.2.rd]; have := HL.out.lt; have := HL.out.le
          omega)
         clear HT1 HT2 HPD; simp only [wpList]; refine And.intro ?_ HM2.out; exact ⟨_, _, _, _, _, _, _, _, _, _, _, _, _, _, _, _, _, _, _, _, _, _, _, _, _, _, _, _, _, _, _, _, _, _, _, _, _, _, _, ⟨ga, ca, cb2, P, R, lP, lR, some ⟨gb2, 0, none⟩, rfl, rfl, by omega, hP1, HNEW⟩, rfl⟩
     ·obtain ⟨h1, h2, hS⟩ := HS.out; have d1 : decide ((1 : Int) < (lq : Int)) = false := dF (by omega); have d2 : decide (1 < lq) = false := dF hq2
      by_cases hq0 : lq = 0
      ·have HR : Hid (Q (.returned (.slice (some ⟨ga, 0, none⟩) lp ca)) wo) := zh (by
        have e : q = 0 := len_zero (h2.trans hq0); have hg := hS.gcd; rw [e, Nat.gcd_zero_right] at hg; rw [← h1]; rw [hg]
        exact HRQ.out _ _ ⟨_, _, rfl, by have := hS.oa.nw; rwa [hg] at this, hS.below⟩)
       clear h1 h2 hS HS HM HRQ HT; subst hq0; go_wp2; exact HR.out
      ·obtain rfl : lq = 1 := by omega
       have hq1 : 0 < q := by
        rcases Nat.eq_zero_or_pos q with h | h
        ·rw [h, dg_zero] at h2; simp at h2
        ·exact h
       have hqB : q < 18446744073709551616 := by
        have := val_lt_dg q
        rwa [h2, Nat.pow_one] at this
       have hr : p % q < q := Nat.mod_lt _ hq1; obtain ⟨gb2, rfl, hPB, hgb2, hab⟩ := hS.ob hq1; obtain ⟨rb, hBk, _⟩ := hPB.ex
       have c0 : wo.cell? ⟨gb2, 0, none⟩ = some (.int .u64 (q : Nat)) := by
        have := hBk.cell 0; rw [dg_small (by omega) hqB] at this; exact this
       have K1 : Hid (∀ V, Below wo.heap.size wo V → Calls Tryz.prog 91 #[.slice (some ⟨ga, 0, none⟩) lp ca, .int .u64 (q : Nat)] V fun e w' => e = .returned (.int .u64 (p % q : Nat)) ∧ Below V.heap.size V w') := zh (fun V hV => by
        have := rw_any (some ⟨ga, 0, none⟩) ca q (dg p) V (hS.oa.keep hV).sets (dg_dig p) hq1 hqB (by omega); unfold RetRw at this
        rwa [h1, val_dg] at this)
       have hGq : Nat.gcd q (p % q) = G := by rw [Nat.gcd_comm, ← hS.gcd, Nat.gcd_comm p q, Nat.gcd_rec q p]
       have hGB : G < 18446744073709551616 := by
        rw [← hGq]; exact Nat.lt_of_le_of_lt (Nat.gcd_le_left _ hq1) hqB
       have K2 : Hid (∀ V, Below wo.heap.size wo V → Calls Tryz.prog 90 #[.int .u64 (q : Nat), .int .u64 (p % q : Nat)] V fun e w' => e = .returned (.int .u64 (G : Nat)) ∧ V = w') := zh (fun V hV => by
        have := gword_any q (p % q) V hqB (by omega) (by omega) (HT.out.below (hS.below.trans (hV.mono (by have := hS.la; have := hS.oa.lt; omega))) HT.out.1)
        rwa [hGq] at this)
       have K3 : Hid (∀ V, Below wo.heap.size wo V → Calls Tryz.prog 89 #[.int .u64 (G : Nat)] V fun e w' => ∃ v, e = .returned v ∧ Hid (Q (.returned v) w') ∧ Below V.heap.size V w') := zh (fun V hV => by
        refine (fw_any G V hGB).mono ?_; rintro e w' ⟨R, c, rfl, hN, hb⟩
        exact ⟨_, rfl, zh (HRQ.out _ _ ⟨R, c, rfl, hN, (hS.below.trans (hV.mono (by have := hS.la; have := hS.oa.lt; omega))).trans (hb.mono (by have := hS.below.size; have := hV.size; omega))⟩), hb⟩)
       generalize p % q = r at *; clear h1 h2 hS HS HM HRQ HT hq1 hr hPB hgb2 hab hBk hGq hGB hqB hq2 hq0; go_upto_region 17 with (fail); have hbe : Below wo.heap.size wo wo.drew := brf.drew
       go_region_held3 (fun w' => w'.cell? ⟨gb2, 0, none⟩ = some (.int .u64 (q : Nat))) (first | go_keep | exact keep_cell hbe c0)
         (first
           | (go_at_call 91; refine (K1.out _ (by assumption)).mono ?_; rintro e w' ⟨rfl, hb9⟩; have hbe := below_all hbe hb9; clear hb9)
           | (go_at_call 90; refine (K2.out _ (by assumption)).mono ?_; rintro e w' ⟨rfl, rfl⟩)
           | (go_at_call 89; refine (K3.out _ (by assumption)).mono ?_; rintro e w' ⟨v, rfl, hQ9, hb9⟩; have hbe := below_all hbe hb9; clear hb9))
       all_goals
         go_wp2; exact hQ9.out
end
end Go.Proofs.Tg.Iw
