/- Parts of the proof: IL7, JB2. -/
import Derived.Test.YtbgaiceakmmfdaaGreatDoorMMR0
import Derived.Test.YtbgaiceakmmfdaaGreatDoorMMR7
import Derived.Test.YtbgaiceakmmfdaaGreatDoorMMR11
import Derived.Test.YtbgaiceakmmfdaaGreatDoorMMR12
import Derived.Test.YtbgaiceakmmfdaaGreatDoorMMR17
set_option maxHeartbeats 64000000
set_option maxRecDepth 100000
namespace Go.Proofs.Tg.Iw
section
open Go.RowKit Go.Bw Go.Gr Go.Proofs.Tg
theorem word_append' (w : World) (g c d k x : Nat) (ys : List Nat) (hP : PadW w g c ys) (hk : w.cell? ⟨k, 0, none⟩ = some (.int .u64 (x : Nat))) (hn : ys.length ≤ 1000000) :
    ∃ g' c' w', (Builtin.append_ #[66, 66] 66 #[.slice (some ⟨g, 0, none⟩) ys.length c, .slice (some ⟨k, 0, none⟩) 1 d]).run Tryz.prog w = .ok (.slice (some ⟨g', 0, none⟩) (ys.length + 1) c') w' ∧ PadW w' g' c' (ys ++ [x]) ∧ w.grownBy w' (some g) ∧ (g' = g ∨ g' = w.heap.size) := by
  obtain ⟨i0, hi0, hz0, hz1, hz2⟩ := info_parts u64_info; obtain ⟨rs, hB, hl⟩ := hP.ex
  have hsrc : Src Tryz.prog i0.size 66 (.slice (some ⟨k, 0, none⟩) 1 d) 1 [.int .u64 (x : Nat)] w := by
   rw [hz1]; refine Src.ofSlice w Tryz.underlying66 ⟨k, 0, none⟩ 1 d [.int .u64 (x : Nat)] rfl (fun j u hu => ?_) (by simp [Value.oneCell'])
   cases j with
   | zero => simp at hu; subst hu; simpa [Addr.add] using hk
   | succ j => simp at hu
  by_cases hroom : ys.length + 1 ≤ c
  ·have hr := run_append_room_src (P := Tryz.prog) w 66 66 66 118 i0 Tryz.underlying66 hi0 g 0 ys.length c _ 1 [.int .u64 (x : Nat)] hsrc hroom (fun j hj => by
    rw [hz1, hB.cell]
    have : j = 0 := by simpa using hj
    subst this; have hs := warr_size (ys ++ rs); simp at hs; simp [hs]
    omega) (fun j _ => hB.frozen _)
   rw [hz1] at hr
   have e : w.setCells g (0 + ys.length * 1) [.int .u64 (x : Nat)] = w.setCell ⟨g, ys.length, none⟩ (.int .u64 ((x : Nat) : Int)) := by
    rw [Nat.zero_add, Nat.mul_one]; rfl
   rw [e] at hr
   obtain ⟨r0, rs', hrs⟩ : ∃ r0 rs', rs = r0 :: rs' := by
    cases rs with
    | nil => simp at hl; omega
    | cons a l => exact ⟨a, l, rfl⟩
   subst hrs; have hB2 := hB.set ys.length (.int .u64 ((x : Nat) : Int)); rw [warr_set, List.set_append_right _ _ (Nat.le_refl _), Nat.sub_self, List.set_cons_zero] at hB2; refine ⟨g, c, _, hr, ⟨⟨rs', by rw [List.append_assoc]; exact hB2, by simp at hl ⊢; omega⟩, hP.le⟩, ?_, .inl rfl⟩; exact ⟨rfl, rfl, rfl, by simp [World.setCell], fun k' _ hne => Below.heap_setCell w ⟨g, ys.length, none⟩ _ k' (fun e => hne (by rw [e]))⟩
  ·have hr := run_append_grow_src (P := Tryz.prog) w 66 66 66 118 i0 (.int .u64 0) Tryz.underlying66 hi0 hz0 (some ⟨g, 0, none⟩) ys.length c (ys.map vs)
     (by
      rw [hz1]; refine run_firstCells_some _ 1 ys.length ⟨g, 0, none⟩ ys.length c (ys.map vs) (by simp) (fun j x hx => ?_); rw [add_lit, Nat.zero_add, World.cell?_drew, hB.cell]; unfold warr; rw [List.getElem?_toArray, List.map_append, List.getElem?_append_left (List.getElem?_eq_some_iff.1 hx).1]
      exact hx) _ 1 [.int .u64 (x : Nat)] hsrc (by omega) (by omega) (growslice_fits (by omega) (by rw [hz2]; omega))
   have hge := grownCap_ge w (ys.length + 1) c 118; have hcm : grownCap w (ys.length + 1) c 118 ≤ maxLen := grownCap_le_maxLen w (ys.length + 1) c 118 (by simp only [maxLen]; omega); generalize grownCap w (ys.length + 1) c 118 = cap at *; refine ⟨w.heap.size, cap, _, hr, ⟨⟨List.replicate (cap - (ys.length + 1)) 0, ?_, by simp; omega⟩, hcm⟩, ⟨rfl, rfl, rfl, by simp, fun k hk _ => heap_alloc_old w.drew _ hk⟩, .inr rfl⟩; rw [zero_words]; have := Blk.new w.drew 118 ((ys.map vs ++ [Value.int .u64 (x : Nat)]).toArray ++ warr (List.replicate (cap - (ys.length + 1)) 0))
   have e : (ys.map vs ++ [Value.int .u64 (x : Nat)]).toArray = warr (ys ++ [x]) := by simp [warr, vs]
   rw [e, warr_app] at this; rw [e, warr_app]; exact this
theorem word_append (w : World) (A : Option Addr) (c d k x base : Nat) (ys : List Nat) (h0 : ys.length = 0 → A = none ∧ c = 0) (hP : 0 < ys.length → ∃ g, A = some ⟨g, 0, none⟩ ∧ PadW w g c ys ∧ base ≤ g) (hk : w.cell? ⟨k, 0, none⟩ = some (.int .u64 (x : Nat))) (hn : ys.length ≤ 1000000) (hb : base ≤ w.heap.size) :
    ∃ g' c' w', (Builtin.append_ #[66, 66] 66 #[.slice A ys.length c, .slice (some ⟨k, 0, none⟩) 1 d]).run Tryz.prog w = .ok (.slice (some ⟨g', 0, none⟩) (ys.length + 1) c') w' ∧ PadW w' g' c' (ys ++ [x]) ∧ Below base w w' ∧ base ≤ g' := by
  rcases Nat.eq_zero_or_pos ys.length with h | h
  ·obtain ⟨rfl, rfl⟩ := h0 h; have e := List.eq_nil_of_length_eq_zero h; subst e; obtain ⟨i0, hi0, hz0, hz1, hz2⟩ := info_parts u64_info
   have hsrc : Src Tryz.prog i0.size 66 (.slice (some ⟨k, 0, none⟩) 1 d) 1 [.int .u64 (x : Nat)] w := by
    rw [hz1]; refine Src.ofSlice w Tryz.underlying66 ⟨k, 0, none⟩ 1 d [.int .u64 (x : Nat)] rfl (fun j u hu => ?_) (by simp [Value.oneCell'])
    cases j with
    | zero => simp at hu; subst hu; simpa [Addr.add] using hk
    | succ j => simp at hu
   have hr := run_append_grow_src (P := Tryz.prog) w 66 66 66 118 i0 (.int .u64 0) Tryz.underlying66 hi0 hz0 none 0 0 [] (by rw [hz1]; exact run_firstCells_none _ _ _ _ _) _ 1 [.int .u64 (x : Nat)] hsrc (by omega) (by omega) (growslice_fits (by omega) (by rw [hz2]; omega)); have hge := grownCap_ge w (0 + 1) 0 118; have hcm : grownCap w (0 + 1) 0 118 ≤ maxLen := grownCap_le_maxLen w (0 + 1) 0 118 (by simp only [maxLen]; omega); generalize grownCap w (0 + 1) 0 118 = cap at *; refine ⟨w.heap.size, cap, _, hr, ⟨⟨List.replicate (cap - (0 + 1)) 0, ?_, by simp; omega⟩, hcm⟩, ⟨rfl, rfl, rfl, by simp, fun k hk => heap_alloc_old w.drew _ (by show k < w.heap.size; omega)⟩, hb⟩; rw [zero_words]; have := Blk.new w.drew 118 ((([] : List Value) ++ [Value.int .u64 (x : Nat)]).toArray ++ warr (List.replicate (cap - (0 + 1)) 0))
   have e : (([] : List Value) ++ [Value.int .u64 (x : Nat)]).toArray = warr ([] ++ [x]) := by simp [warr, vs]
   rw [e, warr_app] at this; rw [e, warr_app]; exact this
  ·obtain ⟨g, rfl, hPw, hg⟩ := hP h; obtain ⟨g', c', w', h1, h2, h3, h4⟩ := word_append' w g c d k x ys hPw hk hn; exact ⟨g', c', w', h1, h2, grown_base h3 hb hg, by omega⟩
theorem dg_of_len {zs : List Nat} (hd : Dig zs) (h : zs.length ≤ (dg (val zs)).length) : zs = dg (val zs) := by
 obtain ⟨h1, h2⟩ := Go.Bw.tzl_dg hd
 rw [h2, List.take_of_length_le h] at h1
 exact h1
structure PsL (base : Nat) (w0 wr : World) (A : Option Addr) (c : Nat) (xs : List Nat) (p v k cy : Nat) : Prop where
  below : Below base w0 wr
  ex : ∃ zs, zs.length = k ∧ Dig zs ∧ val zs + B ^ k * cy = val (xs.take k) * p + v ∧ (0 < xs.length → ∃ g ra, A = some ⟨g, 0, none⟩ ∧ base ≤ g ∧ Blk wr g 118 (warr (zs ++ (xs.drop k ++ ra))) ∧ xs.length + ra.length = c)
  le : c ≤ maxLen
structure PsM (base : Nat) (w0 wr : World) (A : Option Addr) (c m : Nat) : Prop where
  below : Below base w0 wr
  nil : m = 0 → A = none ∧ c = 0
  pos : 0 < m → ∃ g, A = some ⟨g, 0, none⟩ ∧ PadW wr g c (dg m) ∧ base ≤ g
theorem PsM.start {base c m p v : Nat} {w0 wr wr' : World} {A : Option Addr} (h : PsM base w0 wr A c m) (hs : base ≤ wr.heap.size) (hb : Below wr.heap.size wr wr') (hc : c ≤ maxLen) : PsL base w0 wr' A c (dg m) p v 0 v := by
 refine ⟨h.below.trans (hb.mono hs), ⟨[], rfl, by simp [Dig], by simp [val], fun hl => ?_⟩, hc⟩
 have hm : 0 < m := by
  rcases Nat.eq_zero_or_pos m with h | h
  ·rw [h, dg_zero] at hl; simp at hl
  ·exact h
 obtain ⟨g, h1, h2, h3⟩ := h.pos hm
 obtain ⟨ra, h4, h5⟩ := (h2.keep hb).ex
 exact ⟨g, ra, h1, h3, by simpa using h4, h5⟩
theorem PsL.done {base c m p v : Nat} {w0 wr : World} {A : Option Addr} (h : PsL base w0 wr A c (dg m) p v (dg m).length 0) (hp : 0 < p) (h0 : m = 0 → A = none ∧ c = 0) : PsM base w0 wr A c (m * p + v) ∧ (dg (m * p + v)).length = (dg m).length := by
 obtain ⟨zs, h1, h2, h3, h4⟩ := h.ex
 rw [Nat.mul_zero, Nat.add_zero, List.take_of_length_le (Nat.le_refl _), val_dg] at h3
 rcases Nat.eq_zero_or_pos m with hm | hm
 ·subst hm
  have hz : zs = [] := List.eq_nil_of_length_eq_zero (by rw [h1, dg_zero]; rfl); subst hz; simp only [val, Nat.zero_mul, Nat.zero_add] at h3; subst h3; exact ⟨⟨h.below, fun _ => h0 rfl, fun h => absurd h (by omega)⟩, by simp⟩
 ·have hl : 0 < (dg m).length := (Nat.pos_of_ne_zero fun e => by have := len_zero e; omega)
  obtain ⟨g, ra, e, hg, hB, hc⟩ := h4 hl; have hmp : m ≤ m * p + v := Nat.le_trans (Nat.le_mul_of_pos_right m hp) (Nat.le_add_right _ _)
  have hzs : zs = dg (m * p + v) := by
   have := dg_of_len h2 (by rw [h3, h1]; exact Go.Bw.dg_len_mono hmp)
   rwa [h3] at this
  refine ⟨⟨h.below, fun h => absurd h (by omega), fun _ => ⟨g, e, ⟨⟨ra, ?_, ?_⟩, h.le⟩, hg⟩⟩, by rw [← hzs, h1]⟩
  ·rw [List.drop_of_length_le (Nat.le_refl _), List.nil_append] at hB
   rwa [← hzs]
  ·rw [← hzs, h1]; exact hc
theorem PsL.push {base c m p v cy : Nat} {w0 wr wa : World} {A : Option Addr} (h : PsL base w0 wr A c (dg m) p v (dg m).length cy) (hcy : cy ≠ 0) (hcB : cy < B) (ha : Below wr.heap.size wr wa) (hbs : base ≤ wr.heap.size) (h0 : m = 0 → A = none ∧ c = 0) {k d : Nat} (hk : wa.cell? ⟨k, 0, none⟩ = some (.int .u64 (cy : Nat))) (hn : (dg m).length ≤ 1000000) :
    ∃ g' c' w', (Builtin.append_ #[66, 66] 66 #[.slice A (dg m).length c, .slice (some ⟨k, 0, none⟩) 1 d]).run Tryz.prog wa = .ok (.slice (some ⟨g', 0, none⟩) (dg (m * p + v)).length c') w' ∧ PsM base w0 w' (some ⟨g', 0, none⟩) c' (m * p + v) ∧ c' ≤ maxLen := by
  obtain ⟨zs, h1, h2, h3, h4⟩ := h.ex; rw [List.take_of_length_le (Nat.le_refl _), val_dg] at h3
  have hd2 : Dig (zs ++ [cy]) := by
   intro x hx
   rcases List.mem_append.1 hx with h | h
   ·exact h2 x h
   ·simp at h; subst h; exact hcB
  have hv : val (zs ++ [cy]) = m * p + v := by rw [val_snoc, h1, h3]
  have hvB : B ^ (dg m).length ≤ m * p + v := by
   rw [← h3]; have : B ^ (dg m).length * 1 ≤ B ^ (dg m).length * cy := Nat.mul_le_mul_left _ (by omega); omega
  have hlen : (dg (m * p + v)).length = (dg m).length + 1 := by
   refine dg_len_eq ?_ (fun _ => by simpa using hvB); have := val_lt hd2; rw [hv] at this; simpa [h1] using this
  have hzs : zs ++ [cy] = dg (m * p + v) := by
   have := dg_of_len hd2 (by rw [hv, hlen]; simp [h1])
   rwa [hv] at this
  have hm0 : m * p + v ≠ 0 := by
   have : 0 < B ^ (dg m).length := Nat.pow_pos (by decide); omega
  obtain ⟨g', c', w', r1, r2, r3, r4⟩ := word_append wa A c d k cy base zs (fun hz => h0 (by
   rw [h1] at hz; exact len_zero hz)) (fun hz => by
   obtain ⟨g, ra, e, hg, hB, hc⟩ := h4 (by omega); rw [List.drop_of_length_le (Nat.le_refl _), List.nil_append] at hB
   exact ⟨g, e, ⟨⟨ra, hB.keep ha hB.lt, by omega⟩, h.le⟩, hg⟩) hk (by omega) (by have := ha.size; omega)
  rw [h1] at r1; rw [hzs] at r2; refine ⟨g', c', w', by rw [hlen]; exact r1, ⟨(h.below.trans (ha.mono hbs)).trans r3, fun h => absurd h hm0, fun _ => ⟨g', rfl, r2, r4⟩⟩, r2.le⟩
theorem PsL.next {base c p v k cy x : Nat} {w0 wr : World} {A : Option Addr} {xs : List Nat} (h : PsL base w0 wr A c xs p v k cy) (hk : k < xs.length) (hx : xs[k] = x) (hdx : Dig xs) (hp : p < B) (hcy : cy < B) :
    ∃ g, A = some ⟨g, 0, none⟩ ∧ wr.cell? ⟨g, k, none⟩ = some (.int .u64 (x : Nat)) ∧ wr.frozen? ⟨g, k, none⟩ = false ∧ x < B ∧ (x * p + cy) / B < B ∧ PsL base w0 (wr.setCell ⟨g, k, none⟩ (.int .u64 ((x * p + cy) % B : Nat))) A c xs p v (k + 1) ((x * p + cy) / B) := by
  obtain ⟨zs, h1, h2, h3, h4⟩ := h.ex; obtain ⟨g, ra, e, hg, hB, hc⟩ := h4 (by omega)
  have hxB : x < B := by rw [← hx]; exact hdx _ (List.getElem_mem hk)
  have hcb : (x * p + cy) / B < B := by
   apply Nat.div_lt_of_lt_mul; have h1 : x * p ≤ (B - 1) * (B - 1) := Nat.mul_le_mul (by omega) (by omega)
   have h2 : (B - 1) * (B - 1) + B ≤ B * B := by decide
   omega
  refine ⟨g, e, ?_, hB.frozen _, hxB, hcb, ⟨below_far h.below hg _ _, ⟨zs ++ [(x * p + cy) % B], by simp [h1], ?_, ?_, fun _ => ⟨g, ra, e, hg, ?_, hc⟩⟩, h.le⟩⟩
  ·rw [hB.cell]; unfold warr; rw [List.getElem?_toArray, List.getElem?_map, front_get h1 hk, hx]
   rfl
  ·intro y hy
   rcases List.mem_append.1 hy with h | h
   ·exact h2 y h
   ·simp at h; subst h; exact Nat.mod_lt _ (by decide)
  ·rw [val_snoc, h1, val_snoc_take hk, hx, pow_snoc]; have hs := Nat.mod_add_div (x * p + cy) B
   have e1 : B ^ k * ((x * p + cy) % B) + B ^ k * B * ((x * p + cy) / B) = B ^ k * (x * p + cy) := by
    rw [Nat.mul_assoc, ← Nat.mul_add, hs]
   rw [Nat.mul_add, ← Nat.mul_assoc] at e1; rw [Nat.add_mul, Nat.mul_assoc (B ^ k) x p, ← Nat.mul_assoc (B ^ k) x p]; omega
  ·have := hB.set k (.int .u64 ((x * p + cy) % B : Nat))
   rwa [warr_set, front_set h1 hk] at this
end
end Go.Proofs.Tg.Iw
section
namespace Go.Proofs.Tg.Fi
open Go.RowKit Go.Proofs.Tg
theorem TxS.tk {w w' : World} {A : Option Addr} {c g : Nat} {l : List UInt8} (h : TxS w A c l) (hk : Tk g w w') (hA : ∀ ad, A = some ad → ad.block ≠ g) : TxS w' A c l :=
  ⟨h.nil, fun ad e => by
   obtain ⟨b, e2, ⟨cs, B, r⟩, U⟩ := h.own ad e; have hne := hA ad e; rw [e2] at hne; have hs := hk.block b B.lt (by intro e3; injection e3 with e3; exact hne e3)
   exact ⟨b, e2, ⟨cs, hs.trans B, r⟩, U.same hs⟩, h.cap⟩
theorem TxS.lt {w : World} {A : Option Addr} {c : Nat} {l : List UInt8} (h : TxS w A c l) : ∀ ad, A = some ad → ad.block < w.heap.size := fun ad e => by
 obtain ⟨g, rfl, B, _⟩ := h.own ad e
 exact B.lt
theorem TxR.tk {A A' : Option Addr} {w w' w'' : World} {g : Nat} (h : TxR A w A' w') (hk : Tk g w' w'') (hg : w.heap.size ≤ g) : TxR A w A' w'' :=
  ⟨⟨hk.os.trans h.kept.os, hk.tape.trans h.kept.tape, hk.output.trans h.kept.output, Nat.le_trans h.kept.size hk.size, fun k hl hn => by
   rw [hk.block k (Nat.lt_of_lt_of_le hl h.kept.size) (by intro e; injection e with e; omega), h.kept.block k hl hn]⟩, h.at'⟩
theorem TxR.then {A A' : Option Addr} {w w' w'' : World} (h : TxR A w A' w') (hk : Below w'.heap.size w' w'') : TxR A w A' w'' := h.trans (TxR.of hk)
theorem Buf.nil {w : World} {g N : Nat} {t : TypeId} {xs : List Value} (h : Buf w g t N xs) : Buf w g t N [] := by
 obtain ⟨cs, B, h1, _⟩ := h.ex
 exact ⟨cs, B, h1, by simp⟩
theorem Buf.kept {w w' : World} {g N : Nat} {t : TypeId} {xs : List Value} {r : Option Nat} (h : Buf w g t N xs) (hk : w.grownBy w' r) (hne : some g ≠ r) : Buf w' g t N xs := by
 obtain ⟨cs, B, h1⟩ := h.ex
 exact ⟨cs, (hk.block g B.lt hne).trans B, h1⟩
theorem Buf.src {w : World} {g N : Nat} {t : TypeId} {l : List UInt8} (h : Buf w g t N (Lib.byteCells l)) (c : Nat) : Src Tryz.prog 1 91 (.slice (some ⟨g, 0, none⟩) l.length c) l.length (Lib.byteCells l) w := by
 obtain ⟨cs, B, hsz, ht⟩ := h.ex
 refine Src.ofSlice (P := Tryz.prog) (w := w) (size := 1) (tx := 91) Tryz.underlying91 ⟨g, 0, none⟩ l.length c (Lib.byteCells l) (by rw [Lib.byteCells_length]; omega) (fun j u hu => ?_) (by intro u' hu'; simp only [Lib.byteCells, List.mem_map] at hu'; obtain ⟨b, _, rfl⟩ := hu'; rfl)
 rw [add_lit, Nat.zero_add, B.cell]
 have hj := (List.getElem?_eq_some_iff.1 hu).1
 rw [← ht, List.getElem?_take, if_pos hj] at hu
 rw [← hu, Array.getElem?_toList]
theorem byte_src (w : World) (b : UInt8) : Src Tryz.prog 1 91 (.slice (some ⟨w.heap.size, 0, none⟩) 1 1) 1 (Lib.byteCells [b]) (w.alloc (.cells #[.int .u8 (b.toNat : Int)] 5)) :=
  Src.ofSlice (P := Tryz.prog) (size := 1) (tx := 91) _ Tryz.underlying91 ⟨w.heap.size, 0, none⟩ 1 1 (Lib.byteCells [b]) rfl (cells_new w 5 [.int .u8 (b.toNat : Int)]) (by simp [Lib.byteCells, Value.oneCell'])
end Go.Proofs.Tg.Fi
namespace Go.Proofs.Tg.Iw
open Go.RowKit Go.Bw Go.Gr Go.Proofs.Tg
open Go.Proofs.Tg.Fi (TxS TxR Buf RetTa RetBuf txs_append byte_src PT)
theorem PadW.keepB {w w' : World} {g c B : Nat} {ys : List Nat} (h : PadW w g c ys) (hb : Below B w w') (hg : g < B) : PadW w' g c ys := by
 obtain ⟨rs, h1, h2⟩ := h.ex
 exact ⟨⟨rs, (hb.block g hg).trans h1, h2⟩, h.le⟩
structure LpM (w0 : World) (A0 : Option Addr) (gc cc gb : Nat) (cs : List Nat) (ds : List UInt8) (wr : World) (A : Option Addr) (c : Nat) (l : List UInt8) : Prop where
  tx : TxS wr A c l
  rel : TxR A0 w0 A wr
  ch : PadW wr gc cc cs
  buf : Buf wr gb 175 20 (Lib.byteCells ds)
  sep : ∀ ad, A = some ad → ad.block ≠ gc ∧ ad.block ≠ gb
  ne : gc ≠ gb
  lo : w0.heap.size ≤ gb
theorem LpM.keep {w0 wr w' : World} {A0 A : Option Addr} {gc cc gb c : Nat} {cs : List Nat} {ds l : List UInt8} (h : LpM w0 A0 gc cc gb cs ds wr A c l) (hb : Below wr.heap.size wr w') : LpM w0 A0 gc cc gb cs ds w' A c l :=
  ⟨h.tx.keep hb, h.rel.then hb, h.ch.keep hb, h.buf.keep hb, h.sep, h.ne, h.lo⟩
theorem LpM.app {w0 wr : World} {A0 A : Option Addr} {gc cc gb c n : Nat} {cs : List Nat} {ds l m : List UInt8} (h : LpM w0 A0 gc cc gb cs ds wr A c l) (tx ty : TypeId) (x : Value) (hs : Src Tryz.prog 1 tx x n (Lib.byteCells m) wr) (hn : m.length = n) (h1 : 0 < n) (hb : l.length + n ≤ 10000000) :
    ∃ A' c' w', (Builtin.append_ #[91, tx] ty #[.slice A l.length c, x]).run Tryz.prog wr = .ok (.slice A' (l.length + n) c') w' ∧ LpM w0 A0 gc cc gb cs ds w' A' c' (l ++ m) := by
  obtain ⟨A', c', w', hr, hT, hR⟩ := txs_append h.tx tx ty x hs hn h1 hb; have hgc := h.ch.lt; have hgb := h.buf.lt
  have nc : some gc ≠ A.map Addr.block := by
   cases A with
   | none => simp
   | some ad => intro e; injection e with e; exact (h.sep ad rfl).1 e.symm
  have nb : some gb ≠ A.map Addr.block := by
   cases A with
   | none => simp
   | some ad => intro e; injection e with e; exact (h.sep ad rfl).2 e.symm
  refine ⟨A', c', w', hr, hT, h.rel.trans hR, h.ch.grown hR.kept nc, h.buf.kept hR.kept nb, fun ad e => ?_, h.ne, h.lo⟩
  rcases hR.at' with e2 | ⟨g, e2, hg⟩
  ·exact h.sep ad (by rw [← e2]; exact e)
  ·rw [e] at e2
   injection e2 with e2
   subst e2; exact ⟨by show g ≠ gc; omega, by show g ≠ gb; omega⟩
theorem LpM.put {w0 wr w' : World} {A0 A : Option Addr} {gc cc gb c : Nat} {cs : List Nat} {ds l xs : List UInt8} {e : Ending} (h : LpM w0 A0 gc cc gb cs ds wr A c l) (hR : RetBuf gb 175 20 [] xs wr e w') :
    e = .returned (.slice (some ⟨gb, 0, none⟩) xs.length 20) ∧ LpM w0 A0 gc cc gb cs xs w' A c l := by
  obtain ⟨he, hB, hT⟩ := hR; rw [List.length_nil, Nat.zero_add] at he; rw [List.nil_append] at hB; exact ⟨he, h.tx.tk hT fun ad e => (h.sep ad e).2, h.rel.tk hT h.lo, h.ch.grown hT (by intro e; injection e with e; exact h.ne e), hB, h.sep, h.ne, h.lo⟩
theorem LpM.zero {w0 wr : World} {A0 A : Option Addr} {gc cc gb c : Nat} {cs : List Nat} {ds l : List UInt8} (h : LpM w0 A0 gc cc gb cs ds wr A c l) (hb : l.length + 1 ≤ 10000000) :
    ∃ A' c' w', (Builtin.append_ #[91, 91] 91 #[.slice A l.length c, .slice (some ⟨wr.heap.size, 0, none⟩) 1 1]).run Tryz.prog (wr.alloc (.cells #[.int .u8 48] 5)) = .ok (.slice A' (l.length + 1) c') w' ∧ LpM w0 A0 gc cc gb cs ds w' A' c' (l ++ [48]) :=
  (h.keep (bal)).app 91 91 _ (byte_src wr 48) rfl (by decide) hb
theorem txs_zero {w : World} {A : Option Addr} {c : Nat} {l : List UInt8} (h : TxS w A c l) (b : UInt8) (hb : l.length + 1 ≤ 10000000) :
    ∃ A' c' w', (Builtin.append_ #[91, 91] 91 #[.slice A l.length c, .slice (some ⟨w.heap.size, 0, none⟩) 1 1]).run Tryz.prog (w.alloc (.cells #[.int .u8 (b.toNat : Int)] 5)) = .ok (.slice A' (l.length + 1) c') w' ∧ TxS w' A' c' (l ++ [b]) ∧ TxR A w A' w' := by
  have hbw : Below w.heap.size w (w.alloc (.cells #[.int .u8 (b.toNat : Int)] 5)) := bal; obtain ⟨A', c', w', h1, h2, h3⟩ := txs_append (h.keep hbw) 91 91 _ (byte_src w b) rfl (by decide) hb; exact ⟨A', c', w', h1, h2, (TxR.of hbw).trans h3⟩
def CB : Nat := 10000000000000000000
theorem CB_eq : CB = 10 ^ 19 := by decide
theorem CB_pow (k : Nat) : CB ^ k = 10 ^ (19 * k) := by rw [CB_eq, Nat.pow_mul]
theorem ck_bound' {x k N : Nat} (hx : (dg x).length ≤ N) (h : x / CB ^ k ≠ 0) : 63 * k < 64 * N := by
 have h1 : x < B ^ N := Nat.lt_of_lt_of_le (val_lt_dg x) (Nat.pow_le_pow_right (by decide) hx)
 refine Nat.lt_of_not_le fun hk => h (Nat.div_eq_of_lt ?_)
 have h2 : (2 ^ 63) ^ k ≤ CB ^ k := Nat.pow_le_pow_left (by decide) k
 have h3 : B ^ N ≤ (2 ^ 63) ^ k := by
  rw [← Nat.pow_mul, show B = 2 ^ 64 from rfl, ← Nat.pow_mul]; exact Nat.pow_le_pow_right (by decide) hk
 omega
theorem ck_bound {x k : Nat} (hx : (dg x).length ≤ 1000) (h : x / CB ^ k ≠ 0) : k < 1016 := by
 have := ck_bound' hx h
 omega
structure CkM (w0 : World) (base ga cw x : Nat) (wr : World) (y : Nat) (cs : List Nat) (C : Option Addr) (cc : Nat) : Prop where
  below : Below w0.heap.size w0 wr
  work : PadW wr ga cw (dg y)
  eq : y = x / CB ^ cs.length
  at' : ∀ i (h : i < cs.length), cs[i] = x / CB ^ i % CB
  last : 0 < cs.length → x / CB ^ (cs.length - 1) ≠ 0
  nil : cs.length = 0 → C = none ∧ cc = 0
  pos : 0 < cs.length → ∃ g, C = some ⟨g, 0, none⟩ ∧ PadW wr g cc cs ∧ base ≤ g
  lo : w0.heap.size ≤ ga
  hi : ga < base
  size : base ≤ wr.heap.size
structure DiM (w1 : World) (ga : Nat) (ra ys : List Nat) (wr : World) (i r : Nat) (qs : List Nat) : Prop where
  len : qs.length + i = ys.length
  dig : Dig qs
  lt : r < CB
  eq : val (ys.drop i) = CB * val qs + r
  blk : Blk wr ga 118 (warr (ys.take i ++ (qs ++ ra)))
  only : Tk ga w1 wr
theorem DiM.start {w1 : World} {ga : Nat} {ra ys : List Nat} (hB : Blk w1 ga 118 (warr (ys ++ ra))) : DiM w1 ga ra ys w1 ys.length 0 [] :=
  ⟨by simp, fun _ h => by simp at h, by decide, by rw [List.drop_length]; simp [val], by rw [List.take_length, List.nil_append]; exact hB, Tk.refl _ _⟩
theorem DiM.keep {w1 wr wz : World} {ga i r : Nat} {ra ys qs : List Nat} (s : DiM w1 ga ra ys wr i r qs) (hb : Below wr.heap.size wr wz) : DiM w1 ga ra ys wz i r qs := ⟨s.len, s.dig, s.lt, s.eq, s.blk.keep hb s.blk.lt, s.only.then hb⟩
theorem DiM.next {w1 wr : World} {ga j r : Nat} {ra ys qs : List Nat} (s : DiM w1 ga ra ys wr (j + 1) r qs) (hj : j < ys.length) (hx : ys[j] < B) :
    DiM w1 ga ra ys (wr.setCell ⟨ga, j, none⟩ (.int .u64 ((r * B + ys[j]) / CB : Nat))) j ((r * B + ys[j]) % CB) ((r * B + ys[j]) / CB :: qs) := by
  have hb := s.blk.set j (.int .u64 ((r * B + ys[j]) / CB : Nat))
  have e : (ys.take (j + 1) ++ (qs ++ ra)).set j ((r * B + ys[j]) / CB) = ys.take j ++ ((r * B + ys[j]) / CB :: qs ++ ra) := by
   have hl : (ys.take j).length = j := by rw [List.length_take]; omega
   rw [List.take_succ_eq_append_getElem hj, List.append_assoc, List.set_append_right _ _ (by omega), hl, Nat.sub_self]
   rfl
  rw [warr_set, e] at hb
  have hh : 0 < CB := by decide
  exact ⟨by have := s.len; simp only [List.length_cons]; omega, dig_cons (dw_fit s.lt hx) s.dig, Nat.mod_lt _ hh, dw_step hj hh s.eq, hb, s.only.trans (Tk.set _ _ _ _)⟩
theorem DiM.cell {w1 wr : World} {ga j r : Nat} {ra ys qs : List Nat} (s : DiM w1 ga ra ys wr (j + 1) r qs) (hj : j < ys.length) : wr.cell? ⟨ga, j, none⟩ = some (.int .u64 (ys[j] : Nat)) ∧ wr.frozen? ⟨ga, j, none⟩ = false := by
 refine ⟨(s.blk.cell j).trans (warr_at ?_), s.blk.frozen j⟩
 rw [List.getElem?_append_left (by rw [List.length_take]; omega), List.getElem?_take, if_pos (by omega), List.getElem?_eq_getElem hj]
theorem DiM.out {w1 wr : World} {ga r y : Nat} {ra qs : List Nat} (s : DiM w1 ga ra (dg y) wr 0 r qs) : val qs = y / CB ∧ r = y % CB ∧ qs.length = (dg y).length := by
 have he := s.eq
 rw [List.drop_zero, val_dg] at he
 obtain ⟨h1, h2⟩ := dw_out s.lt he
 exact ⟨h1, h2, by have := s.len; omega⟩
theorem CkM.next {w0 wr w1 : World} {base ga cw x y cc r : Nat} {cs qs ra : List Nat} {C : Option Addr} (h : CkM w0 base ga cw x wr y cs C cc) (hra : (dg y).length + ra.length = cw) (hy : y ≠ 0) (s : DiM wr ga ra (dg y) w1 0 r qs) (hk : cs.length ≤ 1016) :
    ∃ C' cc' w', (Builtin.append_ #[66, 66] 66 #[.slice C cs.length cc, .slice (some ⟨w1.heap.size, 0, none⟩) 1 1]).run Tryz.prog (w1.alloc (.cells #[.int .u64 (r : Nat)] 118)) = .ok (.slice C' (cs.length + 1) cc') w' ∧ CkM w0 base ga cw x w' (y / CB) (cs ++ [r]) C' cc' := by
  obtain ⟨o1, o2, o3⟩ := s.out; have hal : Below w1.heap.size w1 (w1.alloc (.cells #[.int .u64 (r : Nat)] 118)) := bal; have hsz := s.only.size; have hbs : base ≤ w1.heap.size := Nat.le_trans h.size hsz
  have hpw : PadW w1 ga cw (dg (y / CB)) := by
   have hb := s.blk; rw [List.take_zero, List.nil_append] at hb; have := pad_trim hb s.dig (by rw [o3]; exact hra) h.work.le
   rwa [o1] at this
  obtain ⟨g', c', w', hr, hP, hB, hg⟩ := word_append (w1.alloc (.cells #[.int .u64 (r : Nat)] 118)) C cc 1 w1.heap.size r base cs h.nil (fun hp => by
   obtain ⟨g, e, hp2, hg⟩ := h.pos hp
   exact ⟨g, e, (hp2.grown s.only (by intro e; injection e with e; have := h.hi; omega)).keep hal, hg⟩) ((Blk.new w1 118 #[.int .u64 (r : Nat)]).cell 0) (by omega) (Nat.le_trans hbs hal.size)
  refine ⟨some ⟨g', 0, none⟩, c', w', hr, ?_, (hpw.keep hal).keepB hB h.hi, ?_, ?_, fun _ => ?_, fun e => by simp at e, fun _ => ⟨g', rfl, hP, hg⟩, h.lo, h.hi, Nat.le_trans hbs (Nat.le_trans hal.size hB.size)⟩
  ·have h1 := Tk.below h.below s.only h.lo; exact (below_all h1 hal).trans (hB.mono (Nat.le_trans h.lo (Nat.le_of_lt h.hi)))
  ·rw [List.length_append, List.length_singleton, Nat.pow_succ, ← Nat.div_div_eq_div_mul, ← h.eq]
  ·intro i hi
   by_cases hil : i < cs.length
   ·rw [List.getElem_append_left hil]; exact h.at' i hil
   ·have : i = cs.length := by simp at hi; omega
    subst this; rw [List.getElem_append_right (Nat.le_refl _)]; simp only [Nat.sub_self, List.getElem_cons_zero]; rw [o2, ← h.eq]
  ·rw [List.length_append, List.length_singleton, Nat.add_sub_cancel, ← h.eq]; exact hy
theorem ck_text {x j : Nat} (Wd c : Nat) (hc : c = x / CB ^ j % CB) (h : x / CB ^ (j + 1) ≠ 0) : Dt.D (x / CB ^ (j + 1)) (Wd - 19 * (j + 1)) ++ (List.replicate (19 - (Lib.decDigits c).length) 48 ++ Lib.decDigits c) = Dt.D (x / CB ^ j) (Wd - 19 * j) := by
 have hcl : c < 10 ^ 19 := by rw [hc, ← CB_eq]; exact Nat.mod_lt _ (by decide)
 have e : x / CB ^ j = (x / CB ^ (j + 1)) * 10 ^ 19 + c := by
  rw [hc, Nat.pow_succ, ← Nat.div_div_eq_div_mul, ← CB_eq]; have := Nat.div_add_mod (x / CB ^ j) CB; rw [Nat.mul_comm] at this; exact this.symm
 rw [e, Dt.D_split 19 _ c _ hcl (.inl h), Dt.D_chunk c 19 (by decide)]
 congr 2
theorem ck_top {x j : Nat} (Wd c : Nat) (hc : c = x / CB ^ j % CB) (h : x / CB ^ (j + 1) = 0) (h0 : x / CB ^ j ≠ 0) : List.replicate ((Wd - 19 * j) - (Lib.decDigits c).length) 48 ++ Lib.decDigits c = Dt.D (x / CB ^ j) (Wd - 19 * j) := by
 have e : x / CB ^ j = c := by
  rw [hc]; refine (Nat.mod_eq_of_lt ?_).symm; rw [Nat.pow_succ, ← Nat.div_div_eq_div_mul] at h
  rcases Nat.div_eq_zero_iff.1 h with h | h
  ·exact absurd h (by decide)
  ·exact h
 rw [e]
 rw [e] at h0
 simp [Dt.D, Dt.dig0, h0]
theorem ck_len {c : Nat} (h : c < CB) : 0 < (Lib.decDigits c).length ∧ (Lib.decDigits c).length ≤ 19 := by
 refine ⟨by rw [Lib.decDigits_length]; exact Lib.nDigits_pos c, ?_⟩
 by_cases h0 : c = 0
 ·subst h0; rw [Go.Qn.dec_zero]; decide
 ·have := Dt.dig0_len (k := 19) (n := c) (by rw [← CB_eq]; exact h)
  unfold Dt.dig0 at this
  rwa [if_neg h0] at this
theorem ck_mono {x j k : Nat} (h : x / CB ^ k ≠ 0) (hj : j ≤ k) : x / CB ^ j ≠ 0 := by
 have h1 : CB ^ j ≤ CB ^ k := Nat.pow_le_pow_right (by decide) hj
 have h2 : x / CB ^ k ≤ x / CB ^ j := Nat.div_le_div_left h1 (Nat.pow_pos (by decide))
 exact Nat.ne_of_gt (Nat.lt_of_lt_of_le (Nat.pos_of_ne_zero h) h2)
theorem D_bound {x N : Nat} (hx : (dg x).length ≤ 1000) (hN : 64000 ≤ 63 * N) (i W : Nat) : (Dt.D (x / CB ^ i) W).length ≤ W + 19 * N := by
 have h1 : x / CB ^ N = 0 := Classical.byContradiction fun h => by have := ck_bound' hx h; omega
 have h2 : x < CB ^ N := by
  rcases Nat.div_eq_zero_iff.1 h1 with h | h
  ·exact absurd h (Nat.ne_of_gt (Nat.pow_pos (by decide)))
  ·exact h
 have h3 : x / CB ^ i < 10 ^ (19 * N) := by
  rw [← CB_pow]; exact Nat.lt_of_le_of_lt (Nat.div_le_self _ _) h2
 have := Dt.dig0_len h3
 simp [Dt.D]; omega
theorem PadW.cell {w : World} {g c : Nat} {ys : List Nat} (h : PadW w g c ys) {j : Nat} (hj : j < ys.length) : w.cell? ⟨g, j, none⟩ = some (.int .u64 (ys[j] : Nat)) := by
 obtain ⟨rs, B, _⟩ := h.ex
 refine (B.cell j).trans (warr_at ?_)
 rw [List.getElem?_append_left hj, List.getElem?_eq_getElem hj]
theorem pt_rel {A A' : Option Addr} {w w' : World} (h : PT w) (hr : TxR A w A' w') (hA : ∀ ad, A = some ad → 0 < ad.block) : PT w' := by
 have hl := h.lt
 have hb := hr.kept.block 0 hl (by
  cases A with
  | none => simp
  | some ad => intro e; injection e with e; have := hA ad rfl; rw [← e] at this; omega)
 unfold PT Lib.TabIs World.var? at *
 rw [Fi.tab_named] at *
 simp only [Option.bind_some] at *
 rw [hb]; exact h
theorem sl_txr {w w' : World} {A A' X : Option Addr} {c n : Nat} {l : List UInt8} {xs : List Value} (h : Sl w X n 1 xs) (hx : ∀ v ∈ xs, ∀ b : Int, v ≠ .int .u8 b) (hT : TxS w A c l) (hR : TxR A w A' w') : Sl w' X n 1 xs := by
 refine ⟨h.len, fun hn => ?_⟩
 obtain ⟨ad, e, hl, ha⟩ := h.lies hn
 have hne : some ad.block ≠ A.map Addr.block := by
  cases A with
  | none => simp
  | some at0 =>
    obtain ⟨g, rfl, ⟨cs, B, _, _⟩, U⟩ := hT.own at0 rfl; intro e2
    injection e2 with e2
    exact h.off (by decide) B (fun v hv hm => by
     obtain ⟨b, rfl⟩ := U _ cs B v hv
     exact hx _ hm b rfl) hn ad e e2
 refine ⟨ad, e, Nat.lt_of_lt_of_le hl hR.kept.size, fun j u hu => ?_⟩
 have := ha j u hu
 unfold World.cell? at this ⊢
 rw [add_block] at this ⊢
 rw [hR.kept.block ad.block hl hne]
 exact this
theorem NW.txr {w w' : World} {A A' X : Option Addr} {c d n : Nat} {l : List UInt8} (h : NW w X d n) (hT : TxS w A c l) (hR : TxR A w A' w') : NW w' X d n :=
  ⟨sl_txr h.wds (fun v hv b => by obtain ⟨x, _, rfl⟩ := List.mem_map.1 hv; simp [vs]) hT hR, h.cap⟩
end Go.Proofs.Tg.Iw
end
