/- Parts of the proof: FI2, WN1, FI3. -/
import Derived.Deep.AppendSrc
import Derived.Lib.ItoaWalk
import Derived.CellFam
import Derived.Lib.ItoaLen
import Derived.Test.YtbgaiceakmmfdaaGreatDoorMMV1
import Derived.Test.YtbgaiceakmmfdaaGreatDoorMMV3
import Derived.Test.YtbgaiceakmmfdaaGreatDoorMMV9
section
/- The library's AppendInt onto a buffer that lies in an array of the caller's. -/
namespace Go.Proofs.Tg.Fi
open Go.RowKit Go.Rq Go.Qn Go.Lib Go.Sort Go.Proofs.Tg
set_option maxHeartbeats 6400000
set_option maxRecDepth 100000
/-- Block g, of N cells, begins with the cells xs. -/
structure Buf (w : World) (g : Nat) (t : TypeId) (N : Nat) (xs : List Value) : Prop where
  ex : ∃ cs : Array Value, Blk w g t cs ∧ cs.size = N ∧ cs.toList.take xs.length = xs
theorem Buf.keep {w w' : World} {g N : Nat} {t : TypeId} {xs : List Value} (h : Buf w g t N xs) (hb : Below w.heap.size w w') : Buf w' g t N xs := by
 obtain ⟨cs, B, r⟩ := h.ex
 exact ⟨cs, B.keep hb B.lt, r⟩
theorem Buf.room {w : World} {g N : Nat} {t : TypeId} {xs : List Value} (h : Buf w g t N xs) {j : Nat} (hj : j < N) : (w.cell? ⟨g, j, none⟩).isSome = true ∧ w.frozen? ⟨g, j, none⟩ = false := by
 obtain ⟨cs, B, hs, _⟩ := h.ex
 refine ⟨?_, B.frozen j⟩
 rw [B.cell j]
 simp; omega
theorem blk_setCells {g : Nat} {t : TypeId} : ∀ (news : List Value) (o : Nat) (w : World) (cs : Array Value), Blk w g t cs → o + news.length ≤ cs.size → ∃ cs', Blk (w.setCells g o news) g t cs' ∧ cs'.size = cs.size ∧ cs'.toList.take (o + news.length) = cs.toList.take o ++ news
  | [], o, w, cs, h, ho => ⟨cs, h, rfl, by simp⟩
  | v :: r, o, w, cs, h, ho => by
    have h1 := h.set o v
    obtain ⟨cs', B, hs, ht⟩ := blk_setCells r (o + 1) _ _ h1 (by simp at ho ⊢; omega)
    refine ⟨cs', B, by rw [hs]; simp, ?_⟩
    rw [List.length_cons, show o + (r.length + 1) = o + 1 + r.length by omega, ht]
    have ho2 : o < cs.toList.length := by simp at ho ⊢; omega
    rw [show (cs.setIfInBounds o v).toList = cs.toList.set o v by simp, List.take_succ_eq_append_getElem (by simpa using ho2)]
    simp [List.take_set_of_le]
theorem tk_setCells (g : Nat) : ∀ (news : List Value) (o : Nat) (w : World), Tk g w (w.setCells g o news)
  | [], _, w => Tk.refl g w
  | v :: r, o, w => (Tk.set g w o v).trans (tk_setCells g r (o + 1) _)
theorem wpList_append_run {P : Program} (w : World) {ops : Array Oper} {rest : List Oper} {o : Oper} {a : Act} {Q : Exit → Act → World → Prop} (hgd : o.guard = none) (s x : Operand) (t tx : TypeId)
    (ho : o.op = .call { callee := .builtin .append, args := #[s, x], argTypes := #[t, tx] }) (v' : Value) (w' : World)
    (hr : (Builtin.append_ #[t, tx] o.type #[a.eval s, a.eval x]).run P w = .ok v' w') (h : wpList P ops Q rest (a.put o.dst v') w') : wpList P ops Q (o :: rest) a w := by
  refine wpList_plain hgd fun K hK => ?_
  unfold Oper.wp execOp
  simp only [ho, resolve, invoke, builtin, Sem.run_bind, Sem.run_pure, Result.andThen_ok, List.map_toArray, List.map_cons, List.map_nil, hr]
  exact hK _ _ h
theorem byte_info : (Tryz.prog.info? 5).map (fun i => (i.zero, i.size, i.bytes)) = some (some (.int .u8 0), 1, 1) := by kernel_rfl
/-- append onto the buffer, with room. -/
theorem buf_append {w : World} {g N : Nat} {t : TypeId} {xs : List Value} (h : Buf w g t N xs) (tx ty : TypeId) (x : Value) (n : Nat) (news : List Value) (hs : Src Tryz.prog 1 tx x n news w) (hroom : xs.length + n ≤ N) :
    (Builtin.append_ #[91, tx] ty #[.slice (some ⟨g, 0, none⟩) xs.length N, x]).run Tryz.prog w = .ok (.slice (some ⟨g, 0, none⟩) (xs.length + n) N) (w.setCells g xs.length news) ∧ Buf (w.setCells g xs.length news) g t N (xs ++ news) ∧ Tk g w (w.setCells g xs.length news) := by
  obtain ⟨i0, hi, hz0, hz1, hz2⟩ := info_parts byte_info
  have hnl := hs.newsLen
  refine ⟨?_, ?_, tk_setCells g _ _ _⟩
  ·have := run_append_room_src (P := Tryz.prog) w 91 tx ty 5 i0 Tryz.underlying91 hi g 0 xs.length N x n news (by rw [hz1]; exact hs) hroom
     (fun j hj => by rw [hz1]; simp only [Nat.zero_add, Nat.mul_one]; exact (h.room (by omega)).1) (fun j hj => by rw [hz1]; simp only [Nat.zero_add, Nat.mul_one]; exact (h.room (by omega)).2)
   rw [hz1] at this
   simpa using this
  ·obtain ⟨cs, B, hsz, ht⟩ := h.ex
   obtain ⟨cs', B', hs', ht'⟩ := blk_setCells news xs.length w cs B (by omega)
   exact ⟨cs', B', by omega, by rw [List.length_append, ht', ht]⟩
/-- What a call that writes l behind the buffer leaves. -/
def RetBuf (g : Nat) (t : TypeId) (N : Nat) (xs : List Value) (l : List UInt8) (w : World) (e : Ending) (w' : World) : Prop :=
  e = .returned (.slice (some ⟨g, 0, none⟩) (xs.length + l.length) N) ∧ Buf w' g t N (xs ++ Lib.byteCells l) ∧ Tk g w w'
theorem small_lay (i : Nat) (h : i < 100) (w : World) : Calls Tryz.prog 92 #[.int .i64 i] w fun e w' => e = .returned (.string (bs (Lib.decDigits i))) ∧ w' = w :=
  Any.internal_strconv_small { fmtLay with } i h w
theorem ndig_lay (u : Nat) (h1 : 1 ≤ u) (h2 : u < 18446744073709551616) (w : World) (ht : PT w) : Calls Tryz.prog 93 #[.int .u64 u] w fun e w' => e = .returned (.int .i64 (Lib.nDigits u)) ∧ w' = w :=
  Any.internal_strconv_numDigits { fmtLay with } u h1 h2 w ht
theorem auint_small (g N u : Nat) (t : TypeId) (xs : List Value) (w : World) (h : Buf w g t N xs) (hu : u < 100) (hroom : xs.length + 20 ≤ N) :
    Calls Tryz.prog 96 #[.slice (some ⟨g, 0, none⟩) xs.length N, .int .u64 u, .int .i64 10] w (RetBuf g t N xs (Lib.decDigits u) w) := by
  have hlen : (Lib.decDigits u).length ≤ 20 := by
   rw [Lib.decDigits_length]
   by_cases h10 : u < 10
   ·rw [Lib.nDigits_small h10]; omega
   ·rw [Lib.nDigits_big h10, Lib.nDigits_small (show u / 10 < 10 by omega)]; omega
  have hsz : (bs (Lib.decDigits u)).size = (Lib.decDigits u).length := bs_size _
  have hsrc := Src.ofString (P := Tryz.prog) (w := w) (tx := 9) Tryz.underlying9 (bs (Lib.decDigits u))
  have hbc : Go.byteCells (bs (Lib.decDigits u)) = Lib.byteCells (Lib.decDigits u) := by
   unfold Go.byteCells Lib.byteCells; rw [bs_data]
  rw [hbc, hsz] at hsrc
  obtain ⟨hr, hB, hT⟩ := buf_append h 9 91 _ _ _ hsrc (by omega)
  have HR := Lib.hid hr
  have HB := Lib.hid hB
  have HT := Lib.hid hT
  have HS := Lib.hid (small_lay u hu)
  generalize bs (Lib.decDigits u) = S at *
  clear hr hB hT hsrc hbc hsz h
  obtain ⟨n, hn⟩ : ∃ n, xs.length = n := ⟨_, rfl⟩
  unfold RetBuf
  rw [hn] at HR HB HT hroom ⊢
  have HN := Lib.hid hn
  clear hn
  have hui : decide ((u : Int) < 100) = true := decide_eq_true (by omega)
  have hun : decide (u < 100) = true := decide_eq_true hu
  go_enter Tryz.func96, Tryz.ntmps96
  go_wp2_with (first
    | (go_at_call 92; refine (HS.out _).mono ?_; rintro e w' ⟨rfl, rfl⟩)
    | (at_builtin; refine wpList_append_run _ rfl _ _ 91 9 rfl _ _ HR.out ?_))
  go_ret
  exact ⟨rfl, HB.out, HT.out⟩
theorem auint_big (g N u : Nat) (t : TypeId) (xs : List Value) (w : World) (h : Buf w g t N xs) (hu : 100 ≤ u) (hu64 : u < 18446744073709551616) (hroom : xs.length + 20 ≤ N) (ht : PT w) :
    Calls Tryz.prog 96 #[.slice (some ⟨g, 0, none⟩) xs.length N, .int .u64 u, .int .i64 10] w (RetBuf g t N xs (Lib.decDigits u) w) := by
  have hu1 : 1 ≤ u := by omega
  have hnd20 : Lib.nDigits u ≤ 20 := by have := Lib.numDigits_eq u hu1 hu64; split at this <;> omega
  have hal : Tryz.prog.arrayLen 142 = 24 := by kernel_rfl
  have hsl : ∀ W, (Instr.sliceAt 142 (.pointer (some ⟨w.heap.size, 0, none⟩)) none (some (.int .i64 (Lib.nDigits u : Int))) none).run Tryz.prog W = .ok (.slice (some ⟨w.heap.size, 0, none⟩) (Lib.nDigits u) 24) W := fun W => by
   rw [run_sliceAt_array_h W 142 ⟨w.heap.size, 0, none⟩ (by simp [Program.arrayLen, Program.elem, Tryz.underlying142]) .i64 (Lib.nDigits u : Int) (by omega) (by rw [hal]; omega)]
   go_simp
  have hH0 := Lib.holds_zero0 w 142 (Lib.nDigits u) (by omega)
  have hfmt : Calls Tryz.prog 94 #[.slice (some ⟨w.heap.size, 0, none⟩) (Array.replicate (Lib.nDigits u) (0 : UInt8)).size 24, .int .u64 u] (w.alloc (.cells Lib.zeros24 142)) fun e w' =>
   e = .returned (.tuple #[]) ∧ ∃ (n v' : Nat) (dk : Array UInt8), w' = (putRow (fun (b : UInt8) => Value.int .u8 (b.toNat : Int)) (w.alloc (.cells Lib.zeros24 142)) w.heap.size 0 dk).drewN n ∧ FmtInv (Array.replicate (Lib.nDigits u) (0 : UInt8)).size u 0 v' dk :=
   Any.internal_strconv_formatBase10 { fmtLay with } w.heap.size 0 24 u (Array.replicate (Lib.nDigits u) 0) (w.alloc (.cells Lib.zeros24 142)) hH0 (by rw [Array.size_replicate]; exact Lib.lt_pow_nDigits u) hu64 (by rw [Array.size_replicate]; omega)
  rw [Array.size_replicate] at hfmt
  have HH0 := Lib.hid hH0
  have iu : (100 : Int) ≤ (u : Int) := by omega
  have HND := Lib.hid (ndig_lay u hu1 hu64 (w.alloc (.cells Lib.zeros24 142)) (Lib.tabIs_alloc ht _))
  have HFM := Lib.hid hfmt
  have HL := Lib.hid (Lib.decDigits_length u)
  unfold RetBuf
  obtain ⟨n, hn⟩ : ∃ n, xs.length = n := ⟨_, rfl⟩
  have HN := Lib.hid hn
  have HBF := Lib.hid h
  rw [hn] at hroom ⊢
  clear hH0 hal hfmt hn h
  go_enter Tryz.func96, Tryz.ntmps96
  go_wp2_with (go_at_call 93; refine HND.out.mono ?_; rintro e w' ⟨rfl, rfl⟩)
  refine HFM.out.mono ?_
  rintro e w' ⟨rfl, k, v', dk, rfl, hF⟩
  have hcells : ∀ j u', (Lib.byteCells (Lib.decDigits u))[j]? = some u' → ((putRow (fun (b : UInt8) => Value.int .u8 (b.toNat : Int)) (w.alloc (.cells Lib.zeros24 142)) w.heap.size 0 dk).drewN k).cell? ((⟨w.heap.size, 0, none⟩ : Addr).add j) = some u' := by
   intro j u' hj
   have hjl : j < (Lib.decDigits u).length := by
    have h5 := (List.getElem?_eq_some_iff.1 hj).1
    rwa [Lib.byteCells_length] at h5
   have e5 : (Lib.byteCells (Lib.decDigits u))[j]? = some (Value.int .u8 ((Lib.decDigits u)[j].toNat : Int)) := by simp [Lib.byteCells, hjl]
   rw [e5] at hj
   cases hj
   rw [Lib.row_is_numeral hF j hjl, Lib.add_plain, World.cell?_drewN]
   exact cell?_putRow (fun (b : UInt8) => Value.int .u8 (b.toNat : Int)) _ w.heap.size 0 _ dk HH0.out (by rw [hF.size, Array.size_replicate]) j (by rw [hF.size]; rw [Lib.decDigits_length] at hjl; exact hjl)
  obtain ⟨os, eo⟩ := Lib.fin_at w (.cells Lib.zeros24 142) dk k 0
  have hbe : Below w.heap.size w ((putRow (fun (b : UInt8) => Value.int .u8 (b.toNat : Int)) (w.alloc (.cells Lib.zeros24 142)) w.heap.size 0 dk).drewN k) := by rw [eo]; exact Lib.below_grow _ w (Nat.le_refl _) k os
  generalize (putRow (fun (b : UInt8) => Value.int .u8 (b.toNat : Int)) (w.alloc (.cells Lib.zeros24 142)) w.heap.size 0 dk).drewN k = W2 at hcells hbe ⊢
  clear eo HH0 HFM
  have hsrc := Src.ofSlice (P := Tryz.prog) (w := W2) (size := 1) (tx := 91) Tryz.underlying91 ⟨w.heap.size, 0, none⟩ (Lib.nDigits u) 24 (Lib.byteCells (Lib.decDigits u)) (by rw [Lib.byteCells_length, Lib.decDigits_length, Nat.mul_one]) hcells (by intro u' hu'; simp only [Lib.byteCells, List.mem_map] at hu'; obtain ⟨b, _, rfl⟩ := hu'; rfl)
  obtain ⟨hr, hB, hT⟩ := buf_append (HBF.out.keep hbe) 91 91 _ _ _ hsrc (by rw [HN.out]; omega)
  rw [HN.out] at hr hB hT
  have HR := Lib.hid hr
  have HB := Lib.hid hB
  have HT := Lib.hid ((Tk.of hbe).trans hT)
  have HLL := Lib.hid HL.out.symm
  generalize Lib.nDigits u = nd at *
  clear hr hB hT hsrc hcells hbe
  go_wp2_with (at_builtin; refine wpList_append_run _ rfl _ _ 91 91 rfl _ _ HR.out ?_)
  go_ret
  exact ⟨by rw [HLL.out]; rfl, HB.out, HT.out⟩
theorem auint_any (g N u : Nat) (t : TypeId) (xs : List Value) (w : World) (h : Buf w g t N xs) (hu64 : u < 18446744073709551616) (hroom : xs.length + 20 ≤ N) (ht : PT w) :
    Calls Tryz.prog 96 #[.slice (some ⟨g, 0, none⟩) xs.length N, .int .u64 u, .int .i64 10] w (RetBuf g t N xs (Lib.decDigits u) w) := by
  by_cases hu : u < 100
  ·exact auint_small g N u t xs w h hu hroom
  ·exact auint_big g N u t xs w h (by omega) hu64 hroom ht
theorem tab_named : Tryz.prog.globalNamed "internal/strconv.uint64pow10" = some 0 := by kernel_rfl
theorem PT.lt {w : World} (h : PT w) : 0 < w.heap.size := by
 unfold PT Lib.TabIs World.var? at h
 rw [tab_named] at h
 simp only [Option.bind_some] at h
 cases hh : w.heap[(0 : Nat)]? with
 | none => rw [hh] at h; cases h
 | some o => exact (Array.getElem?_eq_some_iff.1 hh).1
theorem PT.tk {g : Nat} {w w' : World} (h : PT w) (hk : Tk g w w') (hg : 0 < g) : PT w' := by
 have hl := h.lt
 have hb := hk.block 0 hl (by intro e; injection e with e; omega)
 unfold PT Lib.TabIs World.var? at *
 rw [tab_named] at *
 simp only [Option.bind_some] at *
 rw [hb]; exact h
theorem aint_in (i : Int) (h0 : -9223372036854775808 ≤ i) (h1 : i < 9223372036854775808) (g N : Nat) (t : TypeId) (xs : List Value) (w : World) (h : Buf w g t N xs) (hroom : xs.length + 21 ≤ N) (ht : PT w) (hg : 0 < g) :
    Calls Tryz.prog 70 #[.slice (some ⟨g, 0, none⟩) xs.length N, .int .i64 i, .int .i64 10] w (RetBuf g t N xs (Lib.itoa i) w) := by
  obtain ⟨u, hu⟩ : ∃ u : Nat, i.natAbs = u := ⟨_, rfl⟩
  have hu64 : u < 18446744073709551616 := by omega
  by_cases hi : i < 0
  ·have hit : Lib.itoa i = 45 :: Lib.decDigits u := by unfold Lib.itoa; rw [if_pos hi, hu]
   have hd : decide (i < 0) = true := decide_eq_true hi
   have hc : IntKind.u64.wrap i = 18446744073709551616 - (u : Int) := by
    have e : IntKind.u64.wrap i = i % 18446744073709551616 := rfl
    rw [e]; omega
   have hc2 : IntKind.u64.wrap (-(18446744073709551616 - (u : Int))) = (u : Int) := by
    have e : IntKind.u64.wrap (-(18446744073709551616 - (u : Int))) = (-(18446744073709551616 - (u : Int))) % 18446744073709551616 := rfl
    rw [e]; omega
   have hui : i = -(u : Int) := by omega
   obtain ⟨W, hW⟩ : ∃ W, w.alloc (.cells #[.int .u8 45] 5) = W := ⟨_, rfl⟩
   have hbW : Below w.heap.size w W := by rw [← hW]; exact (Below.refl _ _).alloc (Nat.le_refl _) _
   have hcell : ∀ j v, [Value.int .u8 45][j]? = some v → W.cell? ((⟨w.heap.size, 0, none⟩ : Addr).add j) = some v := by rw [← hW]; exact cells_new w 5 [.int .u8 45]
   have hsrc := Src.ofSlice (P := Tryz.prog) (w := W) (size := 1) (tx := 91) Tryz.underlying91 ⟨w.heap.size, 0, none⟩ 1 1 [.int .u8 45] rfl hcell (by simp [Value.oneCell'])
   obtain ⟨hr, hB, hT⟩ := buf_append (h.keep hbW) 91 91 _ _ _ hsrc (by omega)
   have hpt : PT (W.setCells g xs.length [.int .u8 45]) := (ht.keep hbW).tk hT hg
   have HA := Lib.hid (auint_any g N u t (xs ++ [.int .u8 45]) _ hB hu64 (by simp; omega) hpt)
   have HR := Lib.hid hr
   have HT := Lib.hid ((Tk.of hbW).trans hT)
   have HWW := Lib.hid hW
   obtain ⟨n, hn⟩ : ∃ n, xs.length = n := ⟨_, rfl⟩
   rw [hit]
   unfold RetBuf
   rw [List.length_append, List.length_singleton] at HA
   unfold RetBuf at HA
   rw [hn] at HR HT HA hroom ⊢
   have HN := Lib.hid hn
   clear hW hr hB hT hsrc hcell hpt hbW h ht hn hit
   subst hui
   clear hu
   go_enter Tryz.func70, Tryz.ntmps70
   go_wp2_with (at_builtin; rw [HWW.out]; refine wpList_append_run _ rfl _ _ 91 91 rfl _ _ HR.out ?_)
   refine HA.out.mono ?_
   rintro e w2 ⟨rfl, hB2, hT2⟩
   go_wp2
   go_ret
   refine ⟨?_, ?_, HT.out.trans hT2⟩
   ·rw [HN.out, show n + 1 + (Lib.decDigits u).length = n + ((Lib.decDigits u).length + 1) by omega]; rfl
   ·have e : xs ++ Lib.byteCells (45 :: Lib.decDigits u) = xs ++ [.int .u8 45] ++ Lib.byteCells (Lib.decDigits u) := by simp [Lib.byteCells]
    rw [e]; exact hB2
  ·have hit : Lib.itoa i = Lib.decDigits u := by
    unfold Lib.itoa
    rw [if_neg hi, show i.toNat = u by omega]
   have hui : i = (u : Int) := by omega
   have HA := Lib.hid (auint_any g N u t xs w h hu64 (by omega) ht)
   obtain ⟨n, hn⟩ : ∃ n, xs.length = n := ⟨_, rfl⟩
   rw [hit]
   rw [hn] at HA hroom ⊢
   subst hui
   have hd : decide ((u : Int) < 0) = false := decide_eq_false hi
   have hc : IntKind.u64.wrap (u : Int) = (u : Int) := by
    have e : IntKind.u64.wrap (u : Int) = (u : Int) % 18446744073709551616 := rfl
    rw [e]; omega
   have HN := Lib.hid hn
   clear hu hit h ht hn
   go_enter Tryz.func70, Tryz.ntmps70
   go_wp2_with (fail)
   refine HA.out.mono ?_
   rintro e w2 ⟨rfl, hB2, hT2⟩
   go_wp2
   go_ret
   refine ⟨?_, hB2, hT2⟩
   rw [HN.out]; rfl
theorem aint_any (i : Int) (h0 : -9223372036854775808 ≤ i) (h1 : i < 9223372036854775808) (g N : Nat) (t : TypeId) (xs : List Value) (w : World) (h : Buf w g t N xs) (hroom : xs.length + 21 ≤ N) (ht : PT w) (hg : 0 < g) :
    Calls Tryz.prog 43 #[.slice (some ⟨g, 0, none⟩) xs.length N, .int .i64 i, .int .i64 10] w (RetBuf g t N xs (Lib.itoa i) w) := by
  have HA := Lib.hid (aint_in i h0 h1 g N t xs w h hroom ht hg)
  obtain ⟨n, hn⟩ : ∃ n, xs.length = n := ⟨_, rfl⟩
  rw [hn] at HA ⊢
  have HN := Lib.hid hn
  clear hn h hroom ht
  go_enter Tryz.func43, Tryz.ntmps43
  go_wp2_with (fail)
  refine HA.out.mono ?_
  rintro e w2 ⟨rfl, hB2, hT2⟩
  go_wp2
  go_ret
  exact ⟨by rw [HN.out]; rfl, hB2, hT2⟩
end Go.Proofs.Tg.Fi
end
section
/- Short numbers of the program: the value of digits, the common divisor, reading. -/
namespace Go.Proofs.Tg
open Go.RowKit Go.Qn
set_option maxHeartbeats 2000000
set_option maxRecDepth 100000
theorem dval_any (s : ByteArray) (w : World) (hs : s.size ≤ 18) (hd : ∀ c ∈ s.data.toList, isD c = true) :
    Calls Tryz.prog 64 #[.string s] w fun e w' => e = .returned (.int .i64 (val s.data.toList : Nat)) ∧ w = w' := by
  have HD := Lib.hid hd
  have HL := Lib.hid (len_size s)
  clear hd
  go_enter Tryz.func64, Tryz.ntmps64
  go_wp2
  go_loop [3, 7] (fun s3 s7 => ∃ (k v : Nat), k ≤ s.size ∧ s7 = .int .i64 k ∧ s3 = .int .i64 v ∧ Hid (v = val (s.data.toList.take k) ∧ v < 10 ^ k)) (fun _ s7 => s.size - (intOf s7).toNat)
  case atStart => exact ⟨0, 0, Nat.zero_le _, rfl, rfl, Lib.hid ⟨rfl, by decide⟩⟩
  case round =>
   obtain ⟨k, v, hk, rfl, rfl, HV⟩ := hrel
   by_cases hlt : k < s.size
   ·have hlt' : k < s.data.toList.length := by rw [HL.out]; exact hlt
    have hD := HD.out s.data.toList[k] (List.getElem_mem _)
    obtain ⟨d1, d2⟩ := isD_int hD
    have HX : Hid (val (s.data.toList.take (k + 1)) = 10 * v + (s[k].toNat - 48)) := Lib.hid (by rw [val_take _ _ hlt', HV.out.1]; rfl)
    have hv : v < 100000000000000000 := Nat.lt_of_lt_of_le HV.out.2 (by
     have : 10 ^ k ≤ 10 ^ 17 := Nat.pow_le_pow_right (by omega) (by omega)
     exact Nat.le_trans this (by decide))
    have HP : Hid (10 * v + (s[k].toNat - 48) < 10 ^ (k + 1)) := Lib.hid (by
     have h1 := HV.out.2
     rw [Nat.pow_succ]
     have : s[k].toNat ≤ 57 := by have h := d2; change ((s[k].toNat : Int)) ≤ 57 at h; omega
     omega)
    have e1 : (48 : Int) ≤ (s[k].toNat : Int) := d1
    have e2 : (s[k].toNat : Int) ≤ 57 := d2
    clear hD d1 d2
    go_wp2
    go_round
    case rel => exact ⟨k + 1, 10 * v + (s[k].toNat - 48), by omega, by go_num, by go_num, Lib.hid ⟨HX.out.symm, HP.out⟩⟩
    case measure => simp [intOf]; omega
   ·obtain rfl : k = s.size := by omega
    have d0 : decide (s.size < s.size) = false := by simp
    go_wp2
    go_ret
    refine ⟨?_, rfl⟩
    have := HV.out.1
    rw [List.take_of_length_le (by rw [HL.out]; exact Nat.le_refl _)] at this
    rw [this]; rfl
theorem sgcd_any (a b : Nat) (w : World) (ha : a < 1000000000000000000) (hb : b < 1000000000000000000) :
    Calls Tryz.prog 41 #[.int .i64 a, .int .i64 b] w fun e w' => e = .returned (.int .i64 (Nat.gcd a b : Nat)) ∧ Below w.heap.size w w' := by
  go_enter Tryz.func41, Tryz.ntmps41
  go_wp2
  go_loopw [0, 1] (fun s0 s1 wr => ∃ (x y : Nat), s0 = .int .i64 x ∧ s1 = .int .i64 y ∧ x < 1000000000000000000 ∧ y < 1000000000000000000 ∧ Hid (Nat.gcd x y = Nat.gcd a b) ∧ Below w.heap.size w wr) (fun _ s1 _ => (intOf s1).toNat)
  case atStart => exact ⟨a, b, rfl, rfl, ha, hb, Lib.hid rfl, Below.refl _ _⟩
  case round =>
   obtain ⟨wo, rfl⟩ : ∃ wo : World, wo = wr := ⟨_, rfl⟩
   obtain ⟨x, y, rfl, rfl, hx, hy, HG, hbw⟩ := hrel
   by_cases h0 : y = 0
   ·subst h0
    go_wp2
    go_ret
    refine ⟨?_, hbw⟩
    have := HG.out
    rw [Nat.gcd_zero_right] at this
    rw [this]; rfl
   ·have hne : ((y : Int) != 0) = true := by simp [h0]
    have hne' : ((y : Int) == 0) = false := by simp [h0]
    have hm : Int.tmod (x : Int) (y : Int) = ((x % y : Nat) : Int) := by rw [Int.ofNat_tmod]
    have hlt : x % y < y := Nat.mod_lt _ (by omega)
    have hw : IntKind.i64.wrap (((x % y : Nat) : Int)) = ((x % y : Nat) : Int) := IntWalk.i64_in _ (by omega)
    have HG2 : Hid (Nat.gcd y (x % y) = Nat.gcd a b) := Lib.hid (by rw [← HG.out, Nat.gcd_comm y (x % y), ← Nat.gcd_rec, Nat.gcd_comm])
    generalize x % y = r at *
    go_wp2
    go_quiet (fail)
    go_wp2
    go_roundw
    case rel => exact ⟨y, r, rfl, rfl, hy, by omega, HG2, below_drewN hbw _⟩
    case measure => simp [intOf]; omega
end Go.Proofs.Tg
end
section
/- The program's numbers with short parts: writing a quotient. -/
namespace Go.Proofs.Tg.Fi
open Go.RowKit Go.Rq Go.Qn Go.Proofs.Tg
set_option maxHeartbeats 6400000
set_option maxRecDepth 100000
theorem sgcd_big (a b : Nat) (w : World) (ha : a < 9000000000000000000) (hb : b < 9000000000000000000) :
    Calls Tryz.prog 41 #[.int .i64 a, .int .i64 b] w fun e w' => e = .returned (.int .i64 (Nat.gcd a b : Nat)) ∧ Below w.heap.size w w' := by
  go_enter Tryz.func41, Tryz.ntmps41
  go_wp2
  go_loopw [0, 1] (fun s0 s1 wr => ∃ (x y : Nat), s0 = .int .i64 x ∧ s1 = .int .i64 y ∧ x < 9000000000000000000 ∧ y < 9000000000000000000 ∧ Hid (Nat.gcd x y = Nat.gcd a b) ∧ Below w.heap.size w wr) (fun _ s1 _ => (intOf s1).toNat)
  case atStart => exact ⟨a, b, rfl, rfl, ha, hb, Lib.hid rfl, Below.refl _ _⟩
  case round =>
   obtain ⟨wo, rfl⟩ : ∃ wo : World, wo = wr := ⟨_, rfl⟩
   obtain ⟨x, y, rfl, rfl, hx, hy, HG, hbw⟩ := hrel
   by_cases h0 : y = 0
   ·subst h0
    go_wp2
    go_ret
    refine ⟨?_, hbw⟩
    have := HG.out
    rw [Nat.gcd_zero_right] at this
    rw [this]; rfl
   ·have hne : ((y : Int) != 0) = true := by simp [h0]
    have hne' : ((y : Int) == 0) = false := by simp [h0]
    have hm : Int.tmod (x : Int) (y : Int) = ((x % y : Nat) : Int) := by rw [Int.ofNat_tmod]
    have hlt : x % y < y := Nat.mod_lt _ (by omega)
    have hw : IntKind.i64.wrap (((x % y : Nat) : Int)) = ((x % y : Nat) : Int) := IntWalk.i64_in _ (by omega)
    have HG2 : Hid (Nat.gcd y (x % y) = Nat.gcd a b) := Lib.hid (by rw [← HG.out, Nat.gcd_comm y (x % y), ← Nat.gcd_rec, Nat.gcd_comm])
    generalize x % y = r at *
    go_wp2
    go_quiet (fail)
    go_wp2
    go_roundw
    case rel => exact ⟨y, r, rfl, rfl, hy, by omega, HG2, below_drewN hbw _⟩
    case measure => simp [intOf]; omega
theorem qtx_int (n : Int) : qtx (n : Rat) = bs (Lib.itoa n) := by
 unfold qtx
 rw [itoa_text]; rfl
theorem qtx_frac {q : Rat} (h : q.den ≠ 1) : qtx q = bs (Lib.itoa q.num ++ 47 :: Lib.itoa (q.den : Int)) := by
 unfold qtx
 rw [itoa_text, itoa_text]
 unfold text
 rw [if_neg h, decide_eq_false (show ¬ ((q.den : Nat) : Int) < 0 by omega)]
 simp
/-- What is left when the two parts are coprime. -/
def RetTx (q : Rat) (w : World) (e : Ending) (w' : World) : Prop := e = .returned (.string (qtx q)) ∧ Below w.heap.size w w'
def z48 : Array Value := Array.replicate 48 (.int .u8 0)
theorem alloc48 (w : World) : w.alloc (.cells #[.int .u8 0, .int .u8 0, .int .u8 0, .int .u8 0, .int .u8 0, .int .u8 0, .int .u8 0, .int .u8 0, .int .u8 0, .int .u8 0, .int .u8 0, .int .u8 0, .int .u8 0, .int .u8 0, .int .u8 0, .int .u8 0, .int .u8 0, .int .u8 0, .int .u8 0, .int .u8 0, .int .u8 0, .int .u8 0, .int .u8 0, .int .u8 0, .int .u8 0, .int .u8 0, .int .u8 0, .int .u8 0, .int .u8 0, .int .u8 0, .int .u8 0, .int .u8 0, .int .u8 0, .int .u8 0, .int .u8 0, .int .u8 0, .int .u8 0, .int .u8 0, .int .u8 0, .int .u8 0, .int .u8 0, .int .u8 0, .int .u8 0, .int .u8 0, .int .u8 0, .int .u8 0, .int .u8 0, .int .u8 0] 90) = w.alloc (.cells z48 90) := rfl
theorem Buf.cellAt {w : World} {g N : Nat} {t : TypeId} {l : List UInt8} (h : Buf w g t N (Lib.byteCells l)) (hl : l.length ≤ N) : ∀ j (hj : j < l.length), w.cell? ((⟨g, 0, none⟩ : Addr).add j) = some (Value.int .u8 (l[j].toNat : Int)) := by
 intro j hj
 obtain ⟨cs, B, hs, ht⟩ := h.ex
 rw [add_lit, Nat.zero_add, B.cell j]
 have hl2 : (Lib.byteCells l).length = l.length := by simp [Lib.byteCells]
 have e : (Lib.byteCells l)[j]? = some (Value.int .u8 (l[j].toNat : Int)) := by simp [Lib.byteCells, hj]
 rw [← ht, hl2, List.getElem?_take_of_lt hj] at e
 simpa using e
theorem mk_parts (n : Int) (d : Nat) (hd : d ≠ 0) : Int.tdiv n ((Nat.gcd n.natAbs d : Nat) : Int) = (mkRat n d).num ∧ Int.tdiv (d : Int) ((Nat.gcd n.natAbs d : Nat) : Int) = ((mkRat n d).den : Int) := by
 have hg : 0 < Nat.gcd n.natAbs d := Nat.gcd_pos_of_pos_right _ (by omega)
 rw [Rat.num_mkRat, Rat.den_mkRat, if_neg hd, if_neg hd, Nat.gcd_comm d]
 constructor
 ·rw [Int.tdiv_eq_ediv_of_dvd (Int.ofNat_dvd_left.2 (Nat.gcd_dvd_left _ _))]
 ·rw [← Int.ofNat_tdiv]
theorem fshort_any (n : Int) (d : Nat) (w : World) (hn : n.natAbs < 9000000000000000000) (hd : d < 9000000000000000000) (hd0 : d ≠ 0) (ht : PT w) :
    Calls Tryz.prog 26 #[.int .i64 n, .int .i64 (d : Nat)] w (RetTx (mkRat n d) w) := by
  have hdn : decide ((d : Int) < 0) = false := decide_eq_false (by omega)
  have HFI := Lib.hid (fun (z : Int) (hz : z.natAbs < 9000000000000000000) V (h : PT V) => fmti_any z (by omega) (by omega) V h)
  by_cases h1 : d = 1
  ·subst h1
   have hq : mkRat n 1 = (n : Rat) := Rat.ext (by rw [Rat.num_mkRat]; simp) (by rw [Rat.den_mkRat]; simp)
   rw [hq]
   have HQ := Lib.hid (qtx_int n)
   have HT := Lib.hid ht
   clear hq ht hdn
   unfold RetTx
   go_enter Tryz.func26, Tryz.ntmps26
   go_wp2_with (fail)
   refine (HFI.out n hn w HT.out).mono ?_
   rintro e w2 ⟨rfl, hb⟩
   go_wp2
   go_ret
   exact ⟨by rw [HQ.out]; rfl, hb⟩
  ·obtain ⟨g, hg⟩ : ∃ g, Nat.gcd n.natAbs d = g := ⟨_, rfl⟩
   obtain ⟨e1, e2⟩ := mk_parts n d hd0
   obtain ⟨f1, f2, _⟩ := mk_num n d hd0
   rw [hg] at e1 e2 f1 f2
   have hg0 : g ≠ 0 := by rw [← hg]; exact Nat.pos_iff_ne_zero.1 (Nat.gcd_pos_of_pos_right _ (by omega))
   have HG := Lib.hid (fun V => sgcd_big n.natAbs d V hn hd)
   rw [hg] at HG
   obtain ⟨q, hq⟩ : ∃ q, mkRat n d = q := ⟨_, rfl⟩
   rw [hq] at e1 e2 f1 f2 ⊢
   have b1 : q.num.natAbs < 9000000000000000000 := by rw [f1]; exact Nat.lt_of_le_of_lt (Nat.div_le_self _ _) hn
   have b2 : q.den < 9000000000000000000 := by rw [f2]; exact Nat.lt_of_le_of_lt (Nat.div_le_self _ _) hd
   have gne : ((g : Int) == 0) = false := beq_eq_false_iff_ne.2 (by omega)
   have d1 : ((d : Int) != 1) = true := by simp; omega
   have w1 : IntKind.i64.wrap q.num = q.num := IntWalk.i64_in _ (by omega)
   have w2 : IntKind.i64.wrap (q.den : Int) = (q.den : Int) := IntWalk.i64_in _ (by omega)
   have HT := Lib.hid ht
   have HI := Lib.hid (qtx_int q.num)
   have HFR := Lib.hid (qtx_frac (q := q))
   have HW1 : Hid (q.den = 1 → qtx q = bs (Lib.itoa q.num)) := Lib.hid (fun h => by rw [← qtx_int, ← rat_whole h])
   clear hg hq f1 f2 ht h1
   unfold RetTx
   generalize q.num = qn at *
   generalize q.den = qd at *
   generalize qtx q = T at *
   obtain ⟨m, hm⟩ : ∃ m, n.natAbs = m := ⟨_, rfl⟩
   rw [hm] at HG hn
   have w0 : IntKind.i64.wrap (-n) = -n := IntWalk.i64_in _ (by omega)
   have hmx : max n (-n) = (m : Int) := by omega
   clear hm
   go_enter Tryz.func26, Tryz.ntmps26
   go_wp2_with (fail)
   refine (HG.out _).mono ?_
   rintro e w3 ⟨rfl, hb3⟩
   have HT3 : Hid (∀ k, PT (w3.drewN k)) := Lib.hid (fun k => HT.out.keep (below_drewN hb3 k))
   by_cases hqd : qd = 1
   ·have q1 : ((qd : Int) == 1) = true := by simp [hqd]
    have q1' : (qd == 1) = true := by simp [hqd]
    have HF := Lib.hid (HW1.out hqd)
    clear hqd
    go_wp2
    go_quiet (fail)
    go_wp2_with (fail)
    refine (HFI.out qn b1 _ (HT3.out _)).mono ?_
    rintro e w4 ⟨rfl, hb4⟩
    go_wp2
    go_ret
    exact ⟨by rw [HF.out]; rfl, hb3.trans ((below_of_drewN hb4).mono hb3.size)⟩
   ·have q1 : ((qd : Int) == 1) = false := by simp; omega
    have q1' : (qd == 1) = false := by simp; omega
    have HF := Lib.hid (HFR.out hqd)
    clear hqd HFI HG
    go_wp2
    go_quiet (fail)
    go_wp2_with (fail)
    rw [alloc48]
    have HTA := HT3.out nq
    have hbq : Below w.heap.size w (w3.drewN nq) := below_drewN hb3 nq
    have hgl := HTA.lt
    have hws : (w3.drewN nq).heap.size = w3.heap.size := rfl
    generalize w3.drewN nq = V at *
    obtain ⟨W, hW⟩ : ∃ W, V.alloc (.cells z48 90) = W := ⟨_, rfl⟩
    have hal : Below V.heap.size V W := by rw [← hW]; exact (Below.refl _ _).alloc (Nat.le_refl _) _
    have hB0 : Buf W V.heap.size 90 48 [] := by rw [← hW]; exact ⟨_, Blk.new _ _ _, by simp [z48], rfl⟩
    have HTW := HTA.keep hal
    obtain ⟨gB, hgB⟩ : ∃ g, w3.heap.size = g := ⟨_, rfl⟩
    rw [hgB] at hws
    rw [hws] at hB0 hgl
    have l1 := Lib.itoa_length_le qn (by omega) (by omega)
    have l2 := Lib.itoa_length_le (qd : Int) (by omega) (by omega)
    have HA1 := aint_any qn (by omega) (by omega) gB 48 90 [] W hB0 (by simp) HTW hgl
    unfold RetBuf at HA1
    rw [List.length_nil, Nat.zero_add, List.nil_append] at HA1
    have HA2 := fun V' h h2 => aint_any (qd : Int) (by omega) (by omega) gB 48 90 (Lib.byteCells (Lib.itoa qn) ++ [.int .u8 47]) V' h (by simp [Lib.byteCells]; omega) h2 hgl
    unfold RetBuf at HA2
    have hbl : (Lib.byteCells (Lib.itoa qn) ++ [Value.int .u8 47]).length = (Lib.itoa qn).length + 1 := by simp [Lib.byteCells]
    rw [hbl] at HA2
    have hxl : (Lib.byteCells (Lib.itoa qn)).length = (Lib.itoa qn).length := by simp [Lib.byteCells]
    have htot : (Lib.itoa qn ++ 47 :: Lib.itoa (qd : Int)).length = (Lib.itoa qn).length + 1 + (Lib.itoa (qd : Int)).length := by simp; omega
    have hcel : Lib.byteCells (Lib.itoa qn) ++ [Value.int .u8 47] ++ Lib.byteCells (Lib.itoa (qd : Int)) = Lib.byteCells (Lib.itoa qn ++ 47 :: Lib.itoa (qd : Int)) := by simp [Lib.byteCells]
    rw [hcel, ← htot] at HA2
    rw [hW, hgB]
    have HXL := Lib.hid hxl
    have HTOT := Lib.hid htot
    generalize Lib.itoa qn ++ 47 :: Lib.itoa (qd : Int) = L at *
    generalize Lib.byteCells (Lib.itoa qn) = X1 at *
    generalize (Lib.itoa qn).length = k1 at *
    generalize (Lib.itoa (qd : Int)).length = k2 at *
    have HA1 := Lib.hid HA1
    have HA2 := Lib.hid HA2
    have hbW := below_all hbq hal
    have hgw : w.heap.size ≤ gB := by rw [← hws]; exact hbq.size
    clear hW hB0 hbl hxl htot hcel hal hbq hb3 HT3 HT HTA HI HW1 HFR
    refine HA1.out.mono ?_
    rintro e w4 ⟨rfl, hB1, hT1⟩
    have hpt1 := HTW.tk hT1 hgl
    obtain ⟨W2, hW2⟩ : ∃ W2, w4.alloc (.cells #[.int .u8 47] 5) = W2 := ⟨_, rfl⟩
    have hal2 : Below w4.heap.size w4 W2 := by rw [← hW2]; exact (Below.refl _ _).alloc (Nat.le_refl _) _
    have hcell : ∀ j v, [Value.int .u8 47][j]? = some v → W2.cell? ((⟨w4.heap.size, 0, none⟩ : Addr).add j) = some v := by rw [← hW2]; exact cells_new w4 5 [.int .u8 47]
    have hsrc := Src.ofSlice (P := Tryz.prog) (w := W2) (size := 1) (tx := 91) Tryz.underlying91 ⟨w4.heap.size, 0, none⟩ 1 1 [.int .u8 47] rfl hcell (by simp [Value.oneCell'])
    obtain ⟨hr, hB2, hT2⟩ := buf_append (hB1.keep hal2) 91 91 _ _ _ hsrc (by rw [HXL.out]; omega)
    rw [HXL.out] at hr hB2 hT2
    have hpt2 := (hpt1.keep hal2).tk hT2 hgl
    have HR := Lib.hid hr
    have HW2 := Lib.hid hW2
    have HAA := Lib.hid (HA2.out _ hB2 hpt2)
    have HTT := Lib.hid ((hT1.then hal2).trans hT2)
    clear hr hB2 hT2 hsrc hcell hW2 hal2 hpt2 hpt1 hT1 hB1
    go_wp2_with (at_builtin; rw [HW2.out]; refine wpList_append_run _ rfl _ _ 91 91 rfl _ _ HR.out ?_)
    refine HAA.out.mono ?_
    rintro e w5 ⟨rfl, hB3, hT3⟩
    have hLl : L.length ≤ 48 := by have := HTOT.out; omega
    have hcv := run_convert_bytes_back (P := Tryz.prog) w5 91 9 5 ⟨gB, 0, none⟩ 48 L Tryz.underlying91 Tryz.underlying5 Tryz.underlying9 (hB3.cellAt hLl)
    have HLL := Lib.hid HTOT.out
    have hBE : Hid (Below w.heap.size w w5) := Lib.hid (Tk.below hbW (HTT.out.trans hT3) hgw)
    have hll : L.length = k1 + 1 + k2 := HTOT.out
    obtain ⟨kl, hkl⟩ : ∃ k, L.length = k := ⟨_, rfl⟩
    rw [hkl] at hcv ⊢
    clear hll hkl hB3 hT3
    go_wp2
    go_ret
    exact ⟨by rw [HF.out]; rfl, hBE.out⟩
end Go.Proofs.Tg.Fi
end
