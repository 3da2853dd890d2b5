/- Parts of the proof: WI5, WP2, NU12, NU14, XR2, BN27, SC1, FI2, IW1, IW9. -/
import Derived.Laws.CopyOwn
import Derived.Laws.IdiomCopy
import Derived.StillTailTactics
import Derived.Deep.CutBlock
import Derived.Laws.ShiftsVarLaws
import Derived.Carry
import Derived.Laws.OwnMore
import Derived.RegionTactic
import Derived.ChangeAlike
import Derived.Deep.DeepCutAuto
import Derived.Deep.CutRange
import Derived.ChangeKeysEq
import Derived.Laws.Rows
import Derived.Laws.Tables
import Derived.Deep.AppendLies
import Derived.Deep.RegionHeld3
import Derived.Deep.AppendSrc
import Derived.Lib.ItoaWalk
import Derived.CellFam
import Derived.Lib.ItoaLen
import Derived.Test.YtbgaiceakmmfdaaGreatDoorMMR0
import Derived.Test.YtbgaiceakmmfdaaGreatDoorMMR1
import Derived.Test.YtbgaiceakmmfdaaGreatDoorMMR2
import Derived.Test.YtbgaiceakmmfdaaGreatDoorMMR6
import Derived.Test.YtbgaiceakmmfdaaGreatDoorMMR7
set_option maxHeartbeats 64000000
set_option maxRecDepth 100000
namespace Go.Proofs.Tg
section
open Go.RowKit Go.Qn Go.Gr
theorem splitis_cases {l num den : List UInt8} {b ok : Bool} (h : SplitIs l b num den ok) : (ok = false ∧ rd l = none) ∨ (ok = true ∧ numOk num = true ∧ num.length ≤ l.length ∧ den = [] ∧ rd l = some (b, val num, 1)) ∨
    (ok = true ∧ numOk num = true ∧ num.length ≤ l.length ∧ den.length ≤ l.length ∧ den ≠ [] ∧ numOk den = true ∧ val num ≠ 0 ∧ val den ≠ 0 ∧ rd l = if Nat.gcd (val num) (val den) = 1 then some (b, val num, val den) else none) := by
  obtain ⟨h1, h2, h3, h4⟩ := h
  cases ok with
  | false => exact .inl ⟨rfl, h3 rfl⟩
  | true =>
    obtain ⟨a, b, c⟩ := h4 rfl
    by_cases hd : den = []
    ·exact .inr (.inl ⟨rfl, a, h1, hd, b hd⟩)
    ·exact .inr (.inr ⟨rfl, a, h1, h2, hd, (c hd).1, (c hd).2.1, (c hd).2.2.1, (c hd).2.2.2⟩)
end
end Go.Proofs.Tg
namespace Go.Proofs.Tg
section
open Go.RowKit Go.Qn Go.Gr Go
theorem cells_new (w : World) (t : TypeId) (xs : List Value) : ∀ j u, xs[j]? = some u → (w.alloc (.cells xs.toArray t)).cell? ((⟨w.heap.size, 0, none⟩ : Addr).add j) = some u := by
 intro j u hu
 rw [add_lit, Nat.zero_add, Blk.cell (Blk.new w t xs.toArray) j]
 simpa using hu
end
end Go.Proofs.Tg
namespace Go.Proofs.Tg
section
open Go.RowKit Go.Gr Go.Qn
def RetFD (l : List UInt8) (w : World) (e : Ending) (w' : World) : Prop :=
  Below w.heap.size w w' ∧ ((numOk l = false ∧ ∃ n A c, e = .returned (.tuple #[.agg #[.bool false, .slice A n c], .bool false])) ∨
    (numOk l = true ∧ ∃ ad c, e = .returned (.tuple #[.agg #[.bool false, .slice (some ad) (mg (val l)).length c], .bool true]) ∧ Digs w' (some ad) (mg (val l))))
theorem fdig_nil (w : World) : Calls Tryz.prog 31 #[.string ByteArray.empty] w (RetFD [] w) := by
 have hbA : Below w.heap.size w (w.alloc (.cells #[.bool false, .slice none 0 0] 52)) := bal
 have K2 := Blk.new w 52 #[.bool false, .slice none 0 0]
 have HM := zh (fun W => make1_any false none 0 0 W false rfl (by omega))
 go_enter Tryz.func31, Tryz.ntmps31
 go_wp2
 refine wp_loop_rounds 1 ?_
 rw [rounds_succ]
 go_wp2_with (go_at_call 32; refine (HM.out _).mono ?_; rintro e w2 ⟨rfl, hb2⟩
              have K3 := K2.keep hb2 K2.lt
              obtain ⟨j0, j1, j2, j3⟩ := K3.two)
 refine bodyPost_ret (v := .tuple #[.agg #[.bool false, .slice none 0 0], .bool false]) (by simp [results, Tryz.results31, go_sem, j0, j1]) rfl ⟨?_, .inl ⟨rfl, 0, none, 0, rfl⟩⟩
 exact ((below_all hbA hb2).setCell (by simp) _).setCell (by simp) _
theorem tw47 (r : List UInt8) (k : Nat) (h : ∀ c ∈ r.take k, ne47 c = true) (hx : r.length ≤ k ∨ ∃ h : k < r.length, ne47 r[k] = false) : (r.takeWhile ne47).length = min k r.length := by
 rw [(tw_at r k h hx).1, List.length_take]
theorem drop47 {r : List UInt8} (h : (r.takeWhile ne47).length < r.length) : ∃ t, r.dropWhile ne47 = 47 :: t ∧ t = r.drop ((r.takeWhile ne47).length + 1) := by
 have e := List.takeWhile_append_dropWhile (p := ne47) (l := r)
 cases hd : r.dropWhile ne47 with
 | nil =>
   rw [hd, List.append_nil] at e; rw [e] at h; omega
 | cons c t =>
   have hc : ne47 c = false := by
    have := List.head?_dropWhile_not ne47 r; rw [hd] at this; simpa using this
   have hc' : c = 47 := by unfold ne47 at hc; simpa using hc
   subst hc'; refine ⟨t, rfl, ?_⟩; rw [hd] at e
   have : r.drop ((r.takeWhile ne47).length + 1) = (r.takeWhile ne47 ++ 47 :: t).drop ((r.takeWhile ne47).length + 1) := by rw [e]
   rw [this, List.drop_append]; simp
end
end Go.Proofs.Tg
namespace Go.Proofs.Tg
section
open Go.RowKit Go.Gr Go Go.Qn
theorem wpAnyH_get {P : Program} {md : Region.Mode} {ops : Array Oper} {Q : Exit → Act → World → Prop} {S : World → Prop} (i : Nat) (d : Option Tmp) (v : Value) {oi : Oper} {fuel : Nat} {listed : Array Bool} {a : Act} {w : World} (hi : ops[i]? = some oi) (hd : oi.dst = d)
    (hs : Region.noSelect ops = true) (hf : Region.free md ops listed i = true) (hr : (Region.ready md ops listed).contains i = true) (hQ : ∀ c a w, Q (.panic c) (a.put d v) w → Q (.panic c) a w)
    (hw : Region.wanted oi (yielded ops a.tmps) = true) (hS : S w) (hy : ∀ w, S w → (execOp a.eval oi).run P w = .ok (.value v) w) (h : wpAnyH P md ops Q S fuel (listed.setIfInBounds i true) (a.put d v) w) : wpAnyH P md ops Q S (fuel + 1) listed a w := by
  subst hd; exact wpAnyH_take hi hs hf hr hQ (.inl ⟨hw, hy⟩) hS h
end
end Go.Proofs.Tg
namespace Go.Proofs.Tg
section
open Go.RowKit Go.Gr Go.Bn Go.Rq
theorem rat_whole {q : Rat} (h : q.den = 1) : q = (q.num : Rat) := Rat.ext rfl h
abbrev Tk (g : Nat) (w w' : World) : Prop := w.grownBy w' (some g)
theorem Tk.of {g : Nat} {w w' : World} (h : Below w.heap.size w w') : Tk g w w' := ⟨h.os, h.tape, h.output, h.size, fun k hk _ => h.block k hk⟩
theorem Tk.refl (g : Nat) (w : World) : Tk g w w := ⟨rfl, rfl, rfl, Nat.le_refl _, fun _ _ _ => rfl⟩
theorem Tk.trans {g : Nat} {w w' w'' : World} (h : Tk g w w') (k : Tk g w' w'') : Tk g w w'' :=
  ⟨k.os.trans h.os, k.tape.trans h.tape, k.output.trans h.output, Nat.le_trans h.size k.size, fun i hi hg => (k.block i (Nat.lt_of_lt_of_le hi h.size) hg).trans (h.block i hi hg)⟩
theorem Tk.then {g : Nat} {w w' w'' : World} (h : Tk g w w') (k : Below w'.heap.size w' w'') : Tk g w w'' := h.trans (Tk.of k)
theorem Tk.set (g : Nat) (w : World) (i : Nat) (u : Value) : Tk g w (w.setCell ⟨g, i, none⟩ u) :=
  ⟨rfl, rfl, rfl, by simp [World.setCell], fun k _ hk => Below.heap_setCell w _ u k (fun e => hk (by rw [e]))⟩
theorem Tk.below {g : Nat} {w0 w w' : World} (hb : Below w0.heap.size w0 w) (h : Tk g w w') (hg : w0.heap.size ≤ g) : Below w0.heap.size w0 w' :=
  hb.grown h hb.size (fun k hk => by injection hk with hk; omega)
end
end Go.Proofs.Tg
namespace Go.Proofs.Tg.Fi
section
open Go.RowKit Go.Rq Go.Qn Go.Lib Go.Sort Go.Proofs.Tg
structure Buf (w : World) (g : Nat) (t : TypeId) (N : Nat) (xs : List Value) : Prop where
  ex : ∃ cs : Array Value, Blk w g t cs ∧ cs.size = N ∧ cs.toList.take xs.length = xs
theorem Buf.keep {w w' : World} {g N : Nat} {t : TypeId} {xs : List Value} (h : Buf w g t N xs) (hb : Below w.heap.size w w') : Buf w' g t N xs := by
 obtain ⟨cs, B, r⟩ := h.ex
 exact ⟨cs, B.keep hb B.lt, r⟩
theorem Buf.lt {w : World} {g N : Nat} {t : TypeId} {xs : List Value} (h : Buf w g t N xs) : g < w.heap.size := by
 obtain ⟨cs, B, r⟩ := h.ex
 exact B.lt
theorem Buf.room {w : World} {g N : Nat} {t : TypeId} {xs : List Value} (h : Buf w g t N xs) {j : Nat} (hj : j < N) : (w.cell? ⟨g, j, none⟩).isSome = true ∧ w.frozen? ⟨g, j, none⟩ = false := by
 obtain ⟨cs, B, hs, _⟩ := h.ex
 refine ⟨?_, B.frozen j⟩
 rw [B.cell j]
 simp; omega
theorem blk_setCells {g : Nat} {t : TypeId} : ∀ (news : List Value) (o : Nat) (w : World) (cs : Array Value), Blk w g t cs → o + news.length ≤ cs.size → ∃ cs', Blk (w.setCells g o news) g t cs' ∧ cs'.size = cs.size ∧ cs'.toList.take (o + news.length) = cs.toList.take o ++ news
  | [], o, w, cs, h, ho => ⟨cs, h, rfl, by simp⟩
  | v :: r, o, w, cs, h, ho => by
    have h1 := h.set o v; obtain ⟨cs', B, hs, ht⟩ := blk_setCells r (o + 1) _ _ h1 (by simp at ho ⊢; omega); refine ⟨cs', B, by rw [hs]; simp, ?_⟩; rw [List.length_cons, show o + (r.length + 1) = o + 1 + r.length by omega, ht]
    have ho2 : o < cs.toList.length := by simp at ho ⊢; omega
    rw [show (cs.setIfInBounds o v).toList = cs.toList.set o v by simp, List.take_succ_eq_append_getElem (by simpa using ho2)]; simp [List.take_set_of_le]
theorem tk_setCells (g : Nat) : ∀ (news : List Value) (o : Nat) (w : World), Tk g w (w.setCells g o news)
  | [], _, w => Tk.refl g w
  | v :: r, o, w => (Tk.set g w o v).trans (tk_setCells g r (o + 1) _)
theorem wpList_append_run {P : Program} (w : World) {ops : Array Oper} {rest : List Oper} {o : Oper} {a : Act} {Q : Exit → Act → World → Prop} (hgd : o.guard = none) (s x : Operand) (t tx : TypeId)
    (ho : o.op = .call { callee := .builtin .append, args := #[s, x], argTypes := #[t, tx] }) (v' : Value) (w' : World)
    (hr : (Builtin.append_ #[t, tx] o.type #[a.eval s, a.eval x]).run P w = .ok v' w') (h : wpList P ops Q rest (a.put o.dst v') w') : wpList P ops Q (o :: rest) a w := by
  refine wpList_plain hgd fun K hK => ?_
  unfold Oper.wp execOp; simp only [ho, resolve, invoke, builtin, Sem.run_bind, Sem.run_pure, Result.andThen_ok, List.map_toArray, List.map_cons, List.map_nil, hr]; exact hK _ _ h
theorem byte_info : (Tryz.prog.info? 5).map (fun i => (i.zero, i.size, i.bytes)) = some (some (.int .u8 0), 1, 1) := by kernel_rfl
theorem buf_append {w : World} {g N : Nat} {t : TypeId} {xs : List Value} (h : Buf w g t N xs) (tx ty : TypeId) (x : Value) (n : Nat) (news : List Value) (hs : Src Tryz.prog 1 tx x n news w) (hroom : xs.length + n ≤ N) :
    (Builtin.append_ #[91, tx] ty #[.slice (some ⟨g, 0, none⟩) xs.length N, x]).run Tryz.prog w = .ok (.slice (some ⟨g, 0, none⟩) (xs.length + n) N) (w.setCells g xs.length news) ∧ Buf (w.setCells g xs.length news) g t N (xs ++ news) ∧ Tk g w (w.setCells g xs.length news) := by
  obtain ⟨i0, hi, hz0, hz1, hz2⟩ := info_parts byte_info; have hnl := hs.newsLen; refine ⟨?_, ?_, tk_setCells g _ _ _⟩
  ·have := run_append_room_src (P := Tryz.prog) w 91 tx ty 5 i0 Tryz.underlying91 hi g 0 xs.length N x n news (by rw [hz1]; exact hs) hroom
     (fun j hj => by rw [hz1]; simp only [Nat.zero_add, Nat.mul_one]; exact (h.room (by omega)).1) (fun j hj => by rw [hz1]; simp only [Nat.zero_add, Nat.mul_one]; exact (h.room (by omega)).2)
   rw [hz1] at this; simpa using this
  ·obtain ⟨cs, B, hsz, ht⟩ := h.ex; obtain ⟨cs', B', hs', ht'⟩ := blk_setCells news xs.length w cs B (by omega); exact ⟨cs', B', by omega, by rw [List.length_append, ht', ht]⟩
def RetBuf (g : Nat) (t : TypeId) (N : Nat) (xs : List Value) (l : List UInt8) (w : World) (e : Ending) (w' : World) : Prop :=
  e = .returned (.slice (some ⟨g, 0, none⟩) (xs.length + l.length) N) ∧ Buf w' g t N (xs ++ Lib.byteCells l) ∧ Tk g w w'
theorem small_lay (i : Nat) (h : i < 100) (w : World) : Calls Tryz.prog 92 #[.int .i64 i] w fun e w' => e = .returned (.string (bs (Lib.decDigits i))) ∧ w' = w :=
  Any.internal_strconv_small { fmtLay with } i h w
theorem ndig_lay (u : Nat) (h1 : 1 ≤ u) (h2 : u < 18446744073709551616) (w : World) (ht : PT w) : Calls Tryz.prog 93 #[.int .u64 u] w fun e w' => e = .returned (.int .i64 (Lib.nDigits u)) ∧ w' = w :=
  Any.internal_strconv_numDigits { fmtLay with } u h1 h2 w ht
theorem auint_small (g N u : Nat) (t : TypeId) (xs : List Value) (w : World) (h : Buf w g t N xs) (hu : u < 100) (hroom : xs.length + 20 ≤ N) :
    Calls Tryz.prog 96 #[.slice (some ⟨g, 0, none⟩) xs.length N, .int .u64 u, .int .i64 10] w (RetBuf g t N xs (Lib.decDigits u) w) := by
  have hlen : (Lib.decDigits u).length ≤ 20 := by
   rw [Lib.decDigits_length]
   by_cases h10 : u < 10
   ·rw [Lib.nDigits_small h10]; omega
   ·rw [Lib.nDigits_big h10, Lib.nDigits_small (show u / 10 < 10 by omega)]; omega
  have hsz : (bs (Lib.decDigits u)).size = (Lib.decDigits u).length := bs_size _; have hsrc := Src.ofString (P := Tryz.prog) (w := w) (tx := 9) Tryz.underlying9 (bs (Lib.decDigits u))
  have hbc : Go.byteCells (bs (Lib.decDigits u)) = Lib.byteCells (Lib.decDigits u) := by
   unfold Go.byteCells Lib.byteCells; rw [bs_data]
  rw [hbc, hsz] at hsrc; obtain ⟨hr, hB, hT⟩ := buf_append h 9 91 _ _ _ hsrc (by omega); have HR := zh hr; have HB := zh hB; have HT := zh hT; have HS := zh (small_lay u hu); generalize bs (Lib.decDigits u) = S at *; clear hr hB hT hsrc hbc hsz h; obtain ⟨n, hn⟩ := eqx (xs.length); unfold RetBuf; rw [hn] at HR HB HT hroom ⊢; have HN := zh hn; clear hn; have hui : decide ((u : Int) < 100) = true := dT (by omega); have hun : decide (u < 100) = true := dT hu; go_enter Tryz.func96, Tryz.ntmps96
  go_wp2_with (first
    | (go_at_call 92; refine (HS.out _).mono ?_; rintro e w' ⟨rfl, rfl⟩)
    | (at_builtin; refine wpList_append_run _ rfl _ _ 91 9 rfl _ _ HR.out ?_))
  go_ret; exact ⟨rfl, HB.out, HT.out⟩
theorem auint_big (g N u : Nat) (t : TypeId) (xs : List Value) (w : World) (h : Buf w g t N xs) (hu : 100 ≤ u) (hu64 : u < 18446744073709551616) (hroom : xs.length + 20 ≤ N) (ht : PT w) :
    Calls Tryz.prog 96 #[.slice (some ⟨g, 0, none⟩) xs.length N, .int .u64 u, .int .i64 10] w (RetBuf g t N xs (Lib.decDigits u) w) := by
  have hu1 : 1 ≤ u := by omega
  have hnd20 : Lib.nDigits u ≤ 20 := by have := Lib.numDigits_eq u hu1 hu64; split at this <;> omega
  have hal : Tryz.prog.arrayLen 142 = 24 := by kernel_rfl
  have hsl : ∀ W, (Instr.sliceAt 142 (.pointer (some ⟨w.heap.size, 0, none⟩)) none (some (.int .i64 (Lib.nDigits u : Int))) none).run Tryz.prog W = .ok (.slice (some ⟨w.heap.size, 0, none⟩) (Lib.nDigits u) 24) W := fun W => by
   rw [run_sliceAt_array_h W 142 ⟨w.heap.size, 0, none⟩ (by simp [Program.arrayLen, Program.elem, Tryz.underlying142]) .i64 (Lib.nDigits u : Int) (by omega) (by rw [hal]; omega)]; go_simp
  have hH0 := Lib.holds_zero0 w 142 (Lib.nDigits u) (by omega)
  have hfmt : Calls Tryz.prog 94 #[.slice (some ⟨w.heap.size, 0, none⟩) (Array.replicate (Lib.nDigits u) (0 : UInt8)).size 24, .int .u64 u] (w.alloc (.cells Lib.zeros24 142)) fun e w' =>
   e = .returned (.tuple #[]) ∧ ∃ (n v' : Nat) (dk : Array UInt8), w' = (putRow (fun (b : UInt8) => Value.int .u8 (b.toNat : Int)) (w.alloc (.cells Lib.zeros24 142)) w.heap.size 0 dk).drewN n ∧ FmtInv (Array.replicate (Lib.nDigits u) (0 : UInt8)).size u 0 v' dk :=
   Any.internal_strconv_formatBase10 { fmtLay with } w.heap.size 0 24 u (Array.replicate (Lib.nDigits u) 0) (w.alloc (.cells Lib.zeros24 142)) hH0 (by rw [Array.size_replicate]; exact Lib.lt_pow_nDigits u) hu64 (by rw [Array.size_replicate]; omega)
  rw [Array.size_replicate] at hfmt; have HH0 := zh hH0
  have iu : (100 : Int) ≤ (u : Int) := by omega
  have HND := zh (ndig_lay u hu1 hu64 (w.alloc (.cells Lib.zeros24 142)) (Lib.tabIs_alloc ht _)); have HFM := zh hfmt; have HL := zh (Lib.decDigits_length u); unfold RetBuf; obtain ⟨n, hn⟩ := eqx (xs.length); have HN := zh hn; have HBF := zh h; rw [hn] at hroom ⊢; clear hH0 hal hfmt hn h; go_enter Tryz.func96, Tryz.ntmps96
  go_wp2_with (go_at_call 93; refine HND.out.mono ?_; rintro e w' ⟨rfl, rfl⟩)
  refine HFM.out.mono ?_; rintro e w' ⟨rfl, k, v', dk, rfl, hF⟩
  have hcells : ∀ j u', (Lib.byteCells (Lib.decDigits u))[j]? = some u' → ((putRow (fun (b : UInt8) => Value.int .u8 (b.toNat : Int)) (w.alloc (.cells Lib.zeros24 142)) w.heap.size 0 dk).drewN k).cell? ((⟨w.heap.size, 0, none⟩ : Addr).add j) = some u' := by
   intro j u' hj
   have hjl : j < (Lib.decDigits u).length := by
    have h5 := (List.getElem?_eq_some_iff.1 hj).1
    rwa [Lib.byteCells_length] at h5
   have e5 : (Lib.byteCells (Lib.decDigits u))[j]? = some (Value.int .u8 ((Lib.decDigits u)[j].toNat : Int)) := by simp [Lib.byteCells, hjl]
   rw [e5] at hj
   cases hj
   rw [Lib.row_is_numeral hF j hjl, Lib.add_plain, World.cell?_drewN]; exact cell?_putRow (fun (b : UInt8) => Value.int .u8 (b.toNat : Int)) _ w.heap.size 0 _ dk HH0.out (by rw [hF.size, Array.size_replicate]) j (by rw [hF.size]; rw [Lib.decDigits_length] at hjl; exact hjl)
  obtain ⟨os, eo⟩ := Lib.fin_at w (.cells Lib.zeros24 142) dk k 0
  have hbe : Below w.heap.size w ((putRow (fun (b : UInt8) => Value.int .u8 (b.toNat : Int)) (w.alloc (.cells Lib.zeros24 142)) w.heap.size 0 dk).drewN k) := by rw [eo]; exact Lib.below_grow _ w (Nat.le_refl _) k os
  generalize (putRow (fun (b : UInt8) => Value.int .u8 (b.toNat : Int)) (w.alloc (.cells Lib.zeros24 142)) w.heap.size 0 dk).drewN k = W2 at hcells hbe ⊢; clear eo HH0 HFM; have hsrc := Src.ofSlice (P := Tryz.prog) (w := W2) (size := 1) (tx := 91) Tryz.underlying91 ⟨w.heap.size, 0, none⟩ (Lib.nDigits u) 24 (Lib.byteCells (Lib.decDigits u)) (by rw [Lib.byteCells_length, Lib.decDigits_length, Nat.mul_one]) hcells (by intro u' hu'; simp only [Lib.byteCells, List.mem_map] at hu'; obtain ⟨b, _, rfl⟩ := hu'; rfl); obtain ⟨hr, hB, hT⟩ := buf_append (HBF.out.keep hbe) 91 91 _ _ _ hsrc (by rw [HN.out]; omega); rw [HN.out] at hr hB hT; have HR := zh hr; have HB := zh hB; have HT := zh ((Tk.of hbe).trans hT); have HLL := zh HL.out.symm; generalize Lib.nDigits u = nd at *; clear hr hB hT hsrc hcells hbe
  go_wp2_with (at_builtin; refine wpList_append_run _ rfl _ _ 91 91 rfl _ _ HR.out ?_)
  go_ret; exact ⟨by rw [HLL.out]; rfl, HB.out, HT.out⟩
theorem auint_any (g N u : Nat) (t : TypeId) (xs : List Value) (w : World) (h : Buf w g t N xs) (hu64 : u < 18446744073709551616) (hroom : xs.length + 20 ≤ N) (ht : PT w) :
    Calls Tryz.prog 96 #[.slice (some ⟨g, 0, none⟩) xs.length N, .int .u64 u, .int .i64 10] w (RetBuf g t N xs (Lib.decDigits u) w) := by
  by_cases hu : u < 100
  ·exact auint_small g N u t xs w h hu hroom
  ·exact auint_big g N u t xs w h (by omega) hu64 hroom ht
theorem tab_named : Tryz.prog.globalNamed "internal/strconv.uint64pow10" = some 0 := by kernel_rfl
theorem PT.lt {w : World} (h : PT w) : 0 < w.heap.size := by
 unfold PT Lib.TabIs World.var? at h
 rw [tab_named] at h
 simp only [Option.bind_some] at h
 cases hh : w.heap[(0 : Nat)]? with
 | none => rw [hh] at h; cases h
 | some o => exact (Array.getElem?_eq_some_iff.1 hh).1
theorem PT.tk {g : Nat} {w w' : World} (h : PT w) (hk : Tk g w w') (hg : 0 < g) : PT w' := by
 have hl := h.lt
 have hb := hk.block 0 hl (by intro e; injection e with e; omega)
 unfold PT Lib.TabIs World.var? at *
 rw [tab_named] at *
 simp only [Option.bind_some] at *
 rw [hb]; exact h
theorem aint_in (i : Int) (h0 : -9223372036854775808 ≤ i) (h1 : i < 9223372036854775808) (g N : Nat) (t : TypeId) (xs : List Value) (w : World) (h : Buf w g t N xs) (hroom : xs.length + 21 ≤ N) (ht : PT w) (hg : 0 < g) :
    Calls Tryz.prog 70 #[.slice (some ⟨g, 0, none⟩) xs.length N, .int .i64 i, .int .i64 10] w (RetBuf g t N xs (Lib.itoa i) w) := by
  obtain ⟨u, hu⟩ := eqx (i.natAbs : Nat)
  have hu64 : u < 18446744073709551616 := by omega
  by_cases hi : i < 0
  ·have hit : Lib.itoa i = 45 :: Lib.decDigits u := by unfold Lib.itoa; rw [if_pos hi, hu]
   have hd : decide (i < 0) = true := dT hi
   have hc : IntKind.u64.wrap i = 18446744073709551616 - (u : Int) := by
    have e : IntKind.u64.wrap i = i % 18446744073709551616 := rfl; rw [e]; omega
   have hc2 : IntKind.u64.wrap (-(18446744073709551616 - (u : Int))) = (u : Int) := by
    have e : IntKind.u64.wrap (-(18446744073709551616 - (u : Int))) = (-(18446744073709551616 - (u : Int))) % 18446744073709551616 := rfl; rw [e]; omega
   have hui : i = -(u : Int) := by omega
   obtain ⟨W, hW⟩ := eqx (w.alloc (.cells #[.int .u8 45] 5))
   have hbW : Below w.heap.size w W := by rw [← hW]; exact bal
   have hcell : ∀ j v, [Value.int .u8 45][j]? = some v → W.cell? ((⟨w.heap.size, 0, none⟩ : Addr).add j) = some v := by rw [← hW]; exact cells_new w 5 [.int .u8 45]
   have hsrc := Src.ofSlice (P := Tryz.prog) (w := W) (size := 1) (tx := 91) Tryz.underlying91 ⟨w.heap.size, 0, none⟩ 1 1 [.int .u8 45] rfl hcell (by simp [Value.oneCell']); obtain ⟨hr, hB, hT⟩ := buf_append (h.keep hbW) 91 91 _ _ _ hsrc (by omega); have hpt : PT (W.setCells g xs.length [.int .u8 45]) := (ht.keep hbW).tk hT hg; have HA := zh (auint_any g N u t (xs ++ [.int .u8 45]) _ hB hu64 (by simp; omega) hpt); have HR := zh hr; have HT := zh ((Tk.of hbW).trans hT); have HWW := zh hW; obtain ⟨n, hn⟩ := eqx (xs.length); rw [hit]; unfold RetBuf; rw [List.length_append, List.length_singleton] at HA; unfold RetBuf at HA; rw [hn] at HR HT HA hroom ⊢; have HN := zh hn; clear hW hr hB hT hsrc hcell hpt hbW h ht hn hit; subst hui; clear hu; go_enter Tryz.func70, Tryz.ntmps70
   go_wp2_with (at_builtin; rw [HWW.out]; refine wpList_append_run _ rfl _ _ 91 91 rfl _ _ HR.out ?_)
   refine HA.out.mono ?_; rintro e w2 ⟨rfl, hB2, hT2⟩; go_wp2; go_ret; refine ⟨?_, ?_, HT.out.trans hT2⟩
   ·rw [HN.out, show n + 1 + (Lib.decDigits u).length = n + ((Lib.decDigits u).length + 1) by omega]; rfl
   ·have e : xs ++ Lib.byteCells (45 :: Lib.decDigits u) = xs ++ [.int .u8 45] ++ Lib.byteCells (Lib.decDigits u) := by simp [Lib.byteCells]
    rw [e]; exact hB2
  ·have hit : Lib.itoa i = Lib.decDigits u := by
    unfold Lib.itoa; rw [if_neg hi, show i.toNat = u by omega]
   have hui : i = (u : Int) := by omega
   have HA := zh (auint_any g N u t xs w h hu64 (by omega) ht); obtain ⟨n, hn⟩ := eqx (xs.length); rw [hit]; rw [hn] at HA hroom ⊢; subst hui; have hd : decide ((u : Int) < 0) = false := dF hi
   have hc : IntKind.u64.wrap (u : Int) = (u : Int) := by
    have e : IntKind.u64.wrap (u : Int) = (u : Int) % 18446744073709551616 := rfl; rw [e]; omega
   have HN := zh hn; clear hu hit h ht hn; go_enter Tryz.func70, Tryz.ntmps70; go_wp2_with (fail); refine HA.out.mono ?_; rintro e w2 ⟨rfl, hB2, hT2⟩; go_wp2; go_ret; refine ⟨?_, hB2, hT2⟩; rw [HN.out]; rfl
theorem aint_any (i : Int) (h0 : -9223372036854775808 ≤ i) (h1 : i < 9223372036854775808) (g N : Nat) (t : TypeId) (xs : List Value) (w : World) (h : Buf w g t N xs) (hroom : xs.length + 21 ≤ N) (ht : PT w) (hg : 0 < g) :
    Calls Tryz.prog 43 #[.slice (some ⟨g, 0, none⟩) xs.length N, .int .i64 i, .int .i64 10] w (RetBuf g t N xs (Lib.itoa i) w) := by
  have HA := zh (aint_in i h0 h1 g N t xs w h hroom ht hg); obtain ⟨n, hn⟩ := eqx (xs.length); rw [hn] at HA ⊢; have HN := zh hn; clear hn h hroom ht; go_enter Tryz.func43, Tryz.ntmps43; go_wp2_with (fail); refine HA.out.mono ?_; rintro e w2 ⟨rfl, hB2, hT2⟩; go_wp2; go_ret; exact ⟨by rw [HN.out]; rfl, hB2, hT2⟩
end
end Go.Proofs.Tg.Fi
namespace Go.Bw
section
abbrev B : Nat := 18446744073709551616
def val : List Nat → Nat
  | [] => 0
  | x :: xs => x + B * val xs
def Dig (xs : List Nat) : Prop := ∀ x ∈ xs, x < B
def Norm (xs : List Nat) : Prop := ∀ h : xs ≠ [], xs.getLast h ≠ 0
theorem val_app (xs ys : List Nat) : val (xs ++ ys) = val xs + B ^ xs.length * val ys := by
 induction xs with
 | nil => simp [val]
 | cons x xs ih =>
   simp only [List.cons_append, val, ih, List.length_cons, Nat.pow_succ]; rw [Nat.mul_add, Nat.mul_comm (B ^ xs.length) B, Nat.mul_assoc]; omega
theorem val_lt {xs : List Nat} (h : Dig xs) : val xs < B ^ xs.length := by
 induction xs with
 | nil => simp [val]
 | cons x xs ih =>
   have h1 := h x (by simp); have h2 := ih (fun y hy => h y (by simp [hy])); simp only [val, List.length_cons, Nat.pow_succ]; have : B * (val xs + 1) ≤ B * B ^ xs.length := Nat.mul_le_mul_left _ h2; rw [Nat.mul_comm (B ^ xs.length) B]; rw [Nat.mul_add] at this; omega
theorem val_zeros (n : Nat) : val (List.replicate n 0) = 0 := by
 induction n with
 | zero => rfl
 | succ n ih => rw [List.replicate_succ]; simp [val, ih]
def dg (n : Nat) : List Nat := if _h : n = 0 then [] else n % B :: dg (n / B)
termination_by n
decreasing_by exact Nat.div_lt_self (by omega) (by decide)
theorem dg_zero : dg 0 = [] := by unfold dg; rfl
theorem dg_pos {n : Nat} (h : n ≠ 0) : dg n = n % B :: dg (n / B) := by rw [dg]; simp [h]
theorem dg_small {n : Nat} (h : n ≠ 0) (hb : n < B) : dg n = [n] := by
 rw [dg_pos h, Nat.mod_eq_of_lt hb, Nat.div_eq_of_lt hb, dg_zero]
theorem val_dg (n : Nat) : val (dg n) = n := by
 induction n using Nat.strongRecOn with
 | _ n ih =>
   by_cases h : n = 0
   ·subst h; rw [dg_zero]; rfl
   ·rw [dg_pos h]; simp only [val]; rw [ih _ (Nat.div_lt_self (by omega) (by decide))]; have := Nat.mod_add_div n B; omega
theorem dg_dig (n : Nat) : Dig (dg n) := by
 induction n using Nat.strongRecOn with
 | _ n ih =>
   by_cases h : n = 0
   ·subst h; rw [dg_zero]; intro x hx; cases hx
   ·rw [dg_pos h]; intro x hx
    rcases List.mem_cons.1 hx with rfl | hx
    ·exact Nat.mod_lt _ (by decide)
    ·exact ih _ (Nat.div_lt_self (by omega) (by decide)) x hx
theorem norm_cons {x : Nat} {xs : List Nat} (h : Norm (x :: xs)) : Norm xs := by
 intro hne
 have := h (by simp)
 rwa [List.getLast_cons hne] at this
theorem norm_pos {xs : List Nat} (h : Norm xs) (hv : val xs = 0) : xs = [] := by
 induction xs with
 | nil => rfl
 | cons x xs ih =>
   simp only [val] at hv
   have h1 : x = 0 := by omega
   have h2 : val xs = 0 := by
    have : B * val xs = 0 := by omega
    rcases Nat.mul_eq_zero.1 this with h | h
    ·exact absurd h (by decide)
    ·exact h
   have h3 := ih (norm_cons h) h2; subst h3 h1; exact absurd rfl (h (by simp))
theorem dg_val {xs : List Nat} (hd : Dig xs) (hn : Norm xs) : dg (val xs) = xs := by
 induction xs with
 | nil => exact dg_zero
 | cons x xs ih =>
   have hx := hd x (by simp); have ih := ih (fun y hy => hd y (by simp [hy])) (norm_cons hn)
   have hv : val (x :: xs) ≠ 0 := fun e => by have := norm_pos hn e; cases this
   rw [dg_pos hv]; simp only [val] at hv ⊢; rw [Nat.add_mul_mod_self_left, Nat.mod_eq_of_lt hx, Nat.add_mul_div_left _ _ (by decide), Nat.div_eq_of_lt hx, Nat.zero_add, ih]
theorem dg_norm (n : Nat) : Norm (dg n) := by
 induction n using Nat.strongRecOn with
 | _ n ih =>
   by_cases h : n = 0
   ·subst h; rw [dg_zero]; intro h; exact absurd rfl h
   ·intro hne; have hlt : n / B < n := Nat.div_lt_self (by omega) (by decide); have ih := ih _ hlt; have e := dg_pos h
    by_cases h2 : n / B = 0
    ·have hb : n < B := by
      rcases Nat.div_eq_zero_iff.1 h2 with h3 | h3
      ·exact absurd h3 (by decide)
      ·exact h3
     have : ∀ (l : List Nat) (hl : l ≠ []), l = [n] → l.getLast hl ≠ 0 := fun l hl el => by subst el; simpa using h
     exact this _ hne (dg_small h hb)
    ·have hd : dg (n / B) ≠ [] := fun e2 => h2 (by have := val_dg (n / B); rw [e2] at this; exact this.symm)
     have : ∀ (l : List Nat) (hl : l ≠ []), l = n % B :: dg (n / B) → l.getLast hl ≠ 0 := fun l hl el => by
      subst el; rw [List.getLast_cons hd]; exact ih hd
     exact this _ hne e
theorem dg_append_zero (xs : List Nat) : val (xs ++ [0]) = val xs := by rw [val_app]; simp [val]
theorem dg_len_lt {n k : Nat} (h : n < B ^ k) : (dg n).length ≤ k := by
 induction k generalizing n with
 | zero => have : n = 0 := by simpa using h
           subst this; rw [dg_zero]; simp
 | succ k ih =>
   by_cases h0 : n = 0
   ·subst h0; rw [dg_zero]; simp
   ·rw [dg_pos h0, List.length_cons]
    have : n / B < B ^ k := by
     rw [Nat.pow_succ] at h; exact Nat.div_lt_of_lt_mul (by rw [Nat.mul_comm]; exact h)
    have := ih this; omega
theorem dg_ge {n k : Nat} (h : B ^ k ≤ n) : k < (dg n).length := by
 have h1 := val_lt (dg_dig n)
 rw [val_dg] at h1
 rcases Nat.lt_or_ge k (dg n).length with h2 | h2
 ·exact h2
 ·have := Nat.pow_le_pow_right (show 0 < B by decide) h2
  omega
structure Tops (u v top u2 v1 v2 P : Nat) : Prop where
  u_hi : (top * B + u2) * P ≤ u
  u_lo : u < (top * B + u2 + 1) * P
  v_hi : (v1 * B + v2) * P ≤ v
  v_lo : v < (v1 * B + v2 + 1) * P
  u2lt : u2 < B
  v2lt : v2 < B
  big : B ≤ 2 * v1
  v1lt : v1 < B
theorem Tops.two {u v top u2 v1 v2 P q : Nat} (h : Tops u v top u2 v1 v2 P) (hq : q * v ≤ u) : q * (v1 * B + v2) ≤ top * B + u2 := by
 have h1 : q * ((v1 * B + v2) * P) ≤ q * v := Nat.mul_le_mul_left _ h.v_hi
 have h2 : q * (v1 * B + v2) * P < (top * B + u2 + 1) * P := by
  rw [Nat.mul_assoc]; exact Nat.lt_of_le_of_lt (Nat.le_trans h1 hq) h.u_lo
 have := Nat.lt_of_mul_lt_mul_right h2
 omega
theorem Tops.first {u v top u2 v1 v2 P q : Nat} (h : Tops u v top u2 v1 v2 P) (hq : q * v ≤ u) : q ≤ top / v1 := by
 have h1 := h.two hq
 have hu := h.u2lt
 have hb := h.big
 rw [Nat.mul_add, ← Nat.mul_assoc] at h1
 have h2 : q * v1 * B < (top + 1) * B := by rw [Nat.add_mul]; omega
 have h3 := Nat.lt_of_mul_lt_mul_right h2
 rw [Nat.le_div_iff_mul_le (by simp only [B] at hb; omega)]
 omega
theorem Tops.down {u v top u2 v1 v2 P q e r : Nat} (h : Tops u v top u2 v1 v2 P) (hq : q * v ≤ u) (he : e * v1 + r = top) (ht : r * B + u2 < e * v2) (hqe : q ≤ e) : q ≤ e - 1 := by
 rcases Nat.lt_or_ge q e with h1 | h1
 ·omega
 ·have : q = e := by omega
  subst this; have h2 := h.two hq; rw [Nat.mul_add, ← Nat.mul_assoc, ← he, Nat.add_mul] at h2; omega
theorem Tops.small {u v top u2 v1 v2 P : Nat} (h : Tops u v top u2 v1 v2 P) (hlt : u < v * B) : top / v1 ≤ B + 1 := by
 have hb := h.big
 have hv2 := h.v2lt
 have h1 : (top * B + u2) * P < (v1 * B + v2 + 1) * P * B := Nat.lt_of_le_of_lt h.u_hi (Nat.lt_of_lt_of_le hlt (Nat.mul_le_mul_right _ (Nat.le_of_lt h.v_lo)))
 have h2 : (top * B + u2) * P < ((v1 * B + v2 + 1) * B) * P := by rw [Nat.mul_right_comm]; exact h1
 have h3 := Nat.lt_of_mul_lt_mul_right h2
 have h4 : (v1 * B + v2 + 1) * B ≤ (v1 * B + B) * B := Nat.mul_le_mul_right _ (by omega)
 have h5 : top * B < (v1 * B + B) * B := Nat.lt_of_le_of_lt (Nat.le_add_right _ u2) (Nat.lt_of_lt_of_le h3 h4)
 have h6 : top < v1 * B + B := Nat.lt_of_mul_lt_mul_right h5
 have h7 : top < (B + 2) * v1 := by
  simp only [B] at h6 hb ⊢; omega
 have := (Nat.div_lt_iff_lt_mul (by simp only [B] at hb; omega)).2 h7
 omega
theorem Tops.near {u v top u2 v1 v2 P e r : Nat} (h : Tops u v top u2 v1 v2 P) (hP : 0 < P) (he : e * v1 + r = top) (heB : e ≤ B) (ht : e * v2 ≤ r * B + u2 ∨ B ≤ r) : e * v < u + v := by
 have hv2 := h.v2lt
 have hbg := h.big
 have h0 : e * v2 ≤ r * B + u2 := by
  rcases ht with ht | ht
  ·exact ht
  ·have h1 : e * v2 ≤ B * B := Nat.mul_le_mul heB (Nat.le_of_lt hv2); have h2 : B * B ≤ r * B := Nat.mul_le_mul_right _ ht; omega
 have h1 : e * (v1 * B + v2) ≤ top * B + u2 := by
  rw [Nat.mul_add, ← Nat.mul_assoc, ← he, Nat.add_mul]; omega
 have h2 : e * (v1 * B + v2) * P ≤ u := Nat.le_trans (Nat.mul_le_mul_right _ h1) h.u_hi
 rcases Nat.eq_zero_or_pos e with rfl | hpos
 ·have h3 : 1 * P ≤ (v1 * B + v2) * P := Nat.mul_le_mul_right _ (by simp only [B] at hbg ⊢; omega)
  have := h.v_hi; omega
 ·have h3 : e * v < e * ((v1 * B + v2 + 1) * P) := Nat.mul_lt_mul_of_pos_left h.v_lo hpos
  have h4 : e * ((v1 * B + v2 + 1) * P) = e * (v1 * B + v2) * P + e * P := by rw [← Nat.mul_assoc, Nat.mul_add, Nat.add_mul, Nat.mul_one]
  have h5 : e * P ≤ v := by
   refine Nat.le_trans (Nat.mul_le_mul_right P ?_) h.v_hi; simp only [B] at hbg heB ⊢; omega
  omega
end
end Go.Bw
