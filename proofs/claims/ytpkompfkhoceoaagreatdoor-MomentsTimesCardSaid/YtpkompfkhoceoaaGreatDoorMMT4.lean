/- Parts of the proof: FI1, Fr35, Fr36, XR1, WB2, WS2. -/
import Derived.Shelf.Strconv.Itoa4
import Derived.Lib.AppendIntMem
import Derived.Test.YtpkompfkhoceoaaGreatDoorCards
import Derived.Test.YtpkompfkhoceoaaGreatDoorTie
import Derived.LaidSub
import Derived.Lib.TrailingZeros
import Derived.ProofKit
import Derived.OpenShut
import Derived.Carry
import Derived.Deep.Slices
import Derived.Deep.Matrix
import Derived.Deep.DeepHandedRow
import Derived.Lib.LaidTab
import Derived.Laws.OwnMore
import Derived.RegionTactic
import Derived.ChangeAlike
import Derived.Deep.DeepCutAuto
import Derived.Test.YtpkompfkhoceoaaGreatDoorMMT0
import Derived.Test.YtpkompfkhoceoaaGreatDoorMMT1
import Derived.Test.YtpkompfkhoceoaaGreatDoorMMT2
import Derived.Test.YtpkompfkhoceoaaGreatDoorMMT3
section
/- The library's contract of FormatInt, laid at this program (the laying was printed by the kit's own tool). -/
namespace Go.Proofs.Tg.Fi
open Go.Shelf
def fmtLay_ren : Go.Shelf.Ren := ⟨fun | 173 => 101 | 246 => 130 | 283 => 155 | 284 => 156 | 285 => 157 | 286 => 158 | 129 => 179 | 317 => 178 | 318 => 180 | 319 => 181 | 320 => 182 | 337 => 197 | 338 => 175 | n => n, fun | 2 => 2 | 3 => 3 | 9 => 9 | 4 => 4 | 171 => 216 | 0 => 0 | 53 => 135 | 37 => 149 | 5 => 5 | 173 => 219 | 212 => 229 | 51 => 137 | 20 => 20 | 213 => 230 | 46 => 138 | 232 => 247 | 233 => 242 | n => n, fun | 17 => 0 | 18 => 4 | 19 => 1 | n => n⟩
theorem fmtLay : Go.Proofs.LaysM.n173 Tryz.prog fmtLay_ren := {
  mixed := by kernel_rfl
  f129 := Tryz.func179.trans (congrArg some (by kernel_rfl))
  f173 := Tryz.func101.trans (congrArg some (by kernel_rfl))
  f246 := Tryz.func130.trans (congrArg some (by kernel_rfl))
  f283 := Tryz.func155.trans (congrArg some (by kernel_rfl))
  f284 := Tryz.func156.trans (congrArg some (by kernel_rfl))
  f285 := Tryz.func157.trans (congrArg some (by kernel_rfl))
  f286 := Tryz.func158.trans (congrArg some (by kernel_rfl))
  f317 := Tryz.func178.trans (congrArg some (by kernel_rfl))
  f318 := Tryz.func180.trans (congrArg some (by kernel_rfl))
  f319 := Tryz.func181.trans (congrArg some (by kernel_rfl))
  f320 := Tryz.func182.trans (congrArg some (by kernel_rfl))
  f337 := Tryz.func197.trans (congrArg some (by kernel_rfl))
  f338 := Tryz.func175.trans (congrArg some (by kernel_rfl))
  t0 := Tryz.underlying0
  a0 := Tryz.isAgg0
  z0 := Tryz.sizeOf0
  v0 := Tryz.zeroValue0
  t2 := Tryz.underlying2
  a2 := Tryz.isAgg2
  z2 := Tryz.sizeOf2
  v2 := Tryz.zeroValue2
  t3 := Tryz.underlying3
  a3 := Tryz.isAgg3
  z3 := Tryz.sizeOf3
  v3 := Tryz.zeroValue3
  t4 := Tryz.underlying4
  a4 := Tryz.isAgg4
  z4 := Tryz.sizeOf4
  v4 := Tryz.zeroValue4
  t5 := Tryz.underlying5
  a5 := Tryz.isAgg5
  z5 := Tryz.sizeOf5
  v5 := Tryz.zeroValue5
  t9 := Tryz.underlying9
  a9 := Tryz.isAgg9
  z9 := Tryz.sizeOf9
  v9 := Tryz.zeroValue9
  t20 := Tryz.underlying20
  a20 := Tryz.isAgg20
  z20 := Tryz.sizeOf20
  v20 := Tryz.zeroValue20
  t37 := Tryz.underlying149
  a37 := Tryz.isAgg149
  z37 := Tryz.sizeOf149
  v37 := Tryz.zeroValue149
  t46 := Tryz.underlying138
  a46 := Tryz.isAgg138
  z46 := Tryz.sizeOf138
  v46 := Tryz.zeroValue138
  t51 := Tryz.underlying137
  a51 := Tryz.isAgg137
  z51 := Tryz.sizeOf137
  v51 := Tryz.zeroValue137
  t53 := Tryz.underlying135
  a53 := Tryz.isAgg135
  z53 := Tryz.sizeOf135
  v53 := Tryz.zeroValue135
  t171 := Tryz.underlying216
  a171 := Tryz.isAgg216
  z171 := Tryz.sizeOf216
  v171 := Tryz.zeroValue216
  t173 := Tryz.underlying219
  a173 := Tryz.isAgg219
  z173 := Tryz.sizeOf219
  v173 := Tryz.zeroValue219
  t212 := Tryz.underlying229
  a212 := Tryz.isAgg229
  z212 := Tryz.sizeOf229
  v212 := Tryz.zeroValue229
  t213 := Tryz.underlying230
  a213 := Tryz.isAgg230
  z213 := Tryz.sizeOf230
  t232 := Tryz.underlying247
  a232 := Tryz.isAgg247
  z232 := Tryz.sizeOf247
  v232 := Tryz.zeroValue247
  t233 := Tryz.underlying242
  a233 := Tryz.isAgg242
  z233 := Tryz.sizeOf242
  v233 := Tryz.zeroValue242
  g17 := by kernel_rfl
  g18 := by kernel_rfl
  g19 := by kernel_rfl
  i0 := by kernel_rfl
  i2 := by kernel_rfl
  i3 := by kernel_rfl
  i4 := by kernel_rfl
  i5 := by kernel_rfl
  i9 := by kernel_rfl
  i20 := by kernel_rfl
  i37 := by kernel_rfl
  i46 := by kernel_rfl
  i51 := by kernel_rfl
  i53 := by kernel_rfl
  i171 := by kernel_rfl
  i173 := by kernel_rfl
  i212 := by kernel_rfl
  i232 := by kernel_rfl
  i233 := by kernel_rfl
  m17 := by kernel_rfl
  m18 := by kernel_rfl
  m19 := by kernel_rfl }
open Go.RowKit Go.Rq Go.Qn
/-- The library's table of powers of ten stands. -/
def PT (w : World) : Prop := Lib.TabIs Tryz.prog w "internal/strconv.uint64pow10" .u64 Lib.pow10Tab
theorem PT.keep {w w' : World} (h : PT w) (hb : Below w.heap.size w w') : PT w' := Lib.tabBelow_of_tabIs h w' hb
theorem fmti_any (n : Int) (h0 : -9223372036854775808 ≤ n) (h1 : n ≤ 9223372036854775807) (w : World) (ht : PT w) :
    Calls Tryz.prog 101 #[.int .i64 n, .int .i64 10] w fun e w' => e = .returned (.string (bs (Lib.itoa n))) ∧ Below w.heap.size w w' := by
  refine Calls.mono (Any.strconv_FormatInt_10 fmtLay n h0 h1 w ht) ?_
  rintro e w' ⟨rfl, k, os, rfl⟩
  exact ⟨rfl, Lib.below_grow _ w (Nat.le_refl _) k os⟩
theorem itoa_text (n : Int) : Lib.itoa n = text (decide (n < 0)) n.natAbs 1 := by
  unfold Lib.itoa text
  by_cases h : n < 0
  · rw [if_pos h, decide_eq_true h]; simp
  · rw [if_neg h, decide_eq_false h]
    have : n.toNat = n.natAbs := by omega
    simp [this]
end Go.Proofs.Tg.Fi
end
section
/- The frame of this seat's statements: what the reading of an argument says of memory, the listed table, the row's last step, the world of the witness. -/
namespace Go.Proofs.YtpkompfkhoceoaaGreatDoor.Fr
open Go.ChangeShapes Go.WideShapes Go.ChangeAt Go.RowKit Go.Deep Go.Proofs.Tg Go.Gr
set_option maxRecDepth 100000
section
variable {H : Type} {enc : TypeId × Value → H} {W W' : World}
theorem trodAll_below (hl : laidOutB Tryz.prog = true) (hb : Below W.heap.size W W') : ∀ (ts : List TypeId) (vs : List Value) (ds : List (DataW H)) (ps : List MemPlace),
    (∀ t ∈ ts, Tryz.prog.readableRec t = true ∧ t < Tryz.prog.types.size) → DataW.TrodAll enc Tryz.prog W 0 (fun _ => true) true ts vs ds ps → (∀ x ∈ ps, x.block < W.heap.size) →
    DataW.TrodAll enc Tryz.prog W' 0 (fun b => decide (b < W.heap.size)) true ts vs ds ps
  | [], [], [], ps, _, h, _ => h
  | t :: ts, v :: vs, d :: ds, ps, ht, ⟨p, q, h1, h2, e⟩, hp => by
    subst e
    exact ⟨p, q, Below.trod hl (ht t (by simp)).1 (ht t (by simp)).2 h1 hb (fun x hx => hp x (by simp [hx])), trodAll_below hl hb ts vs ds q (fun t h => ht t (by simp [h])) h2 (fun x hx => hp x (by simp [hx])), rfl⟩
theorem band {a b : Bool} (h : a = true) (k : b = true) : (a && b) = true := by rw [h, k]; rfl
theorem laidOut : laidOutB Tryz.prog = true := by kernel_rfl
/-- A law that returned true and made new memory alone meets its row. -/
theorem post_law {f : Func} {s : ChangeSpec} {args : Array Value} {ds gs : List (DataW H)} {before : List MemPlace}
    (hW : DataW.Whole enc Tryz.prog f.params.toList s.vars false W args.toList ds gs before) (hv : s.vars = []) (hf : f.resultTypes = #[4])
    (hr : (s.fn H (ds ++ gs)).results = [.lit (.bool true)]) (ha : (s.fn H (ds ++ gs)).args = ds) (hg : (s.fn H (ds ++ gs)).vars = [])
    (hp : ∀ t ∈ f.params.toList, Tryz.prog.readableRec t = true ∧ t < Tryz.prog.types.size) (hb : Below W.heap.size W W') :
    s.post enc Tryz.prog f false true false false W args (.bool true) W' := by
  have hlt := hW.lt
  have hW2 := hW
  obtain ⟨p, q, hA, hV, hps, hz, hn⟩ := hW2
  rw [hv] at hV
  obtain ⟨rfl, rfl⟩ := trodVars_none hV
  rw [List.append_nil] at hps
  subst hps
  refine ⟨ds, [], before, [], before, [], hW, ?_, ?_, ?_, World.keptBut_mono (fun x hx => ⟨hx, .inr (.inl hx)⟩) (hb.frame (· ∈ before)), fun h => by cases h⟩
  · rw [hr, hf]
    exact trodAll_cons_mk (shut_bool Tryz.underlying4 _) trodAll_mk0
  · rw [ha]
    exact trodAll_below laidOut hb _ _ _ _ hp hA hlt
  · rw [hv, hg]; rfl
theorem gPow : Tryz.prog.globalNamed "internal/strconv.uint64pow10" = some 0 := by kernel_rfl
theorem gPowType : (Tryz.prog.globals[0]?).map (·.type) = some 229 := by kernel_rfl
theorem cellsPow : Tryz.prog.cellsOf 229 = 20 := by kernel_rfl
theorem cellsU64 : Tryz.prog.cellsOf 135 = 1 := by kernel_rfl
theorem cellsInt : Tryz.prog.cellsOf 3 = 1 := by kernel_rfl
theorem pow_data : (Rows.laid_internal_strconv_uint64pow10 : DataW Unit) = Lib.tabData .u64 Lib.pow10Tab := by kernel_rfl
def bruZ : List Int := Lib.deBruijn64tab.map fun x : Nat => (x : Int)
def bru32Z : List Int := Lib.deBruijn32tab.map fun x : Nat => (x : Int)
/-- What the row's list gives: the first of the powers of ten. -/
theorem pow_of (h : laidMetH Tryz.prog [("math/bits.deBruijn32tab", Rows.laid_math_bits_deBruijn32tab), ("math/bits.deBruijn64tab", Rows.laid_math_bits_deBruijn64tab), ("internal/strconv.uint64pow10", Rows.laid_internal_strconv_uint64pow10)] W) : Fi.PT W := by
  have h2 := h.filter (fun x => x.1 == "internal/strconv.uint64pow10")
  have e : ([("math/bits.deBruijn32tab", Rows.laid_math_bits_deBruijn32tab), ("math/bits.deBruijn64tab", Rows.laid_math_bits_deBruijn64tab), ("internal/strconv.uint64pow10", Rows.laid_internal_strconv_uint64pow10)] : List (String × DataW Unit)).filter (fun x => x.1 == "internal/strconv.uint64pow10") = [("internal/strconv.uint64pow10", Rows.laid_internal_strconv_uint64pow10)] := by rfl
  rw [e, pow_data] at h2
  exact Lib.tabIs_of_head (rest := []) gPow gPowType Tryz.underlying229 Tryz.underlying135 cellsU64 cellsPow h2
theorem wf_bounds {x : Int} (h : (Lit.int .i64 x).wf = true) : -9223372036854775808 ≤ x ∧ x < 9223372036854775808 := by
  have h1 : (decide (IntKind.i64.min ≤ x) && decide (x ≤ IntKind.i64.max)) = true := h
  rw [Bool.and_eq_true, decide_eq_true_eq, decide_eq_true_eq] at h1
  have e1 : IntKind.min .i64 = -9223372036854775808 := by decide
  have e2 : IntKind.max .i64 = 9223372036854775807 := by decide
  omega
/-- A slice of numbers, opened. -/
theorem open_tape {v : Value} {d : DataW H} {ps : List MemPlace} {b0 : Nat} (hval : Value.okWide Tryz.prog W .any b0 41 v) (h : DataW.Trod enc Tryz.prog W 0 (fun _ => true) true 41 v d ps) :
    ∃ A xs c, v = .slice A xs.length c ∧ Ints W A xs ∧ xs.length ≤ c ∧ (∀ x ∈ xs, -9223372036854775808 ≤ x ∧ x < 9223372036854775808) ∧ xs.length < 9223372036854775808 := by
  obtain ⟨V, len, cap, rfl⟩ := okWide_slice Tryz.underlying41 hval
  obtain ⟨fuel, h⟩ := h
  have hcs : (Value.slice V len cap).cells.toList = [.slice V len cap] := by simp [Value.cells]
  rw [hcs] at h
  rcases open_ints Tryz.underlying41 Tryz.underlying3 cellsInt h with ⟨h1, _⟩ | ⟨a, l, c, zs, h1, _, hl, hm, hz, _, hx, hwf⟩
  · injection h1 with h1
    injection h1 with e1 e2 e3
    subst e1 e2 e3
    exact ⟨none, [], 0, rfl, Sl.nil _ _ _, by simp, by simp, by simp⟩
  · injection h1 with h1
    injection h1 with e1 e2 e3
    subst e1 e2 e3
    simp only [if_true] at hz
    have hlen : (zs.take len).length = len := by rw [List.length_take]; omega
    refine ⟨some a, zs.take len, cap, by rw [hlen], ⟨by simp, fun hn => ⟨a, rfl, ?_, ?_⟩⟩, by omega, fun x hx2 => wf_bounds (hwf x (List.mem_of_mem_take hx2)), by rw [hlen]; simp only [maxLen] at hm; omega⟩
    · rw [hlen] at hn
      exact World.block_lt_of_cell? W _ (hx 0 (by omega))
    · intro j u hu
      have hj : j < len := by
        have := (List.getElem?_eq_some_iff.1 hu).1
        rw [List.length_map, hlen] at this
        exact this
      have e : u = .int .i64 (zs.getD j 0) := by
        rw [List.getElem?_map, List.getElem?_take, if_pos hj] at hu
        simp only [List.getElem?_eq_getElem (show j < zs.length by omega), Option.map_some] at hu
        injection hu with hu
        rw [← hu]
        simp [vi, show j < zs.length by omega]
      rw [e]
      exact hx j (by omega)
end
/-- The world of the witness: the settled one, the tables holding what their initialisers lay. -/
def layT (k : IntKind) (zs : List Int) : Obj → Obj
  | .cells _ t frozen => .cells (zs.map fun z => Value.int k z).toArray t frozen
  | o => o
noncomputable def laidWorld (os : Os) : World :=
  { World.holding Tryz.prog os ⟨#[], #[], []⟩ with heap := (((World.holding Tryz.prog os ⟨#[], #[], []⟩).heap.modify 0 (layT .u64 Lib.pow10Tab)).modify 4 (layT .u8 bru32Z)).modify 1 (layT .u8 bruZ) }
theorem own : ownKnob Tryz.prog.godebug = none := by kernel_rfl
end Go.Proofs.YtpkompfkhoceoaaGreatDoor.Fr
end
section
/- The frame of the moments' statements that read polynomials: the table of the places of single bits too. -/
namespace Go.Proofs.YtpkompfkhoceoaaGreatDoor.Fr
open Go.ChangeShapes Go.WideShapes Go.ChangeAt Go.RowKit Go.Deep Go.Proofs.Tg Go.Gr
set_option maxRecDepth 100000
variable {W : World}
theorem gTab : Tryz.prog.globalNamed "math/bits.deBruijn64tab" = some 1 := by kernel_rfl
theorem gTabType : (Tryz.prog.globals[(1 : Nat)]?).map (·.type) = some 242 := by kernel_rfl
theorem cellsTab : Tryz.prog.cellsOf 242 = 64 := by kernel_rfl
theorem cellsU8 : Tryz.prog.cellsOf 5 = 1 := by kernel_rfl
theorem bru_data : (Rows.laid_math_bits_deBruijn64tab : DataW Unit) = Lib.tabData .u8 bruZ := by kernel_rfl
theorem bruZ_len : bruZ.length = 64 := by decide +kernel
theorem bruZ_getD (j : Nat) : bruZ.getD j 0 = ((Lib.deBruijn64tab.getD j 0 : Nat) : Int) := by
  unfold bruZ
  rw [List.getD_eq_getElem?_getD, List.getElem?_map, List.getD_eq_getElem?_getD]
  cases Lib.deBruijn64tab[j]? <;> rfl
theorem tab_of (h : laidMetH Tryz.prog [("math/bits.deBruijn32tab", Rows.laid_math_bits_deBruijn32tab), ("math/bits.deBruijn64tab", Rows.laid_math_bits_deBruijn64tab), ("internal/strconv.uint64pow10", Rows.laid_internal_strconv_uint64pow10)] W) : Tab W := by
  have h2 := h.filter (fun x => x.1 == "math/bits.deBruijn64tab")
  have e : ([("math/bits.deBruijn32tab", Rows.laid_math_bits_deBruijn32tab), ("math/bits.deBruijn64tab", Rows.laid_math_bits_deBruijn64tab), ("internal/strconv.uint64pow10", Rows.laid_internal_strconv_uint64pow10)] : List (String × DataW Unit)).filter (fun x => x.1 == "math/bits.deBruijn64tab") = [("math/bits.deBruijn64tab", Rows.laid_math_bits_deBruijn64tab)] := by rfl
  rw [e, bru_data] at h2
  have h1 : Lib.TabIs Tryz.prog W "math/bits.deBruijn64tab" .u8 bruZ := Lib.tabIs_of_head (rest := []) gTab gTabType Tryz.underlying242 Tryz.underlying5 cellsU8 cellsTab h2
  have hc : ∀ j, j < 64 → W.cell? ⟨1, j, none⟩ = some (.int .u8 (Lib.deBruijn64tab.getD j 0)) := fun j hj => by
    rw [h1.cell gTab j (by rw [bruZ_len]; exact hj), bruZ_getD]
  exact ⟨World.block_lt_of_cell? W _ (hc 0 (by decide)), hc⟩
end Go.Proofs.YtpkompfkhoceoaaGreatDoor.Fr
end
section
/- The reference's order of monomials. -/
namespace Go.Proofs.Tg
open Go.RowKit Go.Gr Go.Mo
set_option maxHeartbeats 2000000
set_option maxRecDepth 100000
theorem rord_any (A B : Option Addr) (c d : Nat) (a b : List Int) (w : World) (hA : Ints w A a) (hB : Ints w B b) (hl : a.length = b.length) (hn : a.length ≤ 64) (ha : low20 a = true) (hb : low20 b = true) :
    Calls Tryz.prog 88 #[.slice A a.length c, .slice B b.length d] w fun e w' => e = .returned (.int .i64 (Mo.ord a b)) ∧ Dr w w' := by
  have HL := Lib.hid hl
  have HA := Lib.hid (low20_iff.1 ha)
  have HB := Lib.hid (low20_iff.1 hb)
  have hn2 : b.length ≤ 64 := by omega
  clear hl ha hb
  go_enter Tryz.func88, Tryz.ntmps88
  go_wp2
  go_loopw [5, 6, 7] (fun s t i wr => ∃ k : Nat, k ≤ a.length ∧ i = .int .i64 k ∧ ∃ y z : Int, s = .int .i64 y ∧ t = .int .i64 z ∧ 0 ≤ y ∧ y ≤ 1048576 * 64 ∧ 0 ≤ z ∧ z ≤ 1048576 * 64 ∧ Hid (y = (a.take k).sum ∧ z = (b.take k).sum) ∧ Dr w wr) (fun _ _ i _ => a.length - (intOf i).toNat)
  case atStart => exact ⟨0, Nat.zero_le _, rfl, 0, 0, rfl, rfl, by omega, by omega, by omega, by omega, Lib.hid ⟨rfl, rfl⟩, Dr.refl _⟩
  case round =>
    obtain ⟨k, hk, rfl, y, z, rfl, rfl, hy0, hy1, hz0, hz1, HZ, hdr⟩ := hrel
    by_cases hlt : k < a.length
    · have hlt2 : k < b.length := by have := HL.out; omega
      obtain ⟨ad, rfl, hc1⟩ := Ints.at (hA.keep hdr.below) hlt
      obtain ⟨bd, rfl, hc2⟩ := Ints.at (hB.keep hdr.below) hlt2
      have HS1 : Hid ((a.take (k + 1)).sum = y + a[k]) := Lib.hid (by rw [sum_take_succ a k hlt, ← HZ.out.1])
      have HS2 : Hid ((b.take (k + 1)).sum = z + b[k]) := Lib.hid (by rw [sum_take_succ b k hlt2, ← HZ.out.2])
      have hb1 := HA.out a[k] (List.getElem_mem _)
      have hb2 := HB.out b[k] (List.getElem_mem _)
      have hs1 := sum_bound a (k + 1) HA.out
      have hs2 := sum_bound b (k + 1) HB.out
      rw [HS1.out] at hs1
      rw [HS2.out] at hs2
      have hl1 : (a.take (k + 1)).length ≤ 64 := Nat.le_trans (List.length_take_le' _ _) hn
      have hl2 : (b.take (k + 1)).length ≤ 64 := Nat.le_trans (List.length_take_le' _ _) hn2
      obtain ⟨p1, p2⟩ := hb1
      obtain ⟨p3, p4⟩ := hb2
      have r1 : y + a[k] ≤ 1048576 * 64 := by omega
      have r2 : z + b[k] ≤ 1048576 * 64 := by omega
      clear hs1 hs2 hl1 hl2
      generalize a[k] = p at *
      generalize b[k] = q at *
      have q0 : (0 : Int) ≤ (k : Int) := by omega
      have q1 : (k : Int) < (a.length : Int) := by omega
      have q2 : (k : Int) < (b.length : Int) := by omega
      have q3 : ((k : Int)).toNat = k := by omega
      have q4 : IntKind.i64.wrap (y + p) = y + p := IntWalk.i64_in _ (by omega)
      have q5 : IntKind.i64.wrap (z + q) = z + q := IntWalk.i64_in _ (by omega)
      clear hA hB
      go_wp2
      go_quiet (fail)
      go_wp2
      go_roundw
      case rel => exact ⟨k + 1, by omega, by go_num, y + p, z + q, rfl, rfl, by omega, by omega, by omega, by omega, Lib.hid ⟨HS1.out.symm, HS2.out.symm⟩, hdr.drewN _⟩
      case measure => simp [intOf]; omega
    · obtain rfl : k = a.length := by omega
      have h1 : y = a.sum := by rw [HZ.out.1, List.take_length]
      have h2 : z = b.sum := by rw [HZ.out.2, HL.out, List.take_length]
      by_cases hyz : y = z
      · have hbb : (y != z) = false := by simp [hyz]
        have HO : Hid (Mo.ord a b = ordT a b a.length) := Lib.hid (by unfold Mo.ord; rw [if_pos (by rw [← h1, ← h2]; exact hyz)])
        clear h1 h2 hyz
        obtain ⟨wo, rfl⟩ : ∃ wo : World, wo = wr := ⟨_, rfl⟩
        go_wp2
        go_loopw [8] (fun i wr => ∃ z : Int, i = .int .i64 z ∧ -1 ≤ z ∧ z < a.length ∧ Hid (Mo.ord a b = ordT a b (z + 1).toNat) ∧ Dr w wr) (fun i _ => (intOf i + 1).toNat)
        case atStart => exact ⟨(a.length : Int) - 1, rfl, by omega, by omega, Lib.hid (by rw [HO.out]; congr 1; omega), hdr⟩
        case round =>
          clear hdr
          obtain ⟨z', rfl, hz2, hz3, HZ', hdr⟩ := hrel
          by_cases hneg : z' = -1
          · subst hneg
            have HF : Hid (Mo.ord a b = 0) := Lib.hid (by rw [HZ'.out]; rfl)
            go_wp2
            go_ret
            exact ⟨by rw [HF.out]; rfl, hdr⟩
          · obtain ⟨j, rfl⟩ : ∃ j : Nat, z' = j := ⟨z'.toNat, by omega⟩
            have hlt1 : j < a.length := by omega
            have hlt2 : j < b.length := by have := HL.out; omega
            obtain ⟨ad, rfl, hc1⟩ := Ints.at (hA.keep hdr.below) hlt1
            obtain ⟨bd, rfl, hc2⟩ := Ints.at (hB.keep hdr.below) hlt2
            have HX : Hid (Mo.ord a b = if a[j] = b[j] then ordT a b j else if b[j] < a[j] then -1 else 1) := Lib.hid (by
              rw [HZ'.out, show ((j : Int) + 1).toNat = j + 1 by omega, ordT]
              simp [hlt1, hlt2])
            have q0 : (0 : Int) ≤ (j : Int) := by omega
            have q1 : (j : Int) < (a.length : Int) := by omega
            have q2 : (j : Int) < (b.length : Int) := by omega
            have q3 : ((j : Int)).toNat = j := by omega
            clear hneg hA hB
            generalize a[j] = p at *
            generalize b[j] = q at *
            by_cases hpq : p = q
            · have hb2 : (p != q) = false := by simp [hpq]
              have HX2 : Hid (Mo.ord a b = ordT a b j) := Lib.hid (by rw [HX.out, if_pos hpq])
              clear hpq HX
              go_wp2
              go_quiet (fail)
              go_wp2
              go_roundw
              case rel => exact ⟨(j : Int) - 1, rfl, by omega, by omega, Lib.hid (by rw [HX2.out]; congr 1; omega), hdr.drewN _⟩
              case measure => simp [intOf]
            · have hb2 : (p != q) = true := by simp [hpq]
              have HX2 : Hid (Mo.ord a b = if q < p then -1 else 1) := Lib.hid (by rw [HX.out, if_neg hpq])
              clear hpq HX
              go_wp2
              go_quiet (fail)
              have k1 : (wr.drewN nq).cell? (ad.add j) = some (.int .i64 p) := hc1
              have k2 : (wr.drewN nq).cell? (bd.add j) = some (.int .i64 q) := hc2
              have hdr2 := hdr.drewN nq
              generalize wr.drewN nq = W at *
              by_cases hqp : q < p
              · have hb3 : decide (q < p) = true := by simpa using hqp
                have HX3 : Hid (Mo.ord a b = -1) := Lib.hid (by rw [HX2.out, if_pos hqp])
                go_wp2
                go_quiet (fail)
                go_wp2
                go_ret
                exact ⟨by rw [HX3.out]; rfl, hdr2.drewN _⟩
              · have hb3 : decide (q < p) = false := by simpa using hqp
                have HX3 : Hid (Mo.ord a b = 1) := Lib.hid (by rw [HX2.out, if_neg hqp])
                go_wp2
                go_quiet (fail)
                go_wp2
                go_ret
                exact ⟨by rw [HX3.out]; rfl, hdr2.drewN _⟩
      · have hbb : (y != z) = true := by simp [hyz]
        by_cases hlt3 : y < z
        · have hb3 : decide (y < z) = true := by simpa using hlt3
          have HO : Hid (Mo.ord a b = -1) := Lib.hid (by unfold Mo.ord; rw [if_neg (by rw [← h1, ← h2]; exact hyz), if_pos (by rw [← h1, ← h2]; exact hlt3)])
          clear h1 h2 hyz
          go_wp2
          go_ret
          exact ⟨by rw [HO.out]; rfl, hdr⟩
        · have hb3 : decide (y < z) = false := by simpa using hlt3
          have HO : Hid (Mo.ord a b = 1) := Lib.hid (by unfold Mo.ord; rw [if_neg (by rw [← h1, ← h2]; exact hyz), if_neg (by rw [← h1, ← h2]; exact hlt3)])
          clear h1 h2 hyz
          go_wp2
          go_ret
          exact ⟨by rw [HO.out]; rfl, hdr⟩
end Go.Proofs.Tg
end
section
/- Walks: the echelon form. -/
namespace Go.Proofs.Tg
open Go.RowKit Go.Gr Go.Ev
set_option maxHeartbeats 2000000
set_option maxRecDepth 100000
/-- The vectors lie in block g; nothing below B has turned. -/
structure VecAt (W0 : World) (base g cap : Nat) (us : List Nat) (w : World) : Prop where
  own : w.ownsRow base 3 1 (.slice (some ⟨g, 0, none⟩) us.length cap) us.length (us.map vn)
  below : Below W0.heap.size W0 w
theorem VecAt.base_le {W0 w : World} {base g cap : Nat} {us : List Nat} (h : VecAt W0 base g cap us w) : base ≤ g := (h.own.lt g rfl).1
theorem VecAt.cell {W0 w : World} {base g cap : Nat} {us : List Nat} (h : VecAt W0 base g cap us w) {j : Nat} (hj : j < us.length) : w.cell? ⟨g, j, none⟩ = some (.int .i64 (us.getD j 0 : Nat)) := by
  rw [h.own.cellAt j (by omega)]
  simp [hj, vn]
theorem VecAt.drewN {W0 w : World} {base g cap : Nat} {us : List Nat} (h : VecAt W0 base g cap us w) (n : Nat) : VecAt W0 base g cap us (w.drewN n) := ⟨h.own, below_drewN h.below n⟩
theorem VecAt.drew {W0 w : World} {base g cap : Nat} {us : List Nat} (h : VecAt W0 base g cap us w) : VecAt W0 base g cap us w.drew := ⟨h.own, h.below.drew⟩
theorem VecAt.put {W0 w : World} {base g cap : Nat} {us : List Nat} (h : VecAt W0 base g cap us w) (hB : W0.heap.size ≤ base) (j x : Nat) : VecAt W0 base g cap (us.set j x) (w.setCell ⟨g, j, none⟩ (.int .i64 (x : Nat))) := by
  have h1 := (h.own.stored j (.int .i64 (x : Nat))).1
  have e : (us.map vn).set j (.int .i64 (x : Nat)) = (us.set j x).map vn := by rw [List.map_set]; rfl
  rw [e] at h1
  refine ⟨by rw [List.length_set]; exact h1, h.below.setCell (Nat.le_trans hB h.base_le) _⟩
end Go.Proofs.Tg
end
section
/- Walks: the parts of a number's text. -/
namespace Go.Proofs.Tg
open Go.RowKit Go.Qn
set_option maxHeartbeats 1000000
set_option maxRecDepth 100000
/-- The parts that a call returns. -/
def RetSplit (l : List UInt8) (w : World) (e : Ending) (w' : World) : Prop :=
  ∃ b num den ok, e = .returned (.tuple #[.agg #[.bool b, .string (bs num), .string (bs den)], .bool ok]) ∧ SplitIs l b num den ok ∧ Below w.heap.size w w'
theorem bs_toList (l : List UInt8) : (bs l).toList = l := by rw [Lib.toList_data, bs_data]
theorem bs_pos {l : List UInt8} (h : l ≠ []) : 0 < (bs l).size := by rw [bs_size]; exact List.length_pos_iff.2 h
theorem split_fin {l num den : List UInt8} {b ok : Bool} {N D : ByteArray} {w w' : World} (hN : bs num = N) (hD : bs den = D) (h : SplitIs l b num den ok) (hb : Below w.heap.size w w') :
    RetSplit l w (.returned (.tuple #[.agg #[.bool b, .string N, .string D], .bool ok])) w' := by
  subst hN hD
  exact ⟨b, num, den, ok, rfl, h, hb⟩
theorem bs_nil : bs [] = ByteArray.empty := rfl
theorem of_head {l : List UInt8} {N : ByteArray} (hN : bs l = N) {h : 0 < N.size} {c : UInt8} (k : (((N[0]).toNat : Int) == (c.toNat : Int)) = true) : l.head? = some c := by
  subst hN
  cases l with
  | nil => exact absurd h (by decide)
  | cons x t =>
    have e : (x.toNat : Int) = (c.toNat : Int) := eq_of_beq k
    have : x = c := UInt8.toNat_inj.1 (by omega)
    rw [this]; rfl
theorem of_not_head {l : List UInt8} {N : ByteArray} (hN : bs l = N) {h : 0 < N.size} {c : UInt8} (k : (((N[0]).toNat : Int) == (c.toNat : Int)) = false) : l.head? ≠ some c := by
  subst hN
  cases l with
  | nil => simp
  | cons x t =>
    have e : ¬ (x.toNat : Int) = (c.toNat : Int) := ne_of_beq_false k
    simp only [List.head?_cons, ne_eq, Option.some.injEq]
    rintro rfl
    exact e rfl
set_option maxHeartbeats 4000000 in
theorem split_any (s : ByteArray) (w : World) (hs : s.size ≤ 64) :
    Calls Tryz.prog 81 #[.string s] w (RetSplit s.data.toList w) := by
  obtain ⟨b, r, hc⟩ : ∃ b r, cut s.data.toList = (b, r) := ⟨_, _, rfl⟩
  have HC : Hid (∀ W, Calls Tryz.prog 117 #[.string s, .string ⟨#[45]⟩] W fun e w' => e = .returned (.tuple #[.string (bs r), .bool b]) ∧ W = w') := Lib.hid (fun W => by
    have := cutp_any s W hs
    rwa [hc] at this)
  have hrl : r.length ≤ 64 := by
    have := (spl_len hc).2
    rw [len_size] at this; omega
  obtain ⟨N, hN⟩ : ∃ N, bs (r.takeWhile isD) = N := ⟨_, rfl⟩
  obtain ⟨R, hR⟩ : ∃ R, bs (r.dropWhile isD) = R := ⟨_, rfl⟩
  have HD : Hid (∀ W, Calls Tryz.prog 118 #[.string (bs r)] W fun e w' => e = .returned (.tuple #[.string N, .string R]) ∧ Below W.heap.size W w') := Lib.hid (fun W => by
    have := digits_any (bs r) W (by rw [bs_size]; exact hrl)
    rwa [bs_data, hN, hR] at this)
  have HN := Lib.hid hN
  have HR := Lib.hid hR
  have Hc := Lib.hid hc
  clear hN hR hc
  go_enter Tryz.func81, Tryz.ntmps81
  go_wp2_with (go_at_call 117; refine (HC.out _).mono ?_; rintro e w' ⟨rfl, rfl⟩)
  with_reducible refine (HD.out _).mono ?_
  rintro e w1 ⟨rfl, hb1⟩
  have B4 : Blk w1 (w.heap.size + 1) 142 #[.bool b, .string ByteArray.empty, .string ByteArray.empty] := by
    have := (Blk.new (w.alloc (.cells #[.bool false, .string ByteArray.empty, .string ByteArray.empty] 142)) 142 #[.bool b, .string ByteArray.empty, .string ByteArray.empty]).keep hb1 (by simp)
    simpa using this
  have B2 : Blk w1 w.heap.size 142 #[.bool false, .string ByteArray.empty, .string ByteArray.empty] :=
    ((Blk.new w 142 #[.bool false, .string ByteArray.empty, .string ByteArray.empty]).alloc _).keep hb1 (by simp; omega)
  have hbw : Below w.heap.size w w1 := (((Below.refl _ _).alloc (Nat.le_refl _) _).alloc (by simp) _).trans (hb1.mono (by simp; omega))
  have hz : w.heap.size + 1 < w1.heap.size := B4.lt
  have HB4 := Lib.hid B4
  have HB2 := Lib.hid B2
  have c0 := B4.cell 0
  have c1 := B4.cell 1
  have c2 := B4.cell 2
  have f0 := B4.frozen 0
  have f1 := B4.frozen 1
  have f2 := B4.frozen 2
  have d0 := B2.cell 0
  have d1 := B2.cell 1
  have d2 := B2.cell 2
  have e0 := B2.frozen 0
  have e1 := B2.frozen 1
  have e2 := B2.frozen 2
  clear hb1 B4 B2
  simp at c0 c1 c2 d0 d1 d2
  go_wp2_with (fail)
  · have t1 : (N.toList == [48]) = true := by assumption
    have t2 : b = true := by assumption
    subst t2
    refine bodyPost_ret (v := .tuple #[.agg #[.bool true, .string N, .string ByteArray.empty], .bool false]) (by simp [results, Tryz.results81, go_sem, d0, d1, d2]) rfl (split_fin HN.out bs_nil (spl_zero Hc.out ?_) ?_)
    · rw [← bs_toList (r.takeWhile isD), HN.out]; simpa using t1
    · exact (((hbw.setCell (by simp) _).setCell (by simp) _).setCell (by simp) _).setCell (by simp) _
  · have t1 : (N.toList == [48]) = true := by assumption
    have t2 : ¬ b = true := by assumption
    obtain rfl : b = false := eq_false_of_ne_true t2
    refine bodyPost_ret (v := .tuple #[.agg #[.bool false, .string N, .string ByteArray.empty], .bool R.toList.isEmpty]) (by simp [results, Tryz.results81, go_sem, d0, d1, d2]) rfl (split_fin HN.out bs_nil ?_ ?_)
    · have := spl_zero Hc.out (by rw [← bs_toList (r.takeWhile isD), HN.out]; simpa using t1)
      rw [← HR.out, bs_toList]
      simpa using this
    · exact (((hbw.setCell (by simp) _).setCell (by simp) _).setCell (by simp) _).setCell (by simp) _
  · have t1 : (N.toList == [48]) = false := by assumption
    have t2 : N.toList = [] := by assumption
    refine bodyPost_ret (v := .tuple #[.agg #[.bool b, .string N, .string ByteArray.empty], .bool false]) (by simp [results, Tryz.results81, go_sem, d0, d1, d2]) rfl (split_fin HN.out bs_nil (spl_bad Hc.out ?_ (.inl ?_)) ?_)
    · rw [← bs_toList (r.takeWhile isD), HN.out]; simpa using t1
    · rw [← bs_toList (r.takeWhile isD), HN.out]; exact t2
    · exact (((hbw.setCell (by simp) _).setCell (by simp) _).setCell (by simp) _).setCell (by simp) _
  · have t1 : (N.toList == [48]) = false := by assumption
    have t3 : ¬ N.toList = [] := by assumption
    have t4 : 0 < N.size := by assumption
    have t2 : N.toList.isEmpty = true ∨ ((N[0].toNat : Int) == 48) = true := by assumption
    refine bodyPost_ret (v := .tuple #[.agg #[.bool b, .string N, .string ByteArray.empty], .bool false]) (by simp [results, Tryz.results81, go_sem, d0, d1, d2]) rfl (split_fin HN.out bs_nil (spl_bad Hc.out ?_ (.inr ?_)) ?_)
    · rw [← bs_toList (r.takeWhile isD), HN.out]; simpa using t1
    · rcases t2 with t2 | t2
      · exact absurd (List.isEmpty_iff.1 t2) t3
      · exact of_head HN.out (c := 48) t2
    · exact (((hbw.setCell (by simp) _).setCell (by simp) _).setCell (by simp) _).setCell (by simp) _
  · have t1 : (N.toList == [48]) = false := by assumption
    have t3 : ¬ N.toList = [] := by assumption
    have t4 : 0 < N.size := by assumption
    have t2 : N.toList.isEmpty = false ∧ ((N[0].toNat : Int) == 48) = false := by assumption
    have t5 : R.toList.isEmpty = true := by assumption
    refine bodyPost_ret (v := .tuple #[.agg #[.bool b, .string N, .string ByteArray.empty], .bool true]) (by simp [results, Tryz.results81, go_sem, d0, d1, d2]) rfl (split_fin HN.out bs_nil (spl_whole Hc.out ?_ ?_ ?_) ?_)
    · rw [← bs_toList (r.takeWhile isD), HN.out]; simpa using t1
    · rintro (h | h)
      · exact t3 (by rw [← HN.out, bs_toList]; exact h)
      · exact of_not_head HN.out (c := 48) t2.2 h
    · rw [← bs_toList (r.dropWhile isD), HR.out]; exact List.isEmpty_iff.1 t5
    · exact (((hbw.setCell (by simp) _).setCell (by simp) _).setCell (by simp) _).setCell (by simp) _
  · have t1 : (N.toList == [48]) = false := by assumption
    have t3 : ¬ N.toList = [] := by assumption
    have t4 : 0 < N.size := by assumption
    have t2 : N.toList.isEmpty = false ∧ ((N[0].toNat : Int) == 48) = false := by assumption
    have t5 : R.toList.isEmpty = false := by assumption
    have t6 : 0 < R.size := by assumption
    have t7 : ((R[0].toNat : Int) != 47) = true := by assumption
    have hR : r.dropWhile isD = R.toList := by rw [← HR.out, bs_toList]
    obtain ⟨c, t, hct⟩ : ∃ c t, r.dropWhile isD = c :: t := by
      cases hh : r.dropWhile isD with
      | nil => rw [hh] at hR; rw [← hR] at t5; cases t5
      | cons c t => exact ⟨c, t, rfl⟩
    refine bodyPost_ret (v := .tuple #[.agg #[.bool b, .string N, .string ByteArray.empty], .bool false]) (by simp [results, Tryz.results81, go_sem, d0, d1, d2]) rfl (split_fin HN.out bs_nil (spl_slash Hc.out ?_ ?_ hct ?_) ?_)
    · rw [← bs_toList (r.takeWhile isD), HN.out]; simpa using t1
    · rintro (h | h)
      · exact t3 (by rw [← HN.out, bs_toList]; exact h)
      · exact of_not_head HN.out (c := 48) t2.2 h
    · have := of_not_head HR.out (c := 47) (h := t6) (by simpa using t7)
      rw [hct] at this
      simpa using this
    · exact (((hbw.setCell (by simp) _).setCell (by simp) _).setCell (by simp) _).setCell (by simp) _
  · have t1 : (N.toList == [48]) = false := by assumption
    have t3 : ¬ N.toList = [] := by assumption
    have t4 : 0 < N.size := by assumption
    have t2 : N.toList.isEmpty = false ∧ ((N[0].toNat : Int) == 48) = false := by assumption
    have t5 : R.toList.isEmpty = false := by assumption
    have t6 : 0 < R.size := by assumption
    have t7 : ((R[0].toNat : Int) != 47) = false := by assumption
    have hR : r.dropWhile isD = R.toList := by rw [← HR.out, bs_toList]
    obtain ⟨t, hct⟩ : ∃ t, r.dropWhile isD = 47 :: t := by
      have := of_head HR.out (c := 47) (h := t6) (by simpa using t7)
      cases hh : r.dropWhile isD with
      | nil => rw [hh] at this; cases this
      | cons c t => rw [hh] at this; injection this with this; subst this; exact ⟨t, rfl⟩
    have hext : R.extract 1 R.size = bs t := by rw [ext_end, ← HR.out, bs_data, hct]; rfl
    have htl : t.length ≤ 64 := by
      have a2 := dw_len isD r
      rw [hct, List.length_cons] at a2
      omega
    obtain ⟨D, hD⟩ : ∃ D, bs (t.takeWhile isD) = D := ⟨_, rfl⟩
    obtain ⟨R2, hR2⟩ : ∃ R, bs (t.dropWhile isD) = R := ⟨_, rfl⟩
    have HD2 : Hid (∀ W, Calls Tryz.prog 118 #[.string (R.extract 1 R.size)] W fun e w' => e = .returned (.tuple #[.string D, .string R2]) ∧ Below W.heap.size W w') := Lib.hid (fun W => by
      have := digits_any (bs t) W (by rw [bs_size]; exact htl)
      rwa [bs_data, hD, hR2, ← hext] at this)
    have HDD := Lib.hid hD
    have HR2 := Lib.hid hR2
    have Hct := Lib.hid hct
    have T1 := Lib.hid t1
    have T2 := Lib.hid t2
    clear hD hR2 hct hR hext t1 t2 t7
    with_reducible refine (HD2.out _).mono ?_
    rintro e w2 ⟨rfl, hb2⟩
    have B4 : Blk w2 (w.heap.size + 1) 142 #[.bool b, .string N, .string ByteArray.empty] := (HB4.out.set 1 (.string N)).keep hb2 (by simp; omega)
    have B2 : Blk w2 w.heap.size 142 #[.bool false, .string ByteArray.empty, .string ByteArray.empty] := (HB2.out.far (p := ⟨w.heap.size + 1, 1, none⟩) (by simp) (.string N)).keep hb2 (by simp; omega)
    have hbw2 : Below w.heap.size w w2 := (hbw.setCell (p := ⟨w.heap.size + 1, 1, none⟩) (by simp) (.string N)).trans (hb2.mono (by simp; omega))
    have hz2 : w.heap.size + 1 < w2.heap.size := B4.lt
    clear c0 c1 c2 d0 d1 d2 e0 e1 e2 f0 f1 f2 hb2 hz HB4 HB2 hbw
    have c0 := B4.cell 0
    have c1 := B4.cell 1
    have c2 := B4.cell 2
    have f0 := B4.frozen 0
    have f1 := B4.frozen 1
    have f2 := B4.frozen 2
    have d0 := B2.cell 0
    have d1 := B2.cell 1
    have d2 := B2.cell 2
    have e0 := B2.frozen 0
    have e1 := B2.frozen 1
    have e2 := B2.frozen 2
    clear B4 B2
    simp at c0 c1 c2 d0 d1 d2
    have fin : ∀ (ok : Bool) (w' : World), (ok = true ↔ t.dropWhile isD = [] ∧ t.takeWhile isD ≠ [] ∧ (t.takeWhile isD).head? ≠ some 48 ∧ t.takeWhile isD ≠ [49]) → Below w.heap.size w w' →
        RetSplit s.data.toList w (.returned (.tuple #[.agg #[.bool b, .string N, .string D], .bool ok])) w' := by
      intro ok w' hok hb
      refine split_fin HN.out HDD.out (spl_den Hc.out ?_ ?_ Hct.out hok) hb
      · rw [← bs_toList (r.takeWhile isD), HN.out]; simpa using T1.out
      · rintro (h | h)
        · exact t3 (by rw [← HN.out, bs_toList]; exact h)
        · exact of_not_head HN.out (c := 48) T2.out.2 h
    have FIN := Lib.hid fin
    clear fin
    have hRl : R2.toList = t.dropWhile isD := by rw [← HR2.out, bs_toList]
    have hDl : D.toList = t.takeWhile isD := by rw [← HDD.out, bs_toList]
    have HRl := Lib.hid hRl
    have HDl := Lib.hid hDl
    clear hRl hDl
    go_wp2
    by_cases r2 : R2.toList.isEmpty = true
    · have r2' : R2.toList = [] := List.isEmpty_iff.1 r2
      by_cases r3 : D.toList.isEmpty = true
      · have r3' : D.toList = [] := List.isEmpty_iff.1 r3
        go_region
        all_goals
          try go_wp2
          refine bodyPost_ret (v := .tuple #[.agg #[.bool b, .string N, .string D], .bool false]) (by simp [results, Tryz.results81, go_sem, d0, d1, d2]) rfl (FIN.out _ _ ?_ ?_)
          · rw [← HRl.out, ← HDl.out, r3']; simp
          · exact below_drewN ((((hbw2.setCell (by simp) _).setCell (by simp) _).setCell (by simp) _).setCell (by simp) _) 1
      · have r3 : D.toList.isEmpty = false := eq_false_of_ne_true r3
        have r3' : ¬ D.toList = [] := fun e => by rw [e] at r3; cases r3
        have r4 : 0 < D.size := by
          rw [← HDD.out]; exact bs_pos (fun e => r3' (by rw [HDl.out]; exact e))
        by_cases r5 : ((D[0].toNat : Int) != 48) = true
        · have r5' : (t.takeWhile isD).head? ≠ some 48 := of_not_head HDD.out (c := 48) (h := r4) (by simpa using r5)
          have R5 := Lib.hid r5'
          clear r5'
          by_cases r6 : (D.toList != [49]) = true
          · skip
            go_region
            all_goals
              try go_wp2
              refine bodyPost_ret (v := .tuple #[.agg #[.bool b, .string N, .string D], .bool true]) (by simp [results, Tryz.results81, go_sem, d0, d1, d2]; simpa using r6) rfl (FIN.out _ _ ?_ ?_)
              · rw [← HRl.out, ← HDl.out]; exact iff_of_true rfl ⟨r2', r3', by rw [HDl.out]; exact R5.out, by simpa using r6⟩
              · exact below_drewN ((((hbw2.setCell (by simp) _).setCell (by simp) _).setCell (by simp) _).setCell (by simp) _) 1
          · have r6 : (D.toList != [49]) = false := eq_false_of_ne_true r6
            go_region
            all_goals
              try go_wp2
              refine bodyPost_ret (v := .tuple #[.agg #[.bool b, .string N, .string D], .bool false]) (by simp [results, Tryz.results81, go_sem, d0, d1, d2]; simpa using r6) rfl (FIN.out _ _ ?_ ?_)
              · rw [← HRl.out, ← HDl.out]; exact iff_of_false (by decide) (fun h => h.2.2.2 (by simpa using r6))
              · exact below_drewN ((((hbw2.setCell (by simp) _).setCell (by simp) _).setCell (by simp) _).setCell (by simp) _) 1
        · have r5 : ((D[0].toNat : Int) != 48) = false := eq_false_of_ne_true r5
          have r5' : (t.takeWhile isD).head? = some 48 := of_head HDD.out (c := 48) (h := r4) (by simpa using r5)
          have R5 := Lib.hid r5'
          clear r5'
          go_region
          all_goals
            try go_wp2
            refine bodyPost_ret (v := .tuple #[.agg #[.bool b, .string N, .string D], .bool false]) (by simp [results, Tryz.results81, go_sem, d0, d1, d2]) rfl (FIN.out _ _ ?_ ?_)
            · rw [← HRl.out, ← HDl.out]; exact iff_of_false (by decide) (fun h => h.2.2.1 (by rw [HDl.out]; exact R5.out))
            · exact below_drewN ((((hbw2.setCell (by simp) _).setCell (by simp) _).setCell (by simp) _).setCell (by simp) _) 1
    · have r2 : R2.toList.isEmpty = false := eq_false_of_ne_true r2
      have r2' : ¬ R2.toList = [] := fun e => by rw [e] at r2; cases r2
      go_region
      all_goals
        try go_wp2
        refine bodyPost_ret (v := .tuple #[.agg #[.bool b, .string N, .string D], .bool false]) (by simp [results, Tryz.results81, go_sem, d0, d1, d2]) rfl (FIN.out _ _ ?_ ?_)
        · rw [← HRl.out]; simp [r2']
        · exact below_drewN ((((hbw2.setCell (by simp) _).setCell (by simp) _).setCell (by simp) _).setCell (by simp) _) 1
  · have t5 : R.toList.isEmpty = false := by assumption
    have t6 : ¬ 0 < R.size := by assumption
    have hR : r.dropWhile isD = R.toList := by rw [← HR.out, bs_toList]
    have : R.size = (r.dropWhile isD).length := by rw [← HR.out, bs_size]
    have h0 : r.dropWhile isD = [] := List.eq_nil_of_length_eq_zero (by omega)
    rw [← hR, h0] at t5; cases t5
  · have t5 : ¬ N.toList = [] := by assumption
    have t6 : ¬ 0 < N.size := by assumption
    have hR : r.takeWhile isD = N.toList := by rw [← HN.out, bs_toList]
    have : N.size = (r.takeWhile isD).length := by rw [← HN.out, bs_size]
    have h0 : r.takeWhile isD = [] := List.eq_nil_of_length_eq_zero (by omega)
    exact absurd (hR.symm.trans h0) t5
end Go.Proofs.Tg
end
