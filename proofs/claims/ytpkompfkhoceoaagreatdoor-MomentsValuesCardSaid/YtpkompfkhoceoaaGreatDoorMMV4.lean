/- Parts of the proof: RQ0, FI1, Fr35, Fr36, MO1, MO2, MO3. -/
import Derived.Shelf.Strconv.Itoa4
import Derived.Lib.AppendIntMem
import Derived.Test.YtpkompfkhoceoaaGreatDoorCards
import Derived.Test.YtpkompfkhoceoaaGreatDoorTie
import Derived.LaidSub
import Derived.Lib.TrailingZeros
import Derived.ProofKit
import Derived.OpenShut
import Derived.Carry
import Derived.Deep.Slices
import Derived.Deep.Matrix
import Derived.Deep.DeepHandedRow
import Derived.Lib.LaidTab
import Derived.Maps.AppendAt
import Derived.Deep.AppendSrc
import Derived.Test.YtpkompfkhoceoaaGreatDoorMMV0
import Derived.Test.YtpkompfkhoceoaaGreatDoorMMV3
section
/- Plain: rational numbers, their texts, and bounds on their parts. -/
namespace Go.Rq
open Go.Qn Go.Proofs.Tg
/-- The canonical text. -/
def qtx (q : Rat) : ByteArray := bs (text (decide (q.num < 0)) q.num.natAbs q.den)
theorem canon (q : Rat) : Canon (decide (q.num < 0)) q.num.natAbs q.den := by
  refine ⟨q.den_pos, q.reduced, fun h => decide_eq_false ?_⟩
  omega
theorem sgq (q : Rat) : (if decide (q.num < 0) = true then -(q.num.natAbs : Int) else (q.num.natAbs : Int)) = q.num := by
  by_cases h : q.num < 0
  · rw [decide_eq_true h, if_pos rfl]; omega
  · rw [decide_eq_false h, if_neg (by decide)]; omega
/-- Both parts have at most nine digits. -/
def Sh (q : Rat) : Prop := q.num.natAbs < 1000000000 ∧ q.den < 1000000000
theorem text_len {b : Bool} {n d : Nat} (hn : n < 1000000000) (hd : d < 1000000000) : (text b n d).length ≤ 20 := by
  unfold text
  have h1 := dec_len 8 n hn
  have h2 := dec_len 8 d hd
  by_cases h : d = 1
  · rw [if_pos h]
    cases b <;> simp <;> omega
  · rw [if_neg h]
    cases b <;> simp <;> omega
theorem dec_nine {n : Nat} (hn : n < 1000000000) : (Lib.decDigits n).length ≤ 9 := dec_len 8 n hn
/-- A multiple of 1/D, at most K times. -/
def Bd (D K : Nat) (q : Rat) : Prop := ∃ k : Int, q = mkRat k D ∧ k.natAbs ≤ K
theorem Bd.num {D K : Nat} {q : Rat} (h : Bd D K q) : q.num.natAbs ≤ K := by
  obtain ⟨k, rfl, hk⟩ := h
  rw [Rat.num_mkRat]
  split
  · simp
  · have h1 : (k / ((D.gcd k.natAbs : Nat) : Int)).natAbs ≤ k.natAbs := by
      rcases Nat.eq_zero_or_pos (D.gcd k.natAbs) with h0 | h0
      · rw [h0]; simp
      · rw [Int.natAbs_ediv_of_dvd (Int.ofNat_dvd_left.2 (Nat.gcd_dvd_right _ _))]
        simp only [Int.natAbs_natCast]
        exact Nat.div_le_self _ _
    omega
theorem Bd.den {D K : Nat} {q : Rat} (h : Bd D K q) (hD : 0 < D) : q.den ∣ D := by
  obtain ⟨k, rfl, hk⟩ := h
  rw [Rat.den_mkRat, if_neg (by omega)]
  exact Nat.div_dvd_of_dvd (Nat.gcd_dvd_left _ _)
theorem Bd.denle {D K : Nat} {q : Rat} (h : Bd D K q) (hD : 0 < D) : q.den ≤ D := Nat.le_of_dvd hD (h.den hD)
theorem Bd.sh {D K : Nat} {q : Rat} (h : Bd D K q) (hD : 0 < D) (hD2 : D < 1000000000) (hK : K < 1000000000) : Sh q :=
  ⟨Nat.lt_of_le_of_lt h.num hK, Nat.lt_of_le_of_lt (h.denle hD) hD2⟩
theorem Bd.mono {D K K' : Nat} {q : Rat} (h : Bd D K q) (hK : K ≤ K') : Bd D K' q := by
  obtain ⟨k, e, hk⟩ := h
  exact ⟨k, e, by omega⟩
theorem Bd.zero (D : Nat) : Bd D 0 0 := ⟨0, by simp, by simp⟩
theorem Bd.int (k : Int) : Bd 1 k.natAbs (k : Rat) := ⟨k, Rat.ext (by rw [Rat.num_mkRat]; simp) (by rw [Rat.den_mkRat]; simp), Nat.le_refl _⟩
theorem Bd.of (n : Int) (d : Nat) : Bd d n.natAbs (mkRat n d) := ⟨n, rfl, Nat.le_refl _⟩
theorem Bd.add {D K L : Nat} {p q : Rat} (h : Bd D K p) (g : Bd D L q) (hD : 0 < D) : Bd D (K + L) (p + q) := by
  obtain ⟨k, rfl, hk⟩ := h
  obtain ⟨l, rfl, hl⟩ := g
  refine ⟨k + l, ?_, by omega⟩
  rw [Rat.mkRat_add_mkRat _ _ (by omega) (by omega), ← Int.add_mul, Rat.mkRat_mul_right (by omega)]
theorem Bd.mul {D E K L : Nat} {p q : Rat} (h : Bd D K p) (g : Bd E L q) : Bd (D * E) (K * L) (p * q) := by
  obtain ⟨k, rfl, hk⟩ := h
  obtain ⟨l, rfl, hl⟩ := g
  refine ⟨k * l, Rat.mkRat_mul_mkRat _ _ _ _, ?_⟩
  rw [Int.natAbs_mul]
  exact Nat.mul_le_mul hk hl
theorem Bd.scale {D K : Nat} {q : Rat} (h : Bd D K q) {E : Nat} (hE : 0 < E) : Bd (D * E) (K * E) q := by
  obtain ⟨k, rfl, hk⟩ := h
  refine ⟨k * E, (Rat.mkRat_mul_right (by omega)).symm, ?_⟩
  rw [Int.natAbs_mul, Int.natAbs_natCast]
  exact Nat.mul_le_mul_right _ hk
theorem Bd.over {D E K : Nat} {q : Rat} (h : Bd D K q) (hDE : D ∣ E) (hE : 0 < E) : Bd E (K * (E / D)) q := by
  obtain ⟨c, rfl⟩ := hDE
  have hD : 0 < D := Nat.pos_of_mul_pos_right hE
  have hc : 0 < c := Nat.pos_of_mul_pos_left hE
  rw [Nat.mul_div_cancel_left _ hD]
  exact h.scale hc
theorem Bd.neg {D K : Nat} {q : Rat} (h : Bd D K q) : Bd D K (-q) := by
  obtain ⟨k, rfl, hk⟩ := h
  exact ⟨-k, Rat.neg_mkRat _ _, by rw [Int.natAbs_neg]; exact hk⟩
/-- The parts of a fraction brought into lowest terms. -/
theorem mk_num (z : Int) (m : Nat) (h : m ≠ 0) : (mkRat z m).num.natAbs = z.natAbs / Nat.gcd z.natAbs m ∧ (mkRat z m).den = m / Nat.gcd z.natAbs m ∧ ((mkRat z m).num < 0 ↔ z < 0) := by
  have hg : 0 < Nat.gcd z.natAbs m := Nat.gcd_pos_of_pos_right _ (by omega)
  rw [Rat.num_mkRat, Rat.den_mkRat, if_neg h, if_neg h, Nat.gcd_comm m]
  have hd : ((Nat.gcd z.natAbs m : Nat) : Int) ∣ z := Int.ofNat_dvd_left.2 (Nat.gcd_dvd_left _ _)
  refine ⟨by rw [Int.natAbs_ediv_of_dvd hd, Int.natAbs_natCast], rfl, ?_⟩
  obtain ⟨c, hc⟩ := hd
  have hgI : (0 : Int) < ((Nat.gcd z.natAbs m : Nat) : Int) := by omega
  generalize hG : ((Nat.gcd z.natAbs m : Nat) : Int) = G at *
  rw [hc, Int.mul_ediv_cancel_left _ (by omega)]
  constructor
  · intro h1; exact Int.mul_neg_of_pos_of_neg hgI h1
  · intro h1
    rcases Int.lt_or_le c 0 with h2 | h2
    · exact h2
    · have := Int.mul_nonneg (Int.le_of_lt hgI) h2; omega
end Go.Rq
end
section
/- The library's contract of FormatInt, laid at this program (the laying was printed by the kit's own tool). -/
namespace Go.Proofs.Tg.Fi
open Go.Shelf
def fmtLay_ren : Go.Shelf.Ren := ⟨fun | 173 => 101 | 246 => 130 | 283 => 155 | 284 => 156 | 285 => 157 | 286 => 158 | 129 => 179 | 317 => 178 | 318 => 180 | 319 => 181 | 320 => 182 | 337 => 197 | 338 => 175 | n => n, fun | 2 => 2 | 3 => 3 | 9 => 9 | 4 => 4 | 171 => 216 | 0 => 0 | 53 => 135 | 37 => 149 | 5 => 5 | 173 => 219 | 212 => 229 | 51 => 137 | 20 => 20 | 213 => 230 | 46 => 138 | 232 => 247 | 233 => 242 | n => n, fun | 17 => 0 | 18 => 4 | 19 => 1 | n => n⟩
theorem fmtLay : Go.Proofs.LaysM.n173 Tryz.prog fmtLay_ren := {
  mixed := by kernel_rfl
  f129 := Tryz.func179.trans (congrArg some (by kernel_rfl))
  f173 := Tryz.func101.trans (congrArg some (by kernel_rfl))
  f246 := Tryz.func130.trans (congrArg some (by kernel_rfl))
  f283 := Tryz.func155.trans (congrArg some (by kernel_rfl))
  f284 := Tryz.func156.trans (congrArg some (by kernel_rfl))
  f285 := Tryz.func157.trans (congrArg some (by kernel_rfl))
  f286 := Tryz.func158.trans (congrArg some (by kernel_rfl))
  f317 := Tryz.func178.trans (congrArg some (by kernel_rfl))
  f318 := Tryz.func180.trans (congrArg some (by kernel_rfl))
  f319 := Tryz.func181.trans (congrArg some (by kernel_rfl))
  f320 := Tryz.func182.trans (congrArg some (by kernel_rfl))
  f337 := Tryz.func197.trans (congrArg some (by kernel_rfl))
  f338 := Tryz.func175.trans (congrArg some (by kernel_rfl))
  t0 := Tryz.underlying0
  a0 := Tryz.isAgg0
  z0 := Tryz.sizeOf0
  v0 := Tryz.zeroValue0
  t2 := Tryz.underlying2
  a2 := Tryz.isAgg2
  z2 := Tryz.sizeOf2
  v2 := Tryz.zeroValue2
  t3 := Tryz.underlying3
  a3 := Tryz.isAgg3
  z3 := Tryz.sizeOf3
  v3 := Tryz.zeroValue3
  t4 := Tryz.underlying4
  a4 := Tryz.isAgg4
  z4 := Tryz.sizeOf4
  v4 := Tryz.zeroValue4
  t5 := Tryz.underlying5
  a5 := Tryz.isAgg5
  z5 := Tryz.sizeOf5
  v5 := Tryz.zeroValue5
  t9 := Tryz.underlying9
  a9 := Tryz.isAgg9
  z9 := Tryz.sizeOf9
  v9 := Tryz.zeroValue9
  t20 := Tryz.underlying20
  a20 := Tryz.isAgg20
  z20 := Tryz.sizeOf20
  v20 := Tryz.zeroValue20
  t37 := Tryz.underlying149
  a37 := Tryz.isAgg149
  z37 := Tryz.sizeOf149
  v37 := Tryz.zeroValue149
  t46 := Tryz.underlying138
  a46 := Tryz.isAgg138
  z46 := Tryz.sizeOf138
  v46 := Tryz.zeroValue138
  t51 := Tryz.underlying137
  a51 := Tryz.isAgg137
  z51 := Tryz.sizeOf137
  v51 := Tryz.zeroValue137
  t53 := Tryz.underlying135
  a53 := Tryz.isAgg135
  z53 := Tryz.sizeOf135
  v53 := Tryz.zeroValue135
  t171 := Tryz.underlying216
  a171 := Tryz.isAgg216
  z171 := Tryz.sizeOf216
  v171 := Tryz.zeroValue216
  t173 := Tryz.underlying219
  a173 := Tryz.isAgg219
  z173 := Tryz.sizeOf219
  v173 := Tryz.zeroValue219
  t212 := Tryz.underlying229
  a212 := Tryz.isAgg229
  z212 := Tryz.sizeOf229
  v212 := Tryz.zeroValue229
  t213 := Tryz.underlying230
  a213 := Tryz.isAgg230
  z213 := Tryz.sizeOf230
  t232 := Tryz.underlying247
  a232 := Tryz.isAgg247
  z232 := Tryz.sizeOf247
  v232 := Tryz.zeroValue247
  t233 := Tryz.underlying242
  a233 := Tryz.isAgg242
  z233 := Tryz.sizeOf242
  v233 := Tryz.zeroValue242
  g17 := by kernel_rfl
  g18 := by kernel_rfl
  g19 := by kernel_rfl
  i0 := by kernel_rfl
  i2 := by kernel_rfl
  i3 := by kernel_rfl
  i4 := by kernel_rfl
  i5 := by kernel_rfl
  i9 := by kernel_rfl
  i20 := by kernel_rfl
  i37 := by kernel_rfl
  i46 := by kernel_rfl
  i51 := by kernel_rfl
  i53 := by kernel_rfl
  i171 := by kernel_rfl
  i173 := by kernel_rfl
  i212 := by kernel_rfl
  i232 := by kernel_rfl
  i233 := by kernel_rfl
  m17 := by kernel_rfl
  m18 := by kernel_rfl
  m19 := by kernel_rfl }
open Go.RowKit Go.Rq Go.Qn
/-- The library's table of powers of ten stands. -/
def PT (w : World) : Prop := Lib.TabIs Tryz.prog w "internal/strconv.uint64pow10" .u64 Lib.pow10Tab
theorem PT.keep {w w' : World} (h : PT w) (hb : Below w.heap.size w w') : PT w' := Lib.tabBelow_of_tabIs h w' hb
theorem fmti_any (n : Int) (h0 : -9223372036854775808 ≤ n) (h1 : n ≤ 9223372036854775807) (w : World) (ht : PT w) :
    Calls Tryz.prog 101 #[.int .i64 n, .int .i64 10] w fun e w' => e = .returned (.string (bs (Lib.itoa n))) ∧ Below w.heap.size w w' := by
  refine Calls.mono (Any.strconv_FormatInt_10 fmtLay n h0 h1 w ht) ?_
  rintro e w' ⟨rfl, k, os, rfl⟩
  exact ⟨rfl, Lib.below_grow _ w (Nat.le_refl _) k os⟩
theorem itoa_text (n : Int) : Lib.itoa n = text (decide (n < 0)) n.natAbs 1 := by
  unfold Lib.itoa text
  by_cases h : n < 0
  · rw [if_pos h, decide_eq_true h]; simp
  · rw [if_neg h, decide_eq_false h]
    have : n.toNat = n.natAbs := by omega
    simp [this]
end Go.Proofs.Tg.Fi
end
section
/- The frame of this seat's statements: what the reading of an argument says of memory, the listed table, the row's last step, the world of the witness. -/
namespace Go.Proofs.YtpkompfkhoceoaaGreatDoor.Fr
open Go.ChangeShapes Go.WideShapes Go.ChangeAt Go.RowKit Go.Deep Go.Proofs.Tg Go.Gr
set_option maxRecDepth 100000
section
variable {H : Type} {enc : TypeId × Value → H} {W W' : World}
theorem trodAll_below (hl : laidOutB Tryz.prog = true) (hb : Below W.heap.size W W') : ∀ (ts : List TypeId) (vs : List Value) (ds : List (DataW H)) (ps : List MemPlace),
    (∀ t ∈ ts, Tryz.prog.readableRec t = true ∧ t < Tryz.prog.types.size) → DataW.TrodAll enc Tryz.prog W 0 (fun _ => true) true ts vs ds ps → (∀ x ∈ ps, x.block < W.heap.size) →
    DataW.TrodAll enc Tryz.prog W' 0 (fun b => decide (b < W.heap.size)) true ts vs ds ps
  | [], [], [], ps, _, h, _ => h
  | t :: ts, v :: vs, d :: ds, ps, ht, ⟨p, q, h1, h2, e⟩, hp => by
    subst e
    exact ⟨p, q, Below.trod hl (ht t (by simp)).1 (ht t (by simp)).2 h1 hb (fun x hx => hp x (by simp [hx])), trodAll_below hl hb ts vs ds q (fun t h => ht t (by simp [h])) h2 (fun x hx => hp x (by simp [hx])), rfl⟩
theorem band {a b : Bool} (h : a = true) (k : b = true) : (a && b) = true := by rw [h, k]; rfl
theorem laidOut : laidOutB Tryz.prog = true := by kernel_rfl
/-- A law that returned true and made new memory alone meets its row. -/
theorem post_law {f : Func} {s : ChangeSpec} {args : Array Value} {ds gs : List (DataW H)} {before : List MemPlace}
    (hW : DataW.Whole enc Tryz.prog f.params.toList s.vars false W args.toList ds gs before) (hv : s.vars = []) (hf : f.resultTypes = #[4])
    (hr : (s.fn H (ds ++ gs)).results = [.lit (.bool true)]) (ha : (s.fn H (ds ++ gs)).args = ds) (hg : (s.fn H (ds ++ gs)).vars = [])
    (hp : ∀ t ∈ f.params.toList, Tryz.prog.readableRec t = true ∧ t < Tryz.prog.types.size) (hb : Below W.heap.size W W') :
    s.post enc Tryz.prog f false true false false W args (.bool true) W' := by
  have hlt := hW.lt
  have hW2 := hW
  obtain ⟨p, q, hA, hV, hps, hz, hn⟩ := hW2
  rw [hv] at hV
  obtain ⟨rfl, rfl⟩ := trodVars_none hV
  rw [List.append_nil] at hps
  subst hps
  refine ⟨ds, [], before, [], before, [], hW, ?_, ?_, ?_, World.keptBut_mono (fun x hx => ⟨hx, .inr (.inl hx)⟩) (hb.frame (· ∈ before)), fun h => by cases h⟩
  · rw [hr, hf]
    exact trodAll_cons_mk (shut_bool Tryz.underlying4 _) trodAll_mk0
  · rw [ha]
    exact trodAll_below laidOut hb _ _ _ _ hp hA hlt
  · rw [hv, hg]; rfl
theorem gPow : Tryz.prog.globalNamed "internal/strconv.uint64pow10" = some 0 := by kernel_rfl
theorem gPowType : (Tryz.prog.globals[0]?).map (·.type) = some 229 := by kernel_rfl
theorem cellsPow : Tryz.prog.cellsOf 229 = 20 := by kernel_rfl
theorem cellsU64 : Tryz.prog.cellsOf 135 = 1 := by kernel_rfl
theorem cellsInt : Tryz.prog.cellsOf 3 = 1 := by kernel_rfl
theorem pow_data : (Rows.laid_internal_strconv_uint64pow10 : DataW Unit) = Lib.tabData .u64 Lib.pow10Tab := by kernel_rfl
def bruZ : List Int := Lib.deBruijn64tab.map fun x : Nat => (x : Int)
def bru32Z : List Int := Lib.deBruijn32tab.map fun x : Nat => (x : Int)
/-- What the row's list gives: the first of the powers of ten. -/
theorem pow_of (h : laidMetH Tryz.prog [("math/bits.deBruijn32tab", Rows.laid_math_bits_deBruijn32tab), ("math/bits.deBruijn64tab", Rows.laid_math_bits_deBruijn64tab), ("internal/strconv.uint64pow10", Rows.laid_internal_strconv_uint64pow10)] W) : Fi.PT W := by
  have h2 := h.filter (fun x => x.1 == "internal/strconv.uint64pow10")
  have e : ([("math/bits.deBruijn32tab", Rows.laid_math_bits_deBruijn32tab), ("math/bits.deBruijn64tab", Rows.laid_math_bits_deBruijn64tab), ("internal/strconv.uint64pow10", Rows.laid_internal_strconv_uint64pow10)] : List (String × DataW Unit)).filter (fun x => x.1 == "internal/strconv.uint64pow10") = [("internal/strconv.uint64pow10", Rows.laid_internal_strconv_uint64pow10)] := by rfl
  rw [e, pow_data] at h2
  exact Lib.tabIs_of_head (rest := []) gPow gPowType Tryz.underlying229 Tryz.underlying135 cellsU64 cellsPow h2
theorem wf_bounds {x : Int} (h : (Lit.int .i64 x).wf = true) : -9223372036854775808 ≤ x ∧ x < 9223372036854775808 := by
  have h1 : (decide (IntKind.i64.min ≤ x) && decide (x ≤ IntKind.i64.max)) = true := h
  rw [Bool.and_eq_true, decide_eq_true_eq, decide_eq_true_eq] at h1
  have e1 : IntKind.min .i64 = -9223372036854775808 := by decide
  have e2 : IntKind.max .i64 = 9223372036854775807 := by decide
  omega
/-- A slice of numbers, opened. -/
theorem open_tape {v : Value} {d : DataW H} {ps : List MemPlace} {b0 : Nat} (hval : Value.okWide Tryz.prog W .any b0 41 v) (h : DataW.Trod enc Tryz.prog W 0 (fun _ => true) true 41 v d ps) :
    ∃ A xs c, v = .slice A xs.length c ∧ Ints W A xs ∧ xs.length ≤ c ∧ (∀ x ∈ xs, -9223372036854775808 ≤ x ∧ x < 9223372036854775808) ∧ xs.length < 9223372036854775808 := by
  obtain ⟨V, len, cap, rfl⟩ := okWide_slice Tryz.underlying41 hval
  obtain ⟨fuel, h⟩ := h
  have hcs : (Value.slice V len cap).cells.toList = [.slice V len cap] := by simp [Value.cells]
  rw [hcs] at h
  rcases open_ints Tryz.underlying41 Tryz.underlying3 cellsInt h with ⟨h1, _⟩ | ⟨a, l, c, zs, h1, _, hl, hm, hz, _, hx, hwf⟩
  · injection h1 with h1
    injection h1 with e1 e2 e3
    subst e1 e2 e3
    exact ⟨none, [], 0, rfl, Sl.nil _ _ _, by simp, by simp, by simp⟩
  · injection h1 with h1
    injection h1 with e1 e2 e3
    subst e1 e2 e3
    simp only [if_true] at hz
    have hlen : (zs.take len).length = len := by rw [List.length_take]; omega
    refine ⟨some a, zs.take len, cap, by rw [hlen], ⟨by simp, fun hn => ⟨a, rfl, ?_, ?_⟩⟩, by omega, fun x hx2 => wf_bounds (hwf x (List.mem_of_mem_take hx2)), by rw [hlen]; simp only [maxLen] at hm; omega⟩
    · rw [hlen] at hn
      exact World.block_lt_of_cell? W _ (hx 0 (by omega))
    · intro j u hu
      have hj : j < len := by
        have := (List.getElem?_eq_some_iff.1 hu).1
        rw [List.length_map, hlen] at this
        exact this
      have e : u = .int .i64 (zs.getD j 0) := by
        rw [List.getElem?_map, List.getElem?_take, if_pos hj] at hu
        simp only [List.getElem?_eq_getElem (show j < zs.length by omega), Option.map_some] at hu
        injection hu with hu
        rw [← hu]
        simp [vi, show j < zs.length by omega]
      rw [e]
      exact hx j (by omega)
end
/-- The world of the witness: the settled one, the tables holding what their initialisers lay. -/
def layT (k : IntKind) (zs : List Int) : Obj → Obj
  | .cells _ t frozen => .cells (zs.map fun z => Value.int k z).toArray t frozen
  | o => o
noncomputable def laidWorld (os : Os) : World :=
  { World.holding Tryz.prog os ⟨#[], #[], []⟩ with heap := (((World.holding Tryz.prog os ⟨#[], #[], []⟩).heap.modify 0 (layT .u64 Lib.pow10Tab)).modify 4 (layT .u8 bru32Z)).modify 1 (layT .u8 bruZ) }
theorem own : ownKnob Tryz.prog.godebug = none := by kernel_rfl
end Go.Proofs.YtpkompfkhoceoaaGreatDoor.Fr
end
section
/- The frame of the moments' statements that read polynomials: the table of the places of single bits too. -/
namespace Go.Proofs.YtpkompfkhoceoaaGreatDoor.Fr
open Go.ChangeShapes Go.WideShapes Go.ChangeAt Go.RowKit Go.Deep Go.Proofs.Tg Go.Gr
set_option maxRecDepth 100000
variable {W : World}
theorem gTab : Tryz.prog.globalNamed "math/bits.deBruijn64tab" = some 1 := by kernel_rfl
theorem gTabType : (Tryz.prog.globals[(1 : Nat)]?).map (·.type) = some 242 := by kernel_rfl
theorem cellsTab : Tryz.prog.cellsOf 242 = 64 := by kernel_rfl
theorem cellsU8 : Tryz.prog.cellsOf 5 = 1 := by kernel_rfl
theorem bru_data : (Rows.laid_math_bits_deBruijn64tab : DataW Unit) = Lib.tabData .u8 bruZ := by kernel_rfl
theorem bruZ_len : bruZ.length = 64 := by decide +kernel
theorem bruZ_getD (j : Nat) : bruZ.getD j 0 = ((Lib.deBruijn64tab.getD j 0 : Nat) : Int) := by
  unfold bruZ
  rw [List.getD_eq_getElem?_getD, List.getElem?_map, List.getD_eq_getElem?_getD]
  cases Lib.deBruijn64tab[j]? <;> rfl
theorem tab_of (h : laidMetH Tryz.prog [("math/bits.deBruijn32tab", Rows.laid_math_bits_deBruijn32tab), ("math/bits.deBruijn64tab", Rows.laid_math_bits_deBruijn64tab), ("internal/strconv.uint64pow10", Rows.laid_internal_strconv_uint64pow10)] W) : Tab W := by
  have h2 := h.filter (fun x => x.1 == "math/bits.deBruijn64tab")
  have e : ([("math/bits.deBruijn32tab", Rows.laid_math_bits_deBruijn32tab), ("math/bits.deBruijn64tab", Rows.laid_math_bits_deBruijn64tab), ("internal/strconv.uint64pow10", Rows.laid_internal_strconv_uint64pow10)] : List (String × DataW Unit)).filter (fun x => x.1 == "math/bits.deBruijn64tab") = [("math/bits.deBruijn64tab", Rows.laid_math_bits_deBruijn64tab)] := by rfl
  rw [e, bru_data] at h2
  have h1 : Lib.TabIs Tryz.prog W "math/bits.deBruijn64tab" .u8 bruZ := Lib.tabIs_of_head (rest := []) gTab gTabType Tryz.underlying242 Tryz.underlying5 cellsU8 cellsTab h2
  have hc : ∀ j, j < 64 → W.cell? ⟨1, j, none⟩ = some (.int .u8 (Lib.deBruijn64tab.getD j 0)) := fun j hj => by
    rw [h1.cell gTab j (by rw [bruZ_len]; exact hj), bruZ_getD]
  exact ⟨World.block_lt_of_cell? W _ (hc 0 (by decide)), hc⟩
end Go.Proofs.YtpkompfkhoceoaaGreatDoor.Fr
end
section
/- Plain: the monomials of a degree, in ascending order. -/
namespace Go.Mm
/-- The monomials in n variables of degree d, the greatest last exponent first. -/
def exactL : Nat → Nat → List (List Int)
  | 0, d => if d = 0 then [[]] else []
  | n + 1, d => (List.range (d + 1)).flatMap fun j => (exactL n j).map (· ++ [((d - j : Nat) : Int)])
/-- The monomials up to a degree. -/
def mons (n d : Nat) : List (List Int) := (List.range (d + 1)).flatMap (exactL n)
/-- The first k blocks of exactL (n + 1) d. -/
def exTo (n d k : Nat) : List (List Int) := (List.range k).flatMap fun j => (exactL n j).map (· ++ [((d - j : Nat) : Int)])
theorem exTo_zero (n d : Nat) : exTo n d 0 = [] := rfl
theorem exTo_succ (n d k : Nat) : exTo n d (k + 1) = exTo n d k ++ (exactL n k).map (· ++ [((d - k : Nat) : Int)]) := by
  unfold exTo
  rw [List.range_succ, List.flatMap_append]
  simp
theorem exTo_all (n d : Nat) : exTo n d (d + 1) = exactL (n + 1) d := rfl
def monTo (n k : Nat) : List (List Int) := (List.range k).flatMap (exactL n)
theorem monTo_zero (n : Nat) : monTo n 0 = [] := rfl
theorem monTo_succ (n k : Nat) : monTo n (k + 1) = monTo n k ++ exactL n k := by
  unfold monTo
  rw [List.range_succ, List.flatMap_append]
  simp
theorem exTo_le (n d j : Nat) (hj : j ≤ d + 1) : (exTo n d j).length ≤ (exactL (n + 1) d).length := by
  rw [← exTo_all]
  obtain ⟨k, hk⟩ : ∃ k, d + 1 = j + k := ⟨d + 1 - j, by omega⟩
  rw [hk]
  clear hk hj
  induction k with
  | zero => exact Nat.le_refl _
  | succ k ih =>
    rw [show j + (k + 1) = (j + k) + 1 by omega, exTo_succ, List.length_append]
    omega
theorem exTo_len (n d j : Nat) : (exTo n d (j + 1)).length = (exTo n d j).length + (exactL n j).length := by
  rw [exTo_succ, List.length_append, List.length_map]
theorem monTo_len (n j : Nat) : (monTo n (j + 1)).length = (monTo n j).length + (exactL n j).length := by
  rw [monTo_succ, List.length_append]
theorem exact_one (d : Nat) : exactL 1 d = [[(d : Int)]] := by
  rw [← exTo_all]
  have h : ∀ k, k ≤ d → exTo 0 d (k + 1) = [[(d : Int)]] := by
    intro k
    induction k with
    | zero => intro _; rw [exTo_succ, exTo_zero]; simp [exactL]
    | succ k ih => intro hk; rw [exTo_succ, ih (by omega)]; simp [exactL]
  exact h d (Nat.le_refl _)
theorem exact_mem : ∀ (n d : Nat) (m : List Int), m ∈ exactL n d → m.length = n ∧ (∀ e ∈ m, 0 ≤ e ∧ e ≤ d) ∧ m.sum = d
  | 0, d, m, h => by
    unfold exactL at h
    split at h
    · rw [List.mem_singleton.1 h]; simp; omega
    · exact absurd h (by simp)
  | n + 1, d, m, h => by
    unfold exactL at h
    obtain ⟨j, hj, hm⟩ := List.mem_flatMap.1 h
    obtain ⟨m', hm', rfl⟩ := List.mem_map.1 hm
    have hj2 := List.mem_range.1 hj
    obtain ⟨h1, h2, h3⟩ := exact_mem n j m' hm'
    refine ⟨by simp [h1], fun e he => ?_, by simp [h3]; omega⟩
    rcases List.mem_append.1 he with he | he
    · have := h2 e he; omega
    · rw [List.mem_singleton.1 he]; omega
theorem mons_mem {n d : Nat} {m : List Int} (h : m ∈ mons n d) : m.length = n ∧ ∀ e ∈ m, 0 ≤ e ∧ e ≤ d := by
  obtain ⟨j, hj, hm⟩ := List.mem_flatMap.1 h
  have hj2 := List.mem_range.1 hj
  obtain ⟨h1, h2, _⟩ := exact_mem n j m hm
  exact ⟨h1, fun e he => by have := h2 e he; omega⟩
end Go.Mm
end
section
/- Rows of rows of integers of the call's own; append of integers. -/
namespace Go.Proofs.Tg
open Go.RowKit
set_option maxHeartbeats 4000000
set_option maxRecDepth 100000
theorem iint_info : (Tryz.prog.info? 3).map (fun i => (i.zero, i.size, i.bytes)) = some (some (.int .i64 0), 1, 8) := by kernel_rfl
theorem irow_info : (Tryz.prog.info? 41).map (fun i => (i.zero, i.size, i.bytes)) = some (some (.slice none 0 0), 1, 24) := by kernel_rfl
structure IRow where
  A : Option Addr
  c : Nat
  l : List Int
def IRow.cell (r : IRow) : Value := .slice r.A r.l.length r.c
structure OwnI (base : Nat) (w : World) (A : Option Addr) (c : Nat) (rs : List IRow) : Prop where
  own : w.ownsRow base 41 1 (.slice A rs.length c) rs.length (rs.map IRow.cell)
  rows : ∀ r ∈ rs, w.ownsRow base 3 1 (.slice r.A r.l.length r.c) r.l.length (r.l.map vi)
theorem OwnI.nil (base : Nat) (w : World) : OwnI base w none 0 [] := ⟨World.ownsRow_nil _ _ _ _, fun r h => absurd h (by simp)⟩
theorem OwnI.keep {base : Nat} {w w' : World} {A : Option Addr} {c : Nat} {rs : List IRow} (h : OwnI base w A c rs) (hb : Below w.heap.size w w') : OwnI base w' A c rs :=
  ⟨own_below h.own hb (Nat.le_refl _), fun r hr => own_below (h.rows r hr) hb (Nat.le_refl _)⟩
theorem OwnI.mono {base base' : Nat} {w : World} {A : Option Addr} {c : Nat} {rs : List IRow} (h : OwnI base w A c rs) (hb : base' ≤ base) : OwnI base' w A c rs := ⟨own_base h.own hb, fun r hr => own_base (h.rows r hr) hb⟩
theorem OwnI.push {base : Nat} {w w' : World} {A : Option Addr} {c : Nat} {rs : List IRow} {r : IRow} {A' : Option Addr} {c' : Nat} (h : OwnI base w A c rs) (hr : w.ownsRow base 3 1 (.slice r.A r.l.length r.c) r.l.length (r.l.map vi)) (hg : w.grownBy w' (Value.slice A rs.length c).ownBlock)
    (h' : w'.ownsRow base 41 1 (.slice A' (rs.length + 1) c') (rs.length + 1) (rs.map IRow.cell ++ [r.cell])) : OwnI base w' A' c' (rs ++ [r]) := by
  refine ⟨?_, fun x hx => ?_⟩
  · rw [List.length_append, List.map_append]
    simpa using h'
  · rcases List.mem_append.1 hx with hx | hx
    · exact (h.rows x hx).kept hg (own_ne (h.rows x hx) h.own (by decide))
    · rw [List.mem_singleton.1 hx]; exact hr.kept hg (own_ne hr h.own (by decide))
/-- A row of integers grows. -/
theorem OwnI.lists {base : Nat} {w : World} {A : Option Addr} {c : Nat} {rs : List IRow} (h : OwnI base w A c rs) {k : Nat} (hk : k < rs.length) : ∃ ad, A = some ad ∧ w.cell? (ad.add k) = some (.slice rs[k].A rs[k].l.length rs[k].c) ∧ Ints w rs[k].A rs[k].l := by
  obtain ⟨ad, e, hc⟩ := Sl.at1 (Sl.own h.own) hk
  exact ⟨ad, e, by simpa [IRow.cell] using hc, Sl.own (h.rows _ (List.getElem_mem hk))⟩
/-- append of integers onto a row of the call's own, from any slice. -/
theorem wpList_app_ints {ops : Array Oper} {rest : List Oper} {o : Oper} {a : Act} {Q : Exit → Act → World → Prop} (w : World) (hgd : o.guard = none) (s x : Operand)
    (ho : o.op = .call { callee := .builtin .append, args := #[s, x], argTypes := #[41, 41] }) (base : Nat) (v : Value) (n : Nat) (xs : List Value) (hs : a.eval s = v) (hown : w.ownsRow base 3 1 v n xs) (hv : ∃ ad c, v = .slice (some ad) n c)
    (E : Option Addr) (m ce : Nat) (el : List Int) (hm : el.length = m) (hx : a.eval x = .slice E m ce) (hI : Ints w E el) (hn : n + m ≤ 1000000) (hbase : base ≤ w.heap.size)
    (h : ∀ A c w', w'.ownsRow base 3 1 (.slice A (n + m) c) (n + m) (xs ++ el.map vi) → w.grownBy w' v.ownBlock → wpList Tryz.prog ops Q rest (a.put o.dst (.slice A (n + m) c)) w') : wpList Tryz.prog ops Q (o :: rest) a w := by
  subst hm
  obtain ⟨ii, hii, iz0, iz1, iz2⟩ := info_parts iint_info
  by_cases h0 : el = []
  · subst h0
    obtain ⟨ad, c, rfl⟩ := hv
    have hx' : a.eval x = .slice E 0 ce := hx
    have hr : (Builtin.append_ #[41, 41] o.type #[.slice (some ad) n c, .slice E 0 ce]).run Tryz.prog w = .ok (.slice (some ad) n c) w := by
      rcases hown.2 with ⟨e, _⟩ | ⟨g, cap, cur, e, _, hg, hnc, _⟩
      · cases e
      · injection e with e1 e2 e3
        injection e1 with e1
        subst e1 e3
        have hS : Src Tryz.prog ii.size 41 (.slice E 0 ce) 0 [] w := by
          cases E with
          | none => exact Src.ofNil _ Tryz.underlying41 ce
          | some ad => exact Src.ofSlice _ Tryz.underlying41 ad 0 ce [] (by simp) (by simp) (by simp)
        have := run_append_room_src (P := Tryz.prog) w 41 41 o.type 3 ii Tryz.underlying41 hii g 0 n c (.slice E 0 ce) 0 [] hS (by simpa using hnc) (by simp) (by simp)
        simpa [World.setCells] using this
    refine wpList_plain hgd fun K hK => ?_
    unfold Oper.wp execOp
    simp only [ho, resolve, invoke, builtin, Sem.run_bind, Sem.run_pure, Result.andThen_ok, List.map_toArray, List.map_cons, List.map_nil, hs, hx', hr]
    refine hK _ _ (h (some ad) c w ?_ (World.grownBy.refl _ _))
    simpa using hown
  · have hp : 0 < el.length := List.length_pos_iff.2 h0
    obtain ⟨ad, rfl, _, hc⟩ := hI.lies hp
    refine wpList_append_own w hgd s x 41 ho base 3 ii (.int .i64 0) 1 8 Tryz.underlying41 hii iz0 iz1 iz2 rfl (by decide) v n xs hs hown ad el.length ce (el.map vi) hx (by simp) hc (by simp [vi, Value.oneCell']) (by simp only [maxLen]; omega) (by omega) hbase ?_
    intro v' w' hown' hgrow _
    obtain ⟨A, c, rfl, _, _⟩ := Sl.of_own hown'
    exact h A c w' hown' hgrow
end Go.Proofs.Tg
end
section
/- The program's list of monomials: appendDegree. -/
namespace Go.Proofs.Tg
open Go.RowKit Go.Mm
set_option maxHeartbeats 8000000
set_option maxRecDepth 100000
/-- What a call leaves that appends rows to a list. -/
def RetApp (base : Nat) (w : World) (A : Option Addr) (c : Nat) (rs : List IRow) (ms : List (List Int)) (e : Ending) (w' : World) : Prop :=
  ∃ A' c' rs', e = .returned (.slice A' (List.length rs') c') ∧ OwnI base w' A' c' rs' ∧ rs'.map IRow.l = rs.map IRow.l ++ ms ∧ w.grownBy w' (Value.slice A rs.length c).ownBlock ∧ ((Value.slice A' rs'.length c').ownBlock = (Value.slice A rs.length c).ownBlock ∨ ∃ k, (Value.slice A' rs'.length c').ownBlock = some k ∧ w.heap.size ≤ k)
structure ApSt (base : Nat) (w : World) (A : Option Addr) (c : Nat) (rs : List IRow) (ms : List (List Int)) (wr : World) (A' : Option Addr) (c' : Nat) (rs' : List IRow) : Prop where
  own : OwnI base wr A' c' rs'
  eq : rs'.map IRow.l = rs.map IRow.l ++ ms
  grown : w.grownBy wr (Value.slice A rs.length c).ownBlock
  at_ : (Value.slice A' rs'.length c').ownBlock = (Value.slice A rs.length c).ownBlock ∨ ∃ k, (Value.slice A' rs'.length c').ownBlock = some k ∧ w.heap.size ≤ k
theorem own_keep0 {w w' : World} {b sz n : Nat} {t t' : TypeId} {v v' : Value} {xs ys : List Value} {b' sz' n' : Nat} (h : w.ownsRow b t sz v n xs) (hg : w.grownBy w' v'.ownBlock) (h' : w.ownsRow b' t' sz' v' n' ys) (hne : t ≠ t') : w'.ownsRow b t sz v n xs := h.kept hg (own_ne h h' hne)
theorem grown_chain {w V V' : World} {r v' : Option Nat} (h : w.grownBy V r) (hg : V.grownBy V' v') (hv : v' = r ∨ ∃ k, v' = some k ∧ w.heap.size ≤ k) : w.grownBy V' r := by
  refine ⟨hg.os.trans h.os, hg.tape.trans h.tape, hg.output.trans h.output, Nat.le_trans h.size hg.size, fun k hk hkr => (hg.block k (Nat.lt_of_lt_of_le hk h.size) ?_).trans (h.block k hk hkr)⟩
  rcases hv with rfl | ⟨j, rfl, hj⟩
  · exact hkr
  · intro e; injection e with e; omega
theorem grown_below {w V V' : World} {r : Option Nat} (h : w.grownBy V r) (hb : Below V.heap.size V V') : w.grownBy V' r :=
  grown_chain h (⟨hb.os, hb.tape, hb.output, hb.size, fun k hk _ => hb.block k hk⟩ : V.grownBy V' r) (.inl rfl)
theorem appdeg_any (n : Nat) : ∀ (d base : Nat) (w : World) (A : Option Addr) (c : Nat) (rs : List IRow) (T : Option Addr) (ct : Nat) (tl : List Int), OwnI base w A c rs → base ≤ w.heap.size → w.ownsRow 0 3 1 (.slice T tl.length ct) tl.length (tl.map vi) → rs.length + (exactL n d).length ≤ 100000 → tl.length + n ≤ 100 → d ≤ 1000 → n ≤ 100 →
    Calls Tryz.prog 65 #[.slice A rs.length c, .int .i64 (n : Nat), .int .i64 (d : Nat), .slice T tl.length ct] w (RetApp base w A c rs ((exactL n d).map (· ++ tl))) := by
  induction n with
  | zero =>
    intro d base w A c rs T ct tl hO hbase hT hl ht hd _
    by_cases h0 : d = 0
    · subst h0
      obtain ⟨j0, hj, jz0, jz1, jz2⟩ := info_parts irow_info
      have e0 : (exactL 0 0).map (· ++ tl) = [tl] := by simp [exactL]
      rw [e0]
      have hrl : rs.length ≤ 100000 := by omega
      obtain ⟨nr, hnr⟩ : ∃ x, rs.length = x := ⟨_, rfl⟩
      obtain ⟨nt, hnt⟩ : ∃ x, tl.length = x := ⟨_, rfl⟩
      have HO := Lib.hid hO
      have HT := Lib.hid hT
      have hown := hO.own
      unfold RetApp
      rw [hnr] at hrl hown ⊢
      rw [hnt] at ht ⊢
      have HNR := Lib.hid hnr
      have HNT := Lib.hid hnt
      clear hl hnr hnt hO hT e0
      have hownA := hown.alloc (.cells #[] 3)
      have hO0 : (w.alloc (.cells #[] 3)).ownsRow w.heap.size 3 1 (.slice (some ⟨w.heap.size, 0, none⟩) 0 0) 0 [] := World.ownsRow_lit w #[] 0 (Nat.le_refl _) (by simp) (by simp)
      go_enter Tryz.func65, Tryz.ntmps65
      go_wp2_with (first
        | (at_builtin; refine wpList_app_ints _ rfl _ _ rfl w.heap.size (.slice (some ⟨w.heap.size, 0, none⟩) 0 0) 0 [] rfl hO0 ⟨_, _, rfl⟩ T nt ct tl HNT.out rfl ((Sl.own HT.out).alloc _) (by omega) (by simp) ?_))
      intro E ce w2 hE hgE
      have hb2 : Below w.heap.size w w2 := ((Below.refl w.heap.size w).alloc (Nat.le_refl _) _).grown hgE (by simp) (fun k hk => by simp [Value.ownBlock] at hk; omega)
      have hown2 := own_below hown hb2 (Nat.le_refl _)
      have hbz : base ≤ w2.heap.size := Nat.le_trans hbase hb2.size
      clear hownA hO0 hgE
      go_wp2_with (first
        | (at_builtin; refine wpList_append_own_at _ rfl _ _ 80 rfl base 41 j0 _ 1 24 Tryz.underlying80 hj jz0 jz1 jz2 rfl (by decide) (.slice A nr c) nr _ rfl (hown2.alloc _) ⟨w2.heap.size, 0, none⟩ 1 1 [.slice E nt ce] rfl rfl ?c1 ?c2 ?c3 ?c4 ?c5 ?_
           case c1 => exact cell_one_new _ _ _
           case c2 => simp [Value.oneCell']
           case c3 => simp only [maxLen]; omega
           case c4 => omega
           case c5 => simp; omega
           intro v' w5 hown' hgrow _ hat))
      go_ret
      obtain ⟨A2, cs2, hv2, _, _⟩ := Sl.of_own hown'
      subst hv2
      have hal := Below.alloc (Below.refl w2.heap.size w2) (Nat.le_refl _) (.cells #[.slice E nt ce] 41)
      refine ⟨A2, cs2, rs ++ [⟨E, ce, tl⟩], by rw [List.length_append, HNR.out]; rfl, ?_, by simp, ?_, ?_⟩
      · refine OwnI.push ((HO.out.keep hb2).keep hal) ?_ (by rw [HNR.out]; exact hgrow) ?_
        · rw [HNT.out]; exact (own_base hE hbase).alloc _
        · rw [HNR.out]
          have e : IRow.cell ⟨E, ce, tl⟩ = .slice E nt ce := by unfold IRow.cell; rw [HNT.out]
          rw [e]; exact hown'
      · exact grown_chain (grown_below (World.grownBy.refl w _) (below_all hb2 hal)) hgrow (.inl rfl)
      · rw [List.length_append, HNR.out]
        rcases hat with h | h
        · exact .inl h
        · exact .inr ⟨_, h, by have := hb2.size; simp; omega⟩
    · have e0 : (exactL 0 d).map (· ++ tl) = [] := by unfold exactL; rw [if_neg h0]; rfl
      rw [e0]
      have hd0 : decide ((0 : Int) < (d : Int)) = true := decide_eq_true (by omega)
      have hd0' : decide (0 < d) = true := decide_eq_true (by omega)
      have HO := Lib.hid hO
      unfold RetApp
      obtain ⟨nr, hnr⟩ : ∃ x, rs.length = x := ⟨_, rfl⟩
      obtain ⟨nt, hnt⟩ : ∃ x, tl.length = x := ⟨_, rfl⟩
      rw [hnr, hnt]
      have HNR := Lib.hid hnr
      clear hl hO hT hnr hnt ht e0
      go_enter Tryz.func65, Tryz.ntmps65
      go_wp2
      go_ret
      exact ⟨A, c, rs, by rw [HNR.out]; rfl, HO.out, by simp, World.grownBy.refl _ _, .inl (by rw [HNR.out])⟩
  | succ n ih =>
    intro d base w A c rs T ct tl hO hbase hT hl ht hd hn
    have IH := Lib.hid ih
    have HL := Lib.hid hl
    have HT := Lib.hid hT
    have HO0 := Lib.hid hO.own
    have HQ : Hid ((exTo n d (d + 1)).map (· ++ tl) = (exactL (n + 1) d).map (· ++ tl)) := Lib.hid (by rw [exTo_all])
    have HST : Hid (ApSt base w A c rs ((exTo n d 0).map (· ++ tl)) w A c rs) := Lib.hid ⟨hO, by simp [exTo_zero], World.grownBy.refl _ _, .inl rfl⟩
    have HLE := Lib.hid (exTo_le n d)
    unfold RetApp
    rw [← HQ.out]
    have nz : (((n : Int) + 1) == 0) = false := beq_eq_false_iff_ne.2 (by omega)
    have nz' : (((n + 1 : Nat) : Int) == 0) = false := beq_eq_false_iff_ne.2 (by omega)
    have hc1 : ((n + 1 : Nat) : Int) = (n : Int) + 1 := by omega
    rw [hc1]
    obtain ⟨nt, hnt⟩ : ∃ x, tl.length = x := ⟨_, rfl⟩
    rw [hnt] at ht ⊢
    have HNT := Lib.hid hnt
    clear ih hl hO hT hnt
    go_enter Tryz.func65, Tryz.ntmps65
    go_wp2
    go_loopw [0, 9] (fun s0 s9 wr => ∃ (j : Nat) (i : Int) (A' : Option Addr) (c' : Nat) (rs' : List IRow), s0 = .slice A' rs'.length c' ∧ s9 = .int .i64 i ∧ j ≤ d + 1 ∧ i = (d : Int) - (j : Int) ∧ Hid (ApSt base w A c rs ((exTo n d j).map (· ++ tl)) wr A' c' rs')) (fun _ s9 _ => (intOf s9 + 1).toNat)
    case atStart => exact ⟨0, d, A, c, rs, rfl, rfl, by omega, by simp, HST⟩
    case round =>
      clear HST
      obtain ⟨wo, rfl⟩ : ∃ wo : World, wo = wr := ⟨_, rfl⟩
      obtain ⟨j, i, A', c', rs', rfl, rfl, hj, hi, HST⟩ := hrel
      by_cases hjd : j = d + 1
      · have hi0 : decide ((0 : Int) ≤ i) = false := decide_eq_false (by omega)
        have HJ := Lib.hid hjd
        clear hjd hi
        go_wp2
        go_ret
        have h := HST.out
        rw [HJ.out] at h
        exact ⟨A', c', rs', rfl, h.own, h.eq, h.grown, h.at_⟩
      · have hj2 : j ≤ d := by omega
        have hi2 : (0 : Int) ≤ i := by omega
        have hi1 : decide ((0 : Int) ≤ i) = true := decide_eq_true hi2
        have w1 : IntKind.i64.wrap ((d : Int) - i) = (j : Int) := by
          rw [show (d : Int) - i = (j : Int) by omega]; exact IntWalk.i64_in _ (by omega)
        have w3 : IntKind.i64.wrap (i - 1) = i - 1 := IntWalk.i64_in _ (by omega)
        have HI : Hid (i = ((d - j : Nat) : Int)) := Lib.hid (by omega)
        have HTO := Lib.hid (own_keep0 HT.out HST.out.grown HO0.out (by decide))
        have hsz : w.heap.size ≤ wo.heap.size := HST.out.grown.size
        have hrl : rs'.length + (exactL n j).length ≤ 100000 := by
          have h1 := congrArg List.length HST.out.eq
          simp only [List.length_map, List.length_append] at h1
          have h2 := HLE.out (j + 1) (by omega)
          rw [exTo_len] at h2
          have h3 := HL.out
          omega
        have hRL := Lib.hid hrl
        obtain ⟨nr, hnr⟩ : ∃ x, rs'.length = x := ⟨_, rfl⟩
        rw [hnr]
        have HNR := Lib.hid hnr
        have hO1 : (wo.alloc (.cells #[.int .i64 i] 3)).ownsRow wo.heap.size 3 1 (.slice (some ⟨wo.heap.size, 0, none⟩) 1 1) 1 [.int .i64 i] := World.ownsRow_lit wo #[.int .i64 i] 1 (Nat.le_refl _) (by simp [maxLen]) rfl
        clear hrl hnr hi hjd
        go_wp2_with (first
          | (at_builtin; refine wpList_app_ints _ rfl _ _ rfl wo.heap.size (.slice (some ⟨wo.heap.size, 0, none⟩) 1 1) 1 [.int .i64 i] rfl hO1 ⟨_, _, rfl⟩ T nt ct tl HNT.out rfl ((Sl.own HTO.out).alloc _) (by omega) (by simp) ?_
             intro E ce w2 hE hgE))
        have hb2 : Below wo.heap.size wo w2 := ((Below.refl wo.heap.size wo).alloc (Nat.le_refl _) _).grown hgE (by simp) (fun k hk => by simp [Value.ownBlock] at hk; omega)
        have hOI := HST.out.own.keep hb2
        have htl : (i :: tl).length = 1 + nt := by rw [List.length_cons, HNT.out]; omega
        have hE2 : w2.ownsRow 0 3 1 (.slice E (i :: tl).length ce) (i :: tl).length ((i :: tl).map vi) := by
          rw [htl]
          exact own_base hE (Nat.zero_le _)
        have HC := IH.out j base w2 A' c' rs' E ce (i :: tl) hOI (by have := hb2.size; omega) hE2 hRL.out (by rw [htl]; omega) (by omega) (by omega)
        rw [htl, HNR.out] at HC
        unfold RetApp at HC
        rw [HNR.out] at HC
        have HC := Lib.hid HC
        have HB2 := Lib.hid hb2
        clear hOI htl hE2 hE hgE hO1 hb2
        go_wp2_with (fail)
        refine HC.out.mono ?_
        rintro e w5 ⟨A5, c5, rs5, rfl, hO5, he5, hg5, hat5⟩
        go_wp2
        go_roundw
        case rel =>
          refine ⟨j + 1, i - 1, A5, c5, rs5, rfl, by go_num, by omega, by have := HI.out; omega, Lib.hid ⟨hO5, ?_, ?_, ?_⟩⟩
          · rw [he5, HST.out.eq, exTo_succ, ← HI.out]
            simp [List.append_assoc]
          · refine grown_chain (grown_below HST.out.grown HB2.out) hg5 ?_
            have := HST.out.at_
            rw [HNR.out] at this
            exact this
          · have h1 := HST.out.at_
            rw [HNR.out] at h1
            rcases hat5 with h | ⟨k, h, hk⟩
            · rcases h1 with h1 | ⟨k1, h1, hk1⟩
              · exact .inl (h.trans h1)
              · exact .inr ⟨k1, h.trans h1, hk1⟩
            · exact .inr ⟨k, h, by have := HB2.out.size; omega⟩
        case measure => simp [intOf]; omega
end Go.Proofs.Tg
end
