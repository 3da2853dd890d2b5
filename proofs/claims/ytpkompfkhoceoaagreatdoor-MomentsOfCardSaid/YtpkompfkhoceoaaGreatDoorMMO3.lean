/- Parts of the proof: FI1, Fr35, BN1, BN9, BN10, BN13, BN2, BN5. -/
import Derived.Shelf.Strconv.Itoa4
import Derived.Lib.AppendIntMem
import Derived.Test.YtpkompfkhoceoaaGreatDoorCards
import Derived.Test.YtpkompfkhoceoaaGreatDoorTie
import Derived.LaidSub
import Derived.Lib.TrailingZeros
import Derived.ProofKit
import Derived.OpenShut
import Derived.Carry
import Derived.Deep.Slices
import Derived.Deep.Matrix
import Derived.Deep.DeepHandedRow
import Derived.Lib.LaidTab
import Derived.Test.YtpkompfkhoceoaaGreatDoorMMO0
import Derived.Test.YtpkompfkhoceoaaGreatDoorMMO1
import Derived.Test.YtpkompfkhoceoaaGreatDoorMMO2
section
/- The library's contract of FormatInt, laid at this program (the laying was printed by the kit's own tool). -/
namespace Go.Proofs.Tg.Fi
open Go.Shelf
def fmtLay_ren : Go.Shelf.Ren := ⟨fun | 173 => 101 | 246 => 130 | 283 => 155 | 284 => 156 | 285 => 157 | 286 => 158 | 129 => 179 | 317 => 178 | 318 => 180 | 319 => 181 | 320 => 182 | 337 => 197 | 338 => 175 | n => n, fun | 2 => 2 | 3 => 3 | 9 => 9 | 4 => 4 | 171 => 216 | 0 => 0 | 53 => 135 | 37 => 149 | 5 => 5 | 173 => 219 | 212 => 229 | 51 => 137 | 20 => 20 | 213 => 230 | 46 => 138 | 232 => 247 | 233 => 242 | n => n, fun | 17 => 0 | 18 => 4 | 19 => 1 | n => n⟩
theorem fmtLay : Go.Proofs.LaysM.n173 Tryz.prog fmtLay_ren := {
  mixed := by kernel_rfl
  f129 := Tryz.func179.trans (congrArg some (by kernel_rfl))
  f173 := Tryz.func101.trans (congrArg some (by kernel_rfl))
  f246 := Tryz.func130.trans (congrArg some (by kernel_rfl))
  f283 := Tryz.func155.trans (congrArg some (by kernel_rfl))
  f284 := Tryz.func156.trans (congrArg some (by kernel_rfl))
  f285 := Tryz.func157.trans (congrArg some (by kernel_rfl))
  f286 := Tryz.func158.trans (congrArg some (by kernel_rfl))
  f317 := Tryz.func178.trans (congrArg some (by kernel_rfl))
  f318 := Tryz.func180.trans (congrArg some (by kernel_rfl))
  f319 := Tryz.func181.trans (congrArg some (by kernel_rfl))
  f320 := Tryz.func182.trans (congrArg some (by kernel_rfl))
  f337 := Tryz.func197.trans (congrArg some (by kernel_rfl))
  f338 := Tryz.func175.trans (congrArg some (by kernel_rfl))
  t0 := Tryz.underlying0
  a0 := Tryz.isAgg0
  z0 := Tryz.sizeOf0
  v0 := Tryz.zeroValue0
  t2 := Tryz.underlying2
  a2 := Tryz.isAgg2
  z2 := Tryz.sizeOf2
  v2 := Tryz.zeroValue2
  t3 := Tryz.underlying3
  a3 := Tryz.isAgg3
  z3 := Tryz.sizeOf3
  v3 := Tryz.zeroValue3
  t4 := Tryz.underlying4
  a4 := Tryz.isAgg4
  z4 := Tryz.sizeOf4
  v4 := Tryz.zeroValue4
  t5 := Tryz.underlying5
  a5 := Tryz.isAgg5
  z5 := Tryz.sizeOf5
  v5 := Tryz.zeroValue5
  t9 := Tryz.underlying9
  a9 := Tryz.isAgg9
  z9 := Tryz.sizeOf9
  v9 := Tryz.zeroValue9
  t20 := Tryz.underlying20
  a20 := Tryz.isAgg20
  z20 := Tryz.sizeOf20
  v20 := Tryz.zeroValue20
  t37 := Tryz.underlying149
  a37 := Tryz.isAgg149
  z37 := Tryz.sizeOf149
  v37 := Tryz.zeroValue149
  t46 := Tryz.underlying138
  a46 := Tryz.isAgg138
  z46 := Tryz.sizeOf138
  v46 := Tryz.zeroValue138
  t51 := Tryz.underlying137
  a51 := Tryz.isAgg137
  z51 := Tryz.sizeOf137
  v51 := Tryz.zeroValue137
  t53 := Tryz.underlying135
  a53 := Tryz.isAgg135
  z53 := Tryz.sizeOf135
  v53 := Tryz.zeroValue135
  t171 := Tryz.underlying216
  a171 := Tryz.isAgg216
  z171 := Tryz.sizeOf216
  v171 := Tryz.zeroValue216
  t173 := Tryz.underlying219
  a173 := Tryz.isAgg219
  z173 := Tryz.sizeOf219
  v173 := Tryz.zeroValue219
  t212 := Tryz.underlying229
  a212 := Tryz.isAgg229
  z212 := Tryz.sizeOf229
  v212 := Tryz.zeroValue229
  t213 := Tryz.underlying230
  a213 := Tryz.isAgg230
  z213 := Tryz.sizeOf230
  t232 := Tryz.underlying247
  a232 := Tryz.isAgg247
  z232 := Tryz.sizeOf247
  v232 := Tryz.zeroValue247
  t233 := Tryz.underlying242
  a233 := Tryz.isAgg242
  z233 := Tryz.sizeOf242
  v233 := Tryz.zeroValue242
  g17 := by kernel_rfl
  g18 := by kernel_rfl
  g19 := by kernel_rfl
  i0 := by kernel_rfl
  i2 := by kernel_rfl
  i3 := by kernel_rfl
  i4 := by kernel_rfl
  i5 := by kernel_rfl
  i9 := by kernel_rfl
  i20 := by kernel_rfl
  i37 := by kernel_rfl
  i46 := by kernel_rfl
  i51 := by kernel_rfl
  i53 := by kernel_rfl
  i171 := by kernel_rfl
  i173 := by kernel_rfl
  i212 := by kernel_rfl
  i232 := by kernel_rfl
  i233 := by kernel_rfl
  m17 := by kernel_rfl
  m18 := by kernel_rfl
  m19 := by kernel_rfl }
open Go.RowKit Go.Rq Go.Qn
/-- The library's table of powers of ten stands. -/
def PT (w : World) : Prop := Lib.TabIs Tryz.prog w "internal/strconv.uint64pow10" .u64 Lib.pow10Tab
theorem PT.keep {w w' : World} (h : PT w) (hb : Below w.heap.size w w') : PT w' := Lib.tabBelow_of_tabIs h w' hb
theorem fmti_any (n : Int) (h0 : -9223372036854775808 ≤ n) (h1 : n ≤ 9223372036854775807) (w : World) (ht : PT w) :
    Calls Tryz.prog 101 #[.int .i64 n, .int .i64 10] w fun e w' => e = .returned (.string (bs (Lib.itoa n))) ∧ Below w.heap.size w w' := by
  refine Calls.mono (Any.strconv_FormatInt_10 fmtLay n h0 h1 w ht) ?_
  rintro e w' ⟨rfl, k, os, rfl⟩
  exact ⟨rfl, Lib.below_grow _ w (Nat.le_refl _) k os⟩
theorem itoa_text (n : Int) : Lib.itoa n = text (decide (n < 0)) n.natAbs 1 := by
  unfold Lib.itoa text
  by_cases h : n < 0
  · rw [if_pos h, decide_eq_true h]; simp
  · rw [if_neg h, decide_eq_false h]
    have : n.toNat = n.natAbs := by omega
    simp [this]
end Go.Proofs.Tg.Fi
end
section
/- The frame of this seat's statements: what the reading of an argument says of memory, the listed table, the row's last step, the world of the witness. -/
namespace Go.Proofs.YtpkompfkhoceoaaGreatDoor.Fr
open Go.ChangeShapes Go.WideShapes Go.ChangeAt Go.RowKit Go.Deep Go.Proofs.Tg Go.Gr
set_option maxRecDepth 100000
section
variable {H : Type} {enc : TypeId × Value → H} {W W' : World}
theorem trodAll_below (hl : laidOutB Tryz.prog = true) (hb : Below W.heap.size W W') : ∀ (ts : List TypeId) (vs : List Value) (ds : List (DataW H)) (ps : List MemPlace),
    (∀ t ∈ ts, Tryz.prog.readableRec t = true ∧ t < Tryz.prog.types.size) → DataW.TrodAll enc Tryz.prog W 0 (fun _ => true) true ts vs ds ps → (∀ x ∈ ps, x.block < W.heap.size) →
    DataW.TrodAll enc Tryz.prog W' 0 (fun b => decide (b < W.heap.size)) true ts vs ds ps
  | [], [], [], ps, _, h, _ => h
  | t :: ts, v :: vs, d :: ds, ps, ht, ⟨p, q, h1, h2, e⟩, hp => by
    subst e
    exact ⟨p, q, Below.trod hl (ht t (by simp)).1 (ht t (by simp)).2 h1 hb (fun x hx => hp x (by simp [hx])), trodAll_below hl hb ts vs ds q (fun t h => ht t (by simp [h])) h2 (fun x hx => hp x (by simp [hx])), rfl⟩
theorem band {a b : Bool} (h : a = true) (k : b = true) : (a && b) = true := by rw [h, k]; rfl
theorem laidOut : laidOutB Tryz.prog = true := by kernel_rfl
/-- A law that returned true and made new memory alone meets its row. -/
theorem post_law {f : Func} {s : ChangeSpec} {args : Array Value} {ds gs : List (DataW H)} {before : List MemPlace}
    (hW : DataW.Whole enc Tryz.prog f.params.toList s.vars false W args.toList ds gs before) (hv : s.vars = []) (hf : f.resultTypes = #[4])
    (hr : (s.fn H (ds ++ gs)).results = [.lit (.bool true)]) (ha : (s.fn H (ds ++ gs)).args = ds) (hg : (s.fn H (ds ++ gs)).vars = [])
    (hp : ∀ t ∈ f.params.toList, Tryz.prog.readableRec t = true ∧ t < Tryz.prog.types.size) (hb : Below W.heap.size W W') :
    s.post enc Tryz.prog f false true false false W args (.bool true) W' := by
  have hlt := hW.lt
  have hW2 := hW
  obtain ⟨p, q, hA, hV, hps, hz, hn⟩ := hW2
  rw [hv] at hV
  obtain ⟨rfl, rfl⟩ := trodVars_none hV
  rw [List.append_nil] at hps
  subst hps
  refine ⟨ds, [], before, [], before, [], hW, ?_, ?_, ?_, World.keptBut_mono (fun x hx => ⟨hx, .inr (.inl hx)⟩) (hb.frame (· ∈ before)), fun h => by cases h⟩
  · rw [hr, hf]
    exact trodAll_cons_mk (shut_bool Tryz.underlying4 _) trodAll_mk0
  · rw [ha]
    exact trodAll_below laidOut hb _ _ _ _ hp hA hlt
  · rw [hv, hg]; rfl
theorem gPow : Tryz.prog.globalNamed "internal/strconv.uint64pow10" = some 0 := by kernel_rfl
theorem gPowType : (Tryz.prog.globals[0]?).map (·.type) = some 229 := by kernel_rfl
theorem cellsPow : Tryz.prog.cellsOf 229 = 20 := by kernel_rfl
theorem cellsU64 : Tryz.prog.cellsOf 135 = 1 := by kernel_rfl
theorem cellsInt : Tryz.prog.cellsOf 3 = 1 := by kernel_rfl
theorem pow_data : (Rows.laid_internal_strconv_uint64pow10 : DataW Unit) = Lib.tabData .u64 Lib.pow10Tab := by kernel_rfl
def bruZ : List Int := Lib.deBruijn64tab.map fun x : Nat => (x : Int)
def bru32Z : List Int := Lib.deBruijn32tab.map fun x : Nat => (x : Int)
/-- What the row's list gives: the first of the powers of ten. -/
theorem pow_of (h : laidMetH Tryz.prog [("math/bits.deBruijn32tab", Rows.laid_math_bits_deBruijn32tab), ("math/bits.deBruijn64tab", Rows.laid_math_bits_deBruijn64tab), ("internal/strconv.uint64pow10", Rows.laid_internal_strconv_uint64pow10)] W) : Fi.PT W := by
  have h2 := h.filter (fun x => x.1 == "internal/strconv.uint64pow10")
  have e : ([("math/bits.deBruijn32tab", Rows.laid_math_bits_deBruijn32tab), ("math/bits.deBruijn64tab", Rows.laid_math_bits_deBruijn64tab), ("internal/strconv.uint64pow10", Rows.laid_internal_strconv_uint64pow10)] : List (String × DataW Unit)).filter (fun x => x.1 == "internal/strconv.uint64pow10") = [("internal/strconv.uint64pow10", Rows.laid_internal_strconv_uint64pow10)] := by rfl
  rw [e, pow_data] at h2
  exact Lib.tabIs_of_head (rest := []) gPow gPowType Tryz.underlying229 Tryz.underlying135 cellsU64 cellsPow h2
theorem wf_bounds {x : Int} (h : (Lit.int .i64 x).wf = true) : -9223372036854775808 ≤ x ∧ x < 9223372036854775808 := by
  have h1 : (decide (IntKind.i64.min ≤ x) && decide (x ≤ IntKind.i64.max)) = true := h
  rw [Bool.and_eq_true, decide_eq_true_eq, decide_eq_true_eq] at h1
  have e1 : IntKind.min .i64 = -9223372036854775808 := by decide
  have e2 : IntKind.max .i64 = 9223372036854775807 := by decide
  omega
/-- A slice of numbers, opened. -/
theorem open_tape {v : Value} {d : DataW H} {ps : List MemPlace} {b0 : Nat} (hval : Value.okWide Tryz.prog W .any b0 41 v) (h : DataW.Trod enc Tryz.prog W 0 (fun _ => true) true 41 v d ps) :
    ∃ A xs c, v = .slice A xs.length c ∧ Ints W A xs ∧ xs.length ≤ c ∧ (∀ x ∈ xs, -9223372036854775808 ≤ x ∧ x < 9223372036854775808) ∧ xs.length < 9223372036854775808 := by
  obtain ⟨V, len, cap, rfl⟩ := okWide_slice Tryz.underlying41 hval
  obtain ⟨fuel, h⟩ := h
  have hcs : (Value.slice V len cap).cells.toList = [.slice V len cap] := by simp [Value.cells]
  rw [hcs] at h
  rcases open_ints Tryz.underlying41 Tryz.underlying3 cellsInt h with ⟨h1, _⟩ | ⟨a, l, c, zs, h1, _, hl, hm, hz, _, hx, hwf⟩
  · injection h1 with h1
    injection h1 with e1 e2 e3
    subst e1 e2 e3
    exact ⟨none, [], 0, rfl, Sl.nil _ _ _, by simp, by simp, by simp⟩
  · injection h1 with h1
    injection h1 with e1 e2 e3
    subst e1 e2 e3
    simp only [if_true] at hz
    have hlen : (zs.take len).length = len := by rw [List.length_take]; omega
    refine ⟨some a, zs.take len, cap, by rw [hlen], ⟨by simp, fun hn => ⟨a, rfl, ?_, ?_⟩⟩, by omega, fun x hx2 => wf_bounds (hwf x (List.mem_of_mem_take hx2)), by rw [hlen]; simp only [maxLen] at hm; omega⟩
    · rw [hlen] at hn
      exact World.block_lt_of_cell? W _ (hx 0 (by omega))
    · intro j u hu
      have hj : j < len := by
        have := (List.getElem?_eq_some_iff.1 hu).1
        rw [List.length_map, hlen] at this
        exact this
      have e : u = .int .i64 (zs.getD j 0) := by
        rw [List.getElem?_map, List.getElem?_take, if_pos hj] at hu
        simp only [List.getElem?_eq_getElem (show j < zs.length by omega), Option.map_some] at hu
        injection hu with hu
        rw [← hu]
        simp [vi, show j < zs.length by omega]
      rw [e]
      exact hx j (by omega)
end
/-- The world of the witness: the settled one, the tables holding what their initialisers lay. -/
def layT (k : IntKind) (zs : List Int) : Obj → Obj
  | .cells _ t frozen => .cells (zs.map fun z => Value.int k z).toArray t frozen
  | o => o
noncomputable def laidWorld (os : Os) : World :=
  { World.holding Tryz.prog os ⟨#[], #[], []⟩ with heap := (((World.holding Tryz.prog os ⟨#[], #[], []⟩).heap.modify 0 (layT .u64 Lib.pow10Tab)).modify 4 (layT .u8 bru32Z)).modify 1 (layT .u8 bruZ) }
theorem own : ownKnob Tryz.prog.godebug = none := by kernel_rfl
end Go.Proofs.YtpkompfkhoceoaaGreatDoor.Fr
end
section
/- Numbers in base 2^32, the least digit first: plain. -/
namespace Go.Bn
abbrev B : Nat := 4294967296
def val : List Nat → Nat
  | [] => 0
  | x :: xs => x + B * val xs
def Dig (xs : List Nat) : Prop := ∀ x ∈ xs, x < B
/-- No zeros at the end. -/
def Norm (xs : List Nat) : Prop := ∀ h : xs ≠ [], xs.getLast h ≠ 0
theorem val_app (xs ys : List Nat) : val (xs ++ ys) = val xs + B ^ xs.length * val ys := by
  induction xs with
  | nil => simp [val]
  | cons x xs ih =>
    simp only [List.cons_append, val, ih, List.length_cons, Nat.pow_succ]
    rw [Nat.mul_add, Nat.mul_comm (B ^ xs.length) B, Nat.mul_assoc]; omega
theorem val_lt {xs : List Nat} (h : Dig xs) : val xs < B ^ xs.length := by
  induction xs with
  | nil => simp [val]
  | cons x xs ih =>
    have h1 := h x (by simp)
    have h2 := ih (fun y hy => h y (by simp [hy]))
    simp only [val, List.length_cons, Nat.pow_succ]
    have : B * (val xs + 1) ≤ B * B ^ xs.length := Nat.mul_le_mul_left _ h2
    rw [Nat.mul_comm (B ^ xs.length) B]
    rw [Nat.mul_add] at this
    omega
theorem val_zeros (n : Nat) : val (List.replicate n 0) = 0 := by
  induction n with
  | zero => rfl
  | succ n ih => rw [List.replicate_succ]; simp [val, ih]
/-- The digits of a number. -/
def dg (n : Nat) : List Nat := if _h : n = 0 then [] else n % B :: dg (n / B)
termination_by n
decreasing_by exact Nat.div_lt_self (by omega) (by decide)
theorem dg_zero : dg 0 = [] := by unfold dg; rfl
theorem dg_pos {n : Nat} (h : n ≠ 0) : dg n = n % B :: dg (n / B) := by rw [dg]; simp [h]
theorem dg_small {n : Nat} (h : n ≠ 0) (hb : n < B) : dg n = [n] := by
  rw [dg_pos h, Nat.mod_eq_of_lt hb, Nat.div_eq_of_lt hb, dg_zero]
theorem val_dg (n : Nat) : val (dg n) = n := by
  induction n using Nat.strongRecOn with
  | _ n ih =>
    by_cases h : n = 0
    · subst h; rw [dg_zero]; rfl
    · rw [dg_pos h]
      simp only [val]
      rw [ih _ (Nat.div_lt_self (by omega) (by decide))]
      have := Nat.mod_add_div n B
      omega
theorem dg_dig (n : Nat) : Dig (dg n) := by
  induction n using Nat.strongRecOn with
  | _ n ih =>
    by_cases h : n = 0
    · subst h; rw [dg_zero]; intro x hx; cases hx
    · rw [dg_pos h]
      intro x hx
      rcases List.mem_cons.1 hx with rfl | hx
      · exact Nat.mod_lt _ (by decide)
      · exact ih _ (Nat.div_lt_self (by omega) (by decide)) x hx
theorem norm_cons {x : Nat} {xs : List Nat} (h : Norm (x :: xs)) : Norm xs := by
  intro hne
  have := h (by simp)
  rwa [List.getLast_cons hne] at this
theorem norm_pos {xs : List Nat} (h : Norm xs) (hv : val xs = 0) : xs = [] := by
  induction xs with
  | nil => rfl
  | cons x xs ih =>
    simp only [val] at hv
    have h1 : x = 0 := by omega
    have h2 : val xs = 0 := by
      have : B * val xs = 0 := by omega
      rcases Nat.mul_eq_zero.1 this with h | h
      · exact absurd h (by decide)
      · exact h
    have h3 := ih (norm_cons h) h2
    subst h3 h1
    exact absurd rfl (h (by simp))
/-- The digits are the only ones without zeros at the end. -/
theorem dg_val {xs : List Nat} (hd : Dig xs) (hn : Norm xs) : dg (val xs) = xs := by
  induction xs with
  | nil => exact dg_zero
  | cons x xs ih =>
    have hx := hd x (by simp)
    have ih := ih (fun y hy => hd y (by simp [hy])) (norm_cons hn)
    have hv : val (x :: xs) ≠ 0 := fun e => by have := norm_pos hn e; cases this
    rw [dg_pos hv]
    simp only [val] at hv ⊢
    rw [Nat.add_mul_mod_self_left, Nat.mod_eq_of_lt hx, Nat.add_mul_div_left _ _ (by decide), Nat.div_eq_of_lt hx, Nat.zero_add, ih]
/-- Zeros struck from the end. -/
theorem dg_append_zero (xs : List Nat) : val (xs ++ [0]) = val xs := by rw [val_app]; simp [val]
theorem dg_len_lt {n k : Nat} (h : n < B ^ k) : (dg n).length ≤ k := by
  induction k generalizing n with
  | zero => have : n = 0 := by simpa using h
            subst this; rw [dg_zero]; simp
  | succ k ih =>
    by_cases h0 : n = 0
    · subst h0; rw [dg_zero]; simp
    · rw [dg_pos h0, List.length_cons]
      have : n / B < B ^ k := by
        rw [Nat.pow_succ] at h
        exact Nat.div_lt_of_lt_mul (by rw [Nat.mul_comm]; exact h)
      have := ih this
      omega
end Go.Bn
end
section
/- The estimate of a digit of a quotient by the top three digits and the top two of the divisor: plain numbers. -/
namespace Go.Bn
/-- The two numbers by their tops. -/
structure Tops (u v top u2 v1 v2 P : Nat) : Prop where
  u_hi : (top * B + u2) * P ≤ u
  u_lo : u < (top * B + u2 + 1) * P
  v_hi : (v1 * B + v2) * P ≤ v
  v_lo : v < (v1 * B + v2 + 1) * P
  u2lt : u2 < B
  v2lt : v2 < B
  big : B ≤ 2 * v1
  v1lt : v1 < B
theorem Tops.two {u v top u2 v1 v2 P q : Nat} (h : Tops u v top u2 v1 v2 P) (hq : q * v ≤ u) : q * (v1 * B + v2) ≤ top * B + u2 := by
  have h1 : q * ((v1 * B + v2) * P) ≤ q * v := Nat.mul_le_mul_left _ h.v_hi
  have h2 : q * (v1 * B + v2) * P < (top * B + u2 + 1) * P := by
    rw [Nat.mul_assoc]; exact Nat.lt_of_le_of_lt (Nat.le_trans h1 hq) h.u_lo
  have := Nat.lt_of_mul_lt_mul_right h2
  omega
/-- The first estimate is not too small. -/
theorem Tops.first {u v top u2 v1 v2 P q : Nat} (h : Tops u v top u2 v1 v2 P) (hq : q * v ≤ u) : q ≤ top / v1 := by
  have h1 := h.two hq
  have hu := h.u2lt
  have hb := h.big
  rw [Nat.mul_add, ← Nat.mul_assoc] at h1
  have h2 : q * v1 * B < (top + 1) * B := by rw [Nat.add_mul]; omega
  have h3 := Nat.lt_of_mul_lt_mul_right h2
  rw [Nat.le_div_iff_mul_le (by simp only [B] at hb; omega)]
  omega
/-- An estimate that fails the test is too great. -/
theorem Tops.down {u v top u2 v1 v2 P q e r : Nat} (h : Tops u v top u2 v1 v2 P) (hq : q * v ≤ u) (he : e * v1 + r = top) (ht : r * B + u2 < e * v2) (hqe : q ≤ e) : q ≤ e - 1 := by
  rcases Nat.lt_or_ge q e with h1 | h1
  · omega
  · have : q = e := by omega
    subst this
    have h2 := h.two hq
    rw [Nat.mul_add, ← Nat.mul_assoc, ← he, Nat.add_mul] at h2
    omega
/-- The first estimate is at most the base and one. -/
theorem Tops.small {u v top u2 v1 v2 P : Nat} (h : Tops u v top u2 v1 v2 P) (hlt : u < v * B) : top / v1 ≤ B + 1 := by
  have hb := h.big
  have hv2 := h.v2lt
  have h1 : (top * B + u2) * P < (v1 * B + v2 + 1) * P * B := Nat.lt_of_le_of_lt h.u_hi (Nat.lt_of_lt_of_le hlt (Nat.mul_le_mul_right _ (Nat.le_of_lt h.v_lo)))
  have h2 : (top * B + u2) * P < ((v1 * B + v2 + 1) * B) * P := by rw [Nat.mul_right_comm]; exact h1
  have h3 := Nat.lt_of_mul_lt_mul_right h2
  have h4 : (v1 * B + v2 + 1) * B ≤ (v1 * B + B) * B := Nat.mul_le_mul_right _ (by omega)
  have h5 : top * B < (v1 * B + B) * B := Nat.lt_of_le_of_lt (Nat.le_add_right _ u2) (Nat.lt_of_lt_of_le h3 h4)
  have h6 : top < v1 * B + B := Nat.lt_of_mul_lt_mul_right h5
  have h7 : top < (B + 2) * v1 := by
    simp only [B] at h6 hb ⊢; omega
  have := (Nat.div_lt_iff_lt_mul (by simp only [B] at hb; omega)).2 h7
  omega
end Go.Bn
end
section
/- The loop that lowers the estimate of a digit, and what is left to subtract: plain numbers. -/
namespace Go.Bn
/-- The estimate in the loop; b: it has been lowered already. -/
structure Est (top v1 q e r : Nat) : Prop where
  eq : e * v1 + r = top
  ge : q ≤ e
  le : e ≤ B + 1
/-- One round: the estimate is lowered by one. -/
theorem Est.round {u v top u2 v1 v2 P q e r : Nat} (h : Tops u v top u2 v1 v2 P) (hq : q * v ≤ u) (hqB : q < B) (s : Est top v1 q e r) (ht : B ≤ e ∨ r * B + u2 < e * v2) : Est top v1 q (e - 1) (r + v1) ∧ e - 1 ≤ B ∧ 0 < e := by
  have hpos : 0 < e := by
    rcases ht with ht | ht
    · exact Nat.lt_of_lt_of_le (by decide) ht
    · rcases Nat.eq_zero_or_pos e with rfl | h0
      · rw [Nat.zero_mul] at ht; exact absurd ht (Nat.not_lt_zero _)
      · exact h0
  have hle := s.le
  refine ⟨⟨?_, ?_, by omega⟩, by omega, hpos⟩
  · have he := s.eq
    obtain ⟨d, rfl⟩ : ∃ d, e = d + 1 := ⟨e - 1, by omega⟩
    rw [Nat.add_sub_cancel]
    rw [Nat.add_mul, Nat.one_mul] at he
    omega
  · rcases ht with ht | ht
    · omega
    · exact h.down hq s.eq ht s.ge
end Go.Bn
end
section
/- One digit of the long division, and what the whole division comes to: plain numbers. -/
namespace Go.Bn
/-- The division so far: the digits of the quotient from place k on, and what is left. -/
structure DvSt (A V L M : Nat) (k : Nat) (us qs : List Nat) : Prop where
  len : us.length = L
  dig : Dig us
  rest : val (us.drop k) < V
  qlen : qs.length + k = M
  qdig : Dig qs
  sum : A = val us + B ^ k * V * val qs
theorem val_take_drop (us : List Nat) (k : Nat) (h : k ≤ us.length) : val us = val (us.take k) + B ^ k * val (us.drop k) := by
  conv => lhs; rw [← List.take_append_drop k us, val_app, List.length_take, Nat.min_eq_left h]
theorem dig_drop {xs : List Nat} (h : Dig xs) (k : Nat) : Dig (xs.drop k) := fun x hx => h x (List.mem_of_mem_drop hx)
theorem dig_tak {xs : List Nat} (h : Dig xs) (k : Nat) : Dig (xs.take k) := fun x hx => h x (List.mem_of_mem_take hx)
theorem dig_app {xs ys : List Nat} (h : Dig xs) (g : Dig ys) : Dig (xs ++ ys) := fun x hx => by
  rcases List.mem_append.1 hx with hx | hx
  · exact h x hx
  · exact g x hx
theorem dig_cons {x : Nat} {xs : List Nat} (h : x < B) (g : Dig xs) : Dig (x :: xs) := fun y hy => by
  rcases List.mem_cons.1 hy with rfl | hy
  · exact h
  · exact g y hy
theorem val_cons_drop {us : List Nat} {k : Nat} (h : k < us.length) : val (us.drop k) = us[k] + B * val (us.drop (k + 1)) := by
  rw [List.drop_eq_getElem_cons h]; rfl
/-- What a number that is less than the base's power has above. -/
theorem val_above {us : List Nat} {n : Nat} (h : val us < B ^ n) (hn : n ≤ us.length) : val (us.drop n) = 0 := by
  have h1 := val_take_drop us n hn
  rcases Nat.eq_zero_or_pos (val (us.drop n)) with h2 | h2
  · exact h2
  · have : B ^ n * 1 ≤ B ^ n * val (us.drop n) := Nat.mul_le_mul_left _ h2
    omega
/-- The window at place j: n digits, one more, and nothing above. -/
theorem DvSt.window {A V L M j n : Nat} {us qs : List Nat} (h : DvSt A V L M (j + 1) us qs) (hV : V ≤ B ^ n) (hj : j + n < L) (hn : 0 < n) :
    val (us.drop j) = val ((us.drop j).take n) + B ^ n * (us.drop j).getD n 0 ∧ val (us.drop j) < V * B ∧ val (us.drop (j + n + 1)) = 0 := by
  have hl := h.len
  have h0 : val (us.drop (j + 1)) < B ^ n := Nat.lt_of_lt_of_le h.rest hV
  have h1 : val (us.drop (j + n + 1)) = 0 := by
    have := val_above h0 (by rw [List.length_drop]; omega)
    rwa [List.drop_drop, show j + 1 + n = j + n + 1 by omega] at this
  have h2 := val_take_drop (us.drop j) n (by rw [List.length_drop]; omega)
  rw [List.drop_drop, val_cons_drop (show j + n < us.length by omega), h1, Nat.mul_zero, Nat.add_zero] at h2
  have h3 : (us.drop j).getD n 0 = us[j + n]'(by omega) := by simp [show j + n < us.length by omega]
  refine ⟨by rw [h3]; exact h2, ?_, h1⟩
  rw [val_cons_drop (show j < us.length by omega)]
  have h4 := h.dig us[j] (List.getElem_mem _)
  have h5 := h.rest
  have h6 : B * (val (us.drop (j + 1)) + 1) ≤ B * V := Nat.mul_le_mul_left _ h5
  rw [Nat.mul_add, Nat.mul_one] at h6
  rw [Nat.mul_comm V]
  omega
/-- A digit found: the window bears the rest of its division. -/
theorem DvSt.next {A V L M j n q : Nat} {us qs zs : List Nat} (h : DvSt A V L M (j + 1) us qs) (hV : V ≤ B ^ n) (hj : j + n < L) (hn : 0 < n) (hq : q = val (us.drop j) / V) (hV0 : 0 < V) (hz : val zs = val (us.drop j) % V) (hzl : zs.length = n) (hzd : Dig zs) :
    DvSt A V L M j (us.take j ++ (zs ++ 0 :: us.drop (j + n + 1))) (q :: qs) := by
  obtain ⟨_, hw, h1⟩ := h.window hV hj hn
  have hl := h.len
  have htl : (us.take j).length = j := by rw [List.length_take]; omega
  have hv : val (zs ++ 0 :: us.drop (j + n + 1)) = val (us.drop j) % V := by
    rw [val_app, hz]; simp [val, h1]
  refine ⟨?_, ?_, ?_, ?_, ?_, ?_⟩
  · simp only [List.length_append, htl, List.length_cons, hzl, List.length_drop]; omega
  · exact dig_app (dig_tak h.dig _) (dig_app hzd (dig_cons (by decide) (dig_drop h.dig _)))
  · rw [List.drop_append_of_le_length (by omega), List.drop_of_length_le (by omega), List.nil_append, hv]
    exact Nat.mod_lt _ hV0
  · rw [List.length_cons]; have := h.qlen; omega
  · refine dig_cons ?_ h.qdig
    rw [hq, Nat.div_lt_iff_lt_mul hV0, Nat.mul_comm]; exact hw
  · rw [val_app, htl, hv]
    have hs := h.sum
    rw [val_take_drop us j (by omega)] at hs
    have hm := Nat.div_add_mod (val (us.drop j)) V
    rw [← hq] at hm
    simp only [val]
    have e1 : B ^ j * val (us.drop j) = B ^ j * (V * q) + B ^ j * (val (us.drop j) % V) := by rw [← Nat.mul_add, hm]
    have e2 : B ^ j * V * (q + B * val qs) = B ^ j * (V * q) + B ^ (j + 1) * V * val qs := by
      rw [Nat.mul_add, Nat.mul_assoc (B ^ j) V q, Nat.pow_succ]
      congr 1
      rw [Nat.mul_assoc (B ^ j), Nat.mul_assoc (B ^ j), Nat.mul_assoc (B ^ j), Nat.mul_left_comm V, Nat.mul_assoc B]
    rw [e2]
    omega
/-- The division is done. -/
theorem DvSt.done {A V L M : Nat} {us qs : List Nat} (h : DvSt A V L M 0 us qs) : val qs = A / V ∧ val us = A % V := by
  have hs := h.sum
  have hr := h.rest
  rw [List.drop_zero] at hr
  rw [Nat.pow_zero, Nat.one_mul] at hs
  have hV : 0 < V := by omega
  constructor
  · rw [hs, Nat.add_comm, Nat.mul_add_div hV, Nat.div_eq_of_lt hr, Nat.add_zero]
  · rw [hs, Nat.add_comm, Nat.mul_add_mod, Nat.mod_eq_of_lt hr]
end Go.Bn
end
section
/- The harness's digits: trim strikes the zeros at the end, whatever the length. -/
namespace Go.Proofs.Tg
open Go.RowKit Go.Gr Go.Bn
set_option maxHeartbeats 4000000
set_option maxRecDepth 100000
theorem tzl_val (xs : List Nat) : ∀ k, k ≤ xs.length → val (xs.take (tzl xs k)) = val (xs.take k) ∧ Norm (xs.take (tzl xs k))
  | 0, _ => ⟨rfl, fun h => absurd rfl h⟩
  | k + 1, hk => by
    have hx : xs.getD k 0 = xs[k] := by simp [show k < xs.length by omega]
    have ht : xs.take (k + 1) = xs.take k ++ [xs[k]] := List.take_succ_eq_append_getElem hk
    unfold tzl
    by_cases h0 : xs.getD k 0 = 0
    · rw [if_pos h0]
      obtain ⟨h1, h2⟩ := tzl_val xs k (by omega)
      refine ⟨?_, h2⟩
      rw [h1, ht, ← hx, h0, dg_append_zero]
    · rw [if_neg h0]
      refine ⟨rfl, fun hne => ?_⟩
      have : ∀ (l : List Nat) (hl : l ≠ []), l = xs.take k ++ [xs[k]] → l.getLast hl ≠ 0 := fun l hl e => by
        subst e
        rw [List.getLast_append_of_ne_nil hl (by simp), List.getLast_singleton, ← hx]
        exact h0
      exact this _ hne ht
theorem dig_take {xs : List Nat} (h : Dig xs) (k : Nat) : Dig (xs.take k) := fun x hx => h x (List.mem_of_mem_take hx)
theorem tzl_dg {xs : List Nat} (h : Dig xs) : xs.take (tzl xs xs.length) = dg (val xs) ∧ tzl xs xs.length = (dg (val xs)).length := by
  obtain ⟨h1, h2⟩ := tzl_val xs xs.length (Nat.le_refl _)
  rw [List.take_length] at h1
  have e := dg_val (dig_take h (tzl xs xs.length)) h2
  rw [h1] at e
  refine ⟨e.symm, ?_⟩
  rw [e, List.length_take]
  have := tzl_le xs xs.length
  omega
theorem dg_val_len {xs : List Nat} (h : Dig xs) : (dg (val xs)).length ≤ xs.length := by
  rw [← (tzl_dg h).2]
  exact tzl_le _ _
theorem trim_dg (A : Option Addr) (c : Nat) (xs : List Nat) (w : World) (hA : Digs w A xs) (hd : Dig xs) (hn : xs.length ≤ 1000000) (hc : xs.length ≤ c) :
    Calls Tryz.prog 79 #[.slice A xs.length c] w fun e w' => e = .returned (.slice A (dg (val xs)).length c) ∧ w = w' ∧ Digs w' A (dg (val xs)) := by
  have h := trim_any A c xs w hA hn hc
  obtain ⟨h1, h2⟩ := tzl_dg hd
  refine h.mono ?_
  rintro e w' ⟨rfl, rfl⟩
  refine ⟨by rw [h2], rfl, ?_⟩
  rw [← h1]
  exact hA.take _ (tzl_le _ _)
/-- A number's digits in a slice. -/
structure ND (w : World) (R : Option Addr) (c n : Nat) : Prop where
  digs : Digs w R (dg n)
  cap : (dg n).length ≤ c
  nilc : R = none → c = 0
theorem ND.keep {w w' : World} {R : Option Addr} {c n : Nat} (h : ND w R c n) (hb : Below w.heap.size w w') : ND w' R c n := ⟨h.digs.keep hb, h.cap, h.nilc⟩
theorem ND.zero (w : World) : ND w none 0 0 := ⟨by rw [dg_zero]; exact Digs.nil _ _, by rw [dg_zero]; exact Nat.le_refl _, fun _ => rfl⟩
theorem ND.some {w : World} {a : Addr} {c n : Nat} (h : Digs w (some a) (dg n)) (hc : (dg n).length ≤ c) : ND w (some a) c n := ⟨h, hc, fun e => by cases e⟩
def RetDg (n : Nat) (w : World) (e : Ending) (w' : World) : Prop := ∃ R cr, e = .returned (.slice R (dg n).length cr) ∧ ND w' R cr n ∧ Below w.heap.size w w'
def darr (l : List Nat) : Array Value := (l.map vd).toArray
theorem darr_made (n : Nat) : madeCells #[.int .u32 0] n = darr (List.replicate n 0) := by
  apply Array.ext
  · simp [darr, size_madeCells]
  · intro i h1 h2
    simp [madeCells, darr, vd, Nat.mod_one]
theorem darr_set (l : List Nat) (k s : Nat) : (darr l).setIfInBounds k (.int .u32 (s : Nat)) = darr (l.set k s) := by
  unfold darr
  simp [List.map_set, vd]
theorem darr_at (l : List Nat) {k : Nat} (hk : k < l.length) : (darr l)[k]? = some (.int .u32 (l[k] : Nat)) := by simp [darr, hk, vd]
end Go.Proofs.Tg
end
section
/- The harness's comparison of absolute values, whatever their length. -/
namespace Go.Bn
theorem val_split (xs : List Nat) (i : Nat) (h : i ≤ xs.length) : val xs = val (xs.take i) + B ^ i * val (xs.drop i) := by
  have := val_app (xs.take i) (xs.drop i)
  rw [List.take_append_drop, List.length_take, Nat.min_eq_left h] at this
  exact this
theorem val_drop {xs : List Nat} {i : Nat} (h : i < xs.length) : val (xs.drop i) = xs[i] + B * val (xs.drop (i + 1)) := by
  rw [List.drop_eq_getElem_cons h]; rfl
/-- Equal above a digit, less there. -/
theorem val_less {xs ys : List Nat} {i : Nat} (hx : i < xs.length) (hy : i < ys.length) (hd : xs.drop (i + 1) = ys.drop (i + 1)) (hX : Dig xs) (hlt : xs[i] < ys[i]) : val xs < val ys := by
  rw [val_split xs i (by omega), val_split ys i (by omega), val_drop hx, val_drop hy, hd]
  have h1 : val (xs.take i) < B ^ i := by
    have := val_lt (xs := xs.take i) (fun x h => hX x (List.mem_of_mem_take h))
    rwa [List.length_take, Nat.min_eq_left (by omega)] at this
  have h2 : B ^ i * (xs[i] + B * val (ys.drop (i + 1))) + B ^ i ≤ B ^ i * (ys[i] + B * val (ys.drop (i + 1))) := by
    have : xs[i] + B * val (ys.drop (i + 1)) + 1 ≤ ys[i] + B * val (ys.drop (i + 1)) := by omega
    have := Nat.mul_le_mul_left (B ^ i) this
    rwa [Nat.mul_add, Nat.mul_one] at this
  omega
theorem dg_lt_of_len {a b : Nat} (h : (dg a).length < (dg b).length) : a < b := by
  rcases Nat.lt_or_ge a b with h1 | h1
  · exact h1
  · have h2 := val_lt (dg_dig b)
    rw [val_dg] at h2
    have h3 := val_lt (dg_dig a)
    rw [val_dg] at h3
    have h4 : B ^ (dg a).length ≤ b := by
      have hb : b ≠ 0 := fun e => by subst e; rw [dg_zero] at h; simp at h
      have h5 : (dg b).length - 1 < (dg b).length := by omega
      have h6 : B ^ ((dg b).length - 1) ≤ b := by
        rcases Nat.lt_or_ge b (B ^ ((dg b).length - 1)) with h7 | h7
        · have := dg_len_lt h7; omega
        · exact h7
      exact Nat.le_trans (Nat.pow_le_pow_right (by decide) (by omega)) h6
    omega
end Go.Bn
namespace Go.Proofs.Tg
open Go.RowKit Go.Gr Go.Bn
set_option maxHeartbeats 4000000
set_option maxRecDepth 100000
theorem ncmp_len (X Y : Option Addr) (cx cy m n : Nat) (w : World) (r : Int) (h : (m < n ∧ r = -1) ∨ (n < m ∧ r = 1)) :
    Calls Tryz.prog 92 #[.slice X m cx, .slice Y n cy] w fun e w' => e = .returned (.int .i64 r) ∧ w = w' := by
  rcases h with ⟨h, rfl⟩ | ⟨h, rfl⟩
  · have h1 : ((m : Int) != (n : Int)) = true := by simp; omega
    have h2 : decide ((m : Int) < (n : Int)) = true := decide_eq_true (by omega)
    have h1' : (m != n) = true := by simp; omega
    have h2' : decide (m < n) = true := decide_eq_true h
    clear h
    go_enter Tryz.func92, Tryz.ntmps92
    go_wp2
    go_ret
    exact ⟨rfl, rfl⟩
  · have h1 : ((m : Int) != (n : Int)) = true := by simp; omega
    have h2 : decide ((m : Int) < (n : Int)) = false := decide_eq_false (by omega)
    have h1' : (m != n) = true := by simp; omega
    have h2' : decide (m < n) = false := decide_eq_false (by omega)
    clear h
    go_enter Tryz.func92, Tryz.ntmps92
    go_wp2
    go_ret
    exact ⟨rfl, rfl⟩
theorem ncmp_same (X Y : Option Addr) (cx cy : Nat) (xs ys : List Nat) (w : World) (hX : Digs w X xs) (hY : Digs w Y ys) (hx : Dig xs) (hy : Dig ys) (hl : ys.length = xs.length) (hn : xs.length ≤ 1000000) :
    Calls Tryz.prog 92 #[.slice X xs.length cx, .slice Y ys.length cy] w fun e w' => e = .returned (.int .i64 (if val xs < val ys then -1 else if val xs = val ys then 0 else 1)) ∧ Dr w w' := by
  rw [hl]
  have HX := Lib.hid hX
  have HY := Lib.hid hY
  have HDX := Lib.hid hx
  have HDY := Lib.hid hy
  have HL := Lib.hid hl
  obtain ⟨r, hr⟩ : ∃ r : Int, (if val xs < val ys then -1 else if val xs = val ys then 0 else 1) = r := ⟨_, rfl⟩
  rw [hr]
  have HR := Lib.hid hr
  clear hX hY hx hy hl hr
  go_enter Tryz.func92, Tryz.ntmps92
  go_wp2
  go_loopw [5] (fun s5 wr => ∃ k : Nat, s5 = .int .i64 ((k : Int) - 1) ∧ k ≤ xs.length ∧ Hid (xs.drop k = ys.drop k) ∧ Dr w wr) (fun s5 _ => (intOf s5 + 1).toNat)
  case atStart => exact ⟨xs.length, rfl, Nat.le_refl _, Lib.hid (by rw [List.drop_length, ← HL.out, List.drop_length]), Dr.refl _⟩
  case round =>
    obtain ⟨wo, rfl⟩ : ∃ wo : World, wo = wr := ⟨_, rfl⟩
    obtain ⟨k, rfl, hk, HD, hdr⟩ := hrel
    cases k with
    | zero =>
      have hv : xs = ys := by simpa using HD.out
      obtain rfl : r = 0 := by rw [← HR.out, hv]; simp
      have dd : decide ((0 : Int) ≤ ((0 : Nat) : Int) - 1) = false := by decide
      clear hv
      go_wp2
      go_ret
      exact ⟨rfl, hdr⟩
    | succ j =>
      have hj : j < xs.length := by omega
      have hj2 : j < ys.length := by have := HL.out; omega
      have e : (((j + 1 : Nat) : Int) - 1) = (j : Int) := by omega
      rw [e]
      clear e
      obtain ⟨ad, rfl, hcx⟩ := Digs.at (HX.out.keep hdr.below) hj
      obtain ⟨bd, rfl, hcy⟩ := Digs.at (HY.out.keep hdr.below) hj2
      have HLT : Hid (xs[j] < ys[j] → val xs < val ys) := Lib.hid (fun h => val_less hj hj2 HD.out HDX.out h)
      have HGT : Hid (ys[j] < xs[j] → val ys < val xs) := Lib.hid (fun h => val_less hj2 hj HD.out.symm HDY.out h)
      have HEQ : Hid (xs[j] = ys[j] → xs.drop j = ys.drop j) := Lib.hid (fun h => by rw [List.drop_eq_getElem_cons hj, List.drop_eq_getElem_cons hj2, h, HD.out])
      generalize xs[j] = x at *
      generalize ys[j] = y at *
      have q0 : (0 : Int) ≤ (j : Int) := by omega
      have q1 : (j : Int) < (xs.length : Int) := by omega
      have q3 : ((j : Int)).toNat = j := by omega
      have d0 : decide ((0 : Int) ≤ (j : Int)) = true := decide_eq_true q0
      by_cases hxy : x = y
      · have HE2 := Lib.hid (HEQ.out hxy)
        clear HEQ HLT HGT
        subst hxy
        have hne : ((x : Int) != (x : Int)) = false := by simp
        go_wp2
        go_quiet (fail)
        go_wp2
        go_roundw
        case rel => exact ⟨j, by go_num, by omega, HE2, hdr.drewN _⟩
        case measure => simp [intOf]
      · have hne : ((x : Int) != (y : Int)) = true := by simp; omega
        by_cases hlt : x < y
        · obtain rfl : r = -1 := by rw [← HR.out, if_pos (HLT.out hlt)]
          have d1 : decide ((x : Int) < (y : Int)) = true := decide_eq_true (by omega)
          have d1' : decide (x < y) = true := decide_eq_true hlt
          clear hxy hlt
          go_wp2
          go_quiet (fail)
          generalize hW : wo.drewN _ = W
          have hdW : Dr w W := by rw [← hW]; exact hdr.drewN _
          have hcx' : W.cell? (ad.add j) = some (.int .u32 (x : Nat)) := by rw [← hW]; exact hcx
          have hcy' : W.cell? (bd.add j) = some (.int .u32 (y : Nat)) := by rw [← hW]; exact hcy
          clear hW hcx hcy
          go_wp2
          go_quiet (fail)
          go_wp2
          go_ret
          exact ⟨rfl, hdW.drewN _⟩
        · obtain rfl : r = 1 := by
            have := HGT.out (by omega)
            rw [← HR.out, if_neg (by omega), if_neg (by omega)]
          have d1 : decide ((x : Int) < (y : Int)) = false := decide_eq_false (by omega)
          have d1' : decide (x < y) = false := decide_eq_false hlt
          clear hxy hlt
          go_wp2
          go_quiet (fail)
          generalize hW : wo.drewN _ = W
          have hdW : Dr w W := by rw [← hW]; exact hdr.drewN _
          have hcx' : W.cell? (ad.add j) = some (.int .u32 (x : Nat)) := by rw [← hW]; exact hcx
          have hcy' : W.cell? (bd.add j) = some (.int .u32 (y : Nat)) := by rw [← hW]; exact hcy
          clear hW hcx hcy
          go_wp2
          go_quiet (fail)
          go_wp2
          go_ret
          exact ⟨rfl, hdW.drewN _⟩
/-- The comparison of two numbers. -/
theorem ncmp_any (X Y : Option Addr) (cx cy a b : Nat) (w : World) (hX : Digs w X (dg a)) (hY : Digs w Y (dg b)) (ha : (dg a).length ≤ 1000000) :
    Calls Tryz.prog 92 #[.slice X (dg a).length cx, .slice Y (dg b).length cy] w fun e w' => e = .returned (.int .i64 (if a < b then -1 else if a = b then 0 else 1)) ∧ Dr w w' := by
  by_cases hl : (dg b).length = (dg a).length
  · have := ncmp_same X Y cx cy (dg a) (dg b) w hX hY (dg_dig a) (dg_dig b) hl ha
    rwa [val_dg, val_dg] at this
  · rcases Nat.lt_or_ge (dg a).length (dg b).length with h | h
    · have hab := dg_lt_of_len h
      refine (ncmp_len X Y cx cy _ _ w (-1) (.inl ⟨h, rfl⟩)).mono ?_
      rintro e w' ⟨rfl, rfl⟩
      exact ⟨by rw [if_pos hab], Dr.refl _⟩
    · have hab := dg_lt_of_len (a := b) (b := a) (by omega)
      refine (ncmp_len X Y cx cy _ _ w 1 (.inr ⟨by omega, rfl⟩)).mono ?_
      rintro e w' ⟨rfl, rfl⟩
      exact ⟨by rw [if_neg (by omega), if_neg (by omega)], Dr.refl _⟩
end Go.Proofs.Tg
end
