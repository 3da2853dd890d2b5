/- Parts of the proof: Fr, N1, M1, PV, FrP, FrQ, GWB, GWC, GWD. -/
import Derived.Test.YtodapfjmgnekkaaGreatDoorCards
import Derived.Test.YtodapfjmgnekkaaGreatDoorTie
import Derived.ProofKit
import Derived.OpenShut
import Derived.Carry
import Derived.Deep.Slices
import Derived.Deep.Matrix
import Derived.Deep.DeepHandedRow
import Derived.Lib.LaidTab
import Derived.Lib.ItoaNum
import Derived.Deep.SlicePairs
import Derived.Deep.RegionWith
import Derived.Deep.RegionHeld3
import Derived.Deep.DeepCutAuto
import Derived.Maps.AppendAt
import Derived.Test.YtodapfjmgnekkaaGreatDoorMU0
section
/- The frame of this seat's statements: what the reading of an argument says of memory, the listed table, the row's last step, the world of the witness. -/
namespace Go.Proofs.YtodapfjmgnekkaaGreatDoor.Fr
open Go.ChangeShapes Go.WideShapes Go.ChangeAt Go.RowKit Go.Deep Go.Proofs.Tg Go.Gr
set_option maxRecDepth 100000
section
variable {H : Type} {enc : TypeId × Value → H} {W W' : World}
theorem trodAll_below (hl : laidOutB Tryz.prog = true) (hb : Below W.heap.size W W') : ∀ (ts : List TypeId) (vs : List Value) (ds : List (DataW H)) (ps : List MemPlace),
    (∀ t ∈ ts, Tryz.prog.readableRec t = true ∧ t < Tryz.prog.types.size) → DataW.TrodAll enc Tryz.prog W 0 (fun _ => true) true ts vs ds ps → (∀ x ∈ ps, x.block < W.heap.size) →
    DataW.TrodAll enc Tryz.prog W' 0 (fun b => decide (b < W.heap.size)) true ts vs ds ps
  | [], [], [], ps, _, h, _ => h
  | t :: ts, v :: vs, d :: ds, ps, ht, ⟨p, q, h1, h2, e⟩, hp => by
    subst e
    exact ⟨p, q, Below.trod hl (ht t (by simp)).1 (ht t (by simp)).2 h1 hb (fun x hx => hp x (by simp [hx])), trodAll_below hl hb ts vs ds q (fun t h => ht t (by simp [h])) h2 (fun x hx => hp x (by simp [hx])), rfl⟩
theorem band {a b : Bool} (h : a = true) (k : b = true) : (a && b) = true := by rw [h, k]; rfl
theorem laidOut : laidOutB Tryz.prog = true := by kernel_rfl
/-- A law that returned true and made new memory alone meets its row. -/
theorem post_law {f : Func} {s : ChangeSpec} {args : Array Value} {ds gs : List (DataW H)} {before : List MemPlace}
    (hW : DataW.Whole enc Tryz.prog f.params.toList s.vars false W args.toList ds gs before) (hv : s.vars = []) (hf : f.resultTypes = #[4])
    (hr : (s.fn H (ds ++ gs)).results = [.lit (.bool true)]) (ha : (s.fn H (ds ++ gs)).args = ds) (hg : (s.fn H (ds ++ gs)).vars = [])
    (hp : ∀ t ∈ f.params.toList, Tryz.prog.readableRec t = true ∧ t < Tryz.prog.types.size) (hb : Below W.heap.size W W') :
    s.post enc Tryz.prog f false true false false W args (.bool true) W' := by
  have hlt := hW.lt
  have hW2 := hW
  obtain ⟨p, q, hA, hV, hps, hz, hn⟩ := hW2
  rw [hv] at hV
  obtain ⟨rfl, rfl⟩ := trodVars_none hV
  rw [List.append_nil] at hps
  subst hps
  refine ⟨ds, [], before, [], before, [], hW, ?_, ?_, ?_, World.keptBut_mono (fun x hx => ⟨hx, .inr (.inl hx)⟩) (hb.frame (· ∈ before)), fun h => by cases h⟩
  · rw [hr, hf]
    exact trodAll_cons_mk (shut_bool Tryz.underlying4 _) trodAll_mk0
  · rw [ha]
    exact trodAll_below laidOut hb _ _ _ _ hp hA hlt
  · rw [hv, hg]; rfl
theorem gTab : Tryz.prog.globalNamed "math/bits.deBruijn64tab" = some 0 := by kernel_rfl
theorem gTabType : (Tryz.prog.globals[0]?).map (·.type) = some 156 := by kernel_rfl
theorem cellsTab : Tryz.prog.cellsOf 156 = 64 := by kernel_rfl
theorem cellsU8 : Tryz.prog.cellsOf 5 = 1 := by kernel_rfl
theorem cellsRow : Tryz.prog.cellsOf 36 = 1 := by kernel_rfl
theorem cellsInt : Tryz.prog.cellsOf 3 = 1 := by kernel_rfl
def tabZ : List Int := Lib.deBruijn64tab.map fun x : Nat => (x : Int)
theorem tabZ_len : tabZ.length = 64 := by decide +kernel
theorem tab_data : (Rows.laid_math_bits_deBruijn64tab : DataW Unit) = Lib.tabData .u8 tabZ := by kernel_rfl
/-- What the row's list gives: the table's cells. -/
theorem tab_of (h : laidMetH Tryz.prog [("math/bits.deBruijn64tab", Rows.laid_math_bits_deBruijn64tab)] W) : Tab W := by
  rw [tab_data] at h
  have h1 : Lib.TabIs Tryz.prog W "math/bits.deBruijn64tab" .u8 tabZ := Lib.tabIs_of_head (rest := []) gTab gTabType Tryz.underlying156 Tryz.underlying5 cellsU8 cellsTab h
  have hc : ∀ j, j < 64 → W.cell? ⟨0, j, none⟩ = some (.int .u8 (Lib.deBruijn64tab.getD j 0)) := by
    intro j hj
    rw [h1.cell gTab j (by rw [tabZ_len]; exact hj)]
    congr 2
    unfold tabZ
    simp only [List.getD_eq_getElem?_getD, List.getElem?_map]
    cases Lib.deBruijn64tab[j]? <;> simp
  exact ⟨World.block_lt_of_cell? W ⟨0, 0, none⟩ (hc 0 (by omega)), hc⟩
/-- A slice of numbers, opened. -/
theorem open_nums {v : Value} {d : DataW H} {ps : List MemPlace} {b0 : Nat} (hval : Value.okWide Tryz.prog W .any b0 36 v) (h : DataW.Trod enc Tryz.prog W 0 (fun _ => true) true 36 v d ps) :
    ∃ A xs c, v = .slice A xs.length c ∧ Ints W A xs := by
  obtain ⟨V, len, cap, rfl⟩ := okWide_slice Tryz.underlying36 hval
  obtain ⟨fuel, h⟩ := h
  have hcs : (Value.slice V len cap).cells.toList = [.slice V len cap] := by simp [Value.cells]
  rw [hcs] at h
  rcases open_ints Tryz.underlying36 Tryz.underlying3 cellsInt h with ⟨h1, _⟩ | ⟨a, l, c, zs, h1, _, hl, hm, hz, _, hx, _⟩
  · injection h1 with h1
    injection h1 with e1 e2 e3
    subst e1 e2 e3
    exact ⟨none, [], 0, rfl, Sl.nil _ _ _⟩
  · injection h1 with h1
    injection h1 with e1 e2 e3
    subst e1 e2 e3
    simp only [if_true] at hz
    have hlen : (zs.take len).length = len := by rw [List.length_take]; omega
    refine ⟨some a, zs.take len, cap, by rw [hlen], by simp, fun hn => ⟨a, rfl, ?_, ?_⟩⟩
    · rw [hlen] at hn
      exact World.block_lt_of_cell? W _ (hx 0 (by omega))
    · intro j u hu
      have hj : j < len := by
        have := (List.getElem?_eq_some_iff.1 hu).1
        rw [List.length_map, hlen] at this
        exact this
      have e : u = .int .i64 (zs.getD j 0) := by
        rw [List.getElem?_map, List.getElem?_take, if_pos hj] at hu
        simp only [List.getElem?_eq_getElem (show j < zs.length by omega), Option.map_some] at hu
        injection hu with hu
        rw [← hu]
        simp [vi, show j < zs.length by omega]
      rw [e]
      exact hx j (by omega)
/-- A slice of slices of numbers, opened. -/
theorem open_lists {v : Value} {d : DataW H} {ps : List MemPlace} {b0 : Nat} (hval : Value.okWide Tryz.prog W .any b0 25 v) (h : DataW.Trod enc Tryz.prog W 0 (fun _ => true) true 25 v d ps) :
    ∃ V ls c, v = .slice V ls.length c ∧ Lists W V ls ∧ ls.length ≤ maxLen ∧ ∀ l ∈ ls, l.length ≤ maxLen := by
  obtain ⟨V, len, cap, rfl⟩ := okWide_slice Tryz.underlying25 hval
  obtain ⟨fuel, h⟩ := h
  have hcs : (Value.slice V len cap).cells.toList = [.slice V len cap] := by simp [Value.cells]
  rw [hcs] at h
  rcases open_int_rows Tryz.underlying25 Tryz.underlying36 Tryz.underlying3 cellsRow cellsInt h with ⟨h1, _⟩ | ⟨a, l, c, A, L, C, Z, h1, _, hl, hml, _, hx⟩
  · injection h1 with h1
    injection h1 with e1 e2 e3
    subst e1 e2 e3
    exact ⟨none, [], 0, rfl, ⟨fun _ => (none, 0), Sl.nil _ _ _, fun i hi => by simp at hi⟩, by simp, by simp⟩
  · injection h1 with h1
    injection h1 with e1 e2 e3
    subst e1 e2 e3
    have hz : ∀ i, i < len → ((Z i).take (L i)).length = L i := by
      intro i hi
      obtain ⟨_, h2, _, h4, _⟩ := hx i (by omega)
      rw [List.length_take]; omega
    have hg : ∀ i, i < len → ((List.range len).map fun i => (Z i).take (L i)).getD i [] = (Z i).take (L i) := by
      intro i hi; simp [hi]
    refine ⟨some a, (List.range len).map fun i => (Z i).take (L i), cap, by simp, ⟨fun i => (A i, C i), ?_, ?_⟩, by simp; omega, ?_⟩
    · refine ⟨by simp, fun hn => ⟨a, rfl, ?_, ?_⟩⟩
      · have hn' : 0 < len := by simpa using hn
        have := (hx 0 (by omega)).1
        exact World.block_lt_of_cell? W _ this
      · intro j u hu
        have hj : j < len := by
          have := (List.getElem?_eq_some_iff.1 hu).1
          simpa using this
        have e : u = .slice (A j) (L j) (C j) := by
          rw [List.getElem?_map, List.getElem?_range (by simpa using hj)] at hu
          simp only [Option.map_some] at hu
          injection hu with hu
          rw [← hu, hg j hj, hz j hj]
        rw [e]
        exact (hx j (by omega)).1
    · intro i hi
      have hi' : i < len := by simpa using hi
      rw [hg i hi']
      obtain ⟨h1, h2, h3, h4, h5, h6, h7⟩ := hx i (by omega)
      refine ⟨by simp, fun hn => ?_⟩
      rw [hz i hi'] at hn
      have hA : ∃ a', A i = some a' := by
        cases hA : A i with
        | none => have := h6 hA; omega
        | some a' => exact ⟨a', rfl⟩
      obtain ⟨a', hA⟩ := hA
      obtain ⟨_, hc⟩ := h7 a' hA
      refine ⟨a', hA, World.block_lt_of_cell? W _ (hc 0 (by omega)), ?_⟩
      intro j u hu
      have hj : j < L i := by
        have := (List.getElem?_eq_some_iff.1 hu).1
        rw [List.length_map, hz i hi'] at this
        exact this
      have e : u = .int .i64 ((Z i).getD j 0) := by
        rw [List.getElem?_map, List.getElem?_take, if_pos hj] at hu
        simp only [List.getElem?_eq_getElem (show j < (Z i).length by omega), Option.map_some] at hu
        injection hu with hu
        rw [← hu]
        simp [vi, show j < (Z i).length by omega]
      rw [e]
      exact hc j (by omega)
    · intro l hl2
      obtain ⟨i, hi, rfl⟩ := List.mem_map.1 hl2
      have hi' : i < len := by simpa using hi
      obtain ⟨h1, h2, h3, _⟩ := hx i (by omega)
      rw [hz i hi']; omega
end
/-- The world of the witness: the settled one, the table holding what its initialiser lays. -/
noncomputable def laidWorld (os : Os) : World :=
  { World.holding Tryz.prog os ⟨#[], #[], []⟩ with heap := (World.holding Tryz.prog os ⟨#[], #[], []⟩).heap.modify 0 fun
      | .cells _ t frozen => .cells (tabZ.map fun z => Value.int .u8 z).toArray t frozen
      | o => o }
theorem own : ownKnob Tryz.prog.godebug = none := by kernel_rfl
end Go.Proofs.YtodapfjmgnekkaaGreatDoor.Fr
end
section
/- Decimal texts of rational numbers: what the program accepts and what the reference accepts is the same. Plain lists of bytes. -/
namespace Go.Qn
open Go.Lib
def isD (c : UInt8) : Bool := decide (48 ≤ c.toNat) && decide (c.toNat ≤ 57)
def val (l : List UInt8) : Nat := l.foldl (fun n c => 10 * n + (c.toNat - 48)) 0
theorem val_snoc (l : List UInt8) (c : UInt8) : val (l ++ [c]) = 10 * val l + (c.toNat - 48) := by unfold val; rw [List.foldl_append]; rfl
theorem isD_iff {c : UInt8} : isD c = true ↔ 48 ≤ c.toNat ∧ c.toNat ≤ 57 := by unfold isD; simp
theorem snoc_ind {P : List UInt8 → Prop} (h0 : P []) (h1 : ∀ l c, P l → P (l ++ [c])) (l : List UInt8) : P l := by
  have : ∀ l : List UInt8, P l.reverse := by
    intro l
    induction l with
    | nil => exact h0
    | cons c l ih => rw [List.reverse_cons]; exact h1 _ _ ih
  have h := this l.reverse
  rwa [List.reverse_reverse] at h
theorem val_lt (l : List UInt8) (h : ∀ c ∈ l, isD c = true) : val l < 10 ^ l.length := by
  revert h
  refine snoc_ind (P := fun l => (∀ c ∈ l, isD c = true) → val l < 10 ^ l.length) ?_ ?_ l
  · intro _; decide
  · intro l c ih h
    have h1 := ih fun x hx => h x (by simp [hx])
    have h2 := isD_iff.1 (h c (by simp))
    rw [val_snoc, List.length_append, List.length_singleton, Nat.pow_succ]
    omega
theorem toNat_ofNat (n : Nat) (h : n < 256) : (UInt8.ofNat n).toNat = n := by simp; omega
theorem val_dec (n : Nat) : val (decDigits n) = n := by
  induction n using Nat.strongRecOn with
  | _ n ih =>
    by_cases h : n < 10
    · rw [decDigits, dif_pos h]
      show 10 * 0 + ((UInt8.ofNat (48 + n)).toNat - 48) = n
      rw [toNat_ofNat _ (by omega)]; omega
    · rw [decDigits, dif_neg h, val_snoc, ih (n / 10) (by omega), toNat_ofNat _ (by omega)]; omega
theorem dec_allD (n : Nat) : ∀ c ∈ decDigits n, isD c = true := by
  induction n using Nat.strongRecOn with
  | _ n ih =>
    intro c hc
    by_cases h : n < 10
    · rw [decDigits, dif_pos h] at hc
      simp only [List.mem_cons, List.not_mem_nil, or_false] at hc
      subst hc
      rw [isD_iff, toNat_ofNat _ (by omega)]; omega
    · rw [decDigits, dif_neg h] at hc
      rcases List.mem_append.1 hc with hc | hc
      · exact ih (n / 10) (by omega) c hc
      · simp only [List.mem_cons, List.not_mem_nil, or_false] at hc
        subst hc
        rw [isD_iff, toNat_ofNat _ (by omega)]; omega
theorem dec_ne (n : Nat) : decDigits n ≠ [] := by
  rw [decDigits]; split <;> simp
theorem dec_head (n : Nat) (h0 : n ≠ 0) : (decDigits n).head? ≠ some 48 := by
  induction n using Nat.strongRecOn with
  | _ n ih =>
    by_cases h : n < 10
    · rw [decDigits, dif_pos h]
      simp only [List.head?_cons, ne_eq, Option.some.injEq]
      intro e
      have := congrArg UInt8.toNat e
      rw [toNat_ofNat _ (by omega)] at this
      have e2 : (48 : UInt8).toNat = 48 := rfl
      omega
    · rw [decDigits, dif_neg h]
      have := ih (n / 10) (by omega) (by omega)
      rw [List.head?_append]
      cases hh : (decDigits (n / 10)).head? with
      | none => exact absurd (List.head?_eq_none_iff.1 hh) (dec_ne _)
      | some x => rw [hh] at this; simpa using this
theorem dec_zero : decDigits 0 = [48] := by rw [decDigits, dif_pos (by omega)]; rfl
theorem dec_one : decDigits 1 = [49] := by rw [decDigits, dif_pos (by omega)]; rfl
theorem dec_inj {m n : Nat} (h : decDigits m = decDigits n) : m = n := by rw [← val_dec m, h, val_dec]
theorem dec_val (l : List UInt8) (h : ∀ c ∈ l, isD c = true) (hn : l ≠ []) (hz : l.head? ≠ some 48) : decDigits (val l) = l ∧ val l ≠ 0 := by
  revert h hn hz
  refine snoc_ind (P := fun l => (∀ c ∈ l, isD c = true) → l ≠ [] → l.head? ≠ some 48 → decDigits (val l) = l ∧ val l ≠ 0) ?_ ?_ l
  · intro _ h; exact absurd rfl h
  · intro l c ih h _ hz
    have h2 := isD_iff.1 (h c (by simp))
    rw [val_snoc]
    by_cases hl : l = []
    · subst hl
      have hc : c.toNat ≠ 48 := fun e => hz (by
        have : c = 48 := UInt8.toNat_inj.1 (by rw [e]; rfl)
        simp [this])
      refine ⟨?_, by omega⟩
      show decDigits (10 * 0 + (c.toNat - 48)) = [c]
      rw [decDigits, dif_pos (by omega)]
      simp only [List.cons.injEq, and_true]
      apply UInt8.toNat_inj.1
      rw [toNat_ofNat _ (by omega)]; omega
    · have hz' : l.head? ≠ some 48 := by
        rw [List.head?_append] at hz
        cases hh : l.head? with
        | none => simp
        | some x => rw [hh] at hz; simpa using hz
      obtain ⟨h3, h4⟩ := ih (fun x hx => h x (by simp [hx])) hl hz'
      refine ⟨?_, by omega⟩
      rw [decDigits, dif_neg (by omega), show (10 * val l + (c.toNat - 48)) / 10 = val l by omega, h3]
      congr 1
      simp only [List.cons.injEq, and_true]
      apply UInt8.toNat_inj.1
      rw [toNat_ofNat _ (by omega)]; omega
/-- The text of a number in lowest terms. -/
def text (neg : Bool) (n d : Nat) : List UInt8 := (if neg = true then [45] else []) ++ (decDigits n ++ if d = 1 then [] else 47 :: decDigits d)
def Canon (neg : Bool) (n d : Nat) : Prop := 0 < d ∧ Nat.gcd n d = 1 ∧ (n = 0 → neg = false)
def cut (l : List UInt8) : Bool × List UInt8 := if l.head? = some 45 then (true, l.tail) else (false, l)
/-- What the program reads. -/
def rdTail (neg : Bool) (num rest : List UInt8) : Option (Bool × Nat × Nat) :=
  match rest with
  | [] => some (neg, val num, 1)
  | c :: t => if c = 47 ∧ t.dropWhile isD = [] ∧ t.takeWhile isD ≠ [] ∧ (t.takeWhile isD).head? ≠ some 48 ∧ t.takeWhile isD ≠ [49] ∧ Nat.gcd (val num) (val (t.takeWhile isD)) = 1 then some (neg, val num, val (t.takeWhile isD)) else none
def rdBody (neg : Bool) (r : List UInt8) : Option (Bool × Nat × Nat) :=
  if r.takeWhile isD = [48] then (if neg = false ∧ r.dropWhile isD = [] then some (false, 0, 1) else none)
  else if r.takeWhile isD = [] ∨ (r.takeWhile isD).head? = some 48 then none
  else rdTail neg (r.takeWhile isD) (r.dropWhile isD)
def rd (l : List UInt8) : Option (Bool × Nat × Nat) := rdBody (cut l).1 (cut l).2
theorem tw_app {p : UInt8 → Bool} (a b : List UInt8) (ha : ∀ c ∈ a, p c = true) (hb : b = [] ∨ ∃ c t, b = c :: t ∧ p c = false) : (a ++ b).takeWhile p = a ∧ (a ++ b).dropWhile p = b := by
  induction a with
  | nil =>
    rcases hb with rfl | ⟨c, t, rfl, hc⟩
    · simp
    · simp [hc]
  | cons x a ih =>
    have := ih fun c hc => ha c (by simp [hc])
    simp [ha x (by simp), this]
theorem tw_all {p : UInt8 → Bool} (l : List UInt8) : ∀ c ∈ l.takeWhile p, p c = true := by
  exact List.all_eq_true.1 List.all_takeWhile
theorem cut_eq (l : List UInt8) : l = (if (cut l).1 = true then [45] else []) ++ (cut l).2 := by
  unfold cut
  cases l with
  | nil => simp
  | cons c t => by_cases h : c = 45 <;> simp [h]
theorem not_isD_47 : isD 47 = false := by decide
theorem not_isD_45 : isD 45 = false := by decide
theorem cut_text (neg : Bool) (n d : Nat) : cut (text neg n d) = (neg, decDigits n ++ if d = 1 then [] else 47 :: decDigits d) := by
  unfold cut text
  cases neg with
  | true => simp
  | false =>
    have h : ((if false = true then ([45] : List UInt8) else []) ++ (decDigits n ++ if d = 1 then [] else 47 :: decDigits d)).head? ≠ some 45 := by
      simp only [Bool.false_eq_true, if_false, List.nil_append, List.head?_append]
      cases hh : (decDigits n).head? with
      | none => exact absurd (List.head?_eq_none_iff.1 hh) (dec_ne _)
      | some x =>
        have hx : x ∈ decDigits n := List.mem_of_mem_head? (by rw [hh]; rfl)
        have := dec_allD n x hx
        simp only [Option.some_or, ne_eq, Option.some.injEq]
        rintro rfl
        rw [not_isD_45] at this
        exact Bool.noConfusion this
    rw [if_neg h]; simp
theorem tail_form (d : Nat) : (if d = 1 then ([] : List UInt8) else 47 :: decDigits d) = [] ∨ ∃ c t, (if d = 1 then ([] : List UInt8) else 47 :: decDigits d) = c :: t ∧ isD c = false := by
  by_cases h : d = 1
  · left; simp [h]
  · right; exact ⟨47, decDigits d, by simp [h], not_isD_47⟩
theorem rd_text {neg : Bool} {n d : Nat} (h : Canon neg n d) : rd (text neg n d) = some (neg, n, d) := by
  obtain ⟨hd, hg, hn⟩ := h
  unfold rd
  rw [cut_text]
  obtain ⟨t1, t2⟩ := tw_app (decDigits n) _ (dec_allD n) (tail_form d)
  simp only [rdBody, t1, t2]
  by_cases h0 : n = 0
  · subst h0
    rw [dec_zero, if_pos rfl, hn rfl]
    have : d = 1 := by simpa using hg
    simp [this]
  · have hh := dec_head n h0
    rw [if_neg (fun e => hh (by rw [e]; rfl)), if_neg (fun e => by rcases e with e | e; exact dec_ne n e; exact hh e)]
    by_cases h1 : d = 1
    · simp [rdTail, h1, val_dec]
    · simp only [rdTail, if_neg h1]
      obtain ⟨s1, s2⟩ := tw_app (p := isD) (decDigits d) [] (dec_allD d) (.inl rfl)
      rw [List.append_nil] at s1 s2
      rw [s1, s2, if_pos ⟨by trivial, by trivial, dec_ne d, dec_head d (by omega), fun e => h1 (dec_inj (e.trans dec_one.symm)), by rw [val_dec, val_dec]; exact hg⟩, val_dec, val_dec]
theorem rd_some {l : List UInt8} {neg : Bool} {n d : Nat} (h : rd l = some (neg, n, d)) : Canon neg n d ∧ l = text neg n d := by
  unfold rd rdBody at h
  have hl := cut_eq l
  generalize (cut l).1 = b at h hl
  generalize (cut l).2 = r at h hl
  subst hl
  have hr := (List.takeWhile_append_dropWhile (p := isD) (l := r)).symm
  have hD := tw_all (p := isD) r
  generalize r.takeWhile isD = num at h hr hD
  generalize r.dropWhile isD = rest at h hr
  subst hr
  by_cases e0 : num = [48]
  · rw [if_pos e0] at h
    by_cases e1 : b = false ∧ rest = []
    · rw [if_pos e1] at h
      obtain ⟨rfl, rfl⟩ := e1
      injection h with h
      injection h with h1 h2
      injection h2 with h2 h3
      subst h1 h2 h3 e0
      exact ⟨⟨by omega, by simp, fun _ => rfl⟩, by unfold text; rw [dec_zero]; rfl⟩
    · rw [if_neg e1] at h; cases h
  · rw [if_neg e0] at h
    by_cases e1 : num = [] ∨ num.head? = some 48
    · rw [if_pos e1] at h; cases h
    · rw [if_neg e1] at h
      have hv := dec_val num hD (fun e => e1 (.inl e)) (fun e => e1 (.inr e))
      cases rest with
      | nil =>
        simp only [rdTail, Option.some.injEq, Prod.mk.injEq] at h
        obtain ⟨rfl, rfl, rfl⟩ := h
        exact ⟨⟨by omega, by simp, fun e => absurd e hv.2⟩, by unfold text; rw [hv.1]; simp⟩
      | cons c t =>
        simp only [rdTail] at h
        split at h
        · rename_i hc
          obtain ⟨rfl, c2, c3, c4, c5, c6⟩ := hc
          simp only [Option.some.injEq, Prod.mk.injEq] at h
          obtain ⟨rfl, rfl, rfl⟩ := h
          have ht := (List.takeWhile_append_dropWhile (p := isD) (l := t)).symm
          have hD2 := tw_all (p := isD) t
          rw [c2, List.append_nil] at ht
          rw [← ht] at c3 c4 c5 c6 hD2 ⊢
          have hv2 := dec_val t hD2 c3 c4
          have h1 : val t ≠ 1 := fun e => c5 (by rw [← hv2.1, e, dec_one])
          refine ⟨⟨by have := hv2.2; omega, c6, fun e => absurd e hv.2⟩, ?_⟩
          unfold text
          rw [if_neg h1, hv.1, hv2.1]
        · cases h
theorem rd_iff {l : List UInt8} {neg : Bool} {n d : Nat} : rd l = some (neg, n, d) ↔ Canon neg n d ∧ l = text neg n d :=
  ⟨rd_some, fun h => h.2 ▸ rd_text h.1⟩
/-! The reference: cut at the first '/', read both parts, divide by the greatest common divisor, write, compare. -/
def ne47 (c : UInt8) : Bool := c != 47
def numOk (l : List UInt8) : Bool := l.all isD && !l.isEmpty
theorem numOk_iff {l : List UInt8} : numOk l = true ↔ (∀ c ∈ l, isD c = true) ∧ l ≠ [] := by unfold numOk; simp
/-- What the reference has read before it compares: nothing, or a number in lowest terms. -/
def refN (l : List UInt8) : Option (Bool × Nat × Nat) :=
  let a := (cut l).2.takeWhile ne47
  let r := (cut l).2.dropWhile ne47
  if numOk a = true then
    match r with
    | [] => some ((cut l).1 && decide (val a ≠ 0), val a, 1)
    | _ :: b => if numOk b = true ∧ val b ≠ 0 then some ((cut l).1 && decide (val a ≠ 0), val a / Nat.gcd (val a) (val b), val b / Nat.gcd (val a) (val b)) else none
  else none
theorem refN_canon {l : List UInt8} {neg : Bool} {n d : Nat} (h : refN l = some (neg, n, d)) : Canon neg n d := by
  unfold refN at h
  simp only at h
  split at h
  · split at h
    · simp only [Option.some.injEq, Prod.mk.injEq] at h
      obtain ⟨rfl, rfl, rfl⟩ := h
      exact ⟨by omega, by simp, fun e => by simp [e]⟩
    · rename_i b _
      split at h
      · rename_i hb
        simp only [Option.some.injEq, Prod.mk.injEq] at h
        obtain ⟨rfl, rfl, rfl⟩ := h
        generalize val ((cut l).2.takeWhile ne47) = x at *
        have hy : 0 < val b := Nat.pos_of_ne_zero hb.2
        generalize val b = y at *
        have hg : 0 < Nat.gcd x y := Nat.gcd_pos_of_pos_right _ hy
        refine ⟨Nat.div_pos (Nat.gcd_le_right _ hy) hg, ?_, fun e => ?_⟩
        · rw [Nat.gcd_div (Nat.gcd_dvd_left _ _) (Nat.gcd_dvd_right _ _), Nat.div_self hg]
        · have : x = 0 := by
            rcases Nat.eq_zero_or_pos x with h0 | h0
            · exact h0
            · have := Nat.div_pos (Nat.gcd_le_left y h0) hg
              omega
          simp [this]
      · cases h
  · cases h
theorem ne47_of_isD {c : UInt8} (h : isD c = true) : ne47 c = true := by
  unfold ne47
  rw [isD_iff] at h
  simp only [bne_iff_ne, ne_eq]
  rintro rfl
  have : (47 : UInt8).toNat = 47 := rfl
  omega
theorem refN_text {neg : Bool} {n d : Nat} (h : Canon neg n d) : refN (text neg n d) = some (neg, n, d) := by
  obtain ⟨hd, hg, hn⟩ := h
  unfold refN
  rw [cut_text]
  have tf : (if d = 1 then ([] : List UInt8) else 47 :: decDigits d) = [] ∨ ∃ c t, (if d = 1 then ([] : List UInt8) else 47 :: decDigits d) = c :: t ∧ ne47 c = false := by
    by_cases h : d = 1
    · left; simp [h]
    · right; exact ⟨47, decDigits d, by simp [h], by decide⟩
  obtain ⟨t1, t2⟩ := tw_app (p := ne47) (decDigits n) _ (fun c hc => ne47_of_isD (dec_allD n c hc)) tf
  simp only [t1, t2]
  have ok : ∀ m, numOk (decDigits m) = true := fun m => numOk_iff.2 ⟨dec_allD m, dec_ne m⟩
  have hnn : (neg && decide (n ≠ 0)) = neg := by
    by_cases h0 : n = 0
    · rw [hn h0]; rfl
    · simp [h0]
  rw [if_pos (ok n), val_dec]
  by_cases h1 : d = 1
  · simp only [h1, if_true, hnn]
  · simp only [if_neg h1]
    rw [if_pos ⟨ok d, by rw [val_dec]; omega⟩, val_dec, hg, hnn]
    simp
/-- The reference accepts what the program accepts, and reads the same number. -/
theorem ref_rd {l : List UInt8} {neg : Bool} {n d : Nat} : rd l = some (neg, n, d) ↔ refN l = some (neg, n, d) ∧ text neg n d = l := by
  rw [rd_iff]
  constructor
  · rintro ⟨h1, h2⟩
    exact ⟨h2 ▸ refN_text h1, h2.symm⟩
  · rintro ⟨h1, h2⟩
    exact ⟨refN_canon h1, h2.symm⟩
theorem rd_none_of {l : List UInt8} (h : refN l = none) : rd l = none := by
  cases hr : rd l with
  | none => rfl
  | some q =>
    obtain ⟨a, b, c⟩ := q
    rw [(ref_rd.1 hr).1] at h; cases h
theorem rd_none_text {l : List UInt8} {neg : Bool} {n d : Nat} (h : refN l = some (neg, n, d)) (ht : text neg n d ≠ l) : rd l = none := by
  cases hr : rd l with
  | none => rfl
  | some q =>
    obtain ⟨a, b, c⟩ := q
    have := ref_rd.1 hr
    rw [h] at this
    obtain ⟨h1, h2⟩ := this
    injection h1 with h1
    injection h1 with e1 e2
    injection e2 with e2 e3
    subst e1 e2 e3
    exact absurd h2 ht
/-! The parts of a text. -/
def SplitIs (l : List UInt8) (b : Bool) (num den : List UInt8) (ok : Bool) : Prop :=
  num.length ≤ l.length ∧ den.length ≤ l.length ∧ (ok = false → rd l = none) ∧
  (ok = true → numOk num = true ∧ (den = [] → rd l = some (b, val num, 1)) ∧ (den ≠ [] → numOk den = true ∧ val num ≠ 0 ∧ val den ≠ 0 ∧ rd l = if Nat.gcd (val num) (val den) = 1 then some (b, val num, val den) else none))
theorem cut_len (l : List UInt8) : (cut l).2.length ≤ l.length := by
  unfold cut; split
  · simp
  · exact Nat.le_refl _
theorem tw_len (p : UInt8 → Bool) (l : List UInt8) : (l.takeWhile p).length ≤ l.length := by
  have h := congrArg List.length (List.takeWhile_append_dropWhile (p := p) (l := l))
  rw [List.length_append] at h; omega
theorem dw_len (p : UInt8 → Bool) (l : List UInt8) : (l.dropWhile p).length ≤ l.length := by
  have h := congrArg List.length (List.takeWhile_append_dropWhile (p := p) (l := l))
  rw [List.length_append] at h; omega
section
variable {l r : List UInt8} {b : Bool} (hc : cut l = (b, r))
include hc
theorem spl_len : (r.takeWhile isD).length ≤ l.length ∧ r.length ≤ l.length := by
  have h1 := cut_len l
  have h2 := tw_len isD r
  rw [hc] at h1
  exact ⟨Nat.le_trans h2 h1, h1⟩
theorem rd_of : rd l = rdBody b r := by unfold rd; rw [hc]
theorem spl_zero (h : r.takeWhile isD = [48]) : SplitIs l b (r.takeWhile isD) [] (!b && (r.dropWhile isD).isEmpty) := by
  refine ⟨(spl_len hc).1, by simp, fun e => ?_, fun e => ⟨by rw [h]; rfl, fun _ => ?_, fun e => absurd rfl e⟩⟩
  · rw [rd_of hc, rdBody, if_pos h, if_neg]
    rintro ⟨h1, h2⟩
    rw [h1, h2] at e; cases e
  · rw [rd_of hc, rdBody, if_pos h, h]
    cases b with
    | true => cases e
    | false =>
      have : r.dropWhile isD = [] := by simpa using e
      rw [if_pos ⟨rfl, this⟩]; rfl
theorem spl_bad (h : r.takeWhile isD ≠ [48]) (h2 : r.takeWhile isD = [] ∨ (r.takeWhile isD).head? = some 48) : SplitIs l b (r.takeWhile isD) [] false :=
  ⟨(spl_len hc).1, by simp, fun _ => by rw [rd_of hc, rdBody, if_neg h, if_pos h2], fun e => by cases e⟩
theorem spl_whole (h : r.takeWhile isD ≠ [48]) (h2 : ¬ (r.takeWhile isD = [] ∨ (r.takeWhile isD).head? = some 48)) (h3 : r.dropWhile isD = []) : SplitIs l b (r.takeWhile isD) [] true :=
  ⟨(spl_len hc).1, by simp, fun e => (by cases e), fun _ => ⟨numOk_iff.2 ⟨tw_all _, fun e => h2 (.inl e)⟩, fun _ => by rw [rd_of hc, rdBody, if_neg h, if_neg h2, h3]; rfl, fun e => absurd rfl e⟩⟩
theorem spl_slash (h : r.takeWhile isD ≠ [48]) (h2 : ¬ (r.takeWhile isD = [] ∨ (r.takeWhile isD).head? = some 48)) {c : UInt8} {t : List UInt8} (h3 : r.dropWhile isD = c :: t) (h4 : c ≠ 47) : SplitIs l b (r.takeWhile isD) [] false :=
  ⟨(spl_len hc).1, by simp, fun _ => by rw [rd_of hc, rdBody, if_neg h, if_neg h2, h3, rdTail, if_neg (fun e => h4 e.1)], fun e => by cases e⟩
theorem spl_den (h : r.takeWhile isD ≠ [48]) (h2 : ¬ (r.takeWhile isD = [] ∨ (r.takeWhile isD).head? = some 48)) {t : List UInt8} (h3 : r.dropWhile isD = 47 :: t) {ok : Bool}
    (hok : ok = true ↔ t.dropWhile isD = [] ∧ t.takeWhile isD ≠ [] ∧ (t.takeWhile isD).head? ≠ some 48 ∧ t.takeWhile isD ≠ [49]) : SplitIs l b (r.takeWhile isD) (t.takeWhile isD) ok := by
  refine ⟨(spl_len hc).1, ?_, fun e => ?_, fun e => ⟨numOk_iff.2 ⟨tw_all _, fun e => h2 (.inl e)⟩, fun e2 => absurd e2 (hok.1 e).2.1, fun _ => ⟨numOk_iff.2 ⟨tw_all _, (hok.1 e).2.1⟩, (dec_val _ (tw_all _) (fun e => h2 (.inl e)) (fun e => h2 (.inr e))).2, (dec_val _ (tw_all _) (hok.1 e).2.1 (hok.1 e).2.2.1).2, ?_⟩⟩⟩
  · have a1 := tw_len isD t
    have a2 := dw_len isD r
    have a3 := (spl_len hc).2
    rw [h3, List.length_cons] at a2
    omega
  · rw [rd_of hc, rdBody, if_neg h, if_neg h2, h3, rdTail, if_neg]
    rintro ⟨_, a, b, c, d, _⟩
    rw [hok.2 ⟨a, b, c, d⟩] at e; cases e
  · obtain ⟨a, b, c, d⟩ := hok.1 e
    rw [rd_of hc, rdBody, if_neg h, if_neg h2, h3, rdTail]
    by_cases g : Nat.gcd (val (r.takeWhile isD)) (val (t.takeWhile isD)) = 1
    · rw [if_pos ⟨rfl, a, b, c, d, g⟩, if_pos g]
    · rw [if_neg (fun h => g h.2.2.2.2.2), if_neg g]
end
end Go.Qn
end
section
/- Monomials and polynomials as plain lists: their order, when they are valid. -/
namespace Go.Mo
open Go.Qn
/-- The order of two exponent vectors of one degree, decided below position k. -/
def ordT (a b : List Int) : Nat → Int
  | 0 => 0
  | k + 1 => if a.getD k 0 = b.getD k 0 then ordT a b k else if b.getD k 0 < a.getD k 0 then -1 else 1
def ord (a b : List Int) : Int := if a.sum = b.sum then ordT a b a.length else if a.sum < b.sum then -1 else 1
def vldM (m : List Int) : Bool := decide (m.length ≤ 6 ∧ (∀ e ∈ m, 0 ≤ e) ∧ m.sum ≤ 24)
def degM (m : List Int) : Int := if vldM m = true then m.sum else -1
theorem sum_nonneg : ∀ (l : List Int), (∀ e ∈ l, 0 ≤ e) → 0 ≤ l.sum
  | [], _ => by simp
  | x :: l, h => by
    have h1 := h x (by simp)
    have h2 := sum_nonneg l fun e he => h e (by simp [he])
    rw [List.sum_cons]; omega
theorem sum_take_le (l : List Int) (k : Nat) (h : ∀ e ∈ l, 0 ≤ e) : (l.take k).sum ≤ l.sum := by
  have h1 : l.sum = (l.take k).sum + (l.drop k).sum := by rw [← List.sum_append, List.take_append_drop]
  have h2 := sum_nonneg (l.drop k) fun e he => h e (List.mem_of_mem_drop he)
  omega
theorem sum_take_succ (l : List Int) (k : Nat) (hk : k < l.length) : (l.take (k + 1)).sum = (l.take k).sum + l[k] := by
  rw [List.take_succ_eq_append_getElem hk, List.sum_append, List.sum_singleton]
theorem vldM_iff {m : List Int} : vldM m = true ↔ m.length ≤ 6 ∧ (∀ e ∈ m, 0 ≤ e) ∧ m.sum ≤ 24 := by unfold vldM; simp
theorem vldM_bad {m : List Int} {k : Nat} (hk : k < m.length) (h : m[k] < 0 ∨ 24 - (m.take k).sum < m[k]) : vldM m = false := by
  apply eq_false_of_ne_true
  rw [vldM_iff]
  rintro ⟨_, h1, h2⟩
  rcases h with h | h
  · have := h1 m[k] (List.getElem_mem _); omega
  · have h3 := sum_take_le m (k + 1) h1
    rw [sum_take_succ m k hk] at h3
    omega
theorem degM_ge {m : List Int} : decide (0 ≤ degM m) = vldM m := by
  unfold degM
  cases h : vldM m with
  | true =>
    have := sum_nonneg m (vldM_iff.1 h).2.1
    simp; exact this
  | false => simp
theorem sum_bound (l : List Int) (k : Nat) (h : ∀ e ∈ l, 0 ≤ e ∧ e ≤ 1048576) : 0 ≤ (l.take k).sum ∧ (l.take k).sum ≤ 1048576 * (l.take k).length := by
  have : ∀ l : List Int, (∀ e ∈ l, 0 ≤ e ∧ e ≤ 1048576) → 0 ≤ l.sum ∧ l.sum ≤ 1048576 * l.length := by
    intro l
    induction l with
    | nil => intro _; simp
    | cons x l ih =>
      intro h
      have h1 := h x (by simp)
      have h2 := ih fun e he => h e (by simp [he])
      rw [List.sum_cons, List.length_cons]; omega
  exact this _ fun e he => h e (List.mem_of_mem_take he)
/-! Polynomials: the number of variables, and the terms as a text and exponents. -/
abbrev Term := ByteArray × List Int
def low20 (e : List Int) : Bool := e.all fun x => decide (0 ≤ x) && decide (x ≤ 1048576)
theorem low20_iff {e : List Int} : low20 e = true ↔ ∀ x ∈ e, 0 ≤ x ∧ x ≤ 1048576 := by unfold low20; simp
def coefOk (s : ByteArray) : Bool := match rd s.data.toList with
  | some (_, n, _) => decide (n ≠ 0)
  | none => false
def termOk (v : Int) (t : Term) : Bool := coefOk t.1 && decide ((t.2.length : Int) = v) && low20 t.2
/-- The first k terms are well formed and descend. -/
def wfTo (v : Int) (ts : List Term) (k : Nat) : Prop := ∀ i, i < k → (h : i < ts.length) → termOk v ts[i] = true ∧ (0 < i → 0 < ord (ts.getD (i - 1) default).2 ts[i].2)
def wfP (v : Int) (ts : List Term) : Prop := 0 ≤ v ∧ v ≤ 6 ∧ wfTo v ts ts.length
/-- A polynomial is valid. -/
def VldP (v : Int) (ts : List Term) : Prop := ts.length ≤ 4096 ∧ wfP v ts ∧ ∀ h : 0 < ts.length, vldM ts[0].2 = true
theorem wfTo_zero (v : Int) (ts : List Term) : wfTo v ts 0 := fun i h => absurd h (by omega)
theorem wfTo_succ {v : Int} {ts : List Term} {k : Nat} (h : wfTo v ts k) (hk : k < ts.length) (h1 : termOk v ts[k] = true) (h2 : 0 < k → 0 < ord (ts.getD (k - 1) default).2 ts[k].2) : wfTo v ts (k + 1) := by
  intro i hi hl
  by_cases e : i = k
  · subst e; exact ⟨h1, h2⟩
  · exact h i (by omega) hl
theorem termOk_iff {v : Int} {t : Term} : termOk v t = true ↔ coefOk t.1 = true ∧ (t.2.length : Int) = v ∧ low20 t.2 = true := by unfold termOk; simp [and_assoc]
end Go.Mo
end
section
/- Polynomials in memory: a slice of terms, each a text and a slice of exponents. -/
namespace Go.Proofs.Tg
open Go.RowKit Go.Mo
theorem flat_get {α : Type} (f : α → List Value) (sz : Nat) (h : ∀ x, (f x).length = sz) : ∀ (ls : List α) (i j : Nat) (hi : i < ls.length), j < sz → (ls.flatMap f)[i * sz + j]? = (f ls[i])[j]?
  | x :: ls, 0, j, _, hj => by
    rw [List.flatMap_cons, Nat.zero_mul, Nat.zero_add, List.getElem?_append_left (by rw [h]; exact hj)]; rfl
  | x :: ls, i + 1, j, hi, hj => by
    rw [List.flatMap_cons, List.getElem?_append_right (by rw [h, Nat.succ_mul]; omega), h, show (i + 1) * sz + j - sz = i * sz + j by rw [Nat.succ_mul]; omega]
    rw [flat_get f sz h ls i j (by simpa using hi) hj]; rfl
theorem flat_len {α : Type} (f : α → List Value) (sz : Nat) (h : ∀ x, (f x).length = sz) : ∀ ls : List α, (ls.flatMap f).length = ls.length * sz
  | [] => by simp
  | x :: ls => by rw [List.flatMap_cons, List.length_append, h, flat_len f sz h ls, List.length_cons, Nat.succ_mul]; omega
/-- A term in memory. -/
structure TV where
  coef : ByteArray
  adr : Option Addr
  cap : Nat
  exps : List Int
def TV.cells (t : TV) : List Value := [.string t.coef, .slice t.adr t.exps.length t.cap]
def TV.pl (t : TV) : Term := (t.coef, t.exps)
/-- The slice at T holds the terms. -/
structure TermsAt (w : World) (T : Option Addr) (tv : List TV) : Prop where
  sl : Sl w T tv.length 2 (tv.flatMap TV.cells)
  ints : ∀ t ∈ tv, Ints w t.adr t.exps
theorem TermsAt.keep {w w' : World} {T : Option Addr} {tv : List TV} (h : TermsAt w T tv) (hb : Below w.heap.size w w') : TermsAt w' T tv :=
  ⟨h.sl.keep hb, fun t ht => (h.ints t ht).keep hb⟩
theorem off_one (a : Addr) (k : Nat) : (⟨(a.add k).block, (a.add k).off + 1, none⟩ : Addr) = a.add (k + 1) := by
  rw [← add_add]; simp [Addr.add]
theorem TermsAt.at {w : World} {T : Option Addr} {tv : List TV} (h : TermsAt w T tv) {k : Nat} (hk : k < tv.length) :
    ∃ ad, T = some ad ∧ w.cell? (ad.add (k * 2)) = some (.string tv[k].coef) ∧ w.cell? ⟨(ad.add (k * 2)).block, (ad.add (k * 2)).off + 1, none⟩ = some (.slice tv[k].adr tv[k].exps.length tv[k].cap) ∧ Ints w tv[k].adr tv[k].exps := by
  obtain ⟨ad, rfl, _, ha⟩ := h.sl.lies (by omega)
  refine ⟨ad, rfl, ha _ _ ?_, (congrArg w.cell? (off_one ad (k * 2))).trans (ha _ _ ?_), h.ints _ (List.getElem_mem _)⟩
  · have := flat_get TV.cells 2 (fun _ => rfl) tv k 0 hk (by omega)
    rw [Nat.add_zero] at this
    exact this
  · exact flat_get TV.cells 2 (fun _ => rfl) tv k 1 hk (by omega)
theorem TermsAt.nil (w : World) (T : Option Addr) : TermsAt w T [] := ⟨Sl.nil _ _ _, fun _ h => by cases h⟩
/-- A polynomial in memory. -/
structure PVal where
  vars : Int
  adr : Option Addr
  cap : Nat
  tv : List TV
def PVal.cells (p : PVal) : List Value := [.int .i64 p.vars, .slice p.adr p.tv.length p.cap]
structure PolysAt (w : World) (L : Option Addr) (ps : List PVal) : Prop where
  sl : Sl w L ps.length 2 (ps.flatMap PVal.cells)
  tms : ∀ p ∈ ps, TermsAt w p.adr p.tv
theorem PolysAt.keep {w w' : World} {L : Option Addr} {ps : List PVal} (h : PolysAt w L ps) (hb : Below w.heap.size w w') : PolysAt w' L ps :=
  ⟨h.sl.keep hb, fun p hp => (h.tms p hp).keep hb⟩
theorem PolysAt.at {w : World} {L : Option Addr} {ps : List PVal} (h : PolysAt w L ps) {k : Nat} (hk : k < ps.length) :
    ∃ ad, L = some ad ∧ w.cell? (ad.add (k * 2)) = some (.int .i64 ps[k].vars) ∧ w.cell? ⟨(ad.add (k * 2)).block, (ad.add (k * 2)).off + 1, none⟩ = some (.slice ps[k].adr ps[k].tv.length ps[k].cap) ∧ TermsAt w ps[k].adr ps[k].tv := by
  obtain ⟨ad, rfl, _, ha⟩ := h.sl.lies (by omega)
  refine ⟨ad, rfl, ha _ _ ?_, (congrArg w.cell? (off_one ad (k * 2))).trans (ha _ _ ?_), h.tms _ (List.getElem_mem _)⟩
  · have := flat_get PVal.cells 2 (fun _ => rfl) ps k 0 hk (by omega)
    rw [Nat.add_zero] at this
    exact this
  · exact flat_get PVal.cells 2 (fun _ => rfl) ps k 1 hk (by omega)
/-- A polynomial's plain content. -/
def PVal.ok (p : PVal) : Prop := VldP p.vars (p.tv.map TV.pl)
/-- Few terms, short texts. -/
def PVal.small (p : PVal) : Prop := p.tv.length ≤ 4096 ∧ ∀ t ∈ p.tv, t.coef.size ≤ 19 ∧ t.exps.length ≤ 64
end Go.Proofs.Tg
end
section
/- The frame: slices of polynomials, opened. -/
namespace Go.Proofs.YtodapfjmgnekkaaGreatDoor.Fr
open Go.ChangeShapes Go.WideShapes Go.ChangeAt Go.RowKit Go.Deep Go.Proofs.Tg Go.Gr Go.Mo
set_option maxRecDepth 100000
section
variable {H : Type} {enc : TypeId × Value → H} {W : World}
theorem ints_of {fuel : Nat} {v : Value} {x : DataW H × List MemPlace} (h : DataW.trod enc Tryz.prog W 0 (fun _ => true) true fuel 36 [v] = some x) : ∃ A xs c, v = .slice A xs.length c ∧ Ints W A xs := by
  rcases open_ints Tryz.underlying36 Tryz.underlying3 cellsInt h with ⟨h1, _⟩ | ⟨a, l, c, zs, h1, _, hl, hm, hz, _, hx, _⟩
  · injection h1 with h1
    exact ⟨none, [], 0, h1, Sl.nil _ _ _⟩
  · injection h1 with h1
    simp only [if_true] at hz
    have hlen : (zs.take l).length = l := by rw [List.length_take]; omega
    refine ⟨some a, zs.take l, c, by rw [hlen, h1], by simp, fun hn => ⟨a, rfl, ?_, ?_⟩⟩
    · rw [hlen] at hn
      exact World.block_lt_of_cell? W _ (hx 0 (by omega))
    · intro j u hu
      have hj : j < l := by
        have := (List.getElem?_eq_some_iff.1 hu).1
        rw [List.length_map, hlen] at this
        exact this
      have e : u = .int .i64 (zs.getD j 0) := by
        rw [List.getElem?_map, List.getElem?_take, if_pos hj] at hu
        simp only [List.getElem?_eq_getElem (show j < zs.length by omega), Option.map_some] at hu
        injection hu with hu
        rw [← hu]
        simp [vi, show j < zs.length by omega]
      rw [e]
      exact hx j (by omega)
/-- Cells two by two. -/
theorem sl_two {α : Type} (f : α → List Value) (hf : ∀ x, (f x).length = 2) (q : Nat → α) (a : Addr) (n : Nat) (h : ∀ i, i < n → ∃ v0 v1, f (q i) = [v0, v1] ∧ W.cell? (a.add (i * 2)) = some v0 ∧ W.cell? (a.add (i * 2 + 1)) = some v1) :
    Sl W (some a) n 2 (((List.range n).map q).flatMap f) := by
  have hlen : (((List.range n).map q).flatMap f).length = n * 2 := by
    have : ∀ l : List α, (l.flatMap f).length = l.length * 2 := by
      intro l
      induction l with
      | nil => rfl
      | cons x l ih => rw [List.flatMap_cons, List.length_append, ih, hf, List.length_cons]; omega
    rw [this]; simp
  refine ⟨hlen, fun hn => ⟨a, rfl, ?_, ?_⟩⟩
  · obtain ⟨_, _, _, h1, _⟩ := h 0 hn
    exact World.block_lt_of_cell? W (a.add (0 * 2)) h1
  · intro j u hu
    have hj : j < n * 2 := by rw [← hlen]; exact (List.getElem?_eq_some_iff.1 hu).1
    obtain ⟨v0, v1, h0, h1, h2⟩ := h (j / 2) (by omega)
    have hg := flat_get f 2 hf ((List.range n).map q) (j / 2) (j % 2) (by simp; omega) (by omega)
    rw [show j / 2 * 2 + j % 2 = j by omega, hu] at hg
    have : j % 2 = 0 ∨ j % 2 = 1 := by omega
    rcases this with e | e
    · rw [e] at hg
      simp [h0] at hg
      rw [hg, show j = j / 2 * 2 by omega]; exact h1
    · rw [e] at hg
      simp [h0] at hg
      rw [hg, show j = j / 2 * 2 + 1 by omega]; exact h2
theorem cellsTerm : Tryz.prog.cellsOf 69 = 2 := by kernel_rfl
theorem cellsPoly : Tryz.prog.cellsOf 24 = 2 := by kernel_rfl
theorem cellsStr : Tryz.prog.cellsOf 9 = 1 := by kernel_rfl
theorem cellsTerms : Tryz.prog.cellsOf 22 = 1 := by kernel_rfl
instance : Inhabited TV := ⟨⟨⟨#[]⟩, none, 0, []⟩⟩
instance : Inhabited PVal := ⟨⟨0, none, 0, []⟩⟩
theorem terms_of {fuel : Nat} {v : Value} {x : DataW H × List MemPlace} (h : DataW.trod enc Tryz.prog W 0 (fun _ => true) true fuel 22 [v] = some x) : ∃ T tv c, v = .slice T tv.length c ∧ TermsAt W T tv := by
  rcases open_slice_pairs Tryz.underlying22 Tryz.underlying69 cellsTerm rfl rfl cellsStr cellsRow h with ⟨h1, _⟩ | ⟨a, l, c, m, n, V0, V1, D0, D1, P0, P1, h1, _, hl, _, hm, _, hx⟩
  · injection h1 with h1
    exact ⟨none, [], 0, h1, TermsAt.nil _ _⟩
  · injection h1 with h1
    simp only [if_true] at hm
    obtain ⟨q, hq⟩ := choose_lt (n := l) (p := fun i (t : TV) => (TV.cells t = [V0 i, V1 i]) ∧ Ints W t.adr t.exps) (fun i hi => by
      obtain ⟨_, _, g0, g1⟩ := hx i (by omega)
      obtain ⟨s, e0, _⟩ := DataW.trod_string Tryz.underlying9 g0
      obtain ⟨A, xs, d, e1, hA⟩ := ints_of g1
      injection e0 with e0
      exact ⟨⟨s, A, d, xs⟩, by rw [e0, e1]; rfl, hA⟩)
    refine ⟨some a, (List.range l).map q, c, by simp [h1], ?_, fun t ht => ?_⟩
    · have := sl_two TV.cells (fun _ => rfl) q a l (fun i hi => by
        obtain ⟨c0, c1, _, _⟩ := hx i (by omega)
        exact ⟨V0 i, V1 i, (hq i hi).1, c0, c1⟩)
      simpa using this
    · obtain ⟨i, hi, rfl⟩ := List.mem_map.1 ht
      exact (hq i (List.mem_range.1 hi)).2
theorem polys_of {fuel : Nat} {v : Value} {x : DataW H × List MemPlace} (h : DataW.trod enc Tryz.prog W 0 (fun _ => true) true fuel 60 [v] = some x) : ∃ L ps c, v = .slice L ps.length c ∧ PolysAt W L ps := by
  rcases open_slice_pairs Tryz.underlying60 Tryz.underlying24 cellsPoly rfl rfl cellsInt cellsTerms h with ⟨h1, _⟩ | ⟨a, l, c, m, n, V0, V1, D0, D1, P0, P1, h1, _, hl, _, hm, _, hx⟩
  · injection h1 with h1
    exact ⟨none, [], 0, h1, Sl.nil _ _ _, fun p hp => by cases hp⟩
  · injection h1 with h1
    simp only [if_true] at hm
    obtain ⟨q, hq⟩ := choose_lt (n := l) (p := fun i (t : PVal) => (PVal.cells t = [V0 i, V1 i]) ∧ TermsAt W t.adr t.tv) (fun i hi => by
      obtain ⟨_, _, g0, g1⟩ := hx i (by omega)
      obtain ⟨s, e0, _⟩ := DataW.trod_int Tryz.underlying3 g0
      obtain ⟨A, xs, d, e1, hA⟩ := terms_of g1
      injection e0 with e0
      exact ⟨⟨s, A, d, xs⟩, by rw [e0, e1]; rfl, hA⟩)
    refine ⟨some a, (List.range l).map q, c, by simp [h1], ?_, fun t ht => ?_⟩
    · have := sl_two PVal.cells (fun _ => rfl) q a l (fun i hi => by
        obtain ⟨c0, c1, _, _⟩ := hx i (by omega)
        exact ⟨V0 i, V1 i, (hq i hi).1, c0, c1⟩)
      simpa using this
    · obtain ⟨i, hi, rfl⟩ := List.mem_map.1 ht
      exact (hq i (List.mem_range.1 hi)).2
theorem open_polys {v : Value} {d : DataW H} {ps : List MemPlace} {b0 : Nat} (hval : Value.okWide Tryz.prog W .any b0 60 v) (h : DataW.Trod enc Tryz.prog W 0 (fun _ => true) true 60 v d ps) :
    ∃ L pl c, v = .slice L pl.length c ∧ PolysAt W L pl := by
  obtain ⟨V, len, cap, rfl⟩ := okWide_slice Tryz.underlying60 hval
  obtain ⟨fuel, h⟩ := h
  have hcs : (Value.slice V len cap).cells.toList = [.slice V len cap] := by simp [Value.cells]
  rw [hcs] at h
  exact polys_of h
end
end Go.Proofs.YtodapfjmgnekkaaGreatDoor.Fr
end
section
/- The frame: one polynomial as an argument, opened. -/
namespace Go.Proofs.YtodapfjmgnekkaaGreatDoor.Fr
open Go.ChangeShapes Go.WideShapes Go.ChangeAt Go.RowKit Go.Deep Go.Proofs.Tg Go.Gr Go.Mo
set_option maxRecDepth 100000
section
variable {H : Type} {enc : TypeId × Value → H} {W : World}
theorem open_poly {v : Value} {d : DataW H} {ps : List MemPlace} {b0 : Nat} (hval : Value.okWide Tryz.prog W .any b0 24 v) (h : DataW.Trod enc Tryz.prog W 0 (fun _ => true) true 24 v d ps) :
    ∃ n T tv c, v = .agg #[.int .i64 n, .slice T (List.length tv) c] ∧ TermsAt W T tv := by
  obtain ⟨cs, rfl, hsz⟩ := okWide_struct Tryz.underlying24 hval
  obtain ⟨fuel, h⟩ := h
  have hcs : (Value.agg cs).cells.toList = cs.toList := rfl
  rw [hcs] at h
  obtain ⟨xs, k, _, _, hlen, hxl, hf⟩ := DataW.trod_struct Tryz.underlying24 h
  have g0 := hf 0 { name := "Vars", type := 3, offset := 0, embedded := false, tag := "", pkgPath := "", byteOffset := 0 } rfl
  have g1 := hf 1 { name := "Terms", type := 22, offset := 1, embedded := false, tag := "", pkgPath := "", byteOffset := 8 } rfl
  have hc2 : cs.toList.length = 2 := by rw [hlen]; kernel_rfl
  obtain ⟨l⟩ := cs
  match l, hc2, xs, hxl with
  | [a, b], _, [y0, y1], _ =>
    have g0' : DataW.trod enc Tryz.prog W 0 (fun _ => true) true k 3 [a] = some y0 := by
      have := g0
      dsimp only at this
      rw [cellsInt] at this
      exact this
    have g1' : DataW.trod enc Tryz.prog W 0 (fun _ => true) true k 22 [b] = some y1 := by
      have := g1
      dsimp only at this
      rw [cellsTerms] at this
      exact this
    obtain ⟨n, e0, _⟩ := DataW.trod_int Tryz.underlying3 g0'
    obtain ⟨T, tv, c, e1, hE⟩ := terms_of g1'
    injection e0 with e0
    subst e0 e1
    exact ⟨n, T, tv, c, rfl, hE⟩
end
end Go.Proofs.YtodapfjmgnekkaaGreatDoor.Fr
end
section
/- The elements of a set, in a slice. -/
namespace Go.Proofs.Tg.Gx
open Go.RowKit Go.Gr
theorem int_info : (Tryz.prog.info? 3).map (fun i => (i.zero, i.size, i.bytes)) = some (some (.int .i64 0), 1, 8) := by kernel_rfl
set_option maxHeartbeats 1000000
theorem verts_any (s : Nat) (w : World) (hs : s < 18446744073709551616) (hT : Tab w) :
    Calls Tryz.prog 48 #[.int .u64 s] w (RetOwn 3 (verts s).length 1 ((verts s).map vn) w) := by
  obtain ⟨i0, hi, hz0, hz1, hz2⟩ := info_parts int_info
  have hlen : (verts s).length ≤ 64 := size_le s
  go_enter Tryz.func48, Tryz.ntmps48
  go_wp2
  go_loopw [0, 3] (fun t v wr => ∃ (x : Nat) (l : List Nat), t = .int .u64 x ∧ x < 18446744073709551616 ∧ Hid (verts s = l ++ verts x) ∧ l.length ≤ 64 ∧ wr.ownsRow w.heap.size 3 1 v l.length (l.map vn) ∧ Below w.heap.size w wr)
    (fun t _ _ => (intOf t).toNat)
  case atStart => exact ⟨s, [], rfl, hs, Lib.hid rfl, by simp, World.ownsRow_nil _ _ _ _, Below.refl _ _⟩
  case round =>
    obtain ⟨x, l, rfl, hx, HV, hl, hown, hb⟩ := hrel
    by_cases hx0 : x = 0
    · subst hx0
      go_wp2
      go_ret
      obtain ⟨A, c, hv, hc, _⟩ := Sl.of_own hown
      have hv2 : verts s = l := by rw [HV.out, verts_zero, List.append_nil]
      rw [hv2]
      exact ⟨A, c, by rw [← hv]; rfl, hc, by rw [← hv]; exact hown, hb⟩
    · have hxp : 0 < x := by omega
      have hxb : ((x : Int) != 0) = true := by simp; omega
      have ht := tz_any x wr hx hx0 (hT.below hb hT.1)
      obtain ⟨hv, hlt⟩ := verts_cons x hx hx0
      have hk := (Lib.lowest_bit 64 x hx0 hx).2
      generalize Lib.ctz 64 x = c at ht hv hk
      have HT := Lib.hid ht
      have e1 : (x : Int) - 1 = ((x - 1 : Nat) : Int) := by omega
      have HV2 : Hid (verts s = (l ++ [c]) ++ verts (x &&& (x - 1))) := by
        rw [List.append_assoc]; exact HV.out.trans (by rw [hv]; rfl)
      have hll : (l ++ [c]).length ≤ 64 := by have := congrArg List.length HV2.out; simp at this; simp; omega
      have HE := Lib.hid e1
      clear ht hv e1 hx0 HV
      go_wp2_with (first
        | (go_at_call 75; refine HT.out.mono ?_; rintro e w' ⟨rfl, rfl⟩)
        | (at_builtin; refine wpList_append_own _ rfl _ _ 36 rfl w.heap.size 3 i0 (.int .i64 0) 1 8 Tryz.underlying36 hi hz0 hz1 hz2 rfl (by decide) _ _ _ rfl (hown.alloc _) ⟨wr.heap.size, 0, none⟩ 1 1 [.int .i64 c] rfl rfl ?c1 ?c2 ?c3 ?c4 ?c5 ?_
           case c1 => exact cell_one_new _ _ _
           case c2 => simp [Value.oneCell']
           case c3 => simp only [maxLen]; omega
           case c4 => omega
           case c5 => have := hb.size; simp; omega
           intro v' w1 hown' hgrow _))
      have ea : bits BinOp.and IntKind.u64 (x : Int) ((x : Int) - 1) = ((x &&& (x - 1) : Nat) : Int) := by
        rw [HE.out, u64_and_nat _ _ hx (by omega)]
      go_roundw
      case rel =>
        refine ⟨x &&& (x - 1), l ++ [c], ?_, and_lt _ hx, HV2, hll, ?_, ?_⟩
        · rw [ea]
        · simpa [vn] using hown'
        · refine (hb.alloc hb.size _).grown hgrow (by have := hb.size; simp; omega) (fun k hk => (hown.lt k hk).1)
      case measure => simp [intOf, ea]; omega
end Go.Proofs.Tg.Gx
end
section
/- The adjacency: 64 sets in a block; connect. -/
namespace Go.Gr
def upd (A : Nat → Nat) (i s : Nat) : Nat → Nat := fun k => if k = i then s else A k
def connect (A : Nat → Nat) (i j : Nat) : Nat → Nat := upd (upd A i (bset (A i) j)) j (bset (upd A i (bset (A i) j) j) i)
def Small (A : Nat → Nat) : Prop := ∀ i, A i < 18446744073709551616
theorem Small.upd {A : Nat → Nat} (h : Small A) {i s : Nat} (hs : s < 18446744073709551616) : Small (upd A i s) := fun k => by
  unfold Gr.upd; split
  · exact hs
  · exact h k
theorem Small.connect {A : Nat → Nat} (h : Small A) {i j : Nat} (hi : i < 64) (hj : j < 64) : Small (connect A i j) :=
  (h.upd (bset_lt (h i) hj)).upd (bset_lt ((h.upd (bset_lt (h i) hj)) j) hi)
theorem Small.zero : Small (fun _ => 0) := fun _ => by simp
end Go.Gr
namespace Go.Proofs.Tg.Gx
open Go.RowKit Go.Gr
def adjA (A : Nat → Nat) : Array Value := ((List.range 64).map fun i => vs (A i)).toArray
theorem adjA_size (A : Nat → Nat) : (adjA A).size = 64 := by simp [adjA]
theorem adjA_at (A : Nat → Nat) {i : Nat} (hi : i < 64) : (adjA A)[i]? = some (.int .u64 (A i : Nat)) := by
  simp [adjA, hi, vs]
theorem adjA_set (A : Nat → Nat) {i : Nat} (_ : i < 64) (s : Nat) : (adjA A).setIfInBounds i (.int .u64 s) = adjA (upd A i s) := by
  apply Array.ext
  · simp [adjA]
  · intro k h1 h2
    rw [Array.getElem_setIfInBounds (by simpa using h1)]
    simp only [adjA, upd, vs, List.getElem_toArray, List.getElem_map, List.getElem_range]
    by_cases hk : i = k
    · subst hk; simp
    · rw [if_neg hk, if_neg (fun e => hk e.symm)]
abbrev AdjAt (w : World) (g : Nat) (A : Nat → Nat) : Prop := Blk w g 89 (adjA A)
theorem AdjAt.cell {w : World} {g : Nat} {A : Nat → Nat} (h : AdjAt w g A) {i : Nat} (hi : i < 64) : w.cell? ⟨g, i, none⟩ = some (.int .u64 (A i : Nat)) := (Blk.cell h i).trans (adjA_at A hi)
set_option maxHeartbeats 1000000
theorem grown_set {w w' : World} {g : Nat} (h : w.grownBy w' (some g)) (i : Nat) (u : Value) : w.grownBy (w'.setCell ⟨g, i, none⟩ u) (some g) :=
  ⟨h.os, h.tape, h.output, by simpa [World.setCell] using h.size, fun k hk hne => (Below.heap_setCell w' ⟨g, i, none⟩ u k (fun e => hne (by rw [e]))).trans (h.block k hk hne)⟩
theorem grown_drew {w w' : World} {row : Option Nat} (h : w.grownBy w' row) : w.grownBy w'.drew row := ⟨h.os, h.tape, h.output, h.size, h.block⟩
theorem grown_drewN {w w' : World} {row : Option Nat} (h : w.grownBy w' row) (n : Nat) : w.grownBy (w'.drewN n) row := ⟨h.os, h.tape, h.output, h.size, h.block⟩
theorem AdjAt.set {w : World} {g : Nat} {A : Nat → Nat} (h : AdjAt w g A) {i : Nat} (hi : i < 64) (s : Nat) : AdjAt (w.setCell ⟨g, i, none⟩ (.int .u64 s)) g (upd A i s) := by
  have := Blk.set h i (.int .u64 s)
  rwa [adjA_set A hi] at this
theorem connect_any (g i j : Nat) (A : Nat → Nat) (w : World) (hA : AdjAt w g A) (hS : Small A) (hi : i < 64) (hj : j < 64) :
    Calls Tryz.prog 74 #[.pointer (some ⟨g, 0, none⟩), .int .i64 i, .int .i64 j] w fun e w' => e = .returned (.tuple #[]) ∧ AdjAt w' g (connect A i j) ∧ w.grownBy w' (some g) := by
  go_enter Tryz.func74, Tryz.ntmps74
  go_upto_region 0 with fail
  go_cut [] (fun wx => AdjAt wx g (upd A i (bset (A i) j)) ∧ w.grownBy wx (some g))
  case first =>
    have hc := hA.cell hi
    have hf := Blk.frozen hA i
    have hs := hS i
    go_region_with (go_at_call 47; refine (with_any _ _ _ hs hj).mono ?_; rintro e w' ⟨rfl, rfl⟩)
    go_wp2_with fail
    go_meet
    exact ⟨Blk.drew (hA.set hi _), grown_drew (grown_set (World.grownBy.refl _ _) i _)⟩
  case rest =>
    obtain ⟨hA1, hg1⟩ := hcut
    have hs := (hS.upd (i := i) (bset_lt (hS i) hj)) j
    have hc := hA1.cell hj
    have hf := Blk.frozen hA1 j
    go_wp2
    go_region_with (go_at_call 47; refine (with_any _ _ _ hs hi).mono ?_; rintro e w' ⟨rfl, rfl⟩)
    go_wp2
    go_end0
    exact ⟨rfl, Blk.drew (hA1.set hj _), grown_drew (grown_set hg1 j _)⟩
end Go.Proofs.Tg.Gx
end
section
/- The edges of an adjacency, written out. -/
namespace Go.Gr
/-- The edges that go from i to greater vertices. -/
def rowEdges (A : Nat → Nat) (i : Nat) : List (Int × Int) := (verts (andn (A i) (firstN i))).map fun j : Nat => ((i : Int), (j : Int))
def writeEdges (A : Nat → Nat) (n : Nat) : List (Int × Int) := (List.range n).flatMap (rowEdges A)
theorem writeEdges_succ (A : Nat → Nat) (n : Nat) : writeEdges A (n + 1) = writeEdges A n ++ rowEdges A n := by
  simp [writeEdges, List.range_succ]
theorem rowEdges_len (A : Nat → Nat) (i : Nat) : (rowEdges A i).length ≤ 64 := by
  simp only [rowEdges, List.length_map]; exact size_le _
end Go.Gr
namespace Go.Proofs.Tg.Gx
open Go.RowKit Go.Gr
def ecells (es : List (Int × Int)) : List Value := es.flatMap fun e => [vi e.1, vi e.2]
theorem ecells_len (es : List (Int × Int)) : (ecells es).length = es.length * 2 := by
  induction es with
  | nil => rfl
  | cons e es ih => simp only [ecells, List.flatMap_cons, List.length_append, List.length_cons, List.length_nil] at ih ⊢; omega
theorem ecells_app (a b : List (Int × Int)) : ecells (a ++ b) = ecells a ++ ecells b := by simp [ecells]
theorem pair_info : (Tryz.prog.info? 83).map (fun i => (i.zero, i.size, i.bytes)) = some (some (.agg #[.int .i64 0, .int .i64 0]), 2, 16) := by kernel_rfl
theorem cell_two_new' (w : World) (a b : Value) (t : TypeId) : ∀ j u, [a, b][j]? = some u → (w.alloc (.cells #[a, b] t)).cell? ((⟨w.heap.size, 0, none⟩ : Addr).add j) = some u := by
  intro j u hu
  rw [add_lit, Nat.zero_add, Blk.cell (Blk.new w t #[a, b]) j]
  simpa using hu
set_option maxHeartbeats 1000000
set_option maxRecDepth 100000
def RetGraph (n : Int) (es : List (Int × Int)) (w : World) (e : Ending) (w' : World) : Prop :=
  ∃ A c, e = .returned (.agg #[.int .i64 n, .slice A es.length c]) ∧ es.length ≤ c ∧ w'.ownsRow w.heap.size 83 2 (.slice A es.length c) es.length (ecells es) ∧ Below w.heap.size w w'
theorem write_any (g n : Nat) (A : Nat → Nat) (w : World) (hA : AdjAt w g A) (hS : Small A) (hn : n ≤ 64) (hT : Tab w) :
    Calls Tryz.prog 88 #[.pointer (some ⟨g, 0, none⟩), .int .i64 n] w (RetGraph n (writeEdges A n) w) := by
  obtain ⟨i0, hi, hz0, hz1, hz2⟩ := info_parts pair_info
  have hgl := Blk.lt hA
  go_enter Tryz.func88, Tryz.ntmps88
  go_wp2
  go_loopw [12] (fun i wr => ∃ (k : Nat) (E : Option Addr) (c : Nat) (es : List (Int × Int)), i = .int .i64 k ∧ k ≤ n ∧ Blk wr w.heap.size 40 #[.int .i64 0, .slice none 0 0] ∧ Blk wr (w.heap.size + 1) 40 #[.int .i64 n, .slice E es.length c] ∧
      wr.ownsRow (w.heap.size + 2) 83 2 (.slice E es.length c) es.length (ecells es) ∧ es.length ≤ c ∧ es.length ≤ 64 * k ∧ Hid (es = writeEdges A k) ∧ Below w.heap.size w wr) (fun i _ => n - (intOf i).toNat)
  case atStart =>
    refine ⟨0, none, 0, [], rfl, Nat.zero_le _, ?_, ?_, World.ownsRow_nil _ _ _ _, by simp, by simp, Lib.hid (by simp [writeEdges]), ?_⟩
    · exact Blk.alloc (Blk.new _ _ _) _
    · have := Blk.new (w.alloc (Obj.cells #[Value.int IntKind.i64 0, Value.slice none 0 0] 40)) 40 #[Value.int IntKind.i64 ↑n, Value.slice none 0 0]
      simpa using this
    · exact ((Below.refl _ _).alloc (Nat.le_refl _) _).alloc (by simp) _
  case round =>
    obtain ⟨wo, rfl⟩ : ∃ wo : World, wo = wr := ⟨_, rfl⟩
    obtain ⟨k, E, c, es, rfl, hk, hb4, hb5, hown, hec, hel, HE, hb⟩ := hrel
    by_cases hlt : k < n
    · have hkl : k < 64 := by omega
      have hc := AdjAt.cell (hA.keep hb hgl) hkl
      have hs := hS k
      have hTr := hT.below hb hT.1
      have hbits := u64_andNot_nat (A k) (firstN k) hs (firstN_lt (by omega))
      have hsm := andn_lt (firstN k) hs
      change _ = ((andn (A k) (firstN k) : Nat) : Int) at hbits
      have HRE : Hid (rowEdges A k = (verts (andn (A k) (firstN k))).map fun j : Nat => ((k : Int), (j : Int))) := rfl
      have hvl : (verts (andn (A k) (firstN k))).length ≤ 64 := size_le _
      have hvb : ∀ x ∈ verts (andn (A k) (firstN k)), x < 64 := fun x hx => by simp [verts] at hx; exact hx.1
      generalize andn (A k) (firstN k) = S at hbits hsm HRE hvl hvb
      go_upto_region 5 with fail
      go_cut [23, 24, 25] (fun s23 s24 s25 wx => ∃ V cv, s23 = .slice V (verts S).length cv ∧ s24 = .int .i64 (verts S).length ∧ s25 = .int .i64 0 ∧ wx.ownsRow wo.heap.size 3 1 (.slice V (verts S).length cv) (verts S).length ((verts S).map vn) ∧ Below wo.heap.size wo wx)
      case first =>
        clear hb4 hb5 hown HE HRE hvb
        have hk0 : (0 : Int) ≤ (k : Int) := by omega
        have hk1 : (k : Int) < 64 := by omega
        have hgr : g < wo.heap.size := Nat.lt_of_lt_of_le hgl hb.size
        go_region_held3 (fun w' => w'.cell? ⟨g, k, none⟩ = some (.int .u64 (A k : Nat))) (first | go_keep | exact (hbV.cell (p := ⟨g, k, none⟩) hgr).trans hc)
          (first | (go_at_call 89; refine (first_any _ _ (by omega)).mono ?_; rintro e w' ⟨rfl, rfl⟩) | (go_at_call 48; refine (verts_any _ _ hsm (by exact hTr)).mono ?_; rintro e w' ⟨V, cv, rfl, hVc, hV, hbV⟩))
        all_goals (go_wp2_with fail; go_meet; exact ⟨V, cv, rfl, rfl, rfl, hV, below_of_drew hbV⟩)
      case rest =>
        obtain ⟨V, cv, rfl, rfl, rfl, hV, hbV⟩ := hcut
        clear hbits hc hs hsm hTr
        have hsz := hb.size
        have hsz2 := hbV.size
        have hb4l := hb4.lt
        have hb5l := hb5.lt
        have hb' : Below w.heap.size w wc := hb.trans (hbV.mono hsz)
        have hb4' := hb4.keep hbV hb4l
        have hb5' := hb5.keep hbV hb5l
        have hown' := own_below hown hbV (Nat.le_refl _)
        clear hb4 hb5 hown hb hbV
        go_wp2
        go_loopw [25] (fun j wx => ∃ (i : Nat) (E2 : Option Addr) (c2 : Nat) (fs : List (Int × Int)), j = .int .i64 i ∧ i ≤ (verts S).length ∧ Blk wx w.heap.size 40 #[.int .i64 0, .slice none 0 0] ∧ Blk wx (w.heap.size + 1) 40 #[.int .i64 n, .slice E2 fs.length c2] ∧
            wx.ownsRow (w.heap.size + 2) 83 2 (.slice E2 fs.length c2) fs.length (ecells fs) ∧ fs.length ≤ c2 ∧ fs.length ≤ 64 * k + i ∧ Hid (fs = es ++ ((verts S).take i).map fun j : Nat => ((k : Int), (j : Int))) ∧
            wx.ownsRow wo.heap.size 3 1 (.slice V (verts S).length cv) (verts S).length ((verts S).map vn) ∧ Below w.heap.size w wx) (fun j _ => (verts S).length - (intOf j).toNat)
        case atStart => exact ⟨0, E, c, es, rfl, Nat.zero_le _, hb4', hb5', hown', hec, hel, Lib.hid (by simp), hV, hb'⟩
        case round =>
          clear hb' hb4' hb5' hown' hV
          obtain ⟨i, E2, c2, fs, rfl, hi2, hb4, hb5, hown, hfc, hfl, HF, hV, hb⟩ := hrel
          by_cases hil : i < (verts S).length
          · obtain ⟨ad, rfl, hcv⟩ := Nats.at (Sl.own hV) hil
            have HF2 : Hid (fs ++ [((k : Int), (((verts S)[i] : Nat) : Int))] = es ++ ((verts S).take (i + 1)).map fun j : Nat => ((k : Int), (j : Int))) := by
              rw [List.take_succ_eq_append_getElem hil, List.map_append, ← List.append_assoc, ← HF.out]; rfl
            generalize (verts S)[i] = q at hcv HF2
            have h51 := hb5.cell 1
            have f51 := hb5.frozen 1
            simp at h51
            have hne := own_blk_ne hown hb5 (by decide)
            have hne4 := own_blk_ne hown hb4 (by decide)
            have hnv := own_ne hV hown (by decide)
            have hszx := hb.size
            have hl4 := hb4.lt
            have hl5 := hb5.lt
            have HB := Lib.hid (And.intro hb4 hb5)
            clear HF HE HRE
            go_wp2_with (at_builtin; go_must (refine wpList_append_own_at _ rfl _ _ 38 rfl (w.heap.size + 2) 83 i0 (.agg #[.int .i64 0, .int .i64 0]) 2 16 Tryz.underlying38 hi hz0 hz1 hz2 rfl (by decide) (.slice E2 fs.length c2) _ _ rfl (hown.alloc _) ⟨wr.heap.size, 0, none⟩ 1 1 [.int .i64 k, .int .i64 q] rfl rfl ?c1 ?c2 ?c3 ?c4 ?c5 ?_)
                         case c1 => exact cell_two_new' _ _ _ _
                         case c2 => simp [Value.oneCell']
                         case c3 => simp only [maxLen]; omega
                         case c4 => omega
                         case c5 => simp; omega
                         intro v' w1 hown1 hg1 _ _
                         obtain ⟨E3, c3, hv, hle3, _⟩ := Sl.of_own hown1
                         subst hv
                         have k51 := (Blk.grown (Blk.alloc HB.out.2 _) hg1 hne).cell 1
                         have g51 := (Blk.grown (Blk.alloc HB.out.2 _) hg1 hne).frozen 1
                         simp at k51)
            have hlen : (fs ++ [((k : Int), ((q : Nat) : Int))]).length = fs.length + 1 := by simp
            have B5 := Blk.grown (Blk.alloc HB.out.2 _) hg1 hne
            have B4 := Blk.grown (Blk.alloc HB.out.1 _) hg1 hne4
            have hV1 := (hV.alloc (.cells #[.int .i64 k, .int .i64 q] 83)).kept hg1 hnv
            go_roundw
            case rel =>
              refine ⟨i + 1, E3, c3, fs ++ [((k : Int), ((q : Nat) : Int))], by go_num, by omega, B4.far (by simp) _, ?_, ?_, by rw [hlen]; exact hle3, by rw [hlen]; omega, HF2, own_far hV1 (own_blk_ne hV1 B5 (by decide)) _, ?_⟩
              · have := B5.set 1 (.slice E3 (fs.length + 1) c3)
                rw [hlen]
                simpa using this
              · rw [hlen, ecells_app]
                exact own_far hown1 (own_blk_ne hown1 B5 (by decide)) _
              · exact ((hb.alloc hb.size _).grown hg1 (by simp; omega) (fun j hj => by have := (hown.lt j hj).1; omega)).setCell (by simp) _
            case measure => simp [intOf]; omega
          · obtain rfl : i = (verts S).length := by omega
            go_wp2
            go_roundw
            case rel =>
              refine ⟨k + 1, E2, c2, fs, by go_num, by omega, hb4, hb5, hown, hfc, by omega, ?_, hb⟩
              refine Lib.hid ?_
              rw [HF.out, List.take_length, ← HRE.out, writeEdges_succ, HE.out]
            case measure => simp [intOf]; omega
    · obtain rfl : k = n := by omega
      have h40 := hb4.cell 0
      have h41 := hb4.cell 1
      have f40 := hb4.frozen 0
      have f41 := hb4.frozen 1
      have h50 := hb5.cell 0
      have h51 := hb5.cell 1
      simp at h40 h41 h50 h51
      go_wp2
      refine bodyPost_ret (v := .agg #[.int .i64 k, .slice E es.length c]) (by simp [results, Tryz.results88, go_sem, h40, h41]) rfl ?_
      rw [← HE.out]
      exact ⟨E, c, rfl, hec, own_base (ownsRow_setCell_below (ownsRow_setCell_below hown (by simp) _) (by simp) _) (by omega), (hb.setCell (by simp) _).setCell (by simp) _⟩
end Go.Proofs.Tg.Gx
end
