/- Parts of the proof: Fr, N1, M1, PV, FrP, FrQ, E1. -/
import Derived.Test.YtpiedheafppnhaaGreatDoorCards
import Derived.Test.YtpiedheafppnhaaGreatDoorTie
import Derived.ProofKit
import Derived.OpenShut
import Derived.Carry
import Derived.Deep.Slices
import Derived.Deep.Matrix
import Derived.Deep.DeepHandedRow
import Derived.Lib.LaidTab
import Derived.Lib.ItoaNum
import Derived.Deep.SlicePairs
import Derived.Test.YtpiedheafppnhaaGreatDoorMSF0
section
/- The frame of this seat's statements: what the reading of an argument says of memory, the listed table, the row's last step, the world of the witness. -/
namespace Go.Proofs.YtpiedheafppnhaaGreatDoor.Fr
open Go.ChangeShapes Go.WideShapes Go.ChangeAt Go.RowKit Go.Deep Go.Proofs.Tg Go.Gr
set_option maxRecDepth 100000
section
variable {H : Type} {enc : TypeId × Value → H} {W W' : World}
theorem trodAll_below (hl : laidOutB Tryz.prog = true) (hb : Below W.heap.size W W') : ∀ (ts : List TypeId) (vs : List Value) (ds : List (DataW H)) (ps : List MemPlace),
    (∀ t ∈ ts, Tryz.prog.readableRec t = true ∧ t < Tryz.prog.types.size) → DataW.TrodAll enc Tryz.prog W 0 (fun _ => true) true ts vs ds ps → (∀ x ∈ ps, x.block < W.heap.size) →
    DataW.TrodAll enc Tryz.prog W' 0 (fun b => decide (b < W.heap.size)) true ts vs ds ps
  | [], [], [], ps, _, h, _ => h
  | t :: ts, v :: vs, d :: ds, ps, ht, ⟨p, q, h1, h2, e⟩, hp => by
    subst e
    exact ⟨p, q, Below.trod hl (ht t (by simp)).1 (ht t (by simp)).2 h1 hb (fun x hx => hp x (by simp [hx])), trodAll_below hl hb ts vs ds q (fun t h => ht t (by simp [h])) h2 (fun x hx => hp x (by simp [hx])), rfl⟩
theorem band {a b : Bool} (h : a = true) (k : b = true) : (a && b) = true := by rw [h, k]; rfl
theorem laidOut : laidOutB Tryz.prog = true := by kernel_rfl
/-- A law that returned true and made new memory alone meets its row. -/
theorem post_law {f : Func} {s : ChangeSpec} {args : Array Value} {ds gs : List (DataW H)} {before : List MemPlace}
    (hW : DataW.Whole enc Tryz.prog f.params.toList s.vars false W args.toList ds gs before) (hv : s.vars = []) (hf : f.resultTypes = #[4])
    (hr : (s.fn H (ds ++ gs)).results = [.lit (.bool true)]) (ha : (s.fn H (ds ++ gs)).args = ds) (hg : (s.fn H (ds ++ gs)).vars = [])
    (hp : ∀ t ∈ f.params.toList, Tryz.prog.readableRec t = true ∧ t < Tryz.prog.types.size) (hb : Below W.heap.size W W') :
    s.post enc Tryz.prog f false true false false W args (.bool true) W' := by
  have hlt := hW.lt
  have hW2 := hW
  obtain ⟨p, q, hA, hV, hps, hz, hn⟩ := hW2
  rw [hv] at hV
  obtain ⟨rfl, rfl⟩ := trodVars_none hV
  rw [List.append_nil] at hps
  subst hps
  refine ⟨ds, [], before, [], before, [], hW, ?_, ?_, ?_, World.keptBut_mono (fun x hx => ⟨hx, .inr (.inl hx)⟩) (hb.frame (· ∈ before)), fun h => by cases h⟩
  · rw [hr, hf]
    exact trodAll_cons_mk (shut_bool Tryz.underlying4 _) trodAll_mk0
  · rw [ha]
    exact trodAll_below laidOut hb _ _ _ _ hp hA hlt
  · rw [hv, hg]; rfl
theorem gTab : Tryz.prog.globalNamed "math/bits.deBruijn64tab" = some 0 := by kernel_rfl
theorem gTabType : (Tryz.prog.globals[0]?).map (·.type) = some 125 := by kernel_rfl
theorem cellsTab : Tryz.prog.cellsOf 125 = 64 := by kernel_rfl
theorem cellsU8 : Tryz.prog.cellsOf 5 = 1 := by kernel_rfl
theorem cellsRow : Tryz.prog.cellsOf 50 = 1 := by kernel_rfl
theorem cellsInt : Tryz.prog.cellsOf 3 = 1 := by kernel_rfl
def tabZ : List Int := Lib.deBruijn64tab.map fun x : Nat => (x : Int)
theorem tabZ_len : tabZ.length = 64 := by decide +kernel
theorem tab_data : (Rows.laid_math_bits_deBruijn64tab : DataW Unit) = Lib.tabData .u8 tabZ := by kernel_rfl
/-- What the row's list gives: the table's cells. -/
theorem tab_of (h : laidMetH Tryz.prog [("math/bits.deBruijn64tab", Rows.laid_math_bits_deBruijn64tab)] W) : Tab W := by
  rw [tab_data] at h
  have h1 : Lib.TabIs Tryz.prog W "math/bits.deBruijn64tab" .u8 tabZ := Lib.tabIs_of_head (rest := []) gTab gTabType Tryz.underlying125 Tryz.underlying5 cellsU8 cellsTab h
  have hc : ∀ j, j < 64 → W.cell? ⟨0, j, none⟩ = some (.int .u8 (Lib.deBruijn64tab.getD j 0)) := by
    intro j hj
    rw [h1.cell gTab j (by rw [tabZ_len]; exact hj)]
    congr 2
    unfold tabZ
    simp only [List.getD_eq_getElem?_getD, List.getElem?_map]
    cases Lib.deBruijn64tab[j]? <;> simp
  exact ⟨World.block_lt_of_cell? W ⟨0, 0, none⟩ (hc 0 (by omega)), hc⟩
/-- A slice of numbers, opened. -/
theorem open_nums {v : Value} {d : DataW H} {ps : List MemPlace} {b0 : Nat} (hval : Value.okWide Tryz.prog W .any b0 50 v) (h : DataW.Trod enc Tryz.prog W 0 (fun _ => true) true 50 v d ps) :
    ∃ A xs c, v = .slice A xs.length c ∧ Ints W A xs := by
  obtain ⟨V, len, cap, rfl⟩ := okWide_slice Tryz.underlying50 hval
  obtain ⟨fuel, h⟩ := h
  have hcs : (Value.slice V len cap).cells.toList = [.slice V len cap] := by simp [Value.cells]
  rw [hcs] at h
  rcases open_ints Tryz.underlying50 Tryz.underlying3 cellsInt h with ⟨h1, _⟩ | ⟨a, l, c, zs, h1, _, hl, hm, hz, _, hx, _⟩
  · injection h1 with h1
    injection h1 with e1 e2 e3
    subst e1 e2 e3
    exact ⟨none, [], 0, rfl, Sl.nil _ _ _⟩
  · injection h1 with h1
    injection h1 with e1 e2 e3
    subst e1 e2 e3
    simp only [if_true] at hz
    have hlen : (zs.take len).length = len := by rw [List.length_take]; omega
    refine ⟨some a, zs.take len, cap, by rw [hlen], by simp, fun hn => ⟨a, rfl, ?_, ?_⟩⟩
    · rw [hlen] at hn
      exact World.block_lt_of_cell? W _ (hx 0 (by omega))
    · intro j u hu
      have hj : j < len := by
        have := (List.getElem?_eq_some_iff.1 hu).1
        rw [List.length_map, hlen] at this
        exact this
      have e : u = .int .i64 (zs.getD j 0) := by
        rw [List.getElem?_map, List.getElem?_take, if_pos hj] at hu
        simp only [List.getElem?_eq_getElem (show j < zs.length by omega), Option.map_some] at hu
        injection hu with hu
        rw [← hu]
        simp [vi, show j < zs.length by omega]
      rw [e]
      exact hx j (by omega)
/-- A slice of slices of numbers, opened. -/
theorem open_lists {v : Value} {d : DataW H} {ps : List MemPlace} {b0 : Nat} (hval : Value.okWide Tryz.prog W .any b0 25 v) (h : DataW.Trod enc Tryz.prog W 0 (fun _ => true) true 25 v d ps) :
    ∃ V ls c, v = .slice V ls.length c ∧ Lists W V ls ∧ ls.length ≤ maxLen ∧ ∀ l ∈ ls, l.length ≤ maxLen := by
  obtain ⟨V, len, cap, rfl⟩ := okWide_slice Tryz.underlying25 hval
  obtain ⟨fuel, h⟩ := h
  have hcs : (Value.slice V len cap).cells.toList = [.slice V len cap] := by simp [Value.cells]
  rw [hcs] at h
  rcases open_int_rows Tryz.underlying25 Tryz.underlying50 Tryz.underlying3 cellsRow cellsInt h with ⟨h1, _⟩ | ⟨a, l, c, A, L, C, Z, h1, _, hl, hml, _, hx⟩
  · injection h1 with h1
    injection h1 with e1 e2 e3
    subst e1 e2 e3
    exact ⟨none, [], 0, rfl, ⟨fun _ => (none, 0), Sl.nil _ _ _, fun i hi => by simp at hi⟩, by simp, by simp⟩
  · injection h1 with h1
    injection h1 with e1 e2 e3
    subst e1 e2 e3
    have hz : ∀ i, i < len → ((Z i).take (L i)).length = L i := by
      intro i hi
      obtain ⟨_, h2, _, h4, _⟩ := hx i (by omega)
      rw [List.length_take]; omega
    have hg : ∀ i, i < len → ((List.range len).map fun i => (Z i).take (L i)).getD i [] = (Z i).take (L i) := by
      intro i hi; simp [hi]
    refine ⟨some a, (List.range len).map fun i => (Z i).take (L i), cap, by simp, ⟨fun i => (A i, C i), ?_, ?_⟩, by simp; omega, ?_⟩
    · refine ⟨by simp, fun hn => ⟨a, rfl, ?_, ?_⟩⟩
      · have hn' : 0 < len := by simpa using hn
        have := (hx 0 (by omega)).1
        exact World.block_lt_of_cell? W _ this
      · intro j u hu
        have hj : j < len := by
          have := (List.getElem?_eq_some_iff.1 hu).1
          simpa using this
        have e : u = .slice (A j) (L j) (C j) := by
          rw [List.getElem?_map, List.getElem?_range (by simpa using hj)] at hu
          simp only [Option.map_some] at hu
          injection hu with hu
          rw [← hu, hg j hj, hz j hj]
        rw [e]
        exact (hx j (by omega)).1
    · intro i hi
      have hi' : i < len := by simpa using hi
      rw [hg i hi']
      obtain ⟨h1, h2, h3, h4, h5, h6, h7⟩ := hx i (by omega)
      refine ⟨by simp, fun hn => ?_⟩
      rw [hz i hi'] at hn
      have hA : ∃ a', A i = some a' := by
        cases hA : A i with
        | none => have := h6 hA; omega
        | some a' => exact ⟨a', rfl⟩
      obtain ⟨a', hA⟩ := hA
      obtain ⟨_, hc⟩ := h7 a' hA
      refine ⟨a', hA, World.block_lt_of_cell? W _ (hc 0 (by omega)), ?_⟩
      intro j u hu
      have hj : j < L i := by
        have := (List.getElem?_eq_some_iff.1 hu).1
        rw [List.length_map, hz i hi'] at this
        exact this
      have e : u = .int .i64 ((Z i).getD j 0) := by
        rw [List.getElem?_map, List.getElem?_take, if_pos hj] at hu
        simp only [List.getElem?_eq_getElem (show j < (Z i).length by omega), Option.map_some] at hu
        injection hu with hu
        rw [← hu]
        simp [vi, show j < (Z i).length by omega]
      rw [e]
      exact hc j (by omega)
    · intro l hl2
      obtain ⟨i, hi, rfl⟩ := List.mem_map.1 hl2
      have hi' : i < len := by simpa using hi
      obtain ⟨h1, h2, h3, _⟩ := hx i (by omega)
      rw [hz i hi']; omega
end
/-- The world of the witness: the settled one, the table holding what its initialiser lays. -/
noncomputable def laidWorld (os : Os) : World :=
  { World.holding Tryz.prog os ⟨#[], #[], []⟩ with heap := (World.holding Tryz.prog os ⟨#[], #[], []⟩).heap.modify 0 fun
      | .cells _ t frozen => .cells (tabZ.map fun z => Value.int .u8 z).toArray t frozen
      | o => o }
theorem own : ownKnob Tryz.prog.godebug = none := by kernel_rfl
end Go.Proofs.YtpiedheafppnhaaGreatDoor.Fr
end
section
/- Decimal texts of rational numbers: what the program accepts and what the reference accepts is the same. Plain lists of bytes. -/
namespace Go.Qn
open Go.Lib
def isD (c : UInt8) : Bool := decide (48 ≤ c.toNat) && decide (c.toNat ≤ 57)
def val (l : List UInt8) : Nat := l.foldl (fun n c => 10 * n + (c.toNat - 48)) 0
theorem val_snoc (l : List UInt8) (c : UInt8) : val (l ++ [c]) = 10 * val l + (c.toNat - 48) := by unfold val; rw [List.foldl_append]; rfl
theorem isD_iff {c : UInt8} : isD c = true ↔ 48 ≤ c.toNat ∧ c.toNat ≤ 57 := by unfold isD; simp
theorem snoc_ind {P : List UInt8 → Prop} (h0 : P []) (h1 : ∀ l c, P l → P (l ++ [c])) (l : List UInt8) : P l := by
  have : ∀ l : List UInt8, P l.reverse := by
    intro l
    induction l with
    | nil => exact h0
    | cons c l ih => rw [List.reverse_cons]; exact h1 _ _ ih
  have h := this l.reverse
  rwa [List.reverse_reverse] at h
theorem val_lt (l : List UInt8) (h : ∀ c ∈ l, isD c = true) : val l < 10 ^ l.length := by
  revert h
  refine snoc_ind (P := fun l => (∀ c ∈ l, isD c = true) → val l < 10 ^ l.length) ?_ ?_ l
  · intro _; decide
  · intro l c ih h
    have h1 := ih fun x hx => h x (by simp [hx])
    have h2 := isD_iff.1 (h c (by simp))
    rw [val_snoc, List.length_append, List.length_singleton, Nat.pow_succ]
    omega
theorem toNat_ofNat (n : Nat) (h : n < 256) : (UInt8.ofNat n).toNat = n := by simp; omega
theorem val_dec (n : Nat) : val (decDigits n) = n := by
  induction n using Nat.strongRecOn with
  | _ n ih =>
    by_cases h : n < 10
    · rw [decDigits, dif_pos h]
      show 10 * 0 + ((UInt8.ofNat (48 + n)).toNat - 48) = n
      rw [toNat_ofNat _ (by omega)]; omega
    · rw [decDigits, dif_neg h, val_snoc, ih (n / 10) (by omega), toNat_ofNat _ (by omega)]; omega
theorem dec_allD (n : Nat) : ∀ c ∈ decDigits n, isD c = true := by
  induction n using Nat.strongRecOn with
  | _ n ih =>
    intro c hc
    by_cases h : n < 10
    · rw [decDigits, dif_pos h] at hc
      simp only [List.mem_cons, List.not_mem_nil, or_false] at hc
      subst hc
      rw [isD_iff, toNat_ofNat _ (by omega)]; omega
    · rw [decDigits, dif_neg h] at hc
      rcases List.mem_append.1 hc with hc | hc
      · exact ih (n / 10) (by omega) c hc
      · simp only [List.mem_cons, List.not_mem_nil, or_false] at hc
        subst hc
        rw [isD_iff, toNat_ofNat _ (by omega)]; omega
theorem dec_ne (n : Nat) : decDigits n ≠ [] := by
  rw [decDigits]; split <;> simp
theorem dec_head (n : Nat) (h0 : n ≠ 0) : (decDigits n).head? ≠ some 48 := by
  induction n using Nat.strongRecOn with
  | _ n ih =>
    by_cases h : n < 10
    · rw [decDigits, dif_pos h]
      simp only [List.head?_cons, ne_eq, Option.some.injEq]
      intro e
      have := congrArg UInt8.toNat e
      rw [toNat_ofNat _ (by omega)] at this
      have e2 : (48 : UInt8).toNat = 48 := rfl
      omega
    · rw [decDigits, dif_neg h]
      have := ih (n / 10) (by omega) (by omega)
      rw [List.head?_append]
      cases hh : (decDigits (n / 10)).head? with
      | none => exact absurd (List.head?_eq_none_iff.1 hh) (dec_ne _)
      | some x => rw [hh] at this; simpa using this
theorem dec_zero : decDigits 0 = [48] := by rw [decDigits, dif_pos (by omega)]; rfl
theorem dec_one : decDigits 1 = [49] := by rw [decDigits, dif_pos (by omega)]; rfl
theorem dec_inj {m n : Nat} (h : decDigits m = decDigits n) : m = n := by rw [← val_dec m, h, val_dec]
theorem dec_val (l : List UInt8) (h : ∀ c ∈ l, isD c = true) (hn : l ≠ []) (hz : l.head? ≠ some 48) : decDigits (val l) = l ∧ val l ≠ 0 := by
  revert h hn hz
  refine snoc_ind (P := fun l => (∀ c ∈ l, isD c = true) → l ≠ [] → l.head? ≠ some 48 → decDigits (val l) = l ∧ val l ≠ 0) ?_ ?_ l
  · intro _ h; exact absurd rfl h
  · intro l c ih h _ hz
    have h2 := isD_iff.1 (h c (by simp))
    rw [val_snoc]
    by_cases hl : l = []
    · subst hl
      have hc : c.toNat ≠ 48 := fun e => hz (by
        have : c = 48 := UInt8.toNat_inj.1 (by rw [e]; rfl)
        simp [this])
      refine ⟨?_, by omega⟩
      show decDigits (10 * 0 + (c.toNat - 48)) = [c]
      rw [decDigits, dif_pos (by omega)]
      simp only [List.cons.injEq, and_true]
      apply UInt8.toNat_inj.1
      rw [toNat_ofNat _ (by omega)]; omega
    · have hz' : l.head? ≠ some 48 := by
        rw [List.head?_append] at hz
        cases hh : l.head? with
        | none => simp
        | some x => rw [hh] at hz; simpa using hz
      obtain ⟨h3, h4⟩ := ih (fun x hx => h x (by simp [hx])) hl hz'
      refine ⟨?_, by omega⟩
      rw [decDigits, dif_neg (by omega), show (10 * val l + (c.toNat - 48)) / 10 = val l by omega, h3]
      congr 1
      simp only [List.cons.injEq, and_true]
      apply UInt8.toNat_inj.1
      rw [toNat_ofNat _ (by omega)]; omega
/-- The text of a number in lowest terms. -/
def text (neg : Bool) (n d : Nat) : List UInt8 := (if neg = true then [45] else []) ++ (decDigits n ++ if d = 1 then [] else 47 :: decDigits d)
def Canon (neg : Bool) (n d : Nat) : Prop := 0 < d ∧ Nat.gcd n d = 1 ∧ (n = 0 → neg = false)
def cut (l : List UInt8) : Bool × List UInt8 := if l.head? = some 45 then (true, l.tail) else (false, l)
/-- What the program reads. -/
def rdTail (neg : Bool) (num rest : List UInt8) : Option (Bool × Nat × Nat) :=
  match rest with
  | [] => some (neg, val num, 1)
  | c :: t => if c = 47 ∧ t.dropWhile isD = [] ∧ t.takeWhile isD ≠ [] ∧ (t.takeWhile isD).head? ≠ some 48 ∧ t.takeWhile isD ≠ [49] ∧ Nat.gcd (val num) (val (t.takeWhile isD)) = 1 then some (neg, val num, val (t.takeWhile isD)) else none
def rdBody (neg : Bool) (r : List UInt8) : Option (Bool × Nat × Nat) :=
  if r.takeWhile isD = [48] then (if neg = false ∧ r.dropWhile isD = [] then some (false, 0, 1) else none)
  else if r.takeWhile isD = [] ∨ (r.takeWhile isD).head? = some 48 then none
  else rdTail neg (r.takeWhile isD) (r.dropWhile isD)
def rd (l : List UInt8) : Option (Bool × Nat × Nat) := rdBody (cut l).1 (cut l).2
theorem tw_app {p : UInt8 → Bool} (a b : List UInt8) (ha : ∀ c ∈ a, p c = true) (hb : b = [] ∨ ∃ c t, b = c :: t ∧ p c = false) : (a ++ b).takeWhile p = a ∧ (a ++ b).dropWhile p = b := by
  induction a with
  | nil =>
    rcases hb with rfl | ⟨c, t, rfl, hc⟩
    · simp
    · simp [hc]
  | cons x a ih =>
    have := ih fun c hc => ha c (by simp [hc])
    simp [ha x (by simp), this]
theorem tw_all {p : UInt8 → Bool} (l : List UInt8) : ∀ c ∈ l.takeWhile p, p c = true := by
  exact List.all_eq_true.1 List.all_takeWhile
theorem cut_eq (l : List UInt8) : l = (if (cut l).1 = true then [45] else []) ++ (cut l).2 := by
  unfold cut
  cases l with
  | nil => simp
  | cons c t => by_cases h : c = 45 <;> simp [h]
theorem not_isD_47 : isD 47 = false := by decide
theorem not_isD_45 : isD 45 = false := by decide
theorem cut_text (neg : Bool) (n d : Nat) : cut (text neg n d) = (neg, decDigits n ++ if d = 1 then [] else 47 :: decDigits d) := by
  unfold cut text
  cases neg with
  | true => simp
  | false =>
    have h : ((if false = true then ([45] : List UInt8) else []) ++ (decDigits n ++ if d = 1 then [] else 47 :: decDigits d)).head? ≠ some 45 := by
      simp only [Bool.false_eq_true, if_false, List.nil_append, List.head?_append]
      cases hh : (decDigits n).head? with
      | none => exact absurd (List.head?_eq_none_iff.1 hh) (dec_ne _)
      | some x =>
        have hx : x ∈ decDigits n := List.mem_of_mem_head? (by rw [hh]; rfl)
        have := dec_allD n x hx
        simp only [Option.some_or, ne_eq, Option.some.injEq]
        rintro rfl
        rw [not_isD_45] at this
        exact Bool.noConfusion this
    rw [if_neg h]; simp
theorem tail_form (d : Nat) : (if d = 1 then ([] : List UInt8) else 47 :: decDigits d) = [] ∨ ∃ c t, (if d = 1 then ([] : List UInt8) else 47 :: decDigits d) = c :: t ∧ isD c = false := by
  by_cases h : d = 1
  · left; simp [h]
  · right; exact ⟨47, decDigits d, by simp [h], not_isD_47⟩
theorem rd_text {neg : Bool} {n d : Nat} (h : Canon neg n d) : rd (text neg n d) = some (neg, n, d) := by
  obtain ⟨hd, hg, hn⟩ := h
  unfold rd
  rw [cut_text]
  obtain ⟨t1, t2⟩ := tw_app (decDigits n) _ (dec_allD n) (tail_form d)
  simp only [rdBody, t1, t2]
  by_cases h0 : n = 0
  · subst h0
    rw [dec_zero, if_pos rfl, hn rfl]
    have : d = 1 := by simpa using hg
    simp [this]
  · have hh := dec_head n h0
    rw [if_neg (fun e => hh (by rw [e]; rfl)), if_neg (fun e => by rcases e with e | e; exact dec_ne n e; exact hh e)]
    by_cases h1 : d = 1
    · simp [rdTail, h1, val_dec]
    · simp only [rdTail, if_neg h1]
      obtain ⟨s1, s2⟩ := tw_app (p := isD) (decDigits d) [] (dec_allD d) (.inl rfl)
      rw [List.append_nil] at s1 s2
      rw [s1, s2, if_pos ⟨by trivial, by trivial, dec_ne d, dec_head d (by omega), fun e => h1 (dec_inj (e.trans dec_one.symm)), by rw [val_dec, val_dec]; exact hg⟩, val_dec, val_dec]
theorem rd_some {l : List UInt8} {neg : Bool} {n d : Nat} (h : rd l = some (neg, n, d)) : Canon neg n d ∧ l = text neg n d := by
  unfold rd rdBody at h
  have hl := cut_eq l
  generalize (cut l).1 = b at h hl
  generalize (cut l).2 = r at h hl
  subst hl
  have hr := (List.takeWhile_append_dropWhile (p := isD) (l := r)).symm
  have hD := tw_all (p := isD) r
  generalize r.takeWhile isD = num at h hr hD
  generalize r.dropWhile isD = rest at h hr
  subst hr
  by_cases e0 : num = [48]
  · rw [if_pos e0] at h
    by_cases e1 : b = false ∧ rest = []
    · rw [if_pos e1] at h
      obtain ⟨rfl, rfl⟩ := e1
      injection h with h
      injection h with h1 h2
      injection h2 with h2 h3
      subst h1 h2 h3 e0
      exact ⟨⟨by omega, by simp, fun _ => rfl⟩, by unfold text; rw [dec_zero]; rfl⟩
    · rw [if_neg e1] at h; cases h
  · rw [if_neg e0] at h
    by_cases e1 : num = [] ∨ num.head? = some 48
    · rw [if_pos e1] at h; cases h
    · rw [if_neg e1] at h
      have hv := dec_val num hD (fun e => e1 (.inl e)) (fun e => e1 (.inr e))
      cases rest with
      | nil =>
        simp only [rdTail, Option.some.injEq, Prod.mk.injEq] at h
        obtain ⟨rfl, rfl, rfl⟩ := h
        exact ⟨⟨by omega, by simp, fun e => absurd e hv.2⟩, by unfold text; rw [hv.1]; simp⟩
      | cons c t =>
        simp only [rdTail] at h
        split at h
        · rename_i hc
          obtain ⟨rfl, c2, c3, c4, c5, c6⟩ := hc
          simp only [Option.some.injEq, Prod.mk.injEq] at h
          obtain ⟨rfl, rfl, rfl⟩ := h
          have ht := (List.takeWhile_append_dropWhile (p := isD) (l := t)).symm
          have hD2 := tw_all (p := isD) t
          rw [c2, List.append_nil] at ht
          rw [← ht] at c3 c4 c5 c6 hD2 ⊢
          have hv2 := dec_val t hD2 c3 c4
          have h1 : val t ≠ 1 := fun e => c5 (by rw [← hv2.1, e, dec_one])
          refine ⟨⟨by have := hv2.2; omega, c6, fun e => absurd e hv.2⟩, ?_⟩
          unfold text
          rw [if_neg h1, hv.1, hv2.1]
        · cases h
theorem rd_iff {l : List UInt8} {neg : Bool} {n d : Nat} : rd l = some (neg, n, d) ↔ Canon neg n d ∧ l = text neg n d :=
  ⟨rd_some, fun h => h.2 ▸ rd_text h.1⟩
/-! The reference: cut at the first '/', read both parts, divide by the greatest common divisor, write, compare. -/
def ne47 (c : UInt8) : Bool := c != 47
def numOk (l : List UInt8) : Bool := l.all isD && !l.isEmpty
theorem numOk_iff {l : List UInt8} : numOk l = true ↔ (∀ c ∈ l, isD c = true) ∧ l ≠ [] := by unfold numOk; simp
/-- What the reference has read before it compares: nothing, or a number in lowest terms. -/
def refN (l : List UInt8) : Option (Bool × Nat × Nat) :=
  let a := (cut l).2.takeWhile ne47
  let r := (cut l).2.dropWhile ne47
  if numOk a = true then
    match r with
    | [] => some ((cut l).1 && decide (val a ≠ 0), val a, 1)
    | _ :: b => if numOk b = true ∧ val b ≠ 0 then some ((cut l).1 && decide (val a ≠ 0), val a / Nat.gcd (val a) (val b), val b / Nat.gcd (val a) (val b)) else none
  else none
theorem refN_canon {l : List UInt8} {neg : Bool} {n d : Nat} (h : refN l = some (neg, n, d)) : Canon neg n d := by
  unfold refN at h
  simp only at h
  split at h
  · split at h
    · simp only [Option.some.injEq, Prod.mk.injEq] at h
      obtain ⟨rfl, rfl, rfl⟩ := h
      exact ⟨by omega, by simp, fun e => by simp [e]⟩
    · rename_i b _
      split at h
      · rename_i hb
        simp only [Option.some.injEq, Prod.mk.injEq] at h
        obtain ⟨rfl, rfl, rfl⟩ := h
        generalize val ((cut l).2.takeWhile ne47) = x at *
        have hy : 0 < val b := Nat.pos_of_ne_zero hb.2
        generalize val b = y at *
        have hg : 0 < Nat.gcd x y := Nat.gcd_pos_of_pos_right _ hy
        refine ⟨Nat.div_pos (Nat.gcd_le_right _ hy) hg, ?_, fun e => ?_⟩
        · rw [Nat.gcd_div (Nat.gcd_dvd_left _ _) (Nat.gcd_dvd_right _ _), Nat.div_self hg]
        · have : x = 0 := by
            rcases Nat.eq_zero_or_pos x with h0 | h0
            · exact h0
            · have := Nat.div_pos (Nat.gcd_le_left y h0) hg
              omega
          simp [this]
      · cases h
  · cases h
theorem ne47_of_isD {c : UInt8} (h : isD c = true) : ne47 c = true := by
  unfold ne47
  rw [isD_iff] at h
  simp only [bne_iff_ne, ne_eq]
  rintro rfl
  have : (47 : UInt8).toNat = 47 := rfl
  omega
theorem refN_text {neg : Bool} {n d : Nat} (h : Canon neg n d) : refN (text neg n d) = some (neg, n, d) := by
  obtain ⟨hd, hg, hn⟩ := h
  unfold refN
  rw [cut_text]
  have tf : (if d = 1 then ([] : List UInt8) else 47 :: decDigits d) = [] ∨ ∃ c t, (if d = 1 then ([] : List UInt8) else 47 :: decDigits d) = c :: t ∧ ne47 c = false := by
    by_cases h : d = 1
    · left; simp [h]
    · right; exact ⟨47, decDigits d, by simp [h], by decide⟩
  obtain ⟨t1, t2⟩ := tw_app (p := ne47) (decDigits n) _ (fun c hc => ne47_of_isD (dec_allD n c hc)) tf
  simp only [t1, t2]
  have ok : ∀ m, numOk (decDigits m) = true := fun m => numOk_iff.2 ⟨dec_allD m, dec_ne m⟩
  have hnn : (neg && decide (n ≠ 0)) = neg := by
    by_cases h0 : n = 0
    · rw [hn h0]; rfl
    · simp [h0]
  rw [if_pos (ok n), val_dec]
  by_cases h1 : d = 1
  · simp only [h1, if_true, hnn]
  · simp only [if_neg h1]
    rw [if_pos ⟨ok d, by rw [val_dec]; omega⟩, val_dec, hg, hnn]
    simp
/-- The reference accepts what the program accepts, and reads the same number. -/
theorem ref_rd {l : List UInt8} {neg : Bool} {n d : Nat} : rd l = some (neg, n, d) ↔ refN l = some (neg, n, d) ∧ text neg n d = l := by
  rw [rd_iff]
  constructor
  · rintro ⟨h1, h2⟩
    exact ⟨h2 ▸ refN_text h1, h2.symm⟩
  · rintro ⟨h1, h2⟩
    exact ⟨refN_canon h1, h2.symm⟩
theorem rd_none_of {l : List UInt8} (h : refN l = none) : rd l = none := by
  cases hr : rd l with
  | none => rfl
  | some q =>
    obtain ⟨a, b, c⟩ := q
    rw [(ref_rd.1 hr).1] at h; cases h
theorem rd_none_text {l : List UInt8} {neg : Bool} {n d : Nat} (h : refN l = some (neg, n, d)) (ht : text neg n d ≠ l) : rd l = none := by
  cases hr : rd l with
  | none => rfl
  | some q =>
    obtain ⟨a, b, c⟩ := q
    have := ref_rd.1 hr
    rw [h] at this
    obtain ⟨h1, h2⟩ := this
    injection h1 with h1
    injection h1 with e1 e2
    injection e2 with e2 e3
    subst e1 e2 e3
    exact absurd h2 ht
/-! The parts of a text. -/
def SplitIs (l : List UInt8) (b : Bool) (num den : List UInt8) (ok : Bool) : Prop :=
  num.length ≤ l.length ∧ den.length ≤ l.length ∧ (ok = false → rd l = none) ∧
  (ok = true → numOk num = true ∧ (den = [] → rd l = some (b, val num, 1)) ∧ (den ≠ [] → numOk den = true ∧ val num ≠ 0 ∧ val den ≠ 0 ∧ rd l = if Nat.gcd (val num) (val den) = 1 then some (b, val num, val den) else none))
theorem cut_len (l : List UInt8) : (cut l).2.length ≤ l.length := by
  unfold cut; split
  · simp
  · exact Nat.le_refl _
theorem tw_len (p : UInt8 → Bool) (l : List UInt8) : (l.takeWhile p).length ≤ l.length := by
  have h := congrArg List.length (List.takeWhile_append_dropWhile (p := p) (l := l))
  rw [List.length_append] at h; omega
theorem dw_len (p : UInt8 → Bool) (l : List UInt8) : (l.dropWhile p).length ≤ l.length := by
  have h := congrArg List.length (List.takeWhile_append_dropWhile (p := p) (l := l))
  rw [List.length_append] at h; omega
section
variable {l r : List UInt8} {b : Bool} (hc : cut l = (b, r))
include hc
theorem spl_len : (r.takeWhile isD).length ≤ l.length ∧ r.length ≤ l.length := by
  have h1 := cut_len l
  have h2 := tw_len isD r
  rw [hc] at h1
  exact ⟨Nat.le_trans h2 h1, h1⟩
theorem rd_of : rd l = rdBody b r := by unfold rd; rw [hc]
theorem spl_zero (h : r.takeWhile isD = [48]) : SplitIs l b (r.takeWhile isD) [] (!b && (r.dropWhile isD).isEmpty) := by
  refine ⟨(spl_len hc).1, by simp, fun e => ?_, fun e => ⟨by rw [h]; rfl, fun _ => ?_, fun e => absurd rfl e⟩⟩
  · rw [rd_of hc, rdBody, if_pos h, if_neg]
    rintro ⟨h1, h2⟩
    rw [h1, h2] at e; cases e
  · rw [rd_of hc, rdBody, if_pos h, h]
    cases b with
    | true => cases e
    | false =>
      have : r.dropWhile isD = [] := by simpa using e
      rw [if_pos ⟨rfl, this⟩]; rfl
theorem spl_bad (h : r.takeWhile isD ≠ [48]) (h2 : r.takeWhile isD = [] ∨ (r.takeWhile isD).head? = some 48) : SplitIs l b (r.takeWhile isD) [] false :=
  ⟨(spl_len hc).1, by simp, fun _ => by rw [rd_of hc, rdBody, if_neg h, if_pos h2], fun e => by cases e⟩
theorem spl_whole (h : r.takeWhile isD ≠ [48]) (h2 : ¬ (r.takeWhile isD = [] ∨ (r.takeWhile isD).head? = some 48)) (h3 : r.dropWhile isD = []) : SplitIs l b (r.takeWhile isD) [] true :=
  ⟨(spl_len hc).1, by simp, fun e => (by cases e), fun _ => ⟨numOk_iff.2 ⟨tw_all _, fun e => h2 (.inl e)⟩, fun _ => by rw [rd_of hc, rdBody, if_neg h, if_neg h2, h3]; rfl, fun e => absurd rfl e⟩⟩
theorem spl_slash (h : r.takeWhile isD ≠ [48]) (h2 : ¬ (r.takeWhile isD = [] ∨ (r.takeWhile isD).head? = some 48)) {c : UInt8} {t : List UInt8} (h3 : r.dropWhile isD = c :: t) (h4 : c ≠ 47) : SplitIs l b (r.takeWhile isD) [] false :=
  ⟨(spl_len hc).1, by simp, fun _ => by rw [rd_of hc, rdBody, if_neg h, if_neg h2, h3, rdTail, if_neg (fun e => h4 e.1)], fun e => by cases e⟩
theorem spl_den (h : r.takeWhile isD ≠ [48]) (h2 : ¬ (r.takeWhile isD = [] ∨ (r.takeWhile isD).head? = some 48)) {t : List UInt8} (h3 : r.dropWhile isD = 47 :: t) {ok : Bool}
    (hok : ok = true ↔ t.dropWhile isD = [] ∧ t.takeWhile isD ≠ [] ∧ (t.takeWhile isD).head? ≠ some 48 ∧ t.takeWhile isD ≠ [49]) : SplitIs l b (r.takeWhile isD) (t.takeWhile isD) ok := by
  refine ⟨(spl_len hc).1, ?_, fun e => ?_, fun e => ⟨numOk_iff.2 ⟨tw_all _, fun e => h2 (.inl e)⟩, fun e2 => absurd e2 (hok.1 e).2.1, fun _ => ⟨numOk_iff.2 ⟨tw_all _, (hok.1 e).2.1⟩, (dec_val _ (tw_all _) (fun e => h2 (.inl e)) (fun e => h2 (.inr e))).2, (dec_val _ (tw_all _) (hok.1 e).2.1 (hok.1 e).2.2.1).2, ?_⟩⟩⟩
  · have a1 := tw_len isD t
    have a2 := dw_len isD r
    have a3 := (spl_len hc).2
    rw [h3, List.length_cons] at a2
    omega
  · rw [rd_of hc, rdBody, if_neg h, if_neg h2, h3, rdTail, if_neg]
    rintro ⟨_, a, b, c, d, _⟩
    rw [hok.2 ⟨a, b, c, d⟩] at e; cases e
  · obtain ⟨a, b, c, d⟩ := hok.1 e
    rw [rd_of hc, rdBody, if_neg h, if_neg h2, h3, rdTail]
    by_cases g : Nat.gcd (val (r.takeWhile isD)) (val (t.takeWhile isD)) = 1
    · rw [if_pos ⟨rfl, a, b, c, d, g⟩, if_pos g]
    · rw [if_neg (fun h => g h.2.2.2.2.2), if_neg g]
end
end Go.Qn
end
section
/- Monomials and polynomials as plain lists: their order, when they are valid. -/
namespace Go.Mo
open Go.Qn
/-- The order of two exponent vectors of one degree, decided below position k. -/
def ordT (a b : List Int) : Nat → Int
  | 0 => 0
  | k + 1 => if a.getD k 0 = b.getD k 0 then ordT a b k else if b.getD k 0 < a.getD k 0 then -1 else 1
def ord (a b : List Int) : Int := if a.sum = b.sum then ordT a b a.length else if a.sum < b.sum then -1 else 1
def vldM (m : List Int) : Bool := decide (m.length ≤ 6 ∧ (∀ e ∈ m, 0 ≤ e) ∧ m.sum ≤ 24)
def degM (m : List Int) : Int := if vldM m = true then m.sum else -1
theorem sum_nonneg : ∀ (l : List Int), (∀ e ∈ l, 0 ≤ e) → 0 ≤ l.sum
  | [], _ => by simp
  | x :: l, h => by
    have h1 := h x (by simp)
    have h2 := sum_nonneg l fun e he => h e (by simp [he])
    rw [List.sum_cons]; omega
theorem sum_take_le (l : List Int) (k : Nat) (h : ∀ e ∈ l, 0 ≤ e) : (l.take k).sum ≤ l.sum := by
  have h1 : l.sum = (l.take k).sum + (l.drop k).sum := by rw [← List.sum_append, List.take_append_drop]
  have h2 := sum_nonneg (l.drop k) fun e he => h e (List.mem_of_mem_drop he)
  omega
theorem sum_take_succ (l : List Int) (k : Nat) (hk : k < l.length) : (l.take (k + 1)).sum = (l.take k).sum + l[k] := by
  rw [List.take_succ_eq_append_getElem hk, List.sum_append, List.sum_singleton]
theorem vldM_iff {m : List Int} : vldM m = true ↔ m.length ≤ 6 ∧ (∀ e ∈ m, 0 ≤ e) ∧ m.sum ≤ 24 := by unfold vldM; simp
theorem vldM_bad {m : List Int} {k : Nat} (hk : k < m.length) (h : m[k] < 0 ∨ 24 - (m.take k).sum < m[k]) : vldM m = false := by
  apply eq_false_of_ne_true
  rw [vldM_iff]
  rintro ⟨_, h1, h2⟩
  rcases h with h | h
  · have := h1 m[k] (List.getElem_mem _); omega
  · have h3 := sum_take_le m (k + 1) h1
    rw [sum_take_succ m k hk] at h3
    omega
theorem degM_ge {m : List Int} : decide (0 ≤ degM m) = vldM m := by
  unfold degM
  cases h : vldM m with
  | true =>
    have := sum_nonneg m (vldM_iff.1 h).2.1
    simp; exact this
  | false => simp
theorem sum_bound (l : List Int) (k : Nat) (h : ∀ e ∈ l, 0 ≤ e ∧ e ≤ 1048576) : 0 ≤ (l.take k).sum ∧ (l.take k).sum ≤ 1048576 * (l.take k).length := by
  have : ∀ l : List Int, (∀ e ∈ l, 0 ≤ e ∧ e ≤ 1048576) → 0 ≤ l.sum ∧ l.sum ≤ 1048576 * l.length := by
    intro l
    induction l with
    | nil => intro _; simp
    | cons x l ih =>
      intro h
      have h1 := h x (by simp)
      have h2 := ih fun e he => h e (by simp [he])
      rw [List.sum_cons, List.length_cons]; omega
  exact this _ fun e he => h e (List.mem_of_mem_take he)
/-! Polynomials: the number of variables, and the terms as a text and exponents. -/
abbrev Term := ByteArray × List Int
def low20 (e : List Int) : Bool := e.all fun x => decide (0 ≤ x) && decide (x ≤ 1048576)
theorem low20_iff {e : List Int} : low20 e = true ↔ ∀ x ∈ e, 0 ≤ x ∧ x ≤ 1048576 := by unfold low20; simp
def coefOk (s : ByteArray) : Bool := match rd s.data.toList with
  | some (_, n, _) => decide (n ≠ 0)
  | none => false
def termOk (v : Int) (t : Term) : Bool := coefOk t.1 && decide ((t.2.length : Int) = v) && low20 t.2
/-- The first k terms are well formed and descend. -/
def wfTo (v : Int) (ts : List Term) (k : Nat) : Prop := ∀ i, i < k → (h : i < ts.length) → termOk v ts[i] = true ∧ (0 < i → 0 < ord (ts.getD (i - 1) default).2 ts[i].2)
def wfP (v : Int) (ts : List Term) : Prop := 0 ≤ v ∧ v ≤ 6 ∧ wfTo v ts ts.length
/-- A polynomial is valid. -/
def VldP (v : Int) (ts : List Term) : Prop := ts.length ≤ 4096 ∧ wfP v ts ∧ ∀ h : 0 < ts.length, vldM ts[0].2 = true
theorem wfTo_zero (v : Int) (ts : List Term) : wfTo v ts 0 := fun i h => absurd h (by omega)
theorem wfTo_succ {v : Int} {ts : List Term} {k : Nat} (h : wfTo v ts k) (hk : k < ts.length) (h1 : termOk v ts[k] = true) (h2 : 0 < k → 0 < ord (ts.getD (k - 1) default).2 ts[k].2) : wfTo v ts (k + 1) := by
  intro i hi hl
  by_cases e : i = k
  · subst e; exact ⟨h1, h2⟩
  · exact h i (by omega) hl
theorem termOk_iff {v : Int} {t : Term} : termOk v t = true ↔ coefOk t.1 = true ∧ (t.2.length : Int) = v ∧ low20 t.2 = true := by unfold termOk; simp [and_assoc]
end Go.Mo
end
section
/- Polynomials in memory: a slice of terms, each a text and a slice of exponents. -/
namespace Go.Proofs.Tg
open Go.RowKit Go.Mo
theorem flat_get {α : Type} (f : α → List Value) (sz : Nat) (h : ∀ x, (f x).length = sz) : ∀ (ls : List α) (i j : Nat) (hi : i < ls.length), j < sz → (ls.flatMap f)[i * sz + j]? = (f ls[i])[j]?
  | x :: ls, 0, j, _, hj => by
    rw [List.flatMap_cons, Nat.zero_mul, Nat.zero_add, List.getElem?_append_left (by rw [h]; exact hj)]; rfl
  | x :: ls, i + 1, j, hi, hj => by
    rw [List.flatMap_cons, List.getElem?_append_right (by rw [h, Nat.succ_mul]; omega), h, show (i + 1) * sz + j - sz = i * sz + j by rw [Nat.succ_mul]; omega]
    rw [flat_get f sz h ls i j (by simpa using hi) hj]; rfl
theorem flat_len {α : Type} (f : α → List Value) (sz : Nat) (h : ∀ x, (f x).length = sz) : ∀ ls : List α, (ls.flatMap f).length = ls.length * sz
  | [] => by simp
  | x :: ls => by rw [List.flatMap_cons, List.length_append, h, flat_len f sz h ls, List.length_cons, Nat.succ_mul]; omega
/-- A term in memory. -/
structure TV where
  coef : ByteArray
  adr : Option Addr
  cap : Nat
  exps : List Int
def TV.cells (t : TV) : List Value := [.string t.coef, .slice t.adr t.exps.length t.cap]
def TV.pl (t : TV) : Term := (t.coef, t.exps)
/-- The slice at T holds the terms. -/
structure TermsAt (w : World) (T : Option Addr) (tv : List TV) : Prop where
  sl : Sl w T tv.length 2 (tv.flatMap TV.cells)
  ints : ∀ t ∈ tv, Ints w t.adr t.exps
theorem TermsAt.keep {w w' : World} {T : Option Addr} {tv : List TV} (h : TermsAt w T tv) (hb : Below w.heap.size w w') : TermsAt w' T tv :=
  ⟨h.sl.keep hb, fun t ht => (h.ints t ht).keep hb⟩
theorem off_one (a : Addr) (k : Nat) : (⟨(a.add k).block, (a.add k).off + 1, none⟩ : Addr) = a.add (k + 1) := by
  rw [← add_add]; simp [Addr.add]
theorem TermsAt.at {w : World} {T : Option Addr} {tv : List TV} (h : TermsAt w T tv) {k : Nat} (hk : k < tv.length) :
    ∃ ad, T = some ad ∧ w.cell? (ad.add (k * 2)) = some (.string tv[k].coef) ∧ w.cell? ⟨(ad.add (k * 2)).block, (ad.add (k * 2)).off + 1, none⟩ = some (.slice tv[k].adr tv[k].exps.length tv[k].cap) ∧ Ints w tv[k].adr tv[k].exps := by
  obtain ⟨ad, rfl, _, ha⟩ := h.sl.lies (by omega)
  refine ⟨ad, rfl, ha _ _ ?_, (congrArg w.cell? (off_one ad (k * 2))).trans (ha _ _ ?_), h.ints _ (List.getElem_mem _)⟩
  · have := flat_get TV.cells 2 (fun _ => rfl) tv k 0 hk (by omega)
    rw [Nat.add_zero] at this
    exact this
  · exact flat_get TV.cells 2 (fun _ => rfl) tv k 1 hk (by omega)
theorem TermsAt.nil (w : World) (T : Option Addr) : TermsAt w T [] := ⟨Sl.nil _ _ _, fun _ h => by cases h⟩
/-- A polynomial in memory. -/
structure PVal where
  vars : Int
  adr : Option Addr
  cap : Nat
  tv : List TV
def PVal.cells (p : PVal) : List Value := [.int .i64 p.vars, .slice p.adr p.tv.length p.cap]
structure PolysAt (w : World) (L : Option Addr) (ps : List PVal) : Prop where
  sl : Sl w L ps.length 2 (ps.flatMap PVal.cells)
  tms : ∀ p ∈ ps, TermsAt w p.adr p.tv
theorem PolysAt.keep {w w' : World} {L : Option Addr} {ps : List PVal} (h : PolysAt w L ps) (hb : Below w.heap.size w w') : PolysAt w' L ps :=
  ⟨h.sl.keep hb, fun p hp => (h.tms p hp).keep hb⟩
theorem PolysAt.at {w : World} {L : Option Addr} {ps : List PVal} (h : PolysAt w L ps) {k : Nat} (hk : k < ps.length) :
    ∃ ad, L = some ad ∧ w.cell? (ad.add (k * 2)) = some (.int .i64 ps[k].vars) ∧ w.cell? ⟨(ad.add (k * 2)).block, (ad.add (k * 2)).off + 1, none⟩ = some (.slice ps[k].adr ps[k].tv.length ps[k].cap) ∧ TermsAt w ps[k].adr ps[k].tv := by
  obtain ⟨ad, rfl, _, ha⟩ := h.sl.lies (by omega)
  refine ⟨ad, rfl, ha _ _ ?_, (congrArg w.cell? (off_one ad (k * 2))).trans (ha _ _ ?_), h.tms _ (List.getElem_mem _)⟩
  · have := flat_get PVal.cells 2 (fun _ => rfl) ps k 0 hk (by omega)
    rw [Nat.add_zero] at this
    exact this
  · exact flat_get PVal.cells 2 (fun _ => rfl) ps k 1 hk (by omega)
/-- A polynomial's plain content. -/
def PVal.ok (p : PVal) : Prop := VldP p.vars (p.tv.map TV.pl)
/-- Few terms, short texts. -/
def PVal.small (p : PVal) : Prop := p.tv.length ≤ 4096 ∧ ∀ t ∈ p.tv, t.coef.size ≤ 19 ∧ t.exps.length ≤ 64
end Go.Proofs.Tg
end
section
/- The frame: slices of polynomials, opened. -/
namespace Go.Proofs.YtpiedheafppnhaaGreatDoor.Fr
open Go.ChangeShapes Go.WideShapes Go.ChangeAt Go.RowKit Go.Deep Go.Proofs.Tg Go.Gr Go.Mo
set_option maxRecDepth 100000
section
variable {H : Type} {enc : TypeId × Value → H} {W : World}
theorem ints_of {fuel : Nat} {v : Value} {x : DataW H × List MemPlace} (h : DataW.trod enc Tryz.prog W 0 (fun _ => true) true fuel 50 [v] = some x) : ∃ A xs c, v = .slice A xs.length c ∧ Ints W A xs := by
  rcases open_ints Tryz.underlying50 Tryz.underlying3 cellsInt h with ⟨h1, _⟩ | ⟨a, l, c, zs, h1, _, hl, hm, hz, _, hx, _⟩
  · injection h1 with h1
    exact ⟨none, [], 0, h1, Sl.nil _ _ _⟩
  · injection h1 with h1
    simp only [if_true] at hz
    have hlen : (zs.take l).length = l := by rw [List.length_take]; omega
    refine ⟨some a, zs.take l, c, by rw [hlen, h1], by simp, fun hn => ⟨a, rfl, ?_, ?_⟩⟩
    · rw [hlen] at hn
      exact World.block_lt_of_cell? W _ (hx 0 (by omega))
    · intro j u hu
      have hj : j < l := by
        have := (List.getElem?_eq_some_iff.1 hu).1
        rw [List.length_map, hlen] at this
        exact this
      have e : u = .int .i64 (zs.getD j 0) := by
        rw [List.getElem?_map, List.getElem?_take, if_pos hj] at hu
        simp only [List.getElem?_eq_getElem (show j < zs.length by omega), Option.map_some] at hu
        injection hu with hu
        rw [← hu]
        simp [vi, show j < zs.length by omega]
      rw [e]
      exact hx j (by omega)
/-- Cells two by two. -/
theorem sl_two {α : Type} (f : α → List Value) (hf : ∀ x, (f x).length = 2) (q : Nat → α) (a : Addr) (n : Nat) (h : ∀ i, i < n → ∃ v0 v1, f (q i) = [v0, v1] ∧ W.cell? (a.add (i * 2)) = some v0 ∧ W.cell? (a.add (i * 2 + 1)) = some v1) :
    Sl W (some a) n 2 (((List.range n).map q).flatMap f) := by
  have hlen : (((List.range n).map q).flatMap f).length = n * 2 := by
    have : ∀ l : List α, (l.flatMap f).length = l.length * 2 := by
      intro l
      induction l with
      | nil => rfl
      | cons x l ih => rw [List.flatMap_cons, List.length_append, ih, hf, List.length_cons]; omega
    rw [this]; simp
  refine ⟨hlen, fun hn => ⟨a, rfl, ?_, ?_⟩⟩
  · obtain ⟨_, _, _, h1, _⟩ := h 0 hn
    exact World.block_lt_of_cell? W (a.add (0 * 2)) h1
  · intro j u hu
    have hj : j < n * 2 := by rw [← hlen]; exact (List.getElem?_eq_some_iff.1 hu).1
    obtain ⟨v0, v1, h0, h1, h2⟩ := h (j / 2) (by omega)
    have hg := flat_get f 2 hf ((List.range n).map q) (j / 2) (j % 2) (by simp; omega) (by omega)
    rw [show j / 2 * 2 + j % 2 = j by omega, hu] at hg
    have : j % 2 = 0 ∨ j % 2 = 1 := by omega
    rcases this with e | e
    · rw [e] at hg
      simp [h0] at hg
      rw [hg, show j = j / 2 * 2 by omega]; exact h1
    · rw [e] at hg
      simp [h0] at hg
      rw [hg, show j = j / 2 * 2 + 1 by omega]; exact h2
theorem cellsTerm : Tryz.prog.cellsOf 58 = 2 := by kernel_rfl
theorem cellsPoly : Tryz.prog.cellsOf 24 = 2 := by kernel_rfl
theorem cellsStr : Tryz.prog.cellsOf 9 = 1 := by kernel_rfl
theorem cellsTerms : Tryz.prog.cellsOf 22 = 1 := by kernel_rfl
instance : Inhabited TV := ⟨⟨⟨#[]⟩, none, 0, []⟩⟩
instance : Inhabited PVal := ⟨⟨0, none, 0, []⟩⟩
theorem terms_of {fuel : Nat} {v : Value} {x : DataW H × List MemPlace} (h : DataW.trod enc Tryz.prog W 0 (fun _ => true) true fuel 22 [v] = some x) : ∃ T tv c, v = .slice T tv.length c ∧ TermsAt W T tv := by
  rcases open_slice_pairs Tryz.underlying22 Tryz.underlying58 cellsTerm rfl rfl cellsStr cellsRow h with ⟨h1, _⟩ | ⟨a, l, c, m, n, V0, V1, D0, D1, P0, P1, h1, _, hl, _, hm, _, hx⟩
  · injection h1 with h1
    exact ⟨none, [], 0, h1, TermsAt.nil _ _⟩
  · injection h1 with h1
    simp only [if_true] at hm
    obtain ⟨q, hq⟩ := choose_lt (n := l) (p := fun i (t : TV) => (TV.cells t = [V0 i, V1 i]) ∧ Ints W t.adr t.exps) (fun i hi => by
      obtain ⟨_, _, g0, g1⟩ := hx i (by omega)
      obtain ⟨s, e0, _⟩ := DataW.trod_string Tryz.underlying9 g0
      obtain ⟨A, xs, d, e1, hA⟩ := ints_of g1
      injection e0 with e0
      exact ⟨⟨s, A, d, xs⟩, by rw [e0, e1]; rfl, hA⟩)
    refine ⟨some a, (List.range l).map q, c, by simp [h1], ?_, fun t ht => ?_⟩
    · have := sl_two TV.cells (fun _ => rfl) q a l (fun i hi => by
        obtain ⟨c0, c1, _, _⟩ := hx i (by omega)
        exact ⟨V0 i, V1 i, (hq i hi).1, c0, c1⟩)
      simpa using this
    · obtain ⟨i, hi, rfl⟩ := List.mem_map.1 ht
      exact (hq i (List.mem_range.1 hi)).2
end
end Go.Proofs.YtpiedheafppnhaaGreatDoor.Fr
end
section
/- The frame: one polynomial as an argument, opened. -/
namespace Go.Proofs.YtpiedheafppnhaaGreatDoor.Fr
open Go.ChangeShapes Go.WideShapes Go.ChangeAt Go.RowKit Go.Deep Go.Proofs.Tg Go.Gr Go.Mo
set_option maxRecDepth 100000
section
variable {H : Type} {enc : TypeId × Value → H} {W : World}
theorem open_poly {v : Value} {d : DataW H} {ps : List MemPlace} {b0 : Nat} (hval : Value.okWide Tryz.prog W .any b0 24 v) (h : DataW.Trod enc Tryz.prog W 0 (fun _ => true) true 24 v d ps) :
    ∃ n T tv c, v = .agg #[.int .i64 n, .slice T (List.length tv) c] ∧ TermsAt W T tv := by
  obtain ⟨cs, rfl, hsz⟩ := okWide_struct Tryz.underlying24 hval
  obtain ⟨fuel, h⟩ := h
  have hcs : (Value.agg cs).cells.toList = cs.toList := rfl
  rw [hcs] at h
  obtain ⟨xs, k, _, _, hlen, hxl, hf⟩ := DataW.trod_struct Tryz.underlying24 h
  have g0 := hf 0 { name := "Vars", type := 3, offset := 0, embedded := false, tag := "", pkgPath := "", byteOffset := 0 } rfl
  have g1 := hf 1 { name := "Terms", type := 22, offset := 1, embedded := false, tag := "", pkgPath := "", byteOffset := 8 } rfl
  have hc2 : cs.toList.length = 2 := by rw [hlen]; kernel_rfl
  obtain ⟨l⟩ := cs
  match l, hc2, xs, hxl with
  | [a, b], _, [y0, y1], _ =>
    have g0' : DataW.trod enc Tryz.prog W 0 (fun _ => true) true k 3 [a] = some y0 := by
      have := g0
      dsimp only at this
      rw [cellsInt] at this
      exact this
    have g1' : DataW.trod enc Tryz.prog W 0 (fun _ => true) true k 22 [b] = some y1 := by
      have := g1
      dsimp only at this
      rw [cellsTerms] at this
      exact this
    obtain ⟨n, e0, _⟩ := DataW.trod_int Tryz.underlying3 g0'
    obtain ⟨T, tv, c, e1, hE⟩ := terms_of g1'
    injection e0 with e0
    subst e0 e1
    exact ⟨n, T, tv, c, rfl, hE⟩
end
end Go.Proofs.YtpiedheafppnhaaGreatDoor.Fr
end
section
/- Vectors of bits: the reduced row echelon form of a space is the list of its reduced vectors. Plain numbers. -/
namespace Go.Ev
/-- Sums of elements of a list. -/
inductive Span (vs : List Nat) : Nat → Prop
  | zero : Span vs 0
  | add {x v : Nat} : Span vs x → v ∈ vs → Span vs (x ^^^ v)
theorem Span.mem {vs : List Nat} {v : Nat} (h : v ∈ vs) : Span vs v := by
  have := Span.add (Span.zero (vs := vs)) h
  rwa [Nat.zero_xor] at this
theorem Span.xor {vs : List Nat} {x y : Nat} (hx : Span vs x) (hy : Span vs y) : Span vs (x ^^^ y) := by
  induction hy with
  | zero => rwa [Nat.xor_zero]
  | add _ hv ih => rw [← Nat.xor_assoc]; exact ih.add hv
theorem Span.sub {vs us : List Nat} (h : ∀ v ∈ vs, Span us v) {x : Nat} (hx : Span vs x) : Span us x := by
  induction hx with
  | zero => exact .zero
  | add _ hv ih => exact ih.xor (h _ hv)
structure Space (V : Nat → Prop) (n : Nat) : Prop where
  lt : ∀ x, V x → x < 2 ^ n
  xor : ∀ x y, V x → V y → V (x ^^^ y)
/-- The state of the elimination before column i: r rows are done, row j has its first bit at p j. -/
structure EInv (V : Nat → Prop) (i : Nat) (vs : List Nat) (r : Nat) (p : Nat → Nat) : Prop where
  hr : r ≤ vs.length
  hV : ∀ v ∈ vs, V v
  span : ∀ x, V x → Span vs x
  lt : ∀ j, j < r → p j < i
  mono : ∀ j k, j < k → k < r → p j < p k
  bit : ∀ j k, j < r → k < vs.length → (vs.getD k 0).testBit (p j) = decide (k = j)
  low : ∀ j, j < r → ∀ b, b < p j → (vs.getD j 0).testBit b = false
  zero : ∀ k, r ≤ k → k < vs.length → ∀ b, b < i → (vs.getD k 0).testBit b = false
theorem EInv.start {V : Nat → Prop} {vs : List Nat} (hV : ∀ v ∈ vs, V v) (hs : ∀ x, V x → Span vs x) : EInv V 0 vs 0 (fun _ => 0) :=
  ⟨Nat.zero_le _, hV, hs, fun j h => absurd h (by omega), fun j k _ h => absurd h (by omega), fun j k h => absurd h (by omega), fun j h => absurd h (by omega), fun k _ _ b h => absurd h (by omega)⟩
theorem EInv.skip {V : Nat → Prop} {i r : Nat} {vs : List Nat} {p : Nat → Nat} (h : EInv V i vs r p) (hz : ∀ k, r ≤ k → k < vs.length → (vs.getD k 0).testBit i = false) : EInv V (i + 1) vs r p := by
  refine ⟨h.hr, h.hV, h.span, fun j hj => by have := h.lt j hj; omega, h.mono, h.bit, h.low, fun k hk hl b hb => ?_⟩
  by_cases e : b = i
  · subst e; exact hz k hk hl
  · exact h.zero k hk hl b (by omega)
/-- Two rows are exchanged. -/
def swp (vs : List Nat) (r q : Nat) : List Nat := (vs.set r (vs.getD q 0)).set q (vs.getD r 0)
theorem getD_set (vs : List Nat) (i k : Nat) (x : Nat) (hi : i < vs.length) : (vs.set i x).getD k 0 = if k = i then x else vs.getD k 0 := by
  simp only [List.getD_eq_getElem?_getD, List.getElem?_set]
  by_cases h : i = k
  · subst h; simp [hi]
  · simp [h, Ne.symm h]
theorem swp_get (vs : List Nat) {r q : Nat} (hr : r < vs.length) (hq : q < vs.length) (k : Nat) : (swp vs r q).getD k 0 = vs.getD (if k = q then r else if k = r then q else k) 0 := by
  unfold swp
  rw [getD_set _ _ _ _ (by simpa using hq), getD_set _ _ _ _ hr]
  by_cases h1 : k = q
  · simp [h1]
  · rw [if_neg h1, if_neg h1]
    by_cases h2 : k = r
    · rw [if_pos h2, if_pos h2]
    · rw [if_neg h2, if_neg h2]
theorem swp_len (vs : List Nat) (r q : Nat) : (swp vs r q).length = vs.length := by simp [swp]
theorem mem_getD {vs : List Nat} {v : Nat} : v ∈ vs ↔ ∃ k, k < vs.length ∧ vs.getD k 0 = v := by
  rw [List.mem_iff_getElem]
  constructor
  · rintro ⟨k, hk, e⟩
    exact ⟨k, hk, by rw [List.getD_eq_getElem?_getD, List.getElem?_eq_getElem hk, Option.getD_some]; exact e⟩
  · rintro ⟨k, hk, e⟩
    exact ⟨k, hk, by rw [List.getD_eq_getElem?_getD, List.getElem?_eq_getElem hk, Option.getD_some] at e; exact e⟩
theorem EInv.swap {V : Nat → Prop} {i r q : Nat} {vs : List Nat} {p : Nat → Nat} (h : EInv V i vs r p) (hrq : r ≤ q) (hq : q < vs.length) : EInv V i (swp vs r q) r p := by
  have hrl : r < vs.length := by omega
  have hg := swp_get vs hrl hq
  have hsw : ∀ k, k < vs.length → (if k = q then r else if k = r then q else k) < vs.length := by intro k hk; split; exact hrl; split; exact hq; exact hk
  refine ⟨by rw [swp_len]; exact h.hr, ?_, ?_, h.lt, h.mono, ?_, ?_, ?_⟩
  · intro v hv
    obtain ⟨k, hk, rfl⟩ := mem_getD.1 hv
    rw [swp_len] at hk
    rw [hg]
    exact h.hV _ (mem_getD.2 ⟨_, hsw k hk, rfl⟩)
  · intro x hx
    refine Span.sub (fun v hv => ?_) (h.span x hx)
    obtain ⟨k, hk, rfl⟩ := mem_getD.1 hv
    refine Span.mem (mem_getD.2 ⟨_, by rw [swp_len]; exact hsw k hk, ?_⟩)
    rw [hg]
    congr 1
    by_cases h1 : k = q
    · subst h1; by_cases h2 : r = k <;> simp [h2]
    · by_cases h2 : k = r <;> simp [h1, h2]
  · intro j k hj hk
    rw [swp_len] at hk
    rw [hg, h.bit j _ hj (hsw k hk)]
    by_cases h1 : k = q
    · subst h1; simp; omega
    · by_cases h2 : k = r
      · subst h2; simp [h1]; omega
      · simp [h1, h2]
  · intro j hj b hb
    rw [hg, if_neg (by omega), if_neg (by omega)]
    exact h.low j hj b hb
  · intro k hk hl b hb
    rw [swp_len] at hl
    rw [hg]
    refine h.zero _ ?_ (hsw k hl) b hb
    split
    · exact Nat.le_refl _
    · split <;> omega
/-- The rows before k but r have lost the bit i. -/
def elim (vs : List Nat) (i r k : Nat) : List Nat := (List.range vs.length).map fun j => if j < k ∧ j ≠ r ∧ (vs.getD j 0).testBit i = true then vs.getD j 0 ^^^ vs.getD r 0 else vs.getD j 0
theorem elim_len (vs : List Nat) (i r k : Nat) : (elim vs i r k).length = vs.length := by simp [elim]
theorem elim_get (vs : List Nat) (i r k j : Nat) (hj : j < vs.length) : (elim vs i r k).getD j 0 = if j < k ∧ j ≠ r ∧ (vs.getD j 0).testBit i = true then vs.getD j 0 ^^^ vs.getD r 0 else vs.getD j 0 := by
  unfold elim
  rw [List.getD_eq_getElem?_getD, List.getElem?_map, List.getElem?_range hj]; rfl
theorem ext_getD {a b : List Nat} (hl : a.length = b.length) (h : ∀ j, j < a.length → a.getD j 0 = b.getD j 0) : a = b := by
  refine List.ext_getElem hl fun j h1 h2 => ?_
  have := h j h1
  rwa [List.getD_eq_getElem?_getD, List.getD_eq_getElem?_getD, List.getElem?_eq_getElem h1, List.getElem?_eq_getElem h2] at this
theorem elim_zero (vs : List Nat) (i r : Nat) : elim vs i r 0 = vs :=
  ext_getD (elim_len _ _ _ _) fun j hj => by rw [elim_len] at hj; rw [elim_get _ _ _ _ _ hj, if_neg (by omega)]
theorem elim_skip (vs : List Nat) (i r k : Nat) (h : ¬ (k ≠ r ∧ (vs.getD k 0).testBit i = true)) : elim vs i r (k + 1) = elim vs i r k :=
  ext_getD (by rw [elim_len, elim_len]) fun j hj => by
    rw [elim_len] at hj
    rw [elim_get _ _ _ _ _ hj, elim_get _ _ _ _ _ hj]
    by_cases e : j = k
    · subst e; rw [if_neg (fun h' => h h'.2), if_neg (by omega)]
    · by_cases h2 : j < k
      · simp [h2, show j < k + 1 by omega]
      · simp [h2, show ¬ j < k + 1 by omega]
theorem elim_put (vs : List Nat) (i r k : Nat) (hk : k < vs.length) (h : k ≠ r ∧ (vs.getD k 0).testBit i = true) : elim vs i r (k + 1) = (elim vs i r k).set k (vs.getD k 0 ^^^ vs.getD r 0) :=
  ext_getD (by rw [List.length_set, elim_len, elim_len]) fun j hj => by
    rw [elim_len] at hj
    rw [getD_set _ _ _ _ (by rw [elim_len]; exact hk), elim_get _ _ _ _ _ hj, elim_get _ _ _ _ _ hj]
    by_cases e : j = k
    · subst e; rw [if_pos ⟨by omega, h⟩, if_pos rfl]
    · by_cases h2 : j < k
      · simp [h2, e, show j < k + 1 by omega]
      · simp [h2, e, show ¬ j < k + 1 by omega]
theorem elim_self (vs : List Nat) (i r k : Nat) (hr : r < vs.length) : (elim vs i r k).getD r 0 = vs.getD r 0 := by
  rw [elim_get _ _ _ _ _ hr, if_neg (fun h => h.2.1 rfl)]
theorem EInv.elim {V : Nat → Prop} {n i r : Nat} {vs : List Nat} {p : Nat → Nat} (hS : Space V n) (h : EInv V i vs r p) (hr : r < vs.length) (hb : (vs.getD r 0).testBit i = true) :
    EInv V (i + 1) (Ev.elim vs i r vs.length) (r + 1) (fun j => if j = r then i else p j) := by
  have hg : ∀ k, k < vs.length → (Ev.elim vs i r vs.length).getD k 0 = if k ≠ r ∧ (vs.getD k 0).testBit i = true then vs.getD k 0 ^^^ vs.getD r 0 else vs.getD k 0 := by
    intro k hk
    rw [elim_get _ _ _ _ _ hk]
    simp [hk]
  have hbi : ∀ k, k < vs.length → ((Ev.elim vs i r vs.length).getD k 0).testBit i = decide (k = r) := by
    intro k hk
    rw [hg k hk]
    by_cases e : k = r
    · subst e; simpa using hb
    · by_cases e2 : (vs.getD k 0).testBit i = true
      · rw [if_pos ⟨e, e2⟩, Nat.testBit_xor, e2, hb]; simp [e]
      · rw [if_neg (fun h => e2 h.2)]; simp [e]; simpa using e2
  have hlow : ∀ k, k < vs.length → ∀ b, b < i → ((Ev.elim vs i r vs.length).getD k 0).testBit b = (vs.getD k 0).testBit b := by
    intro k hk b hbi'
    rw [hg k hk]
    split
    · rw [Nat.testBit_xor, h.zero r (Nat.le_refl _) hr b hbi']; simp
    · rfl
  refine ⟨by rw [elim_len]; omega, ?_, ?_, ?_, ?_, ?_, ?_, ?_⟩
  · intro v hv
    obtain ⟨k, hk, rfl⟩ := mem_getD.1 hv
    rw [elim_len] at hk
    rw [hg k hk]
    split
    · exact hS.xor _ _ (h.hV _ (mem_getD.2 ⟨k, hk, rfl⟩)) (h.hV _ (mem_getD.2 ⟨r, hr, rfl⟩))
    · exact h.hV _ (mem_getD.2 ⟨k, hk, rfl⟩)
  · intro x hx
    refine Span.sub (fun v hv => ?_) (h.span x hx)
    obtain ⟨k, hk, rfl⟩ := mem_getD.1 hv
    have hm : ∀ k, k < vs.length → Span (Ev.elim vs i r vs.length) ((Ev.elim vs i r vs.length).getD k 0) := fun k hk => Span.mem (mem_getD.2 ⟨k, by rw [elim_len]; exact hk, rfl⟩)
    have h1 := hm k hk
    have h2 := hm r hr
    rw [elim_self _ _ _ _ hr] at h2
    rw [hg k hk] at h1
    split at h1
    · have := h1.xor h2
      rwa [Nat.xor_assoc, Nat.xor_self, Nat.xor_zero] at this
    · exact h1
  · intro j hj
    show (if j = r then i else p j) < i + 1
    split
    · omega
    · have := h.lt j (by omega); omega
  · intro j k hjk hk
    show (if j = r then i else p j) < (if k = r then i else p k)
    rw [if_neg (by omega)]
    split
    · exact h.lt j (by omega)
    · exact h.mono j k hjk (by omega)
  · intro j k hj hk
    rw [elim_len] at hk
    show ((Ev.elim vs i r vs.length).getD k 0).testBit (if j = r then i else p j) = decide (k = j)
    split
    · rename_i e; rw [hbi k hk, e]
    · rw [hlow k hk _ (h.lt j (by omega)), h.bit j k (by omega) hk]
  · intro j hj b hbj
    have hbj : b < (if j = r then i else p j) := hbj
    by_cases e : j = r
    · subst e
      rw [if_pos rfl] at hbj
      rw [hlow j hr b hbj]
      exact h.zero j (Nat.le_refl _) hr b hbj
    · rw [if_neg e] at hbj
      have := h.lt j (by omega)
      rw [hlow j (by omega) b (by omega)]
      exact h.low j (by omega) b hbj
  · intro k hk hl b hbk
    rw [elim_len] at hl
    by_cases e : b = i
    · subst e; rw [hbi k hl]; simp; omega
    · rw [hlow k hl b (by omega)]
      exact h.zero k (by omega) hl b (by omega)
/-! What the last state says. -/
def Lead (x k : Nat) : Prop := x.testBit k = true ∧ ∀ b, b < k → x.testBit b = false
/-- The sum of the first m rows, row j taken where x has the bit p j. -/
def comb (vs : List Nat) (p : Nat → Nat) (x : Nat) : Nat → Nat
  | 0 => 0
  | m + 1 => comb vs p x m ^^^ (if x.testBit (p m) = true then vs.getD m 0 else 0)
theorem comb_zero (vs : List Nat) (p : Nat → Nat) : ∀ m, comb vs p 0 m = 0
  | 0 => rfl
  | m + 1 => by simp [comb, comb_zero vs p m]
theorem zero_of_bits {n x : Nat} (hx : x < 2 ^ n) (h : ∀ b, b < n → x.testBit b = false) : x = 0 := by
  refine Nat.eq_of_testBit_eq fun b => ?_
  rw [Nat.zero_testBit]
  by_cases hb : b < n
  · exact h b hb
  · exact Nat.testBit_lt_two_pow (Nat.lt_of_lt_of_le hx (Nat.pow_le_pow_right (by omega) (by omega)))
theorem comb_add {V : Nat → Prop} {n r : Nat} {vs : List Nat} {p : Nat → Nat} (h : EInv V n vs r p) (hS : Space V n) (x k : Nat) (hk : k < vs.length) :
    ∀ m, m ≤ r → comb vs p (x ^^^ vs.getD k 0) m = comb vs p x m ^^^ (if k < m then vs.getD k 0 else 0)
  | 0, _ => by simp [comb]
  | m + 1, hm => by
    have ih := comb_add h hS x k hk m (by omega)
    simp only [comb, ih, Nat.testBit_xor, h.bit m k (by omega) hk]
    by_cases e : k = m
    · subst e
      simp
      cases hx : x.testBit (p k)
      · simp
      · simp [Nat.xor_assoc]
    · by_cases hl : k < m
      · simp only [e, hl, show k < m + 1 by omega, decide_false, Bool.xor_false, if_true]
        rw [Nat.xor_assoc, Nat.xor_assoc, Nat.xor_comm (vs.getD k 0)]
      · simp [e, hl, show ¬ k < m + 1 by omega]
theorem comb_eq {V : Nat → Prop} {n r : Nat} {vs : List Nat} {p : Nat → Nat} (h : EInv V n vs r p) (hS : Space V n) {x : Nat} (hx : V x) : comb vs p x r = x := by
  have : ∀ y, Span vs y → comb vs p y r = y := by
    intro y hy
    induction hy with
    | zero => exact comb_zero _ _ _
    | add _ hv ih =>
      obtain ⟨k, hk, rfl⟩ := mem_getD.1 hv
      rw [comb_add h hS _ k hk r (Nat.le_refl _), ih]
      by_cases hl : k < r
      · rw [if_pos hl]
      · rw [if_neg hl, zero_of_bits (hS.lt _ (h.hV _ hv)) (h.zero k (by omega) hk)]
  exact this x (h.span x hx)
theorem comb_low {V : Nat → Prop} {n r : Nat} {vs : List Nat} {p : Nat → Nat} (h : EInv V n vs r p) (x b : Nat) : ∀ m, m ≤ r → (∀ j, j < m → x.testBit (p j) = true → b < p j) → (comb vs p x m).testBit b = false
  | 0, _, _ => by simp [comb]
  | m + 1, hm, hj => by
    rw [comb, Nat.testBit_xor, comb_low h x b m (by omega) (fun j h1 => hj j (by omega))]
    split
    · rename_i e
      rw [h.low m (by omega) b (hj m (by omega) e)]; rfl
    · simp
theorem exists_least {P : Nat → Prop} : ∀ {r : Nat}, (∃ j, j < r ∧ P j) → ∃ j, j < r ∧ P j ∧ ∀ k, k < j → ¬ P k
  | 0, ⟨j, h, _⟩ => absurd h (by omega)
  | r + 1, ⟨j, h, hp⟩ => by
    by_cases h2 : ∃ j, j < r ∧ P j
    · obtain ⟨k, h3, h4⟩ := exists_least h2
      exact ⟨k, by omega, h4⟩
    · have : j = r := by
        rcases Nat.lt_or_ge j r with h3 | h3
        · exact absurd ⟨j, h3, hp⟩ h2
        · omega
      subst this
      exact ⟨j, h, hp, fun k hk hpk => h2 ⟨k, hk, hpk⟩⟩
/-- Every vector of the space but 0 has its first bit where a row has. -/
theorem lead_of {V : Nat → Prop} {n r : Nat} {vs : List Nat} {p : Nat → Nat} (h : EInv V n vs r p) (hS : Space V n) {x : Nat} (hx : V x) (h0 : x ≠ 0) : ∃ j, j < r ∧ Lead x (p j) := by
  have hc := comb_eq h hS hx
  have hex : ∃ j, j < r ∧ x.testBit (p j) = true := by
    apply Classical.byContradiction
    intro hno
    apply h0
    rw [← hc]
    refine Nat.eq_of_testBit_eq fun b => ?_
    rw [Nat.zero_testBit]
    exact comb_low h x b r (Nat.le_refl _) (fun j h1 h2 => absurd ⟨j, h1, h2⟩ hno)
  obtain ⟨j, h1, h2, h3⟩ := exists_least hex
  refine ⟨j, h1, h2, fun b hb => ?_⟩
  rw [← hc]
  refine comb_low h x b r (Nat.le_refl _) (fun k hk hk2 => ?_)
  rcases Nat.lt_trichotomy k j with e | e | e
  · exact absurd hk2 (by simpa using h3 k e)
  · subst e; exact hb
  · have := h.mono j k e hk; omega
theorem row_lead {V : Nat → Prop} {n r : Nat} {vs : List Nat} {p : Nat → Nat} (h : EInv V n vs r p) {j : Nat} (hj : j < r) : Lead (vs.getD j 0) (p j) :=
  ⟨by rw [h.bit j j hj (by have := h.hr; omega)]; simp, h.low j hj⟩
theorem Lead.inj {x a b : Nat} (ha : Lead x a) (hb : Lead x b) : a = b := by
  rcases Nat.lt_trichotomy a b with h | h | h
  · have := hb.2 a h; rw [ha.1] at this; cases this
  · exact h
  · have := ha.2 b h; rw [hb.1] at this; cases this
/-- A vector that is 0 wherever another vector of the space has its first bit behind its own first bit. -/
def Red (V : Nat → Prop) (x : Nat) : Prop := ∀ t k l, V t → Lead t k → Lead x l → l < k → x.testBit k = false
theorem row_red {V : Nat → Prop} {n r : Nat} {vs : List Nat} {p : Nat → Nat} (h : EInv V n vs r p) (hS : Space V n) {j : Nat} (hj : j < r) : Red V (vs.getD j 0) := by
  intro t k l ht hk hl hlk
  have e := (row_lead h hj).inj hl
  subst e
  have h0 : t ≠ 0 := by rintro rfl; have := hk.1; simp at this
  obtain ⟨m, hm, hml⟩ := lead_of h hS ht h0
  have e2 := hml.inj hk
  subst e2
  rw [h.bit m j hm (by have := h.hr; omega)]
  have : j ≠ m := by rintro rfl; omega
  simp [this]
theorem xor_zero {x y : Nat} (h : x ^^^ y = 0) : x = y := by
  have : x ^^^ y ^^^ y = y := by rw [h, Nat.zero_xor]
  rwa [Nat.xor_assoc, Nat.xor_self, Nat.xor_zero] at this
theorem lt_bits {x y i : Nat} (hx : x.testBit i = false) (hy : y.testBit i = true) (h : ∀ j, i < j → x.testBit j = y.testBit j) : x < y := by
  rw [Nat.testBit_eq_decide_div_mod_eq, decide_eq_false_iff_not] at hx
  rw [Nat.testBit_eq_decide_div_mod_eq, decide_eq_true_eq] at hy
  have e : x / 2 ^ i / 2 = y / 2 ^ i / 2 := by
    refine Nat.eq_of_testBit_eq fun j => ?_
    have := h (i + 1 + j) (by omega)
    rw [Nat.div_div_eq_div_mul, Nat.div_div_eq_div_mul, ← Nat.pow_succ, Nat.testBit_div_two_pow, Nat.testBit_div_two_pow]
    rwa [show j + i.succ = i + 1 + j by omega]
  have hlt : x / 2 ^ i < y / 2 ^ i := by omega
  rcases Nat.lt_or_ge x y with h1 | h1
  · exact h1
  · have := Nat.div_le_div_right (c := 2 ^ i) h1
    omega
theorem red_row {V : Nat → Prop} {n r : Nat} {vs : List Nat} {p : Nat → Nat} (h : EInv V n vs r p) (hS : Space V n) {x : Nat} (hx : V x) (h0 : x ≠ 0) (hr : Red V x) : ∃ j, j < r ∧ x = vs.getD j 0 := by
  obtain ⟨j, hj, hl⟩ := lead_of h hS hx h0
  refine ⟨j, hj, ?_⟩
  have hjl : j < vs.length := by have := h.hr; omega
  have hrow := row_lead h hj
  have hVr := h.hV _ (mem_getD.2 ⟨j, hjl, rfl⟩)
  apply Classical.byContradiction
  intro hne
  have hd : x ^^^ vs.getD j 0 ≠ 0 := fun e => hne (xor_zero e)
  have hVd := hS.xor _ _ hx hVr
  obtain ⟨m, hm, hml⟩ := lead_of h hS hVd hd
  have hlt : p j < p m := by
    rcases Nat.lt_trichotomy (p m) (p j) with e | e | e
    · have := hml.1
      rw [Nat.testBit_xor, hl.2 _ e, hrow.2 _ e] at this; cases this
    · have := hml.1
      rw [e, Nat.testBit_xor, hl.1, hrow.1] at this; cases this
    · exact e
  have a1 := hr _ _ _ hVd hml hl hlt
  have a2 := row_red h hS hj _ _ _ hVd hml hrow hlt
  have := hml.1
  rw [Nat.testBit_xor, a1, a2] at this; cases this
/-! The reference goes through all vectors, the greatest first when the first position counts most. -/
def rev (n v : Nat) : Nat := (List.range n).foldl (fun x i => if v.testBit (n - 1 - i) = true then x ||| 2 ^ i else x) 0
theorem rev_fold (n v m b : Nat) : ((List.range m).foldl (fun x i => if v.testBit (n - 1 - i) = true then x ||| 2 ^ i else x) 0).testBit b = (decide (b < m) && v.testBit (n - 1 - b)) := by
  induction m with
  | zero => simp
  | succ m ih =>
    rw [List.range_succ, List.foldl_append]
    simp only [List.foldl_cons, List.foldl_nil]
    split
    · rename_i h
      rw [Nat.testBit_or, ih, Nat.testBit_two_pow]
      by_cases e : b = m
      · subst e; simp [h]
      · simp [Ne.symm e]
        by_cases h1 : b < m
        · simp [h1, show b < m + 1 by omega]
        · simp [h1, show ¬ b < m + 1 by omega]
    · rename_i h
      rw [ih]
      by_cases e : b = m
      · subst e; simp; simpa using h
      · by_cases h1 : b < m
        · simp [h1, show b < m + 1 by omega]
        · simp [h1, show ¬ b < m + 1 by omega]
theorem rev_bit (n v b : Nat) : (rev n v).testBit b = (decide (b < n) && v.testBit (n - 1 - b)) := rev_fold n v n b
theorem rev_lt (n v : Nat) : rev n v < 2 ^ n := by
  apply Nat.lt_pow_two_of_testBit
  intro i hi
  rw [rev_bit]; simp; omega
theorem rev_rev {n v : Nat} (hv : v < 2 ^ n) : rev n (rev n v) = v := by
  refine Nat.eq_of_testBit_eq fun b => ?_
  rw [rev_bit, rev_bit]
  by_cases hb : b < n
  · simp [hb, show n - 1 - b < n by omega, show n - 1 - (n - 1 - b) = b by omega]
  · simp [hb]
    exact (Nat.testBit_lt_two_pow (Nat.lt_of_lt_of_le hv (Nat.pow_le_pow_right (n := 2) (by omega) (by omega : n ≤ b))))
theorem rev_zero {n v : Nat} (hv : v < 2 ^ n) : rev n v = 0 ↔ v = 0 := by
  constructor
  · intro h
    rw [← rev_rev hv, h]
    refine Nat.eq_of_testBit_eq fun b => ?_
    rw [rev_bit]; simp
  · rintro rfl
    refine Nat.eq_of_testBit_eq fun b => ?_
    rw [rev_bit]; simp
theorem lead_exists {x : Nat} (h : x ≠ 0) : ∃ k, Lead x k := by
  obtain ⟨b, hb⟩ := Nat.exists_testBit_of_ne_zero h
  obtain ⟨j, _, h2, h3⟩ := exists_least (P := fun j => x.testBit j = true) (r := b + 1) ⟨b, by omega, hb⟩
  exact ⟨j, h2, fun k hk => by simpa using h3 k hk⟩
theorem lead_lt {n x k : Nat} (hx : x < 2 ^ n) (h : Lead x k) : k < n := by
  rcases Nat.lt_or_ge k n with h1 | h1
  · exact h1
  · have := Nat.testBit_lt_two_pow (Nat.lt_of_lt_of_le hx (Nat.pow_le_pow_right (by omega) h1))
    rw [h.1] at this; cases this
theorem rev_order {n x y a b : Nat} (hx : x < 2 ^ n) (hxl : Lead x a) (hyl : Lead y b) (h : a < b) : rev n y < rev n x := by
  have ha := lead_lt hx hxl
  refine lt_bits (i := n - 1 - a) ?_ ?_ fun j hj => ?_
  · rw [rev_bit, show n - 1 - (n - 1 - a) = a by omega, hyl.2 a h]; simp
  · rw [rev_bit, show n - 1 - (n - 1 - a) = a by omega, hxl.1]; simp; omega
  · rw [rev_bit, rev_bit]
    by_cases hjn : j < n
    · rw [hxl.2 (n - 1 - j) (by omega), hyl.2 (n - 1 - j) (by omega)]
    · simp [hjn]
theorem sorted_eq {R : Nat → Nat → Prop} (irr : ∀ a, ¬ R a a) (asy : ∀ a b, R a b → ¬ R b a) : ∀ (l m : List Nat), l.Pairwise R → m.Pairwise R → (∀ x, x ∈ l ↔ x ∈ m) → l = m
  | [], [], _, _, _ => rfl
  | [], y :: m, _, _, h => absurd ((h y).2 (by simp)) (by simp)
  | x :: l, [], _, _, h => absurd ((h x).1 (by simp)) (by simp)
  | x :: l, y :: m, hl, hm, h => by
    obtain ⟨l1, l2⟩ := List.pairwise_cons.1 hl
    obtain ⟨m1, m2⟩ := List.pairwise_cons.1 hm
    have e : x = y := by
      apply Classical.byContradiction
      intro ne
      have hx : x ∈ m := by
        rcases List.mem_cons.1 ((h x).1 (by simp)) with e | e
        · exact absurd e ne
        · exact e
      have hy : y ∈ l := by
        rcases List.mem_cons.1 ((h y).2 (by simp)) with e | e
        · exact absurd e.symm ne
        · exact e
      exact asy _ _ (m1 x hx) (l1 y hy)
    subst e
    congr 1
    refine sorted_eq irr asy l m l2 m2 fun z => ?_
    constructor
    · intro hz
      rcases List.mem_cons.1 ((h z).1 (List.mem_cons_of_mem _ hz)) with e | e
      · subst e; exact absurd (l1 _ hz) (irr _)
      · exact e
    · intro hz
      rcases List.mem_cons.1 ((h z).2 (List.mem_cons_of_mem _ hz)) with e | e
      · subst e; exact absurd (m1 _ hz) (irr _)
      · exact e
/-- The vectors that the reference keeps out of the first k that it looks at. -/
def kern (keep : Nat → Bool) (n k : Nat) : List Nat := (((List.range k).map fun t => rev n (2 ^ n - 1 - t)).filter keep)
theorem kern_succ (keep : Nat → Bool) (n k : Nat) : kern keep n (k + 1) = kern keep n k ++ (if keep (rev n (2 ^ n - 1 - k)) = true then [rev n (2 ^ n - 1 - k)] else []) := by
  unfold kern
  rw [List.range_succ, List.map_append, List.filter_append]
  congr 1
  simp only [List.map_cons, List.map_nil, List.filter_cons, List.filter_nil]
/-- The rows of the elimination are what the reference keeps. -/
theorem rows_kern {V : Nat → Prop} {n r : Nat} {vs : List Nat} {p : Nat → Nat} (h : EInv V n vs r p) (hS : Space V n) (keep : Nat → Bool) (hk : ∀ x, x ≠ 0 → x < 2 ^ n → (keep x = true ↔ V x ∧ Red V x)) :
    vs.take r = kern keep n (2 ^ n - 1) := by
  have hpos : 0 < 2 ^ n := Nat.two_pow_pos n
  have hrl := h.hr
  have hgd : ∀ j (hj : j < (vs.take r).length), (vs.take r)[j] = vs.getD j 0 := by
    intro j hj
    have hj' : j < vs.length := by simp at hj; omega
    rw [List.getElem_take, List.getD_eq_getElem?_getD, List.getElem?_eq_getElem hj', Option.getD_some]
  have hVr : ∀ j, j < r → V (vs.getD j 0) := fun j hj => h.hV _ (mem_getD.2 ⟨j, by omega, rfl⟩)
  refine sorted_eq (R := fun x y => rev n y < rev n x) (fun a => Nat.lt_irrefl _) (fun a b h1 h2 => by omega) _ _ ?_ ?_ ?_
  · rw [List.pairwise_iff_getElem]
    intro i j hi hj hij
    rw [hgd i hi, hgd j hj]
    have hj' : j < r := by simp at hj; omega
    exact rev_order (hS.lt _ (hVr i (by omega))) (row_lead h (by omega)) (row_lead h hj') (h.mono i j hij hj')
  · unfold kern
    refine List.Pairwise.filter _ ?_
    rw [List.pairwise_map]
    refine List.Pairwise.imp_of_mem ?_ (List.pairwise_lt_range (n := 2 ^ n - 1))
    intro a b ha hb hab
    have ha := List.mem_range.1 ha
    have hb := List.mem_range.1 hb
    rw [rev_rev (by omega), rev_rev (by omega)]
    omega
  · intro x
    constructor
    · intro hx
      obtain ⟨j, hj, e⟩ := List.mem_iff_getElem.1 hx
      rw [hgd j hj] at e
      have hj' : j < r := by simp at hj; omega
      subst e
      have hlt := hS.lt _ (hVr j hj')
      have h0 : vs.getD j 0 ≠ 0 := by intro e; have := (row_lead h hj').1; rw [e] at this; simp at this
      unfold kern
      refine List.mem_filter.2 ⟨List.mem_map.2 ⟨2 ^ n - 1 - rev n (vs.getD j 0), List.mem_range.2 ?_, ?_⟩, (hk _ h0 hlt).2 ⟨hVr j hj', row_red h hS hj'⟩⟩
      · have : rev n (vs.getD j 0) ≠ 0 := fun e => h0 ((rev_zero hlt).1 e)
        have := rev_lt n (vs.getD j 0)
        omega
      · have := rev_lt n (vs.getD j 0)
        rw [show 2 ^ n - 1 - (2 ^ n - 1 - rev n (vs.getD j 0)) = rev n (vs.getD j 0) by omega, rev_rev hlt]
    · intro hx
      obtain ⟨h1, h2⟩ := List.mem_filter.1 hx
      obtain ⟨t, ht, rfl⟩ := List.mem_map.1 h1
      have ht := List.mem_range.1 ht
      have hlt := rev_lt n (2 ^ n - 1 - t)
      have h0 : rev n (2 ^ n - 1 - t) ≠ 0 := fun e => by have := (rev_zero (n := n) (by omega)).1 e; omega
      obtain ⟨h3, h4⟩ := (hk _ h0 hlt).1 h2
      obtain ⟨j, hj, e⟩ := red_row h hS h3 h0 h4
      rw [e]
      refine List.mem_iff_getElem.2 ⟨j, by simp; omega, ?_⟩
      rw [hgd j (by simp; omega)]
end Go.Ev
end
