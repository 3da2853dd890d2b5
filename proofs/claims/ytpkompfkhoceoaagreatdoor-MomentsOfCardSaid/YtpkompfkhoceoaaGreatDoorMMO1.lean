/- Parts of the proof: NU2, NU3, NU4, N1, M1, WD3, WS1. -/
import Derived.Lib.ItoaNum
import Derived.Laws.OwnMore
import Derived.Maps.AppendAt
import Derived.Test.YtpkompfkhoceoaaGreatDoorProg
import Derived.WalkKit
import Derived.WalkSpells
import Derived.WalkLawsBesides
import Derived.Deep.QuietTactic
import Derived.BigQuiet
import Derived.Lib.Hide
import Derived.Lib.Strings
import Derived.Lib.IndexBytes
import Derived.Outline
import Derived.Test.YtpkompfkhoceoaaGreatDoorMMO0
section
/- The harness's numbers: the sign of a fraction. -/
namespace Go.Proofs.Tg
open Go.RowKit Go.Gr
set_option maxHeartbeats 1000000
set_option maxRecDepth 100000
theorem rsign_any (b b2 : Bool) (A A2 : Option Addr) (n c n2 c2 : Nat) (w : World) (hn : n ≤ 1000000) (s : Int) (hs : (if b = true then -1 else if n = 0 then 0 else 1) = s) :
    Calls Tryz.prog 89 #[.agg #[.bool b, .slice A n c, .bool b2, .slice A2 n2 c2]] w fun e w' => e = .returned (.int .i64 s) ∧ Below w.heap.size w w' := by
  have hbA : Below w.heap.size w (w.alloc (.cells #[.bool b, .slice A n c, .bool b2, .slice A2 n2 c2] 52)) := (Below.refl _ _).alloc (Nat.le_refl _) _
  have HS := Lib.hid (fun W => sign_any b A n c W hn s hs)
  clear hs
  go_enter Tryz.func89, Tryz.ntmps89
  go_wp2_with (fail)
  refine (HS.out _).mono ?_
  rintro e w2 ⟨rfl, hb2⟩
  go_wp2
  go_ret
  exact ⟨rfl, below_all hbA hb2⟩
end Go.Proofs.Tg
end
section
/- The harness's numbers: the sum of nothing and one digit. -/
namespace Go.Proofs.Tg
open Go.RowKit Go.Gr
set_option maxHeartbeats 1000000
set_option maxRecDepth 100000
theorem dig_info : (Tryz.prog.info? 137).map (fun i => (i.zero, i.size, i.bytes)) = some (some (.int .u32 0), 1, 4) := by kernel_rfl
theorem make_digs (n : Nat) (hn : n ≤ 1000000) (w : World) : (Instr.makeSlice 48 (.int .i64 (n : Int)) (.int .i64 (n : Int))).run Tryz.prog w = .ok (.slice (some ⟨w.heap.size, 0, none⟩) n n) (w.alloc (.cells (madeCells #[.int .u32 0] n) 137)) := by
  obtain ⟨i0, hi, hz0, hz1, hz2⟩ := info_parts dig_info
  have hr := run_make (P := Tryz.prog) w 48 137 i0 (.int .u32 0) Tryz.underlying48 hi hz0 .i64 .i64 n n (by omega) (by omega) (by rw [hz2]; omega) (by omega)
  rw [hz1, Nat.mul_one, Int.toNat_natCast] at hr
  exact hr
end Go.Proofs.Tg
end
section
/- The harness's numbers: one digit divided by one. -/
namespace Go.Proofs.Tg
open Go.RowKit Go.Gr
set_option maxHeartbeats 1000000
set_option maxRecDepth 100000
theorem make_digs1 (w : World) : (Instr.makeSlice 48 (.int .i64 1) (.int .i64 1)).run Tryz.prog w = .ok (.slice (some ⟨w.heap.size, 0, none⟩) 1 1) (w.alloc (.cells #[.int .u32 0] 137)) := by
  have e : madeCells #[Value.int .u32 0] 1 = #[.int .u32 0] := by kernel_rfl
  have := make_digs 1 (by omega) w
  rw [e] at this
  exact this
theorem sdiv_one (A : Option Addr) (c v d : Nat) (w : World) (hA : Digs w A [v]) (hv : v < 4294967296) (hd : d < 4294967296) (hd0 : 0 < d) :
    Calls Tryz.prog 85 #[.slice A 1 c, .int .u32 (d : Nat)] w fun e w' => e = .returned (.tuple #[.slice (some ⟨w.heap.size, 0, none⟩) (tzl [v / d] 1) 1, .int .u32 ((v % d : Nat))]) ∧ Blk w' w.heap.size 137 #[.int .u32 (v / d : Nat)] ∧ Below w.heap.size w w' := by
  have hmk := fun W => make_digs1 W
  obtain ⟨ad, rfl, hc⟩ := Digs.at hA (k := 0) (by simp)
  have hc : w.cell? ad = some (.int .u32 (v : Nat)) := by simpa [Addr.add] using hc
  have hlt : ad.block < w.heap.size := World.block_lt_of_cell? w _ hc
  have ho : bits BinOp.or IntKind.u64 0 (v : Int) = (v : Int) := by
    simp [bits]
    have e : (2 : Int) ^ IntKind.u64.bits = 18446744073709551616 := by decide
    rw [e, Int.emod_eq_of_lt (by omega) (by omega)]
    exact wrap_nat v (by omega)
  have hle : v / d ≤ v := Nat.div_le_self _ _
  have hml : v % d < d := Nat.mod_lt _ hd0
  obtain ⟨q, hq⟩ : ∃ q, v / d = q := ⟨_, rfl⟩
  obtain ⟨r, hr⟩ : ∃ r, v % d = r := ⟨_, rfl⟩
  have hq1 : (v : Int) / (d : Int) = (q : Int) := by rw [← hq]; simp
  have hr1 : (v : Int) % (d : Int) = (r : Int) := by rw [← hr]; simp
  rw [hq, hr]
  rw [hq] at hle
  rw [hr] at hml
  clear hq hr
  have hq2 : (q : Int) % 4294967296 = (q : Int) := Int.emod_eq_of_lt (by omega) (by omega)
  have hr2 : (r : Int) % 4294967296 = (r : Int) := Int.emod_eq_of_lt (by omega) (by omega)
  have hq3 := wrap_nat q (by omega)
  have hB2 := Blk.new w 137 #[.int .u32 (q : Nat)]
  have hbA : Below w.heap.size w (w.alloc (.cells #[.int .u32 (q : Nat)] 137)) := (Below.refl _ _).alloc (Nat.le_refl _) _
  have hD : Digs (w.alloc (.cells #[.int .u32 (q : Nat)] 137)) (some ⟨w.heap.size, 0, none⟩) [q] := digs_of hB2
  have HT := Lib.hid (trim_any (some ⟨w.heap.size, 0, none⟩) 1 [q] _ hD (by simp) (by simp))
  have HB2 := Lib.hid hB2
  clear hD hB2
  go_enter Tryz.func85, Tryz.ntmps85
  go_wp2
  refine wp_loop_rounds 2 ?_
  rw [rounds_succ]
  go_wp2_with (fail)
  rw [rounds_succ]
  go_wp2_with (fail)
  refine HT.out.mono ?_
  rintro e _ ⟨rfl, rfl⟩
  go_wp2
  go_ret2
  exact ⟨rfl, HB2.out, hbA⟩
end Go.Proofs.Tg
end
section
/- Decimal texts of rational numbers: what the program accepts and what the reference accepts is the same. Plain lists of bytes. -/
namespace Go.Qn
open Go.Lib
def isD (c : UInt8) : Bool := decide (48 ≤ c.toNat) && decide (c.toNat ≤ 57)
def val (l : List UInt8) : Nat := l.foldl (fun n c => 10 * n + (c.toNat - 48)) 0
theorem val_snoc (l : List UInt8) (c : UInt8) : val (l ++ [c]) = 10 * val l + (c.toNat - 48) := by unfold val; rw [List.foldl_append]; rfl
theorem isD_iff {c : UInt8} : isD c = true ↔ 48 ≤ c.toNat ∧ c.toNat ≤ 57 := by unfold isD; simp
theorem snoc_ind {P : List UInt8 → Prop} (h0 : P []) (h1 : ∀ l c, P l → P (l ++ [c])) (l : List UInt8) : P l := by
  have : ∀ l : List UInt8, P l.reverse := by
    intro l
    induction l with
    | nil => exact h0
    | cons c l ih => rw [List.reverse_cons]; exact h1 _ _ ih
  have h := this l.reverse
  rwa [List.reverse_reverse] at h
theorem val_lt (l : List UInt8) (h : ∀ c ∈ l, isD c = true) : val l < 10 ^ l.length := by
  revert h
  refine snoc_ind (P := fun l => (∀ c ∈ l, isD c = true) → val l < 10 ^ l.length) ?_ ?_ l
  · intro _; decide
  · intro l c ih h
    have h1 := ih fun x hx => h x (by simp [hx])
    have h2 := isD_iff.1 (h c (by simp))
    rw [val_snoc, List.length_append, List.length_singleton, Nat.pow_succ]
    omega
theorem toNat_ofNat (n : Nat) (h : n < 256) : (UInt8.ofNat n).toNat = n := by simp; omega
theorem val_dec (n : Nat) : val (decDigits n) = n := by
  induction n using Nat.strongRecOn with
  | _ n ih =>
    by_cases h : n < 10
    · rw [decDigits, dif_pos h]
      show 10 * 0 + ((UInt8.ofNat (48 + n)).toNat - 48) = n
      rw [toNat_ofNat _ (by omega)]; omega
    · rw [decDigits, dif_neg h, val_snoc, ih (n / 10) (by omega), toNat_ofNat _ (by omega)]; omega
theorem dec_allD (n : Nat) : ∀ c ∈ decDigits n, isD c = true := by
  induction n using Nat.strongRecOn with
  | _ n ih =>
    intro c hc
    by_cases h : n < 10
    · rw [decDigits, dif_pos h] at hc
      simp only [List.mem_cons, List.not_mem_nil, or_false] at hc
      subst hc
      rw [isD_iff, toNat_ofNat _ (by omega)]; omega
    · rw [decDigits, dif_neg h] at hc
      rcases List.mem_append.1 hc with hc | hc
      · exact ih (n / 10) (by omega) c hc
      · simp only [List.mem_cons, List.not_mem_nil, or_false] at hc
        subst hc
        rw [isD_iff, toNat_ofNat _ (by omega)]; omega
theorem dec_ne (n : Nat) : decDigits n ≠ [] := by
  rw [decDigits]; split <;> simp
theorem dec_head (n : Nat) (h0 : n ≠ 0) : (decDigits n).head? ≠ some 48 := by
  induction n using Nat.strongRecOn with
  | _ n ih =>
    by_cases h : n < 10
    · rw [decDigits, dif_pos h]
      simp only [List.head?_cons, ne_eq, Option.some.injEq]
      intro e
      have := congrArg UInt8.toNat e
      rw [toNat_ofNat _ (by omega)] at this
      have e2 : (48 : UInt8).toNat = 48 := rfl
      omega
    · rw [decDigits, dif_neg h]
      have := ih (n / 10) (by omega) (by omega)
      rw [List.head?_append]
      cases hh : (decDigits (n / 10)).head? with
      | none => exact absurd (List.head?_eq_none_iff.1 hh) (dec_ne _)
      | some x => rw [hh] at this; simpa using this
theorem dec_zero : decDigits 0 = [48] := by rw [decDigits, dif_pos (by omega)]; rfl
theorem dec_one : decDigits 1 = [49] := by rw [decDigits, dif_pos (by omega)]; rfl
theorem dec_inj {m n : Nat} (h : decDigits m = decDigits n) : m = n := by rw [← val_dec m, h, val_dec]
theorem dec_val (l : List UInt8) (h : ∀ c ∈ l, isD c = true) (hn : l ≠ []) (hz : l.head? ≠ some 48) : decDigits (val l) = l ∧ val l ≠ 0 := by
  revert h hn hz
  refine snoc_ind (P := fun l => (∀ c ∈ l, isD c = true) → l ≠ [] → l.head? ≠ some 48 → decDigits (val l) = l ∧ val l ≠ 0) ?_ ?_ l
  · intro _ h; exact absurd rfl h
  · intro l c ih h _ hz
    have h2 := isD_iff.1 (h c (by simp))
    rw [val_snoc]
    by_cases hl : l = []
    · subst hl
      have hc : c.toNat ≠ 48 := fun e => hz (by
        have : c = 48 := UInt8.toNat_inj.1 (by rw [e]; rfl)
        simp [this])
      refine ⟨?_, by omega⟩
      show decDigits (10 * 0 + (c.toNat - 48)) = [c]
      rw [decDigits, dif_pos (by omega)]
      simp only [List.cons.injEq, and_true]
      apply UInt8.toNat_inj.1
      rw [toNat_ofNat _ (by omega)]; omega
    · have hz' : l.head? ≠ some 48 := by
        rw [List.head?_append] at hz
        cases hh : l.head? with
        | none => simp
        | some x => rw [hh] at hz; simpa using hz
      obtain ⟨h3, h4⟩ := ih (fun x hx => h x (by simp [hx])) hl hz'
      refine ⟨?_, by omega⟩
      rw [decDigits, dif_neg (by omega), show (10 * val l + (c.toNat - 48)) / 10 = val l by omega, h3]
      congr 1
      simp only [List.cons.injEq, and_true]
      apply UInt8.toNat_inj.1
      rw [toNat_ofNat _ (by omega)]; omega
/-- The text of a number in lowest terms. -/
def text (neg : Bool) (n d : Nat) : List UInt8 := (if neg = true then [45] else []) ++ (decDigits n ++ if d = 1 then [] else 47 :: decDigits d)
def Canon (neg : Bool) (n d : Nat) : Prop := 0 < d ∧ Nat.gcd n d = 1 ∧ (n = 0 → neg = false)
def cut (l : List UInt8) : Bool × List UInt8 := if l.head? = some 45 then (true, l.tail) else (false, l)
/-- What the program reads. -/
def rdTail (neg : Bool) (num rest : List UInt8) : Option (Bool × Nat × Nat) :=
  match rest with
  | [] => some (neg, val num, 1)
  | c :: t => if c = 47 ∧ t.dropWhile isD = [] ∧ t.takeWhile isD ≠ [] ∧ (t.takeWhile isD).head? ≠ some 48 ∧ t.takeWhile isD ≠ [49] ∧ Nat.gcd (val num) (val (t.takeWhile isD)) = 1 then some (neg, val num, val (t.takeWhile isD)) else none
def rdBody (neg : Bool) (r : List UInt8) : Option (Bool × Nat × Nat) :=
  if r.takeWhile isD = [48] then (if neg = false ∧ r.dropWhile isD = [] then some (false, 0, 1) else none)
  else if r.takeWhile isD = [] ∨ (r.takeWhile isD).head? = some 48 then none
  else rdTail neg (r.takeWhile isD) (r.dropWhile isD)
def rd (l : List UInt8) : Option (Bool × Nat × Nat) := rdBody (cut l).1 (cut l).2
theorem tw_app {p : UInt8 → Bool} (a b : List UInt8) (ha : ∀ c ∈ a, p c = true) (hb : b = [] ∨ ∃ c t, b = c :: t ∧ p c = false) : (a ++ b).takeWhile p = a ∧ (a ++ b).dropWhile p = b := by
  induction a with
  | nil =>
    rcases hb with rfl | ⟨c, t, rfl, hc⟩
    · simp
    · simp [hc]
  | cons x a ih =>
    have := ih fun c hc => ha c (by simp [hc])
    simp [ha x (by simp), this]
theorem tw_all {p : UInt8 → Bool} (l : List UInt8) : ∀ c ∈ l.takeWhile p, p c = true := by
  exact List.all_eq_true.1 List.all_takeWhile
theorem not_isD_47 : isD 47 = false := by decide
theorem not_isD_45 : isD 45 = false := by decide
theorem cut_text (neg : Bool) (n d : Nat) : cut (text neg n d) = (neg, decDigits n ++ if d = 1 then [] else 47 :: decDigits d) := by
  unfold cut text
  cases neg with
  | true => simp
  | false =>
    have h : ((if false = true then ([45] : List UInt8) else []) ++ (decDigits n ++ if d = 1 then [] else 47 :: decDigits d)).head? ≠ some 45 := by
      simp only [Bool.false_eq_true, if_false, List.nil_append, List.head?_append]
      cases hh : (decDigits n).head? with
      | none => exact absurd (List.head?_eq_none_iff.1 hh) (dec_ne _)
      | some x =>
        have hx : x ∈ decDigits n := List.mem_of_mem_head? (by rw [hh]; rfl)
        have := dec_allD n x hx
        simp only [Option.some_or, ne_eq, Option.some.injEq]
        rintro rfl
        rw [not_isD_45] at this
        exact Bool.noConfusion this
    rw [if_neg h]; simp
theorem tail_form (d : Nat) : (if d = 1 then ([] : List UInt8) else 47 :: decDigits d) = [] ∨ ∃ c t, (if d = 1 then ([] : List UInt8) else 47 :: decDigits d) = c :: t ∧ isD c = false := by
  by_cases h : d = 1
  · left; simp [h]
  · right; exact ⟨47, decDigits d, by simp [h], not_isD_47⟩
theorem rd_text {neg : Bool} {n d : Nat} (h : Canon neg n d) : rd (text neg n d) = some (neg, n, d) := by
  obtain ⟨hd, hg, hn⟩ := h
  unfold rd
  rw [cut_text]
  obtain ⟨t1, t2⟩ := tw_app (decDigits n) _ (dec_allD n) (tail_form d)
  simp only [rdBody, t1, t2]
  by_cases h0 : n = 0
  · subst h0
    rw [dec_zero, if_pos rfl, hn rfl]
    have : d = 1 := by simpa using hg
    simp [this]
  · have hh := dec_head n h0
    rw [if_neg (fun e => hh (by rw [e]; rfl)), if_neg (fun e => by rcases e with e | e; exact dec_ne n e; exact hh e)]
    by_cases h1 : d = 1
    · simp [rdTail, h1, val_dec]
    · simp only [rdTail, if_neg h1]
      obtain ⟨s1, s2⟩ := tw_app (p := isD) (decDigits d) [] (dec_allD d) (.inl rfl)
      rw [List.append_nil] at s1 s2
      rw [s1, s2, if_pos ⟨by trivial, by trivial, dec_ne d, dec_head d (by omega), fun e => h1 (dec_inj (e.trans dec_one.symm)), by rw [val_dec, val_dec]; exact hg⟩, val_dec, val_dec]
/-! The reference: cut at the first '/', read both parts, divide by the greatest common divisor, write, compare. -/
def numOk (l : List UInt8) : Bool := l.all isD && !l.isEmpty
theorem numOk_iff {l : List UInt8} : numOk l = true ↔ (∀ c ∈ l, isD c = true) ∧ l ≠ [] := by unfold numOk; simp
/-! The parts of a text. -/
def SplitIs (l : List UInt8) (b : Bool) (num den : List UInt8) (ok : Bool) : Prop :=
  num.length ≤ l.length ∧ den.length ≤ l.length ∧ (ok = false → rd l = none) ∧
  (ok = true → numOk num = true ∧ (den = [] → rd l = some (b, val num, 1)) ∧ (den ≠ [] → numOk den = true ∧ val num ≠ 0 ∧ val den ≠ 0 ∧ rd l = if Nat.gcd (val num) (val den) = 1 then some (b, val num, val den) else none))
theorem cut_len (l : List UInt8) : (cut l).2.length ≤ l.length := by
  unfold cut; split
  · simp
  · exact Nat.le_refl _
theorem tw_len (p : UInt8 → Bool) (l : List UInt8) : (l.takeWhile p).length ≤ l.length := by
  have h := congrArg List.length (List.takeWhile_append_dropWhile (p := p) (l := l))
  rw [List.length_append] at h; omega
theorem dw_len (p : UInt8 → Bool) (l : List UInt8) : (l.dropWhile p).length ≤ l.length := by
  have h := congrArg List.length (List.takeWhile_append_dropWhile (p := p) (l := l))
  rw [List.length_append] at h; omega
section
variable {l r : List UInt8} {b : Bool} (hc : cut l = (b, r))
include hc
theorem spl_len : (r.takeWhile isD).length ≤ l.length ∧ r.length ≤ l.length := by
  have h1 := cut_len l
  have h2 := tw_len isD r
  rw [hc] at h1
  exact ⟨Nat.le_trans h2 h1, h1⟩
theorem rd_of : rd l = rdBody b r := by unfold rd; rw [hc]
theorem spl_zero (h : r.takeWhile isD = [48]) : SplitIs l b (r.takeWhile isD) [] (!b && (r.dropWhile isD).isEmpty) := by
  refine ⟨(spl_len hc).1, by simp, fun e => ?_, fun e => ⟨by rw [h]; rfl, fun _ => ?_, fun e => absurd rfl e⟩⟩
  · rw [rd_of hc, rdBody, if_pos h, if_neg]
    rintro ⟨h1, h2⟩
    rw [h1, h2] at e; cases e
  · rw [rd_of hc, rdBody, if_pos h, h]
    cases b with
    | true => cases e
    | false =>
      have : r.dropWhile isD = [] := by simpa using e
      rw [if_pos ⟨rfl, this⟩]; rfl
theorem spl_bad (h : r.takeWhile isD ≠ [48]) (h2 : r.takeWhile isD = [] ∨ (r.takeWhile isD).head? = some 48) : SplitIs l b (r.takeWhile isD) [] false :=
  ⟨(spl_len hc).1, by simp, fun _ => by rw [rd_of hc, rdBody, if_neg h, if_pos h2], fun e => by cases e⟩
theorem spl_whole (h : r.takeWhile isD ≠ [48]) (h2 : ¬ (r.takeWhile isD = [] ∨ (r.takeWhile isD).head? = some 48)) (h3 : r.dropWhile isD = []) : SplitIs l b (r.takeWhile isD) [] true :=
  ⟨(spl_len hc).1, by simp, fun e => (by cases e), fun _ => ⟨numOk_iff.2 ⟨tw_all _, fun e => h2 (.inl e)⟩, fun _ => by rw [rd_of hc, rdBody, if_neg h, if_neg h2, h3]; rfl, fun e => absurd rfl e⟩⟩
theorem spl_slash (h : r.takeWhile isD ≠ [48]) (h2 : ¬ (r.takeWhile isD = [] ∨ (r.takeWhile isD).head? = some 48)) {c : UInt8} {t : List UInt8} (h3 : r.dropWhile isD = c :: t) (h4 : c ≠ 47) : SplitIs l b (r.takeWhile isD) [] false :=
  ⟨(spl_len hc).1, by simp, fun _ => by rw [rd_of hc, rdBody, if_neg h, if_neg h2, h3, rdTail, if_neg (fun e => h4 e.1)], fun e => by cases e⟩
theorem spl_den (h : r.takeWhile isD ≠ [48]) (h2 : ¬ (r.takeWhile isD = [] ∨ (r.takeWhile isD).head? = some 48)) {t : List UInt8} (h3 : r.dropWhile isD = 47 :: t) {ok : Bool}
    (hok : ok = true ↔ t.dropWhile isD = [] ∧ t.takeWhile isD ≠ [] ∧ (t.takeWhile isD).head? ≠ some 48 ∧ t.takeWhile isD ≠ [49]) : SplitIs l b (r.takeWhile isD) (t.takeWhile isD) ok := by
  refine ⟨(spl_len hc).1, ?_, fun e => ?_, fun e => ⟨numOk_iff.2 ⟨tw_all _, fun e => h2 (.inl e)⟩, fun e2 => absurd e2 (hok.1 e).2.1, fun _ => ⟨numOk_iff.2 ⟨tw_all _, (hok.1 e).2.1⟩, (dec_val _ (tw_all _) (fun e => h2 (.inl e)) (fun e => h2 (.inr e))).2, (dec_val _ (tw_all _) (hok.1 e).2.1 (hok.1 e).2.2.1).2, ?_⟩⟩⟩
  · have a1 := tw_len isD t
    have a2 := dw_len isD r
    have a3 := (spl_len hc).2
    rw [h3, List.length_cons] at a2
    omega
  · rw [rd_of hc, rdBody, if_neg h, if_neg h2, h3, rdTail, if_neg]
    rintro ⟨_, a, b, c, d, _⟩
    rw [hok.2 ⟨a, b, c, d⟩] at e; cases e
  · obtain ⟨a, b, c, d⟩ := hok.1 e
    rw [rd_of hc, rdBody, if_neg h, if_neg h2, h3, rdTail]
    by_cases g : Nat.gcd (val (r.takeWhile isD)) (val (t.takeWhile isD)) = 1
    · rw [if_pos ⟨rfl, a, b, c, d, g⟩, if_pos g]
    · rw [if_neg (fun h => g h.2.2.2.2.2), if_neg g]
end
end Go.Qn
end
section
/- Monomials and polynomials as plain lists: their order, when they are valid. -/
namespace Go.Mo
open Go.Qn
/-- The order of two exponent vectors of one degree, decided below position k. -/
def ordT (a b : List Int) : Nat → Int
  | 0 => 0
  | k + 1 => if a.getD k 0 = b.getD k 0 then ordT a b k else if b.getD k 0 < a.getD k 0 then -1 else 1
def ord (a b : List Int) : Int := if a.sum = b.sum then ordT a b a.length else if a.sum < b.sum then -1 else 1
def vldM (m : List Int) : Bool := decide (m.length ≤ 6 ∧ (∀ e ∈ m, 0 ≤ e) ∧ m.sum ≤ 24)
/-! Polynomials: the number of variables, and the terms as a text and exponents. -/
abbrev Term := ByteArray × List Int
def low20 (e : List Int) : Bool := e.all fun x => decide (0 ≤ x) && decide (x ≤ 1048576)
def coefOk (s : ByteArray) : Bool := match rd s.data.toList with
  | some (_, n, _) => decide (n ≠ 0)
  | none => false
def termOk (v : Int) (t : Term) : Bool := coefOk t.1 && decide ((t.2.length : Int) = v) && low20 t.2
/-- The first k terms are well formed and descend. -/
def wfTo (v : Int) (ts : List Term) (k : Nat) : Prop := ∀ i, i < k → (h : i < ts.length) → termOk v ts[i] = true ∧ (0 < i → 0 < ord (ts.getD (i - 1) default).2 ts[i].2)
def wfP (v : Int) (ts : List Term) : Prop := 0 ≤ v ∧ v ≤ 6 ∧ wfTo v ts ts.length
/-- A polynomial is valid. -/
def VldP (v : Int) (ts : List Term) : Prop := ts.length ≤ 4096 ∧ wfP v ts ∧ ∀ h : 0 < ts.length, vldM ts[0].2 = true
end Go.Mo
end
section
/- A slice of slices of numbers that a call makes and lets grow: the outer row, the inner rows, all apart. -/
namespace Go.Proofs.Tg
open Go.RowKit
/-- The outer row holds the slices val j; each is a row of the call's own; no two share a block. -/
structure Fam (base : Nat) (C : Option Addr) (cc : Nat) (Cl : List (List Nat)) (val : Nat → Value) (w : World) : Prop where
  row : w.ownsRow base 41 1 (.slice C Cl.length cc) Cl.length ((List.range Cl.length).map val)
  own : ∀ j, j < Cl.length → w.ownsRow base 3 1 (val j) (Cl.getD j []).length ((Cl.getD j []).map vn)
  sep : ∀ i j, i < Cl.length → j < Cl.length → i ≠ j → (val i).ownBlock = none ∨ (val i).ownBlock ≠ (val j).ownBlock
theorem Fam.nil (base : Nat) (w : World) : Fam base none 0 [] (fun _ => .slice none 0 0) w :=
  ⟨World.ownsRow_nil _ _ _ _, fun j h => absurd h (by simp), fun i j h => absurd h (by simp)⟩
theorem Fam.keep {base : Nat} {C : Option Addr} {cc : Nat} {Cl : List (List Nat)} {val : Nat → Value} {w w' : World} (h : Fam base C cc Cl val w) (hb : Below w.heap.size w w') : Fam base C cc Cl val w' :=
  ⟨own_below h.row hb (Nat.le_refl _), fun j hj => own_below (h.own j hj) hb (Nat.le_refl _), h.sep⟩
theorem Fam.alloc {base : Nat} {C : Option Addr} {cc : Nat} {Cl : List (List Nat)} {val : Nat → Value} {w : World} (h : Fam base C cc Cl val w) (o : Obj) : Fam base C cc Cl val (w.alloc o) :=
  h.keep ((Below.refl _ _).alloc (Nat.le_refl _) o)
/-- Another block was written. -/
theorem Fam.other {base : Nat} {C : Option Addr} {cc : Nat} {Cl : List (List Nat)} {val : Nat → Value} {w w' : World} {row : Option Nat} (h : Fam base C cc Cl val w) (hg : w.grownBy w' row)
    (h1 : (Value.slice C Cl.length cc).ownBlock = none ∨ (Value.slice C Cl.length cc).ownBlock ≠ row) (h2 : ∀ j, j < Cl.length → (val j).ownBlock = none ∨ (val j).ownBlock ≠ row) : Fam base C cc Cl val w' :=
  ⟨h.row.kept hg h1, fun j hj => (h.own j hj).kept hg (h2 j hj), h.sep⟩
/-- A new, empty class. -/
theorem Fam.push {base : Nat} {C C' : Option Addr} {cc cc' : Nat} {Cl : List (List Nat)} {val : Nat → Value} {w w' : World} (h : Fam base C cc Cl val w)
    (hr : w'.ownsRow base 41 1 (.slice C' (Cl.length + 1) cc') (Cl.length + 1) ((List.range Cl.length).map val ++ [.slice none 0 0])) (hg : w.grownBy w' (Value.slice C Cl.length cc).ownBlock) :
    Fam base C' cc' (Cl ++ [[]]) (fun j => if j = Cl.length then .slice none 0 0 else val j) w' := by
  have hlen : (Cl ++ [[]]).length = Cl.length + 1 := by simp
  refine ⟨?_, fun j hj => ?_, fun i j hi hj hne => ?_⟩
  · rw [hlen]
    have e : (List.range (Cl.length + 1)).map (fun j => if j = Cl.length then Value.slice none 0 0 else val j) = (List.range Cl.length).map val ++ [.slice none 0 0] := by
      rw [List.range_succ, List.map_append]
      congr 1
      · refine List.map_congr_left fun j hj => ?_
        have := List.mem_range.1 hj
        rw [if_neg (by omega)]
      · simp
    rw [e]; exact hr
  · rw [hlen] at hj
    by_cases e : j = Cl.length
    · subst e
      rw [if_pos rfl]
      simp only [List.getD_eq_getElem?_getD, List.getElem?_append_right (Nat.le_refl _), Nat.sub_self]
      exact World.ownsRow_nil _ _ _ _
    · rw [if_neg e]
      have e2 : (Cl ++ [[]]).getD j [] = Cl.getD j [] := by
        simp only [List.getD_eq_getElem?_getD, List.getElem?_append_left (show j < Cl.length by omega)]
      rw [e2]
      exact (h.own j (by omega)).kept hg (own_ne (h.own j (by omega)) h.row (by decide))
  · rw [hlen] at hi hj
    by_cases e1 : i = Cl.length
    · rw [if_pos e1]; exact .inl rfl
    · rw [if_neg e1]
      by_cases e2 : j = Cl.length
      · rw [if_pos e2]
        cases hb : (val i).ownBlock with
        | none => exact .inl rfl
        | some g => exact .inr (by simp [Value.ownBlock])
      · rw [if_neg e2]
        exact h.sep i j (by omega) (by omega) hne
/-- A number is appended to class k and the new slice is stored. -/
theorem Fam.add {base : Nat} {g : Nat} {cc : Nat} {Cl : List (List Nat)} {val : Nat → Value} {w w' : World} {k i : Nat} {v' : Value} (h : Fam base (some ⟨g, 0, none⟩) cc Cl val w) (hk : k < Cl.length)
    (hr : w'.ownsRow base 3 1 v' ((Cl.getD k []).length + 1) ((Cl.getD k []).map vn ++ [vn i])) (hg : w.grownBy w' (val k).ownBlock) (hat : v'.ownBlock = (val k).ownBlock ∨ v'.ownBlock = some w.heap.size) :
    Fam base (some ⟨g, 0, none⟩) cc (Cl.set k (Cl.getD k [] ++ [i])) (fun j => if j = k then v' else val j) (w'.setCell ⟨g, k, none⟩ v') := by
  have hlen : (Cl.set k (Cl.getD k [] ++ [i])).length = Cl.length := by simp
  have hrow' := h.row.kept hg (own_ne h.row (h.own k hk) (by decide))
  have hst := hrow'.stored k v'
  have hgd : ∀ j, (Cl.set k (Cl.getD k [] ++ [i])).getD j [] = if j = k then Cl.getD k [] ++ [i] else Cl.getD j [] := by
    intro j
    simp only [List.getD_eq_getElem?_getD, List.getElem?_set]
    by_cases e : k = j
    · subst e; simp [hk]
    · simp [e, Ne.symm e]
  refine ⟨?_, fun j hj => ?_, fun a b ha hb hne => ?_⟩
  · rw [hlen]
    have e : (List.range Cl.length).map (fun j => if j = k then v' else val j) = ((List.range Cl.length).map val).set k v' := by
      refine List.ext_getElem (by simp) fun j h1 h2 => ?_
      simp only [List.getElem_map, List.getElem_range, List.getElem_set]
      by_cases e : k = j
      · subst e; simp
      · simp [e, Ne.symm e]
    rw [e]
    exact hst.1
  · rw [hlen] at hj
    rw [hgd]
    by_cases e : j = k
    · rw [if_pos e, if_pos e]
      have hr2 : w'.ownsRow base 3 1 v' (Cl.getD k [] ++ [i]).length ((Cl.getD k [] ++ [i]).map vn) := by simpa using hr
      exact hr2.kept hst.2 (own_ne hr2 hrow' (by decide))
    · rw [if_neg e, if_neg e]
      have h1 := (h.own j hj).kept hg (h.sep j k hj hk e)
      exact h1.kept hst.2 (own_ne h1 hrow' (by decide))
  · rw [hlen] at ha hb
    have hlt : ∀ j, j < Cl.length → (val j).ownBlock ≠ some w.heap.size := by
      intro j hj e
      have := ((h.own j hj).lt _ e).2
      omega
    by_cases e1 : a = k
    · rw [if_pos e1, if_neg (by omega)]
      rcases hat with hx | hx
      · rw [hx, ← e1]
        exact h.sep a b ha hb hne
      · right; rw [hx]; exact fun e => hlt b hb e.symm
    · rw [if_neg e1]
      by_cases e2 : b = k
      · rw [if_pos e2]
        rcases hat with hx | hx
        · rw [hx, ← e2]
          exact h.sep a b ha hb hne
        · right; rw [hx]; exact hlt a ha
      · rw [if_neg e2]
        exact h.sep a b ha hb hne
def toI (l : List Nat) : List Int := l.map fun x : Nat => (x : Int)
theorem Fam.lists {base : Nat} {C : Option Addr} {cc : Nat} {Cl : List (List Nat)} {val : Nat → Value} {w : World} (h : Fam base C cc Cl val w) : Lists w C (Cl.map toI) := by
  have hsl : ∀ j, j < Cl.length → ∃ A c, val j = .slice A (Cl.getD j []).length c ∧ Sl w A (Cl.getD j []).length 1 ((Cl.getD j []).map vn) := by
    intro j hj
    obtain ⟨A, c, h1, _, h3⟩ := Sl.of_own (h.own j hj)
    exact ⟨A, c, h1, h3⟩
  have hch : ∃ f : Nat → Option Addr × Nat, ∀ j, j < Cl.length → val j = .slice (f j).1 (Cl.getD j []).length (f j).2 ∧ Sl w (f j).1 (Cl.getD j []).length 1 ((Cl.getD j []).map vn) := by
    have : ∀ j, ∃ p : Option Addr × Nat, j < Cl.length → val j = .slice p.1 (Cl.getD j []).length p.2 ∧ Sl w p.1 (Cl.getD j []).length 1 ((Cl.getD j []).map vn) := by
      intro j
      by_cases hj : j < Cl.length
      · obtain ⟨A, c, h1⟩ := hsl j hj
        exact ⟨(A, c), fun _ => h1⟩
      · exact ⟨(none, 0), fun h => absurd h hj⟩
    exact ⟨fun j => Classical.choose (this j), fun j => Classical.choose_spec (this j)⟩
  obtain ⟨f, hf⟩ := hch
  have hgd : ∀ j, j < Cl.length → (Cl.map toI).getD j [] = toI (Cl.getD j []) := by
    intro j hj; simp [hj]
  refine ⟨f, ?_, fun j hj => ?_⟩
  · have := Sl.own h.row
    have e : ((List.range (Cl.map toI).length).map fun i => Value.slice (f i).1 ((Cl.map toI).getD i []).length (f i).2) = (List.range Cl.length).map val := by
      rw [List.length_map]
      refine List.map_congr_left fun j hj => ?_
      have hj := List.mem_range.1 hj
      rw [hgd j hj, (hf j hj).1]
      simp [toI]
    rw [e, List.length_map]
    exact this
  · have hj' : j < Cl.length := by simpa using hj
    rw [hgd j hj']
    have := (hf j hj').2
    have e : (toI (Cl.getD j [])).map vi = (Cl.getD j []).map vn := by simp [toI, vi, vn]
    show Sl w (f j).1 (toI (Cl.getD j [])).length 1 ((toI (Cl.getD j [])).map vi)
    rw [e, show (toI (Cl.getD j [])).length = (Cl.getD j []).length by simp [toI]]
    exact this
end Go.Proofs.Tg
end
section
/- Walks: cutting a sign and digits off a text. -/
namespace Go.Proofs.Tg
open Go.RowKit Go.Qn
set_option maxHeartbeats 400000
def bs (l : List UInt8) : ByteArray := ⟨l.toArray⟩
theorem bs_self (s : ByteArray) : bs s.data.toList = s := by cases s; rfl
theorem bs_data (l : List UInt8) : (bs l).data.toList = l := rfl
theorem bs_size (l : List UInt8) : (bs l).size = l.length := by show l.toArray.size = _; simp
theorem ext_bs (s : ByteArray) (a b : Nat) : s.extract a b = bs ((s.data.toList.drop a).take (b - a)) := by rw [← bs_self (s.extract a b), Lib.extract_data]
theorem ext_end (s : ByteArray) (a : Nat) : s.extract a s.size = bs (s.data.toList.drop a) := by rw [← bs_self (s.extract a s.size), Lib.extract_to_end]
theorem len_size (s : ByteArray) : s.data.toList.length = s.size := by rw [Array.length_toList]; rfl
theorem hasp_any (s : ByteArray) (w : World) (hs : s.size ≤ 64) :
    Calls Tryz.prog 168 #[.string s, .string ⟨#[45]⟩] w fun e w' => e = .returned (.bool (decide (s.data.toList.head? = some 45))) ∧ w = w' := by
  go_enter Tryz.func168, Tryz.ntmps168
  go_wp2
  · have h1 : 1 ≤ (s.size : Int) := by assumption
    go_ret
    refine ⟨?_, rfl⟩
    show Ending.returned (.bool ((s.extract 0 1).toList == [45])) = _
    rw [Lib.toList_data, Lib.extract_data]
    have hl := len_size s
    congr 2
    cases hd : s.data.toList with
    | nil => rw [hd] at hl; simp at hl; omega
    | cons c t => by_cases hc : c = 45 <;> simp [hc]
  · have h1 : (s.size : Int) < 1 := by assumption
    go_ret
    refine ⟨?_, rfl⟩
    have hl := len_size s
    have : s.data.toList = [] := List.eq_nil_of_length_eq_zero (by omega)
    rw [this]; rfl
theorem hasp_t (s : ByteArray) (w : World) (hs : s.size ≤ 64) (h : s.data.toList.head? = some 45) :
    Calls Tryz.prog 168 #[.string s, .string ⟨#[45]⟩] w fun e w' => e = .returned (.bool true) ∧ w = w' :=
  (hasp_any s w hs).mono fun e w' ⟨h1, h2⟩ => ⟨by rw [h1, decide_eq_true h], h2⟩
theorem hasp_f (s : ByteArray) (w : World) (hs : s.size ≤ 64) (h : s.data.toList.head? ≠ some 45) :
    Calls Tryz.prog 168 #[.string s, .string ⟨#[45]⟩] w fun e w' => e = .returned (.bool false) ∧ w = w' :=
  (hasp_any s w hs).mono fun e w' ⟨h1, h2⟩ => ⟨by rw [h1, decide_eq_false h], h2⟩
theorem cutl_any (s : ByteArray) (w : World) (hs : s.size ≤ 64) :
    Calls Tryz.prog 142 #[.string s, .string ⟨#[45]⟩] w fun e w' => e = .returned (.tuple #[.string (bs (cut s.data.toList).2), .bool (cut s.data.toList).1]) ∧ w = w' := by
  by_cases h : s.data.toList.head? = some 45
  · have h1 : 1 ≤ (s.size : Int) := by
      have hl := len_size s
      cases hd : s.data.toList with
      | nil => rw [hd] at h; cases h
      | cons c t => rw [hd] at hl; simp at hl; omega
    have H := Lib.hid h
    clear h
    go_enter Tryz.func142, Tryz.ntmps142
    go_wp2_with (go_at_call 168; refine (hasp_t _ _ hs H.out).mono ?_; rintro e w' ⟨rfl, rfl⟩)
    go_ret2
    refine ⟨?_, rfl⟩
    have H := H.out
    show Ending.returned (.tuple #[.string (s.extract 1 s.size), .bool true]) = _
    rw [ext_end]
    unfold cut
    rw [if_pos H]; simp
  · have H := Lib.hid h
    clear h
    go_enter Tryz.func142, Tryz.ntmps142
    go_wp2_with (go_at_call 168; refine (hasp_f _ _ hs H.out).mono ?_; rintro e w' ⟨rfl, rfl⟩)
    go_ret2
    refine ⟨?_, rfl⟩
    have H := H.out
    show Ending.returned (.tuple #[.string s, .bool false]) = _
    unfold cut
    rw [if_neg H, bs_self]
theorem cutp_any (s : ByteArray) (w : World) (hs : s.size ≤ 64) :
    Calls Tryz.prog 117 #[.string s, .string ⟨#[45]⟩] w fun e w' => e = .returned (.tuple #[.string (bs (cut s.data.toList).2), .bool (cut s.data.toList).1]) ∧ w = w' := by
  go_enter Tryz.func117, Tryz.ntmps117
  go_wp2_with (go_at_call 142; refine (cutl_any _ _ hs).mono ?_; rintro e w' ⟨rfl, rfl⟩)
  go_ret2
  exact ⟨rfl, rfl⟩
theorem tw_at {p : UInt8 → Bool} (l : List UInt8) (k : Nat) (h : ∀ c ∈ l.take k, p c = true) (hx : l.length ≤ k ∨ ∃ h : k < l.length, p l[k] = false) : l.takeWhile p = l.take k ∧ l.dropWhile p = l.drop k := by
  have := tw_app (p := p) (l.take k) (l.drop k) h (by
    rcases hx with hx | ⟨hk, hx⟩
    · left; rw [List.drop_eq_nil_iff]; exact hx
    · right; exact ⟨l[k], l.drop (k + 1), by rw [List.drop_eq_getElem_cons hk], hx⟩)
  rwa [List.take_append_drop] at this
theorem isD_int {c : UInt8} (h : isD c = true) : (48 : Int) ≤ (c.toNat : Int) ∧ (c.toNat : Int) ≤ 57 := by rw [isD_iff] at h; omega
set_option maxHeartbeats 1000000 in
theorem digits_any (s : ByteArray) (w : World) (hs : s.size ≤ 64) :
    Calls Tryz.prog 118 #[.string s] w fun e w' => e = .returned (.tuple #[.string (bs (s.data.toList.takeWhile isD)), .string (bs (s.data.toList.dropWhile isD))]) ∧ Below w.heap.size w w' := by
  go_enter Tryz.func118, Tryz.ntmps118
  go_wp2
  go_loop [4] (fun i => ∃ k : Nat, k ≤ s.size ∧ i = .int .i64 k ∧ Hid (∀ c ∈ s.data.toList.take k, isD c = true)) (fun i => s.size - (intOf i).toNat)
  case atStart => exact ⟨0, Nat.zero_le _, rfl, Lib.hid (by simp)⟩
  case round =>
    obtain ⟨k, hk, rfl, HD⟩ := hrel
    have hl := Lib.hid (len_size s)
    by_cases hlt : k < s.size
    · by_cases hc : isD s[k] = true
      · obtain ⟨c1, c2⟩ := isD_int hc
        have d1 : decide ((48 : Int) ≤ (s[k].toNat : Int)) = true := by simpa using c1
        have d2 : decide ((s[k].toNat : Int) ≤ 57) = true := by simpa using c2
        have HD' : Hid (∀ c ∈ s.data.toList.take (k + 1), isD c = true) := Lib.hid (by
          intro c hc'
          rw [List.take_succ_eq_append_getElem (by rw [hl.out]; exact hlt)] at hc'
          rcases List.mem_append.1 hc' with h | h
          · exact HD.out c h
          · simp only [List.mem_cons, List.not_mem_nil, or_false] at h
            rw [h]; exact hc)
        clear hc
        go_wp2
        go_round
        case rel => exact ⟨k + 1, by omega, by go_num, HD'⟩
        case measure => simp [intOf]; omega
      · have hx : (s[k].toNat : Int) < 48 ∨ 57 < (s[k].toNat : Int) := by
          rw [isD_iff] at hc; omega
        have HX : Hid (s.data.toList.takeWhile isD = s.data.toList.take k ∧ s.data.toList.dropWhile isD = s.data.toList.drop k) := Lib.hid (tw_at _ k HD.out (.inr ⟨by rw [hl.out]; exact hlt, eq_false_of_ne_true hc⟩))
        clear hc
        have q1 : (k : Int) ≤ (s.size : Int) := by omega
        have q2 : (0 : Int) ≤ (k : Int) := by omega
        have q3 : ((k : Int)).toNat = k := by omega
        rcases hx with hx | hx
        · have d1 : decide ((48 : Int) ≤ (s[k].toNat : Int)) = false := by simp; omega
          go_wp2
          go_quiet (fail)
          go_wp2
          go_ret2
          refine ⟨?_, below_drewN (Below.refl _ _) _⟩
          show Ending.returned (.tuple #[.string (s.extract 0 k), .string (s.extract k s.size)]) = _
          rw [ext_bs, ext_end, HX.out.1, HX.out.2]; simp
        · have d1 : decide ((48 : Int) ≤ (s[k].toNat : Int)) = true := by simp; omega
          have d2 : decide ((s[k].toNat : Int) ≤ 57) = false := by simp; omega
          go_wp2
          go_quiet (fail)
          go_wp2
          go_ret2
          refine ⟨?_, below_drewN (Below.refl _ _) _⟩
          show Ending.returned (.tuple #[.string (s.extract 0 k), .string (s.extract k s.size)]) = _
          rw [ext_bs, ext_end, HX.out.1, HX.out.2]; simp
    · obtain rfl : k = s.size := by omega
      have HX : Hid (s.data.toList.takeWhile isD = s.data.toList.take s.size ∧ s.data.toList.dropWhile isD = s.data.toList.drop s.size) := Lib.hid (tw_at _ s.size HD.out (.inl (by rw [hl.out]; omega)))
      have q2 : (0 : Int) ≤ (s.size : Int) := by omega
      have q3 : ((s.size : Int)).toNat = s.size := by omega
      have d0 : decide (s.size < s.size) = false := by simp
      go_wp2
      go_quiet (fail)
      go_wp2
      go_ret2
      refine ⟨?_, below_drewN (Below.refl _ _) _⟩
      show Ending.returned (.tuple #[.string s, .string ByteArray.empty]) = _
      have h1 : s.data.toList.take s.size = s.data.toList := List.take_of_length_le (by rw [hl.out]; omega)
      have h2 : s.data.toList.drop s.size = [] := List.drop_eq_nil_iff.2 (by rw [hl.out]; omega)
      rw [HX.out.1, HX.out.2, h1, h2, bs_self]; rfl
end Go.Proofs.Tg
end
