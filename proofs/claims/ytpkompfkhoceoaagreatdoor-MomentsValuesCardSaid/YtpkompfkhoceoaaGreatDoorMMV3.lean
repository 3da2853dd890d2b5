/- Parts of the proof: WD4, XD1, PV, XK1, NU6, NU7, NU10, NU11, NU13. -/
import Derived.Maps.OwnOps
import Derived.Maps.OwnSet
import Derived.Maps.Views
import Derived.Laws.IdiomStrings
import Derived.Laws.BytesArg
import Derived.Carry
import Derived.Deep.Cut
import Derived.Deep.RegionHeld3
import Derived.Test.YtpkompfkhoceoaaGreatDoorMMV0
import Derived.Test.YtpkompfkhoceoaaGreatDoorMMV1
import Derived.Test.YtpkompfkhoceoaaGreatDoorMMV2
section
/- Walks: classes of monomials. -/
namespace Go.Proofs.Tg
open Go.RowKit Go.Gr Go.Ev Go.Mo
open Go.ChangeShapes Go.WideShapes
set_option maxHeartbeats 4000000
set_option maxRecDepth 100000
/-- A character as a key. -/
def kb (q : List Int) : List UInt8 := q.map fun x => UInt8.ofNat x.toNat
theorem kb_inj : ∀ {p q : List Int}, Bit01 p → Bit01 q → kb p = kb q → p = q
  | [], [], _, _, _ => rfl
  | [], _ :: _, _, _, h => by simp [kb] at h
  | _ :: _, [], _, _, h => by simp [kb] at h
  | x :: p, y :: q, hp, hq, h => by
    simp only [kb, List.map_cons, List.cons.injEq] at h
    have h2 := kb_inj (p := p) (q := q) (fun z hz => hp z (by simp [hz])) (fun z hz => hq z (by simp [hz])) h.2
    have hx := hp x (by simp)
    have hy := hq y (by simp)
    have h1 := h.1
    rw [h2]
    congr 1
    rcases hx with rfl | rfl <;> rcases hy with rfl | rfl
    · rfl
    · exact absurd h1 (by decide)
    · exact absurd h1 (by decide)
    · rfl
def MapOK (K : List (List Int)) (D : DataW Unit) : Prop :=
  Maps.IsMap D ∧ ∀ q, Bit01 q → (Maps.has D (.string (kb q)) = decide (q ∈ K)) ∧ (q ∈ K → D.atKey (.string (kb q)) (.lit (.int .i64 0)) = .lit (.int .i64 (K.idxOf q : Nat)))
theorem MapOK.nil : MapOK [] (.map []) := ⟨Maps.isMap_empty, fun q _ => ⟨by simp [Maps.has_eq], fun h => by cases h⟩⟩
theorem MapOK.put {K : List (List Int)} {D : DataW Unit} (h : MapOK K D) (_hK : ∀ k ∈ K, Bit01 k) {q : List Int} (hq : Bit01 q) (hn : q ∉ K) : MapOK (K ++ [q]) (D.put (.string (kb q)) (.lit (.int .i64 (K.length : Nat)))) := by
  refine ⟨h.1.put _ _, fun p hp => ?_⟩
  by_cases e : p = q
  · subst e
    refine ⟨by rw [Maps.has_put_same h.1 (by simp [WideAt.IsKeyLit])]; simp, fun _ => ?_⟩
    rw [Maps.atKey_put_same h.1 (by simp [WideAt.IsKeyLit]), List.idxOf_append, if_neg hn]
    simp
  · have hne : (Lit.string (kb p)) ≠ .string (kb q) := fun e2 => by
      injection e2 with e2
      exact e (kb_inj hp hq e2)
    refine ⟨by rw [Maps.has_put_other hne, (h.2 p hp).1]; simp [e], fun hm => ?_⟩
    have hm' : p ∈ K := by simpa [e] using hm
    rw [Maps.atKey_put_other hne, (h.2 p hp).2 hm', List.idxOf_append, if_pos hm']
def vb (c : UInt8) : Value := .int .u8 (c.toNat : Int)
theorem byte_info : (Tryz.prog.info? 5).map (fun i => (i.zero, i.size, i.bytes)) = some (some (.int .u8 0), 1, 1) := by kernel_rfl
/-- The bytes of a slice as a text. -/
theorem conv_name (w : World) (A : Option Addr) (c : Nat) (l : List UInt8) (h : Sl w A l.length 1 (l.map vb)) : (convert 149 9 (.slice A l.length c)).run Tryz.prog w = .ok (.string (bs l)) w := by
  by_cases h0 : l = []
  · subst h0
    cases A with
    | none => exact run_convert_bytes_nil w _ 5 Tryz.underlying149 Tryz.underlying5 0 c _ Tryz.underlying9
    | some ad => exact run_convert_bytes_back w _ _ 5 ad c [] Tryz.underlying149 Tryz.underlying5 Tryz.underlying9 (fun j hj => by simp at hj)
  · obtain ⟨ad, rfl, _, ha⟩ := h.lies (List.length_pos_iff.2 h0)
    exact run_convert_bytes_back w _ _ 5 ad c l Tryz.underlying149 Tryz.underlying5 Tryz.underlying9 (fun j hj => ha j _ (by simp [hj, vb]))
end Go.Proofs.Tg
end
section
/- Walks of the reference: monomials, sign vectors, inner products, the check. -/
namespace Go.Proofs.Tg
open Go.RowKit Go.Gr Go.Ev Go.Mo
set_option maxHeartbeats 2000000
set_option maxRecDepth 100000
theorem rdeg_any (A : Option Addr) (c : Nat) (m : List Int) (w : World) (hA : Ints w A m) (hn : m.length ≤ 1000) :
    Calls Tryz.prog 128 #[.slice A m.length c] w fun e w' => e = .returned (.int .i64 (degM m)) ∧ w = w' := by
  by_cases hl : m.length ≤ 6
  · have hd : decide ((6 : Int) < (m.length : Int)) = false := by simp; omega
    go_enter Tryz.func128, Tryz.ntmps128
    go_wp2
    go_loop [3, 4] (fun s i => ∃ k : Nat, k ≤ m.length ∧ i = .int .i64 k ∧ ∃ z : Int, s = .int .i64 z ∧ 0 ≤ z ∧ z ≤ 24 ∧ Hid (z = (m.take k).sum ∧ ∀ e ∈ m.take k, 0 ≤ e)) (fun _ i => m.length - (intOf i).toNat)
    case atStart => exact ⟨0, Nat.zero_le _, rfl, 0, rfl, by omega, by omega, Lib.hid ⟨rfl, by simp⟩⟩
    case round =>
      obtain ⟨k, hk, rfl, z, rfl, hz0, hz1, HZ⟩ := hrel
      by_cases hlt : k < m.length
      · obtain ⟨ad, rfl, hc⟩ := Ints.at hA hlt
        have HS : Hid ((m.take (k + 1)).sum = z + m[k]) := Lib.hid (by rw [sum_take_succ m k hlt, ← HZ.out.1])
        have HB : Hid (m[k] < 0 ∨ 24 - z < m[k] → vldM m = false) := Lib.hid (fun h => vldM_bad hlt (by rw [← HZ.out.1]; exact h))
        have HT : Hid (m.take (k + 1) = m.take k ++ [m[k]]) := Lib.hid (List.take_succ_eq_append_getElem hlt)
        clear hA
        generalize m[k] = x at hc HS HB HT
        by_cases h1 : x < 0
        · have b1 : decide (x < 0) = true := by simpa using h1
          have HF : Hid (degM m = -1) := Lib.hid (by unfold degM; rw [HB.out (.inl h1)]; rfl)
          go_wp2
          go_ret
          exact ⟨by rw [HF.out]; rfl, rfl⟩
        · have b1 : decide (x < 0) = false := by simpa using h1
          by_cases h2 : 24 - z < x
          · have b2 : decide (24 - z < x) = true := by simpa using h2
            have HF : Hid (degM m = -1) := Lib.hid (by unfold degM; rw [HB.out (.inr h2)]; rfl)
            go_wp2
            go_ret
            exact ⟨by rw [HF.out]; rfl, rfl⟩
          · have b2 : decide (24 - z < x) = false := by simpa using h2
            go_wp2
            go_round
            case rel =>
              refine ⟨k + 1, by omega, by go_num, z + x, rfl, by omega, by omega, Lib.hid ⟨HS.out.symm, fun e he => ?_⟩⟩
              rw [HT.out] at he
              rcases List.mem_append.1 he with he | he
              · exact HZ.out.2 e he
              · simp at he; omega
            case measure => simp [intOf]; omega
      · obtain rfl : k = m.length := by omega
        have HF : Hid (degM m = z) := Lib.hid (by
          have h := HZ.out
          rw [List.take_length] at h
          unfold degM
          rw [if_pos (vldM_iff.2 ⟨hl, h.2, by omega⟩), h.1])
        go_wp2
        go_ret
        exact ⟨by rw [HF.out]; rfl, rfl⟩
  · have hd : decide ((6 : Int) < (m.length : Int)) = true := by simp; omega
    have HF : Hid (degM m = -1) := Lib.hid (by
      unfold degM
      rw [if_neg (by rw [vldM_iff]; exact fun h => hl h.1)])
    go_enter Tryz.func128, Tryz.ntmps128
    go_wp2
    go_ret
    exact ⟨by rw [HF.out]; rfl, rfl⟩
theorem rvalid_any (A : Option Addr) (c : Nat) (m : List Int) (w : World) (hA : Ints w A m) (hn : m.length ≤ 1000) :
    Calls Tryz.prog 127 #[.slice A m.length c] w fun e w' => e = .returned (.bool (vldM m)) ∧ w = w' := by
  have HD : Hid (decide (0 ≤ degM m) = vldM m) := Lib.hid degM_ge
  have HC := Lib.hid (rdeg_any A c m w hA hn)
  by_cases hl : m.length ≤ 6
  · have hd : decide ((m.length : Int) ≤ 6) = true := by simp; omega
    generalize degM m = z at *
    go_enter Tryz.func127, Tryz.ntmps127
    go_wp2_with (go_at_call 128; refine HC.out.mono ?_; rintro e w' ⟨rfl, rfl⟩)
    go_ret
    exact ⟨by rw [← HD.out]; rfl, rfl⟩
  · have hd : decide ((m.length : Int) ≤ 6) = false := by simp; omega
    have HF : Hid (vldM m = false) := Lib.hid (eq_false_of_ne_true (by rw [vldM_iff]; exact fun h => hl h.1))
    go_enter Tryz.func127, Tryz.ntmps127
    go_wp2
    go_ret
    exact ⟨by rw [HF.out]; rfl, rfl⟩
end Go.Proofs.Tg
end
section
/- Polynomials in memory: a slice of terms, each a text and a slice of exponents. -/
namespace Go.Proofs.Tg
open Go.RowKit Go.Mo
theorem flat_get {α : Type} (f : α → List Value) (sz : Nat) (h : ∀ x, (f x).length = sz) : ∀ (ls : List α) (i j : Nat) (hi : i < ls.length), j < sz → (ls.flatMap f)[i * sz + j]? = (f ls[i])[j]?
  | x :: ls, 0, j, _, hj => by
    rw [List.flatMap_cons, Nat.zero_mul, Nat.zero_add, List.getElem?_append_left (by rw [h]; exact hj)]; rfl
  | x :: ls, i + 1, j, hi, hj => by
    rw [List.flatMap_cons, List.getElem?_append_right (by rw [h, Nat.succ_mul]; omega), h, show (i + 1) * sz + j - sz = i * sz + j by rw [Nat.succ_mul]; omega]
    rw [flat_get f sz h ls i j (by simpa using hi) hj]; rfl
/-- A term in memory. -/
structure TV where
  coef : ByteArray
  adr : Option Addr
  cap : Nat
  exps : List Int
def TV.cells (t : TV) : List Value := [.string t.coef, .slice t.adr t.exps.length t.cap]
def TV.pl (t : TV) : Term := (t.coef, t.exps)
/-- The slice at T holds the terms. -/
structure TermsAt (w : World) (T : Option Addr) (tv : List TV) : Prop where
  sl : Sl w T tv.length 2 (tv.flatMap TV.cells)
  ints : ∀ t ∈ tv, Ints w t.adr t.exps
theorem TermsAt.keep {w w' : World} {T : Option Addr} {tv : List TV} (h : TermsAt w T tv) (hb : Below w.heap.size w w') : TermsAt w' T tv :=
  ⟨h.sl.keep hb, fun t ht => (h.ints t ht).keep hb⟩
theorem off_one (a : Addr) (k : Nat) : (⟨(a.add k).block, (a.add k).off + 1, none⟩ : Addr) = a.add (k + 1) := by
  rw [← add_add]; simp [Addr.add]
theorem TermsAt.at {w : World} {T : Option Addr} {tv : List TV} (h : TermsAt w T tv) {k : Nat} (hk : k < tv.length) :
    ∃ ad, T = some ad ∧ w.cell? (ad.add (k * 2)) = some (.string tv[k].coef) ∧ w.cell? ⟨(ad.add (k * 2)).block, (ad.add (k * 2)).off + 1, none⟩ = some (.slice tv[k].adr tv[k].exps.length tv[k].cap) ∧ Ints w tv[k].adr tv[k].exps := by
  obtain ⟨ad, rfl, _, ha⟩ := h.sl.lies (by omega)
  refine ⟨ad, rfl, ha _ _ ?_, (congrArg w.cell? (off_one ad (k * 2))).trans (ha _ _ ?_), h.ints _ (List.getElem_mem _)⟩
  · have := flat_get TV.cells 2 (fun _ => rfl) tv k 0 hk (by omega)
    rw [Nat.add_zero] at this
    exact this
  · exact flat_get TV.cells 2 (fun _ => rfl) tv k 1 hk (by omega)
theorem TermsAt.nil (w : World) (T : Option Addr) : TermsAt w T [] := ⟨Sl.nil _ _ _, fun _ h => by cases h⟩
/-- A polynomial in memory. -/
structure PVal where
  vars : Int
  adr : Option Addr
  cap : Nat
  tv : List TV
def PVal.cells (p : PVal) : List Value := [.int .i64 p.vars, .slice p.adr p.tv.length p.cap]
structure PolysAt (w : World) (L : Option Addr) (ps : List PVal) : Prop where
  sl : Sl w L ps.length 2 (ps.flatMap PVal.cells)
  tms : ∀ p ∈ ps, TermsAt w p.adr p.tv
theorem PolysAt.keep {w w' : World} {L : Option Addr} {ps : List PVal} (h : PolysAt w L ps) (hb : Below w.heap.size w w') : PolysAt w' L ps :=
  ⟨h.sl.keep hb, fun p hp => (h.tms p hp).keep hb⟩
theorem PolysAt.at {w : World} {L : Option Addr} {ps : List PVal} (h : PolysAt w L ps) {k : Nat} (hk : k < ps.length) :
    ∃ ad, L = some ad ∧ w.cell? (ad.add (k * 2)) = some (.int .i64 ps[k].vars) ∧ w.cell? ⟨(ad.add (k * 2)).block, (ad.add (k * 2)).off + 1, none⟩ = some (.slice ps[k].adr ps[k].tv.length ps[k].cap) ∧ TermsAt w ps[k].adr ps[k].tv := by
  obtain ⟨ad, rfl, _, ha⟩ := h.sl.lies (by omega)
  refine ⟨ad, rfl, ha _ _ ?_, (congrArg w.cell? (off_one ad (k * 2))).trans (ha _ _ ?_), h.tms _ (List.getElem_mem _)⟩
  · have := flat_get PVal.cells 2 (fun _ => rfl) ps k 0 hk (by omega)
    rw [Nat.add_zero] at this
    exact this
  · exact flat_get PVal.cells 2 (fun _ => rfl) ps k 1 hk (by omega)
/-- A polynomial's plain content. -/
def PVal.ok (p : PVal) : Prop := VldP p.vars (p.tv.map TV.pl)
/-- Few terms, short texts. -/
def PVal.small (p : PVal) : Prop := p.tv.length ≤ 4096 ∧ ∀ t ∈ p.tv, t.coef.size ≤ 19 ∧ t.exps.length ≤ 64
end Go.Proofs.Tg
end
section
/- The reference's leading and orthogonal; the harness's SmallPoly. -/
namespace Go.Ev
end Go.Ev
namespace Go.Proofs.Tg
open Go.RowKit Go.Gr Go.Ev Go.Mo
set_option maxHeartbeats 4000000
set_option maxRecDepth 100000
theorem Dr.trans {w w' w'' : World} (h : Dr w w') (k : Dr w' w'') : Dr w w'' := by
  obtain ⟨n, rfl⟩ := k
  exact h.drewN n
def PVal.few (n m : Nat) (p : PVal) : Prop := p.tv.length ≤ n ∧ ∀ t ∈ p.tv, t.coef.size ≤ m ∧ t.exps.length ≤ 12
end Go.Proofs.Tg
end
section
/- The harness's numbers: how many bits a number of at most one digit has. -/
namespace Go.Proofs.Tg
open Go.RowKit Go.Gr
set_option maxHeartbeats 1000000
set_option maxRecDepth 100000
/-- The bits of v, counted by halving. -/
def blen (v : Nat) : Nat := if v = 0 then 0 else blen (v / 2) + 1
termination_by v
decreasing_by omega
theorem blen_zero : blen 0 = 0 := by unfold blen; simp
theorem blen_pos {v : Nat} (h : v ≠ 0) : blen v = blen (v / 2) + 1 := by rw [blen]; simp [h]
theorem blen_one {v : Nat} : blen v = 1 ↔ v = 1 := by
  by_cases h : v = 0
  · subst h; rw [blen_zero]
  · rw [blen_pos h]
    by_cases h2 : v / 2 = 0
    · rw [h2, blen_zero]; omega
    · rw [blen_pos h2]; omega
theorem blen_gt {v : Nat} : 1 < blen v ↔ 1 < v := by
  by_cases h : v = 0
  · subst h; rw [blen_zero]
  · rw [blen_pos h]
    by_cases h2 : v / 2 = 0
    · rw [h2, blen_zero]; omega
    · rw [blen_pos h2]; omega
theorem blen_le : ∀ (n v : Nat), v ≤ n → blen v ≤ v
  | 0, v, h => by
    obtain rfl : v = 0 := by omega
    rw [blen_zero]; exact Nat.le_refl _
  | n + 1, v, h => by
    by_cases h0 : v = 0
    · subst h0; rw [blen_zero]; exact Nat.le_refl _
    · rw [blen_pos h0]
      have := blen_le n (v / 2) (by omega)
      omega
theorem bits_one (b : Bool) (A : Option Addr) (c v : Nat) (w : World) (hA : Digs w A [v]) (hv : v < 4294967296) :
    Calls Tryz.prog 77 #[.agg #[.bool b, .slice A 1 c]] w fun e w' => e = .returned (.int .i64 (blen v : Nat)) ∧ Below w.heap.size w w' := by
  have hbA : Below w.heap.size w (w.alloc (.cells #[.bool b, .slice A 1 c] 50)) := (Below.refl _ _).alloc (Nat.le_refl _) _
  obtain ⟨ad, rfl, ha⟩ := Digs.at hA (k := 0) (by simp)
  have ha : w.cell? ad = some (.int .u32 (v : Nat)) := by simpa [Addr.add] using ha
  have hlt : ad.block < w.heap.size := World.block_lt_of_cell? w _ ha
  have hle := blen_le v v (Nat.le_refl _)
  obtain ⟨q, hq⟩ : ∃ q, blen v = q := ⟨_, rfl⟩
  rw [hq] at hle ⊢
  have HQ := Lib.hid hq
  clear hA hq
  go_enter Tryz.func77, Tryz.ntmps77
  go_wp2
  go_loop [3, 4] (fun s3 s4 => ∃ k x : Nat, s3 = .int .i64 k ∧ s4 = .int .u32 x ∧ x < 4294967296 ∧ k ≤ q ∧ Hid (k + blen x = q)) (fun _ s4 => (intOf s4).toNat)
  case atStart => exact ⟨0, v, rfl, rfl, hv, Nat.zero_le _, Lib.hid (by rw [HQ.out]; omega)⟩
  case round =>
    obtain ⟨k, x, rfl, rfl, hx, hk, HK⟩ := hrel
    by_cases h0 : x = 0
    · subst h0
      obtain rfl : k = q := by have := HK.out; rw [blen_zero] at this; omega
      go_wp2
      go_ret
      exact ⟨rfl, hbA⟩
    · have hd : decide ((0 : Int) < (x : Int)) = true := by simp; omega
      have hd' : decide (0 < x) = true := by simp; omega
      have HK2 : Hid (k + 1 + blen (x / 2) = q) := Lib.hid (by have := HK.out; rw [blen_pos h0] at this; omega)
      have hk1 : k + 1 ≤ q := by have := HK2.out; omega
      have hx2 : (x : Int).fdiv (2 ^ min (Int.toNat 1) IntKind.u32.bits) = ((x / 2 : Nat) : Int) := by
        have e : (2 : Int) ^ min (Int.toNat 1) IntKind.u32.bits = 2 := by decide
        rw [e, Int.fdiv_eq_ediv_of_nonneg _ (by omega)]; simp
      go_wp2
      go_round
      case rel => exact ⟨k + 1, x / 2, by go_num, by simp, by omega, hk1, HK2⟩
      case measure => simp [intOf]; omega
end Go.Proofs.Tg
end
section
/- The harness's numbers: divMag of numbers of one digit. -/
namespace Go.Proofs.Tg
open Go.RowKit Go.Gr
set_option maxHeartbeats 1000000
set_option maxRecDepth 100000
/-- The digits of a number below 2^32. -/
def mg (v : Nat) : List Nat := if v = 0 then [] else [v]
theorem mg_zero : mg 0 = [] := rfl
theorem mg_pos {v : Nat} (h : v ≠ 0) : mg v = [v] := if_neg h
end Go.Proofs.Tg
end
section
/- The harness's numbers: quotient and remainder with signs; fractions in lowest terms. -/
namespace Go.Proofs.Tg
open Go.RowKit Go.Gr
set_option maxHeartbeats 2000000
set_option maxRecDepth 100000
def dl (x : Nat) : List Nat := if x = 1 then [] else mg x
end Go.Proofs.Tg
end
section
/- The harness's numbers: the decimal digits of a number below 10^9. -/
namespace Go.Proofs.Tg
open Go.RowKit Go.Gr Go.Qn
set_option maxHeartbeats 2000000
set_option maxRecDepth 100000
def ddg (v : Nat) : List UInt8 := if v = 0 then [] else Lib.decDigits v
theorem ddg_step (x r : Nat) (hr : r < 10) (h : ¬ (x = 0 ∧ r = 0)) : ddg (10 * x + r) = ddg x ++ [UInt8.ofNat (48 + r)] := by
  unfold ddg
  rw [if_neg (by omega)]
  by_cases h0 : x = 0
  · subst h0
    rw [if_pos rfl, Lib.decDigits, dif_pos (by omega)]; simp
  · rw [if_neg h0, Lib.decDigits, dif_neg (by omega), show (10 * x + r) / 10 = x by omega, show (10 * x + r) % 10 = r by omega]
theorem pow_split (v j : Nat) : v / 10 ^ j = 10 * (v / 10 ^ (j + 1)) + v / 10 ^ j % 10 := by
  have : v / 10 ^ (j + 1) = v / 10 ^ j / 10 := by rw [Nat.pow_succ, Nat.div_div_eq_div_mul]
  rw [this]; omega
theorem digits_nil (b : Bool) (A : Option Addr) (c : Nat) (w : World) :
    Calls Tryz.prog 49 #[.agg #[.bool b, .slice A 0 c]] w fun e w' => e = .returned (.string ⟨#[48]⟩) ∧ Below w.heap.size w w' := by
  have hbA : Below w.heap.size w (w.alloc (.cells #[.bool b, .slice A 0 c] 50)) := (Below.refl _ _).alloc (Nat.le_refl _) _
  go_enter Tryz.func49, Tryz.ntmps49
  go_wp2
  go_ret
  exact ⟨rfl, hbA⟩
theorem digits_one (b : Bool) (A : Option Addr) (c v : Nat) (w : World) (hA : Digs w A [v]) (hv : v < 1000000000) (hv0 : v ≠ 0) :
    Calls Tryz.prog 49 #[.agg #[.bool b, .slice A 1 c]] w fun e w' => e = .returned (.string (bs (Lib.decDigits v))) ∧ Below w.heap.size w w' := by
  have hbA : Below w.heap.size w (w.alloc (.cells #[.bool b, .slice A 1 c] 50)) := (Below.refl _ _).alloc (Nat.le_refl _) _
  have HDV : Hid (ddg v = Lib.decDigits v) := Lib.hid (by unfold ddg; rw [if_neg hv0])
  have HS : Hid (∀ W, Below w.heap.size w W → Calls Tryz.prog 85 #[.slice A 1 c, .int .u32 1000000000] W fun e w' => e = .returned (.tuple #[.slice (some ⟨W.heap.size, 0, none⟩) 0 1, .int .u32 (v : Nat)]) ∧ Below W.heap.size W w') := Lib.hid (fun W hW => by
    have h1 := sdiv_one A c v 1000000000 W (hA.keep hW) (by omega) (by omega) (by omega)
    rw [Nat.div_eq_of_lt hv, Nat.mod_eq_of_lt hv] at h1
    exact h1.mono fun e w' ⟨h1, _, h3⟩ => ⟨h1, h3⟩)
  obtain ⟨i0, hi, hz0, hz1, hz2⟩ := info_parts dig_info
  obtain ⟨ib, hib, hbz0, hbz1, hbz2⟩ := info_parts byte_info
  clear hA hv0
  go_enter Tryz.func49, Tryz.ntmps49
  go_wp2
  refine wp_loop_rounds 2 ?_
  rw [rounds_succ]
  go_wp2_with (first
    | (go_at_call 85; refine (HS.out _ hbA).mono ?_; rintro e w1 ⟨rfl, hb1⟩; have hs1 : w.heap.size + 1 ≤ w1.heap.size := by (have := hb1.size; simpa using this))
    | (at_builtin; refine wpList_append_own _ rfl _ _ 48 rfl w.heap.size 137 i0 (.int .u32 0) 1 4 Tryz.underlying48 hi hz0 hz1 hz2 rfl (by decide) (.slice none 0 0) 0 [] rfl (World.ownsRow_nil _ _ _ _) ⟨w1.heap.size, 0, none⟩ 1 1 [.int .u32 v] rfl rfl ?c1 ?c2 ?c3 ?c4 ?c5 ?_
       case c1 => exact cell_one_new _ _ _
       case c2 => simp [Value.oneCell']
       case c3 => simp only [maxLen]; omega
       case c4 => omega
       case c5 => simp; omega
       intro v' w2 hown' hgrow _
       obtain ⟨R, cr, hvv, hcr, hS⟩ := Sl.of_own hown'
       subst hvv))
  have hb1' := hbA.trans (hb1.mono (by simp))
  have hb2 : Below w.heap.size w w2 := (hb1'.alloc hb1'.size _).grown hgrow (by simp; have := hb1'.size; omega) (fun k hk => by simp [Value.ownBlock] at hk)
  obtain ⟨pd, rfl, hp0⟩ := Sl.at1 hS (k := 0) (by simp)
  have hp : w2.cell? pd = some (.int .u32 (v : Nat)) := by simpa [Addr.add] using hp0
  clear hp0
  clear hgrow hS hb1 hb1' hbA
  rw [rounds_succ]
  go_wp2
  refine wp_loop_rounds 2 ?_
  rw [rounds_succ]
  go_wp2
  go_loopw [7, 9] (fun s7 s9 wr => ∃ (j dv : Nat) (O : Option Addr) (co : Nat) (L : List UInt8), s7 = .slice O L.length co ∧ s9 = .int .u32 dv ∧ j ≤ 9 ∧ dv ≤ 100000000 ∧ Hid (dv = 10 ^ j / 10) ∧ Hid (L = ddg (v / 10 ^ j)) ∧ L.length + j ≤ 9 ∧ wr.ownsRow w2.heap.size 5 1 (.slice O L.length co) L.length (L.map vb) ∧ Below w2.heap.size w2 wr) (fun _ s9 _ => (intOf s9).toNat)
  case atStart => exact ⟨9, 100000000, none, 0, [], rfl, rfl, by omega, by omega, Lib.hid (by decide), Lib.hid (by rw [Nat.div_eq_of_lt (by simpa using hv)]; rfl), by simp, World.ownsRow_nil _ _ _ _, Below.refl _ _⟩
  case round =>
    obtain ⟨wo, rfl⟩ : ∃ wo : World, wo = wr := ⟨_, rfl⟩
    obtain ⟨j, dv, O, co, L, rfl, rfl, hj, hdv, HDD, HL, hLj, hown, hbr⟩ := hrel
    cases j with
    | zero =>
      obtain rfl : dv = 0 := HDD.out
      obtain ⟨O', co', hvv, hcc, hS⟩ := Sl.of_own hown
      injection hvv with e1 e2 e3
      subst e1 e3
      have hconv := conv_name wo O co L hS
      have HF : Hid (L = Lib.decDigits v) := Lib.hid (by rw [HL.out, Nat.pow_zero, Nat.div_one, HDV.out])
      clear hown hS hcc
      go_wp2
      rw [rounds_succ]
      go_wp2
      go_ret
      have hf := HF.out
      subst hf
      exact ⟨rfl, below_all hb2 hbr⟩
    | succ j =>
      have e10 : 10 ^ (j + 1) / 10 = 10 ^ j := by rw [Nat.pow_succ]; omega
      have hpos : 0 < 10 ^ j := Nat.pow_pos (by omega)
      have hdv' := HDD.out
      rw [e10] at hdv'
      have hdp : 0 < dv := by omega
      have HPS := Lib.hid (pow_split v j)
      have hrl : v / dv % 10 < 10 := Nat.mod_lt _ (by omega)
      have hql : v / dv ≤ v := Nat.div_le_self _ _
      rw [← hdv'] at HPS
      have HDV2 := Lib.hid hdv'
      clear hdv' hpos e10
      obtain ⟨q, hq⟩ : ∃ q, v / dv = q := ⟨_, rfl⟩
      obtain ⟨r, hr⟩ : ∃ r, q % 10 = r := ⟨_, rfl⟩
      have hq1 : (v : Int) / (dv : Int) = (q : Int) := by rw [← hq]; simp
      have hr1 : (q : Int) % 10 = (r : Int) := by rw [← hr]; simp
      rw [hq, hr] at HPS hrl
      rw [hq] at hql
      have HQ : Hid (v / 10 ^ j = q) := Lib.hid (by rw [← HDV2.out]; exact hq)
      obtain ⟨x, hx⟩ : ∃ x, v / 10 ^ (j + 1) = x := ⟨_, rfl⟩
      rw [hx] at HL HPS
      clear hx hq hr
      have hcp := keep_cell hbr hp
      have hwr : ((48 : Int) + (r : Int)) % 4294967296 = 48 + (r : Int) := by omega
      have hw8 : ((48 : Int) + (r : Int)) % 256 = 48 + (r : Int) := by omega
      obtain ⟨dn, hdn⟩ : ∃ dn, dv / 10 = dn := ⟨_, rfl⟩
      have HDN : Hid (dn = 10 ^ j / 10) := Lib.hid (by rw [← hdn, HDV2.out])
      have hdn1 : (dv : Int).tdiv 10 = (dn : Int) := by rw [← hdn]; exact (Int.ofNat_tdiv dv 10).symm
      have hdn2 : (dv : Int) / 10 = (dn : Int) := by rw [← hdn]; simp
      have hdnl : dn < dv := by omega
      clear hdn
      have HX0 : Hid (L = [] ↔ x = 0) := Lib.hid (by
        rw [HL.out]
        unfold ddg
        by_cases h : x = 0
        · simp [h]
        · simp only [h, iff_false]
          exact Qn.dec_ne x)
      have hsz := hbr.size
      by_cases hz : x = 0 ∧ r = 0
      · have HL2 : Hid (L = ddg (v / 10 ^ j)) := Lib.hid (by rw [HQ.out, HPS.out, HL.out, hz.1, hz.2])
        have hL0 := HX0.out.2 hz.1
        have hd0 : decide ((0 : Int) < (L.length : Int)) = false := by rw [hL0]; rfl
        have hd0' : decide (0 < L.length) = false := by rw [hL0]; rfl
        have hr0 : ((48 : Int) + (r : Int) != 48) = false := by rw [hz.2]; rfl
        clear HL HPS hL0 hz
        go_wp2
        go_roundw
        case rel => exact ⟨j, dn, O, co, L, rfl, rfl, by omega, by omega, HDN, HL2, by omega, hown, hbr⟩
        case measure => simp [intOf]; omega
      · have HL2 : Hid (L ++ [UInt8.ofNat (48 + r)] = ddg (v / 10 ^ j)) := Lib.hid (by rw [HQ.out, HPS.out, ddg_step x r hrl hz, HL.out])
        have hvb : Value.int .u8 (48 + (r : Int)) = vb (UInt8.ofNat (48 + r)) := by
          have : (UInt8.ofNat (48 + r)).toNat = 48 + r := Qn.toNat_ofNat _ (by omega)
          unfold vb; rw [this]; simp
        have HVB := Lib.hid hvb
        clear hvb
        by_cases hL0 : L = []
        · have hr0 : ((48 : Int) + (r : Int) != 48) = true := by
            have hx0 := HX0.out.1 hL0
            simp; omega
          have hd0 : decide ((0 : Int) < (L.length : Int)) = false := by rw [hL0]; rfl
          have hd0' : decide (0 < L.length) = false := by rw [hL0]; rfl
          clear HL HPS hz hL0
          go_wp2_with (at_builtin; refine wpList_append_own _ rfl _ _ 149 rfl w2.heap.size 5 ib (.int .u8 0) 1 1 Tryz.underlying149 hib hbz0 hbz1 hbz2 rfl (by decide) (.slice O L.length co) L.length (L.map vb) rfl (hown.alloc _) ⟨wo.heap.size, 0, none⟩ 1 1 [.int .u8 (48 + (r : Int))] rfl rfl ?c1 ?c2 ?c3 ?c4 ?c5 ?_
                       case c1 => exact cell_one_new _ _ _
                       case c2 => simp [Value.oneCell']
                       case c3 => simp only [maxLen]; omega
                       case c4 => omega
                       case c5 => simp; omega
                       intro v' w3 hown' hgrow _)
          obtain ⟨R, cr2, hvv, hcr2, hS⟩ := Sl.of_own hown'
          subst hvv
          go_roundw
          case rel =>
            refine ⟨j, dn, R, cr2, L ++ [UInt8.ofNat (48 + r)], by simp, rfl, by omega, by omega, HDN, HL2, by simp; omega, ?_, ?_⟩
            · rw [HVB.out] at hown'
              simpa using hown'
            · exact (hbr.alloc hbr.size _).grown hgrow (by simp; omega) (fun j hj => (hown.lt j hj).1)
          case measure => simp [intOf]; omega
        · have hLp : 0 < L.length := List.length_pos_iff.2 hL0
          have hd0 : decide ((0 : Int) < (L.length : Int)) = true := by simp; omega
          have hd0' : decide (0 < L.length) = true := by simp; omega
          clear HL HPS hz hL0
          go_wp2_with (at_builtin; refine wpList_append_own _ rfl _ _ 149 rfl w2.heap.size 5 ib (.int .u8 0) 1 1 Tryz.underlying149 hib hbz0 hbz1 hbz2 rfl (by decide) (.slice O L.length co) L.length (L.map vb) rfl (hown.alloc _) ⟨wo.heap.size, 0, none⟩ 1 1 [.int .u8 (48 + (r : Int))] rfl rfl ?c1 ?c2 ?c3 ?c4 ?c5 ?_
                       case c1 => exact cell_one_new _ _ _
                       case c2 => simp [Value.oneCell']
                       case c3 => simp only [maxLen]; omega
                       case c4 => omega
                       case c5 => simp; omega
                       intro v' w3 hown' hgrow _)
          obtain ⟨R, cr2, hvv, hcr2, hS⟩ := Sl.of_own hown'
          subst hvv
          go_roundw
          case rel =>
            refine ⟨j, dn, R, cr2, L ++ [UInt8.ofNat (48 + r)], by simp, rfl, by omega, by omega, HDN, HL2, by simp; omega, ?_, ?_⟩
            · rw [HVB.out] at hown'
              simpa using hown'
            · exact (hbr.alloc hbr.size _).grown hgrow (by simp; omega) (fun j hj => (hown.lt j hj).1)
          case measure => simp [intOf]; omega
end Go.Proofs.Tg
end
section
/- The harness's numbers: the text of a fraction. -/
namespace Go.Proofs.Tg
open Go.RowKit Go.Gr Go.Qn
set_option maxHeartbeats 2000000
set_option maxRecDepth 100000
theorem dig_any (b : Bool) (A : Option Addr) (c v : Nat) (w : World) (hA : Digs w A (mg v)) (hv : v < 1000000000) :
    Calls Tryz.prog 49 #[.agg #[.bool b, .slice A (mg v).length c]] w fun e w' => e = .returned (.string (bs (Lib.decDigits v))) ∧ Below w.heap.size w w' := by
  by_cases h0 : v = 0
  · subst h0
    rw [dec_zero]
    exact digits_nil b A c w
  · rw [mg_pos h0] at hA ⊢
    exact digits_one b A c v w hA hv h0
theorem dl_pos {m : Nat} (h1 : m ≠ 1) : dl m = mg m := by unfold dl; rw [if_neg h1]
theorem dl_one : dl 1 = [] := rfl
theorem dec_len (k : Nat) : ∀ n, n < 10 ^ (k + 1) → (Lib.decDigits n).length ≤ k + 1 := by
  induction k with
  | zero =>
    intro n hn
    rw [Lib.decDigits, dif_pos (by simpa using hn)]; simp
  | succ k ih =>
    intro n hn
    by_cases h : n < 10
    · rw [Lib.decDigits, dif_pos h]; simp
    · rw [Lib.decDigits, dif_neg h, List.length_append]
      have := ih (n / 10) (by rw [Nat.pow_succ] at hn; omega)
      simp; omega
theorem bs_app (a b : List UInt8) : bs (a ++ b) = bs a ++ bs b := by
  rw [← bs_self (bs a ++ bs b)]
  congr 1
theorem text_any (p q : Bool) (N D : Option Addr) (cn cd n m : Nat) (w : World) (hN : Digs w N (mg n)) (hD : Digs w D (dl m)) (hn : n < 1000000000) (hm : m < 1000000000) (hm0 : m ≠ 0) :
    Calls Tryz.prog 22 #[.agg #[.bool p, .slice N (mg n).length cn, .bool q, .slice D (dl m).length cd]] w fun e w' => e = .returned (.string (bs (text p n m))) ∧ Below w.heap.size w w' := by
  have H1 : Hid (∀ W, Below w.heap.size w W → Calls Tryz.prog 49 #[.agg #[.bool p, .slice N (mg n).length cn]] W fun e w' => e = .returned (.string (bs (Lib.decDigits n))) ∧ Below W.heap.size W w') := Lib.hid (fun W h => dig_any p N cn n W (hN.keep h) hn)
  obtain ⟨nn, hnn⟩ : ∃ nn, (mg n).length = nn := ⟨_, rfl⟩
  rw [hnn] at H1 ⊢
  have HT : Hid (bs (text p n m) = (if p = true then ⟨#[45]⟩ ++ bs (Lib.decDigits n) else bs (Lib.decDigits n)) ++ (if m = 1 then ByteArray.empty else ⟨#[47]⟩ ++ bs (Lib.decDigits m))) := Lib.hid (by
    unfold text
    rw [bs_app, bs_app]
    have e1 : bs (if p = true then [45] else []) ++ (bs (Lib.decDigits n) ++ bs (if m = 1 then [] else 47 :: Lib.decDigits m)) = (if p = true then ⟨#[45]⟩ ++ bs (Lib.decDigits n) else bs (Lib.decDigits n)) ++ bs (if m = 1 then [] else 47 :: Lib.decDigits m) := by
      rw [← bs_app, ← bs_app, ← List.append_assoc, bs_app]
      congr 1
      cases p with
      | true => rw [if_pos rfl, if_pos rfl, bs_app]; rfl
      | false => simp
    rw [e1]
    congr 1
    by_cases h : m = 1
    · rw [if_pos h, if_pos h]; rfl
    · rw [if_neg h, if_neg h, show (47 :: Lib.decDigits m) = [47] ++ Lib.decDigits m from rfl, bs_app]; rfl)
  have l1 : (bs (Lib.decDigits n)).size ≤ 9 := by rw [bs_size]; exact dec_len 8 n hn
  have l2 : (bs (Lib.decDigits m)).size ≤ 9 := by rw [bs_size]; exact dec_len 8 m hm
  obtain ⟨SN, hSN⟩ : ∃ SN, bs (Lib.decDigits n) = SN := ⟨_, rfl⟩
  obtain ⟨SM, hSM⟩ : ∃ SM, bs (Lib.decDigits m) = SM := ⟨_, rfl⟩
  obtain ⟨ST, hST⟩ : ∃ ST, bs (text p n m) = ST := ⟨_, rfl⟩
  rw [hST] at HT ⊢
  rw [hSN] at H1 HT l1
  rw [hSM] at HT l2
  have HSM := Lib.hid hSM
  clear hSN hSM hST
  have BA := Blk.new w 52 #[.bool p, .slice N nn cn, .bool q, .slice D (dl m).length cd]
  have hbA : Below w.heap.size w (w.alloc (.cells #[.bool p, .slice N nn cn, .bool q, .slice D (dl m).length cd] 52)) := (Below.refl _ _).alloc (Nat.le_refl _) _
  clear hnn
  by_cases h1 : m = 1
  · subst h1
    rw [dl_one] at BA hbA ⊢
    simp only [List.length_nil] at BA hbA ⊢
    rw [if_pos rfl] at HT
    cases p with
    | false =>
      go_enter Tryz.func22, Tryz.ntmps22
      go_wp2_with (go_at_call 49; refine (H1.out _ hbA).mono ?_; rintro e w2 ⟨rfl, hb2⟩
                   have B2 := BA.keep hb2 BA.lt
                   obtain ⟨a0, a1, a2, a3, _, _, _, _⟩ := B2.four)
      go_ret
      refine ⟨?_, below_all hbA hb2⟩
      rw [HT.out, if_neg (by simp)]
      simp
    | true =>
      go_enter Tryz.func22, Tryz.ntmps22
      go_wp2_with (go_at_call 49; refine (H1.out _ hbA).mono ?_; rintro e w2 ⟨rfl, hb2⟩
                   have B2 := BA.keep hb2 BA.lt
                   obtain ⟨a0, a1, a2, a3, _, _, _, _⟩ := B2.four)
      go_ret
      refine ⟨?_, below_all hbA hb2⟩
      rw [HT.out, if_pos trivial]
      simp
  · have H2 : Hid (∀ W, Below w.heap.size w W → Calls Tryz.prog 49 #[.agg #[.bool q, .slice D 1 cd]] W fun e w' => e = .returned (.string SM) ∧ Below W.heap.size W w') := Lib.hid (fun W h => by
      rw [dl_pos h1] at hD
      have := dig_any q D cd m W (hD.keep h) hm
      rw [mg_pos hm0, HSM.out] at this
      exact this)
    have hdl : (dl m).length = 1 := by rw [dl_pos h1, mg_pos hm0]; rfl
    rw [hdl] at BA hbA ⊢
    rw [if_neg h1] at HT
    clear hdl hD
    cases p with
    | false =>
      go_enter Tryz.func22, Tryz.ntmps22
      go_wp2_with (fail)
      refine (H1.out _ hbA).mono ?_
      rintro e w2 ⟨rfl, hb2⟩
      have B2 := BA.keep hb2 BA.lt
      obtain ⟨a0, a1, a2, a3, _, _, _, _⟩ := B2.four
      have hbz := below_all hbA hb2
      go_wp2_with (fail)
      refine (H2.out _ hbz).mono ?_
      rintro e w3 ⟨rfl, hb3⟩
      go_wp2_with (fail)
      go_ret
      refine ⟨?_, below_all hbz hb3⟩
      rw [HT.out, if_neg (by simp)]
      rfl
    | true =>
      go_enter Tryz.func22, Tryz.ntmps22
      go_wp2_with (fail)
      refine (H1.out _ hbA).mono ?_
      rintro e w2 ⟨rfl, hb2⟩
      have B2 := BA.keep hb2 BA.lt
      obtain ⟨a0, a1, a2, a3, _, _, _, _⟩ := B2.four
      have hbz := below_all hbA hb2
      go_wp2_with (fail)
      refine (H2.out _ hbz).mono ?_
      rintro e w3 ⟨rfl, hb3⟩
      go_wp2_with (fail)
      go_ret
      refine ⟨?_, below_all hbz hb3⟩
      rw [HT.out, if_pos trivial]
      rfl
end Go.Proofs.Tg
end
