/- Parts of the proof: WN2, N2, WN3, WAP. -/
import Derived.Test.YticpnfjdooileaaGreatDoorMCPA2
import Derived.Test.YticpnfjdooileaaGreatDoorMCPA4
import Derived.Test.YticpnfjdooileaaGreatDoorMCPA13
import Derived.Test.YticpnfjdooileaaGreatDoorMCPA20
section
/- Short numbers of the program: reading. -/
namespace Go.Proofs.Tg
open Go.RowKit Go.Qn
set_option maxHeartbeats 4000000
set_option maxRecDepth 100000
def sg (b : Bool) (n : Nat) : Int := if b = true then -(n : Int) else n
def RetShort (l : List UInt8) (w : World) (e : Ending) (w' : World) : Prop :=
  Below w.heap.size w w' ∧ ((rd l = none ∧ e = .returned (.tuple #[.agg #[.int .i64 0, .int .i64 0], .bool false])) ∨
    (∃ b n d, rd l = some (b, n, d) ∧ n < 1000000000 ∧ d < 1000000000 ∧ e = .returned (.tuple #[.agg #[.int .i64 (sg b n), .int .i64 (d : Nat)], .bool true])))
theorem val9 (l : List UInt8) (h : numOk l = true) (hl : l.length ≤ 9) : val l < 1000000000 := by
  have h1 := val_lt l (numOk_iff.1 h).1
  have h2 : 10 ^ l.length ≤ 10 ^ 9 := Nat.pow_le_pow_right (by omega) hl
  exact Nat.lt_of_lt_of_le h1 (Nat.le_trans h2 (by decide))
theorem rshort_any (s : ByteArray) (w : World) (hs : s.size ≤ 9) :
    Calls Tryz.prog 60 #[.string s] w (RetShort s.data.toList w) := by
  have HL := Lib.hid (len_size s)
  have hd20 : decide ((20 : Int) < (s.size : Int)) = false := decide_eq_false (by omega)
  obtain ⟨W0, hW0⟩ : ∃ W0, w.alloc (.cells #[.int .i64 0, .int .i64 0] 103) = W0 := ⟨_, rfl⟩
  have B2 : Blk W0 w.heap.size 103 #[.int .i64 0, .int .i64 0] := by rw [← hW0]; exact Blk.new _ _ _
  have hbA : Below w.heap.size w W0 := by rw [← hW0]; exact (Below.refl _ _).alloc (Nat.le_refl _) _
  have HW0 := Lib.hid hW0
  clear hW0
  go_enter Tryz.func60, Tryz.ntmps60
  go_upto_region 1 with (fail)
  rw [HW0.out]
  go_wp2_with (fail)
  refine (split_any s W0 (by omega)).mono ?_
  rintro e w1 ⟨b, num, den, ok, rfl, HS, hb1⟩
  have hc := splitis_cases HS
  have hnl : num.length ≤ 9 := by have := HS.1; rw [HL.out] at this; omega
  have hdl : den.length ≤ 9 := by have := HS.2.1; rw [HL.out] at this; omega
  clear HS
  go_upto_region 4 with (fail)
  obtain ⟨W1, hW1⟩ : ∃ W1, w1.alloc (.cells #[.bool b, .string (bs num), .string (bs den)] 107) = W1 := ⟨_, rfl⟩
  have C2 : Blk W1 w.heap.size 103 #[.int .i64 0, .int .i64 0] := by rw [← hW1]; exact (B2.keep hb1 B2.lt).alloc _
  have C4 : Blk W1 w1.heap.size 107 #[.bool b, .string (bs num), .string (bs den)] := by rw [← hW1]; exact Blk.new _ _ _
  have hbB : Below w.heap.size w W1 := by rw [← hW1]; have := below_all hbA hb1; exact this.alloc this.size _
  have hz1 : w.heap.size < w1.heap.size := by have := B2.lt; have := hb1.size; omega
  rw [hW1]
  clear hW1 B2 hb1 hbA
  obtain ⟨a0, a1, a2, a3⟩ := C2.two
  obtain ⟨p0, p1, p2, _, _, _⟩ := C4.three
  have hz2 := C4.lt
  have hz3 := C2.lt
  have l1 : decide ((9 : Int) < ((bs num).size : Int)) = false := by rw [bs_size]; exact decide_eq_false (by omega)
  have l2 : decide ((9 : Int) < ((bs den).size : Int)) = false := by rw [bs_size]; exact decide_eq_false (by omega)
  rcases hc with ⟨rfl, hr⟩ | ⟨rfl, n1, _, rfl, hr⟩ | ⟨rfl, n1, _, _, hdn, m1, v0, v1, hr⟩
  · have HR := Lib.hid hr
    clear hr
    go_wp2
    refine bodyPost_ret (v := .tuple #[.agg #[.int .i64 0, .int .i64 0], .bool false]) (by simp [results, Tryz.results60, go_sem, a0, a1]) rfl ⟨?_, .inl ⟨HR.out, rfl⟩⟩
    exact below_far (below_far hbB (by omega) _ _) (by omega) _ _
  · have HR := Lib.hid hr
    have hv := val9 num n1 hnl
    have HD := Lib.hid (fun W => dval_any (bs num) W (by rw [bs_size]; omega) (by rw [bs_data]; exact (numOk_iff.1 n1).1))
    rw [bs_data] at HD
    have hbe : (bs []).toList.isEmpty = true := by rw [bs_toList]; rfl
    have hbe' : (bs []).toList = [] := by rw [bs_toList]
    clear hr n1
    generalize val num = v at *
    go_upto_region 7 with (go_at_call 73; refine (HD.out _).mono ?_; rintro e w' ⟨rfl, rfl⟩)
    obtain ⟨W2, hW2⟩ : ∃ W2, W1.alloc (.cells #[.int .i64 v, .int .i64 1] 103) = W2 := ⟨_, rfl⟩
    have D2 : Blk W2 w.heap.size 103 #[.int .i64 0, .int .i64 0] := by rw [← hW2]; exact C2.alloc _
    have D4 : Blk W2 w1.heap.size 107 #[.bool b, .string (bs num), .string (bs [])] := by rw [← hW2]; exact C4.alloc _
    have D6 : Blk W2 W1.heap.size 103 #[.int .i64 v, .int .i64 1] := by rw [← hW2]; exact Blk.new W1 _ _
    have hbC : Below w.heap.size w W2 := by rw [← hW2]; exact hbB.alloc hbB.size _
    rw [hW2]
    have hz4 := D2.lt
    clear hW2 C2 C4 hbB a0 a1 a2 a3 p0 p1 p2
    obtain ⟨a0, a1, a2, a3⟩ := D2.two
    obtain ⟨p0, p1, p2, _, _, _⟩ := D4.three
    obtain ⟨x0, x1, x2, x3⟩ := D6.two
    cases b with
    | false =>
      go_wp2
      refine bodyPost_ret (v := .tuple #[.agg #[.int .i64 (sg false v), .int .i64 (1 : Nat)], .bool true]) (by simp [results, Tryz.results60, go_sem, a0, a1, sg]) rfl ⟨?_, .inr ⟨false, v, 1, HR.out, hv, by omega, rfl⟩⟩
      exact below_far (below_far hbC (by omega) _ _) (by omega) _ _
    | true =>
      go_wp2
      refine bodyPost_ret (v := .tuple #[.agg #[.int .i64 (sg true v), .int .i64 (1 : Nat)], .bool true]) (by simp [results, Tryz.results60, go_sem, a0, a1, sg]) rfl ⟨?_, .inr ⟨true, v, 1, HR.out, hv, by omega, rfl⟩⟩
      exact below_far (below_far (below_far hbC (by omega) _ _) (by omega) _ _) (by omega) _ _
  · have HR := Lib.hid hr
    have hv := val9 num n1 hnl
    have hu := val9 den m1 hdl
    have HD := Lib.hid (fun W => dval_any (bs num) W (by rw [bs_size]; omega) (by rw [bs_data]; exact (numOk_iff.1 n1).1))
    have HE := Lib.hid (fun W => dval_any (bs den) W (by rw [bs_size]; omega) (by rw [bs_data]; exact (numOk_iff.1 m1).1))
    rw [bs_data] at HD HE
    have hbe : (bs den).toList.isEmpty = false := by rw [bs_toList]; cases den; exact absurd rfl hdn; rfl
    have hbe' : ¬ (bs den).toList = [] := by rw [bs_toList]; exact hdn
    have HG := Lib.hid (fun W => sgcd_any (val num) (val den) W (by omega) (by omega))
    clear hr n1 m1 hdn v0 v1
    generalize val num = v at *
    generalize val den = u at *
    go_upto_region 9 with (first
      | (go_at_call 73; with_reducible refine Calls.mono (HD.out _) ?_; rintro e w' ⟨rfl, rfl⟩)
      | (go_at_call 73; with_reducible refine Calls.mono (HE.out _) ?_; rintro e w' ⟨rfl, rfl⟩))
    obtain ⟨W2, hW2⟩ : ∃ W2, W1.alloc (.cells #[.int .i64 v, .int .i64 u] 103) = W2 := ⟨_, rfl⟩
    have D2 : Blk W2 w.heap.size 103 #[.int .i64 0, .int .i64 0] := by rw [← hW2]; exact C2.alloc _
    have D4 : Blk W2 w1.heap.size 107 #[.bool b, .string (bs num), .string (bs den)] := by rw [← hW2]; exact C4.alloc _
    have D6 : Blk W2 W1.heap.size 103 #[.int .i64 v, .int .i64 u] := by rw [← hW2]; exact Blk.new W1 _ _
    have hbC : Below w.heap.size w W2 := by rw [← hW2]; exact hbB.alloc hbB.size _
    rw [hW2]
    clear hW2 C2 C4 hbB a0 a1 a2 a3 p0 p1 p2
    obtain ⟨x0, x1, x2, x3⟩ := D6.two
    go_wp2_with (fail)
    refine (HG.out _).mono ?_
    rintro e w5 ⟨rfl, hb5⟩
    have E2 := D2.keep hb5 D2.lt
    have E4 := D4.keep hb5 D4.lt
    have E6 := D6.keep hb5 D6.lt
    have hbE := below_all hbC hb5
    have hz4 := E2.lt
    clear D2 D4 D6 hbC hb5 x0 x1 x2 x3
    obtain ⟨a0, a1, a2, a3⟩ := E2.two
    obtain ⟨p0, p1, p2, _, _, _⟩ := E4.three
    obtain ⟨x0, x1, x2, x3⟩ := E6.two
    by_cases hg : Nat.gcd v u = 1
    · have HR2 : Hid (rd s.data.toList = some (b, v, u)) := Lib.hid (by rw [HR.out, if_pos hg])
      rw [hg]
      clear HR HG hg
      cases b with
      | false =>
        go_wp2
        refine bodyPost_ret (v := .tuple #[.agg #[.int .i64 (sg false v), .int .i64 u], .bool true]) (by simp [results, Tryz.results60, go_sem, a0, a1, sg]) rfl ⟨?_, .inr ⟨false, v, u, HR2.out, hv, hu, rfl⟩⟩
        exact below_far (below_far hbE (by omega) _ _) (by omega) _ _
      | true =>
        go_wp2
        refine bodyPost_ret (v := .tuple #[.agg #[.int .i64 (sg true v), .int .i64 u], .bool true]) (by simp [results, Tryz.results60, go_sem, a0, a1, sg]) rfl ⟨?_, .inr ⟨true, v, u, HR2.out, hv, hu, rfl⟩⟩
        exact below_far (below_far (below_far hbE (by omega) _ _) (by omega) _ _) (by omega) _ _
    · have HR2 : Hid (rd s.data.toList = none) := Lib.hid (by rw [HR.out, if_neg hg])
      have hgb : (((Nat.gcd v u : Nat) : Int) != 1) = true := by simp; omega
      have hgb' : (Nat.gcd v u == 1) = false := by simp [hg]
      have hgb'' : (((Nat.gcd v u : Nat) : Int) == 1) = false := beq_eq_false_iff_ne.2 (by omega)
      clear HR HG hg
      generalize Nat.gcd v u = g at *
      go_wp2
      refine bodyPost_ret (v := .tuple #[.agg #[.int .i64 0, .int .i64 0], .bool false]) (by simp [results, Tryz.results60, go_sem, a0, a1]) rfl ⟨?_, .inl ⟨HR2.out, rfl⟩⟩
      exact below_far (below_far hbE (by omega) _ _) (by omega) _ _
end Go.Proofs.Tg
end
section
/- The text of a number's negative; a sign vector applied to a polynomial. -/
namespace Go.Mo
open Go.Qn Go.Lib
def negL (l : List UInt8) : List UInt8 := if l.head? = some 45 then l.tail else 45 :: l
theorem negL_text {b : Bool} {n d : Nat} : negL (text b n d) = text (!b) n d := by
  cases b with
  | true => simp [negL, text]
  | false =>
    have hne := dec_ne n
    have hh : (text false n d).head? ≠ some 45 := by
      unfold text
      simp only [Bool.false_eq_true, if_false, List.nil_append]
      rw [List.head?_append]
      cases hx : decDigits n with
      | nil => exact absurd hx hne
      | cons c t =>
        simp only [List.head?_cons, Option.some_or]
        intro e
        injection e with e
        have := dec_allD n c (by rw [hx]; simp)
        rw [e] at this
        exact absurd this (by decide)
    unfold negL
    rw [if_neg hh]
    simp [text]
theorem rd_neg {l : List UInt8} {b : Bool} {n d : Nat} (h : rd l = some (b, n, d)) (h0 : n ≠ 0) : rd (negL l) = some (!b, n, d) := by
  obtain ⟨hc, rfl⟩ := rd_some h
  rw [negL_text]
  exact rd_text ⟨hc.1, hc.2.1, fun e => absurd e h0⟩
theorem negL_negL {l : List UInt8} {b : Bool} {n d : Nat} (h : rd l = some (b, n, d)) : negL (negL l) = l := by
  obtain ⟨hc, rfl⟩ := rd_some h
  rw [negL_text, negL_text, Bool.not_not]
theorem negL_len (l : List UInt8) : (negL l).length ≤ l.length + 1 := by
  unfold negL; split
  · rw [List.length_tail]; omega
  · simp
theorem negL_ne (l : List UInt8) : negL l ≠ l := by
  intro h
  have := congrArg List.length h
  unfold negL at this
  split at this
  · rename_i h1
    cases l with
    | nil => simp at h1
    | cons c t => simp at this
  · simp at this
def negB (s : ByteArray) : ByteArray := ⟨(negL s.data.toList).toArray⟩
theorem negB_data (s : ByteArray) : (negB s).data.toList = negL s.data.toList := by simp [negB]
theorem coef_some {s : ByteArray} (h : coefOk s = true) : ∃ b n d, rd s.data.toList = some (b, n, d) ∧ n ≠ 0 := by
  unfold coefOk at h
  split at h
  · rename_i b n d hr
    exact ⟨b, n, d, hr, by simpa using h⟩
  · cases h
theorem coef_neg {s : ByteArray} (h : coefOk s = true) : coefOk (negB s) = true := by
  obtain ⟨b, n, d, hr, h0⟩ := coef_some h
  unfold coefOk
  rw [negB_data, rd_neg hr h0]
  simpa using h0
theorem negB_negB {s : ByteArray} (h : coefOk s = true) : negB (negB s) = s := by
  obtain ⟨b, n, d, hr, h0⟩ := coef_some h
  have : (negB (negB s)).data.toList = s.data.toList := by rw [negB_data, negB_data, negL_negL hr]
  cases s
  rename_i dt
  have e : (negB (negB ⟨dt⟩)).data = dt := Array.toList_inj.1 this
  exact congrArg ByteArray.mk e
theorem negB_ne (s : ByteArray) : negB s ≠ s := by
  intro h
  have : (negB s).data.toList = s.data.toList := by rw [h]
  rw [negB_data] at this
  exact negL_ne _ this
theorem negB_size (s : ByteArray) : (negB s).size ≤ s.size + 1 := by
  have h1 := negL_len s.data.toList
  have h2 : (negB s).size = (negL s.data.toList).length := rfl
  have h3 : s.data.toList.length = s.size := rfl
  omega
/-! A sign vector applied. -/
def oddT (s e : List Int) : Bool := decide (Gr.size (Ev.pk s s.length &&& Ev.pk e e.length) % 2 = 1)
def appT (s : List Int) (t : Term) : Term := if oddT s t.2 = true then (negB t.1, t.2) else t
theorem appT_exps (s : List Int) (t : Term) : (appT s t).2 = t.2 := by unfold appT; split <;> rfl
theorem appT_ok {s : List Int} {v : Int} {t : Term} (h : termOk v t = true) : termOk v (appT s t) = true := by
  rw [termOk_iff] at h ⊢
  rw [appT_exps]
  refine ⟨?_, h.2⟩
  unfold appT
  split
  · exact coef_neg h.1
  · exact h.1
theorem appT_appT {s : List Int} {v : Int} {t : Term} (h : termOk v t = true) : appT s (appT s t) = t := by
  rw [termOk_iff] at h
  by_cases ho : oddT s t.2 = true
  · have e1 : appT s t = (negB t.1, t.2) := if_pos ho
    rw [e1]
    unfold appT
    rw [if_pos ho, negB_negB h.1]
  · have e1 : appT s t = t := if_neg ho
    rw [e1, e1]
theorem appT_size (s : List Int) (t : Term) : (appT s t).1.size ≤ t.1.size + 1 := by
  unfold appT
  split
  · exact negB_size _
  · omega
theorem appT_same {s : List Int} {t : Term} : appT s t = t ↔ oddT s t.2 = false := by
  unfold appT
  constructor
  · intro h
    cases ho : oddT s t.2 with
    | false => rfl
    | true =>
      rw [if_pos ho] at h
      exact absurd (congrArg Prod.fst h) (negB_ne _)
  · intro h
    rw [if_neg (by rw [h]; decide)]
theorem app_valid {s : List Int} {v : Int} {ts : List Term} (h : VldP v ts) : VldP v (ts.map (appT s)) := by
  obtain ⟨h1, ⟨h2, h3, h4⟩, h5⟩ := h
  refine ⟨by simpa using h1, ⟨h2, h3, ?_⟩, ?_⟩
  · intro i hi hl
    have hl' : i < ts.length := by simpa using hl
    obtain ⟨a, b⟩ := h4 i hl' hl'
    rw [List.getElem_map]
    refine ⟨appT_ok a, fun hi0 => ?_⟩
    have := b hi0
    have hi1 : i - 1 < ts.length := by omega
    rw [appT_exps]
    simp only [List.getD_eq_getElem?_getD, List.getElem?_map, List.getElem?_eq_getElem hi1, Option.map_some, Option.getD_some, appT_exps]
    simpa [List.getD_eq_getElem?_getD, List.getElem?_eq_getElem hi1] using this
  · intro h
    have h' : 0 < ts.length := by simpa using h
    rw [List.getElem_map, appT_exps]
    exact h5 h'
theorem app_app {s : List Int} {v : Int} {ts : List Term} (h : VldP v ts) : (ts.map (appT s)).map (appT s) = ts := by
  rw [List.map_map]
  have : ∀ t ∈ ts, (appT s ∘ appT s) t = t := by
    intro t ht
    obtain ⟨i, hi, rfl⟩ := List.getElem_of_mem ht
    exact appT_appT (h.2.1.2.2 i hi hi).1
  exact (List.map_congr_left this).trans (List.map_id' _)
theorem app_same {s : List Int} {ts : List Term} : ts.map (appT s) = ts ↔ ∀ t ∈ ts, oddT s t.2 = false := by
  constructor
  · intro h t ht
    obtain ⟨i, hi, rfl⟩ := List.getElem_of_mem ht
    have : (ts.map (appT s))[i]? = ts[i]? := by rw [h]
    rw [List.getElem?_map, List.getElem?_eq_getElem hi, Option.map_some] at this
    injection this with this
    exact appT_same.1 this
  · intro h
    exact (List.map_congr_left (fun t ht => appT_same.2 (h t ht))).trans (List.map_id' _)
end Go.Mo
end
section
/- The program's Valid and Neg of short texts. -/
namespace Go.Proofs.Tg
open Go.RowKit Go.Qn Go.Mo
set_option maxHeartbeats 4000000
set_option maxRecDepth 100000
theorem rvalid_true (s : ByteArray) (w : World) (hs : s.size ≤ 9) (hr : (rd s.data.toList).isSome = true) :
    Calls Tryz.prog 51 #[.string s] w fun e w' => e = .returned (.bool true) ∧ Below w.heap.size w w' := by
  have HR := Lib.hid hr
  clear hr
  go_enter Tryz.func51, Tryz.ntmps51
  go_wp2_with (fail)
  refine (rshort_any s _ hs).mono ?_
  rintro e w1 ⟨hb1, ⟨hno, rfl⟩ | ⟨b, n, d, _, _, _, rfl⟩⟩
  · have := HR.out
    rw [hno] at this
    cases this
  · generalize sg b n = z
    go_wp2
    go_ret
    exact ⟨rfl, hb1.alloc hb1.size _⟩
theorem bs_cat (a b : List UInt8) : bs (a ++ b) = bs a ++ bs b := by
  rw [← bs_self (bs a ++ bs b)]
  congr 1
theorem not_zero_text {s : ByteArray} (h : coefOk s = true) : ¬ s.data.toList = [48] := by
  intro e
  unfold coefOk at h
  rw [e] at h
  exact absurd h (by decide)
theorem rneg_any (s : ByteArray) (w : World) (hs : s.size ≤ 9) (hc : coefOk s = true) :
    Calls Tryz.prog 40 #[.string s] w fun e w' => e = .returned (.string (negB s)) ∧ Below w.heap.size w w' := by
  obtain ⟨b, n, d, hr, h0⟩ := coef_some hc
  have HV := Lib.hid (fun W => rvalid_true s W hs (by rw [hr]; rfl))
  have hnz := not_zero_text hc
  have hne : (s.toList == [48]) = false := by rw [Lib.toList_data]; simpa using hnz
  have hne' : ¬ s.toList = [48] := by rw [Lib.toList_data]; exact hnz
  have HL := Lib.hid (len_size s)
  have hl0 : 0 < s.data.toList.length := by
    rw [(rd_some hr).2]
    have h2 := List.length_pos_iff.2 (dec_ne n)
    unfold text
    rw [List.length_append, List.length_append]
    omega
  have hp : 0 < s.size := by rw [HL.out] at hl0; exact hl0
  have HH : Hid (s.data.toList.head? = some s[0]) := Lib.hid (by
    rw [List.head?_eq_getElem?, List.getElem?_eq_getElem hl0]; rfl)
  clear hr hc hl0 hnz
  have p1 : (0 : Int) < (s.size : Int) := by omega
  have p2 : (1 : Int) ≤ (s.size : Int) := by omega
  by_cases hm : s[0] = 45
  · have hmb : ((s[0].toNat : Int) == 45) = true := by rw [hm]; rfl
    have HN : Hid (negB s = bs (s.data.toList.drop 1)) := Lib.hid (by
      unfold negB negL
      rw [HH.out, hm, if_pos rfl, List.drop_one]; rfl)
    clear hm
    go_enter Tryz.func40, Tryz.ntmps40
    go_wp2_with (go_at_call 51; refine (HV.out _).mono ?_; rintro e w1 ⟨rfl, hb1⟩)
    go_ret
    refine ⟨?_, hb1⟩
    rw [HN.out, ← ext_end]; rfl
  · have hmb : ((s[0].toNat : Int) == 45) = false := by
      apply beq_eq_false_iff_ne.2
      intro e
      apply hm
      apply UInt8.toNat_inj.1
      show s[0].toNat = 45
      omega
    have HN : Hid (negB s = ⟨#[45]⟩ ++ s) := Lib.hid (by
      have e1 : negL s.data.toList = [45] ++ s.data.toList := by
        unfold negL
        rw [HH.out, if_neg (by simpa using hm)]; rfl
      have e2 : negB s = bs ([45] ++ s.data.toList) := by rw [← e1]; rfl
      rw [e2, bs_cat, bs_self]; rfl)
    clear hm
    go_enter Tryz.func40, Tryz.ntmps40
    go_wp2_with (go_at_call 51; refine (HV.out _).mono ?_; rintro e w1 ⟨rfl, hb1⟩)
    go_ret
    refine ⟨?_, hb1⟩
    rw [HN.out]; rfl
end Go.Proofs.Tg
end
section
/- The program's Apply. -/
namespace Go.Proofs.Tg
open Go.RowKit Go.Gr Go.Ev Go.Qn Go.Mo
set_option maxHeartbeats 4000000
set_option maxRecDepth 100000
theorem But.own {g : Nat} {W W' : World} (h : But g W W') {base : Nat} {t : TypeId} {sz n : Nat} {v : Value} {xs : List Value} (ho : W.ownsRow base t sz v n xs) (hne : some g ≠ v.ownBlock) : W'.ownsRow base t sz v n xs := by
  refine ⟨ho.1, ?_⟩
  rcases ho.2 with h2 | ⟨g', cap, cur, rfl, hb, hg, r⟩
  · exact .inl h2
  · exact .inr ⟨g', cap, cur, rfl, hb, h.blk g' t cur (fun e => hne (by rw [e]; rfl)) hg, r⟩
/-- The built-in copy of a whole slice of numbers into a new block. -/
theorem wpList_copy_full {ops : Array Oper} {rest : List Oper} {o : Oper} {a : Act} {Q : Exit → Act → World → Prop} {W : World} (hgd : o.guard = none) (d s : Operand)
    (ho : o.op = .call { callee := .builtin .copy, args := #[d, s], argTypes := #[33, 33] }) (g : Nat) (A : Option Addr) (c : Nat) (el : List Int) (cs : Array Value)
    (hd : a.eval d = .slice (some ⟨g, 0, none⟩) el.length el.length) (hs : a.eval s = .slice A el.length c) (hA : Ints W A el) (hcs : cs.size = el.length)
    (hB : Blk W g 3 cs)
    (h : ∀ W', Blk W' g 3 (iarr el) → But g W W' → wpList Tryz.prog ops Q rest (a.put o.dst (goInt el.length)) W') :
    wpList Tryz.prog ops Q (o :: rest) a W := by
  by_cases h0 : el = []
  · subst h0
    refine wpList_plain hgd fun K hK => ?_
    have hrun := run_copy_none (P := Tryz.prog) W 33 33 o.type 3 (some ⟨g, 0, none⟩) A 0 0 0 c Tryz.underlying33 int_sz rfl
    have hs' : a.eval s = .slice A 0 c := hs
    have hd' : a.eval d = .slice (some ⟨g, 0, none⟩) 0 0 := hd
    have e : cs = iarr [] := by
      apply Array.eq_empty_of_size_eq_zero
      simpa using hcs
    unfold Oper.wp
    simp [execOp, ho, resolve, invoke, builtin, hd', hs', hrun, Result.andThen]
    exact hK _ _ (h W (e ▸ hB) ⟨fun _ _ h _ => h, fun _ _ _ _ h => h⟩)
  · have hp : 0 < el.length := List.length_pos_iff.2 h0
    obtain ⟨ad, rfl, _, hc⟩ := hA.lies hp
    refine wpList_copy_own hgd d s 33 33 ho 3 Tryz.underlying33 int_sz g 0 el.length el.length ad el.length c hd hs cs 3 hB (el.map vi) (by rw [List.length_map]; exact (Nat.min_self _).symm) hc (by simp; omega) (by simp [vi, Value.oneCell']) ?_
    have key : (cs.toList.take 0 ++ (el.map vi ++ cs.toList.drop (0 + (el.map vi).length))).toArray = iarr el := by
      have : cs.toList.drop (0 + (el.map vi).length) = [] := List.drop_eq_nil_iff.2 (by simp; omega)
      rw [this]; simp [iarr]
    rw [key]
    have hlen : (goInt ((el.map vi).length)) = goInt el.length := by simp
    rw [hlen]
    refine h _ ?_ ⟨fun B w0 hb hg => below_setRow hb hg _, fun g' t' cs hne hb => ?_⟩
    · exact setRow_heap W g _ _ 3 _ hB
    · exact (setRow_other W g g' _ hne).trans hb
theorem term_info : (Tryz.prog.info? 54).map (fun i => (i.zero, i.size, i.bytes)) = some (some (.agg #[.string ByteArray.empty, .slice none 0 0]), 2, 40) := by kernel_rfl
/-- What the applying has made after k terms. -/
structure ApSt (w : World) (v : Int) (s : List Int) (tv : List TV) (g : Nat) (wr : World) (k : Nat) (O : Option Addr) (co : Nat) (ts : List TV) : Prop where
  pl : ts.map TV.pl = ((tv.take k).map TV.pl).map (appT s)
  below : Below w.heap.size w wr
  b4 : Blk wr (w.heap.size + 1) 36 #[.int .i64 0, .slice none 0 0]
  b7 : Blk wr g 36 #[.int .i64 v, .slice O ts.length co]
  own : wr.ownsRow w.heap.size 54 2 (.slice O ts.length co) ts.length (ts.flatMap TV.cells)
  mine : ∀ t ∈ ts, wr.ownsRow w.heap.size 3 1 (.slice t.adr t.exps.length t.cap) t.exps.length (t.exps.map vi)
def RetApply (s : List Int) (v : Int) (tv : List TV) (w : World) (e : Ending) (w' : World) : Prop :=
  Below w.heap.size w w' ∧ ((¬ (VldP v (tv.map TV.pl) ∧ bit01 s = true) ∧ e = .returned (.tuple #[.agg #[.int .i64 0, .slice none 0 0], .int .i64 1])) ∨
    ((VldP v (tv.map TV.pl) ∧ bit01 s = true) ∧ (s.length : Int) ≠ v ∧ e = .returned (.tuple #[.agg #[.int .i64 0, .slice none 0 0], .int .i64 4])) ∨
    ((VldP v (tv.map TV.pl) ∧ bit01 s = true) ∧ (s.length : Int) = v ∧ ∃ (O : Option Addr) (co : Nat) (ts : List TV), e = .returned (.tuple #[.agg #[.int .i64 v, .slice O ts.length co], .int .i64 0]) ∧ TermsAt w' O ts ∧ ts.map TV.pl = (tv.map TV.pl).map (appT s)))
theorem own_of_blk {w : World} {base g : Nat} {el : List Int} (h : Blk w g 3 (iarr el)) (hb : base ≤ g) (hl : el.length ≤ 1000000) : w.ownsRow base 3 1 (.slice (some ⟨g, 0, none⟩) el.length el.length) el.length (el.map vi) :=
  ⟨by simp, .inr ⟨g, el.length, iarr el, rfl, hb, h, Nat.le_refl _, by simp only [maxLen]; omega, by simp [iarr], by rw [Nat.mul_one]; exact List.take_of_length_le (by simp [iarr])⟩⟩
theorem apply_any (S : Option Addr) (cs : Nat) (s : List Int) (v : Int) (T : Option Addr) (cT : Nat) (tv : List TV) (w : World) (hS : Ints w S s) (hsl : s.length ≤ 1000) (hA : TermsAt w T tv) (hn : tv.length ≤ 4096)
    (hsz : ∀ t ∈ tv, t.coef.size ≤ 9 ∧ t.exps.length ≤ 64) (hT : Tab w) :
    Calls Tryz.prog 21 #[.slice S s.length cs, .agg #[.int .i64 v, .slice T tv.length cT]] w (RetApply s v tv w) := by
  have HSZ := Lib.hid hsz
  obtain ⟨ok, hok⟩ : ∃ ok : Bool, ok = true ↔ VldP v (tv.map TV.pl) := by classical exact ⟨decide (VldP v (tv.map TV.pl)), decide_eq_true_iff⟩
  have HV := Lib.hid (fun V (h : Below w.heap.size w V) => pvalid_any v T cT tv ok V (hA.keep h) hn (fun t ht => by have := hsz t ht; omega) hok (hT.below h hT.1))
  have HOK := Lib.hid hok
  have HA := Lib.hid hA
  have HS := Lib.hid hS
  clear hok hsz hA hS
  obtain ⟨W, hW⟩ : ∃ W, (w.alloc (.cells #[.int .i64 v, .slice T tv.length cT] 36)).alloc (.cells #[.int .i64 0, .slice none 0 0] 36) = W := ⟨_, rfl⟩
  have B3 : Blk W w.heap.size 36 #[.int .i64 v, .slice T tv.length cT] := by rw [← hW]; exact (Blk.new _ _ _).alloc _
  have B4 : Blk W (w.heap.size + 1) 36 #[.int .i64 0, .slice none 0 0] := by
    rw [← hW]; have := Blk.new (w.alloc (.cells #[.int .i64 v, .slice T tv.length cT] 36)) 36 #[.int .i64 0, .slice none 0 0]
    simpa using this
  have hbW : Below w.heap.size w W := by rw [← hW]; exact ((Below.refl _ _).alloc (Nat.le_refl _) _).alloc (by simp) _
  have HWW := Lib.hid hW
  clear hW
  obtain ⟨a0, a1, _, _⟩ := B3.two
  obtain ⟨i0, hi, iz0, iz1, iz2⟩ := info_parts term_info
  go_enter Tryz.func21, Tryz.ntmps21
  go_upto_region 1 with (fail)
  rw [HWW.out]
  go_wp2_with (fail)
  refine (HV.out _ hbW).mono ?_
  rintro e w1 ⟨rfl, hb1⟩
  have C3 := B3.keep hb1 B3.lt
  have C4 := B4.keep hb1 B4.lt
  have hbC := below_all hbW hb1
  have hz1 := C4.lt
  clear B3 B4 hbW hb1 a0 a1 HV
  obtain ⟨a0, a1, _, _⟩ := C3.two
  obtain ⟨d0, d1, d2, d3⟩ := C4.two
  cases ok with
  | false =>
    have HNO : Hid (¬ (VldP v (tv.map TV.pl) ∧ bit01 s = true)) := Lib.hid (fun h => by have := HOK.out.2 h.1; cases this)
    go_wp2
    refine bodyPost_ret (v := .tuple #[.agg #[.int .i64 0, .slice none 0 0], .int .i64 1]) (by simp [results, Tryz.results21, go_sem, d0, d1]) rfl ⟨?_, .inl ⟨HNO.out, rfl⟩⟩
    exact below_far (below_far hbC (by omega) _ _) (by omega) _ _
  | true =>
    have HVS := Lib.hid (vsign_any S cs s w1 (HS.out.keep hbC) hsl)
    cases hbit : bit01 s with
    | false =>
      have HNO : Hid (¬ (VldP v (tv.map TV.pl) ∧ bit01 s = true)) := Lib.hid (fun h => by have := h.2; rw [hbit] at this; cases this)
      rw [hbit] at HVS
      clear hbit
      go_wp2_with (go_at_call 39; refine HVS.out.mono ?_; rintro e w' ⟨rfl, rfl⟩)
      refine bodyPost_ret (v := .tuple #[.agg #[.int .i64 0, .slice none 0 0], .int .i64 1]) (by simp [results, Tryz.results21, go_sem, d0, d1]) rfl ⟨?_, .inl ⟨HNO.out, rfl⟩⟩
      exact below_far (below_far hbC (by omega) _ _) (by omega) _ _
    | true =>
      have HYES : Hid (VldP v (tv.map TV.pl) ∧ bit01 s = true) := Lib.hid ⟨HOK.out.1 rfl, hbit⟩
      rw [hbit] at HVS
      clear hbit HOK
      by_cases hlv : (s.length : Int) = v
      · have hne : ((s.length : Int) != v) = false := by simp [hlv]
        have hne' : ((s.length : Int) == v) = true := by simp [hlv]
        have hl6 : s.length ≤ 6 := by have := HYES.out.1.2.1.2.1; omega
        have HLV := Lib.hid hlv
        clear hlv
        have HPK := Lib.hid (pack_any S cs s w1 (HS.out.keep hbC) (by omega) (fun x hx => by rcases (bit01_iff.1 HYES.out.2) x hx with h | h <;> omega))
        have hq : pk s s.length < 9223372036854775808 := Nat.lt_of_lt_of_le (pk_lt s s.length) (Nat.le_trans (Nat.pow_le_pow_right (by omega) hl6) (by decide))
        have HOD : Hid (∀ el : List Int, oddT s el = decide (size (pk s s.length &&& pk el el.length) % 2 = 1)) := Lib.hid (fun el => rfl)
        generalize pk s s.length = q at *
        go_upto_region 7 with (first
          | (go_at_call 39; refine HVS.out.mono ?_; rintro e w' ⟨rfl, rfl⟩)
          | (go_at_call 26; refine HPK.out.mono ?_; rintro e w' ⟨rfl, rfl⟩))
        obtain ⟨W2, hW2⟩ : ∃ W2, w1.alloc (.cells #[.int .i64 v, .slice none 0 0] 36) = W2 := ⟨_, rfl⟩
        have D3 : Blk W2 w.heap.size 36 #[.int .i64 v, .slice T tv.length cT] := by rw [← hW2]; exact C3.alloc _
        have D4 : Blk W2 (w.heap.size + 1) 36 #[.int .i64 0, .slice none 0 0] := by rw [← hW2]; exact C4.alloc _
        have D7 : Blk W2 w1.heap.size 36 #[.int .i64 v, .slice none 0 0] := by rw [← hW2]; exact Blk.new _ _ _
        have hbD : Below w.heap.size w W2 := by rw [← hW2]; exact hbC.alloc hbC.size _
        rw [hW2]
        clear hW2 C3 C4 hbC a0 a1 d0 d1 d2 d3 HVS HPK
        obtain ⟨a0, a1, _, _⟩ := D3.two
        go_wp2
        go_loopw [35] (fun s35 wr => ∃ (k : Nat) (O : Option Addr) (co : Nat) (ts : List TV), s35 = .int .i64 k ∧ k ≤ tv.length ∧ Hid (ApSt w v s tv w1.heap.size wr k O co ts)) (fun s35 _ => tv.length - (intOf s35).toNat)
        case atStart => exact ⟨0, none, 0, [], rfl, Nat.zero_le _, Lib.hid ⟨rfl, hbD, D4, D7, World.ownsRow_nil _ _ _ _, fun _ h => by cases h⟩⟩
        case round =>
          clear D3 D4 D7 hbD a0 a1
          obtain ⟨wo, rfl⟩ : ∃ wo : World, wo = wr := ⟨_, rfl⟩
          obtain ⟨k, O, co, ts, rfl, hk, HST⟩ := hrel
          have hbr := HST.out.below
          have hz2 := HST.out.b7.lt
          have hts : ts.length ≤ 4096 := by
            have := congrArg List.length HST.out.pl
            simp at this; omega
          by_cases hkl : k < tv.length
          · obtain ⟨ad, rfl, hc0, hc1, hI⟩ := TermsAt.at (HA.out.keep hbr) hkl
            have HT1 : Hid (tv.take (k + 1) = tv.take k ++ [tv[k]]) := Lib.hid (List.take_succ_eq_append_getElem hkl)
            have hsk := HSZ.out tv[k] (List.getElem_mem _)
            have htk := (HYES.out.1.2.1.2.2 k (by simpa using hkl) (by simpa using hkl)).1
            rw [List.getElem_map] at htk
            rw [termOk_iff] at htk
            have HPL : Hid (TV.pl tv[k] = (tv[k].coef, tv[k].exps)) := Lib.hid rfl
            have q0 : (0 : Int) ≤ (k : Int) := by omega
            have q1 : (k : Int) < (tv.length : Int) := by omega
            have q3 : ((k : Int)).toNat = k := by omega
            generalize tv[k] = t at *
            obtain ⟨cf, E, ce, el⟩ := t
            simp only [TV.pl] at *
            obtain ⟨t1, t2, t3⟩ := htk
            have hel6 : el.length ≤ 6 := by have := HYES.out.1.2.1.2.1; omega
            have HPE := Lib.hid (fun V (h : Below wo.heap.size wo V) => pack_any E ce el V (hI.keep h) (by omega) (fun x hx => by have := low20_iff.1 t3 x hx; omega))
            have hpe : pk el el.length < 9223372036854775808 := Nat.lt_of_lt_of_le (pk_lt el el.length) (Nat.le_trans (Nat.pow_le_pow_right (by omega) hel6) (by decide))
            have HOE := Lib.hid (fun V => odd_any q (pk el el.length) V hq hpe)
            have e0 := HOD.out el
            have HNG := Lib.hid (fun V => rneg_any cf V hsk.1 t1)
            have HCF : Hid (TV.pl ⟨cf, E, ce, el⟩ = (cf, el)) := Lib.hid rfl
            have HTE := Lib.hid t2
            rw [← e0] at HOE
            clear e0 t1 t2 t3 hsk
            generalize pk el el.length = pe at *
            go_upto_region 10 with (fail)
            obtain ⟨W3, hW3⟩ : ∃ W3, wo.alloc (.cells #[.string cf, .slice E el.length ce] 54) = W3 := ⟨_, rfl⟩
            have E9 : Blk W3 wo.heap.size 54 #[.string cf, .slice E el.length ce] := by rw [← hW3]; exact Blk.new _ _ _
            have hbE : Below wo.heap.size wo W3 := by rw [← hW3]; exact (Below.refl _ _).alloc (Nat.le_refl _) _
            rw [hW3]
            clear hW3 hc0 hc1
            obtain ⟨x0, x1, _, _⟩ := E9.two
            obtain ⟨cf2, hcf2⟩ : ∃ cf2, (appT s (cf, el)).1 = cf2 := ⟨_, rfl⟩
            have HCF2 := Lib.hid hcf2
            clear hcf2
            go_upto_if 45 with (first
              | (go_at_call 26; refine (HPE.out _ hbE).mono ?_; rintro e w' ⟨rfl, rfl⟩)
              | (go_at_call 27; refine (HOE.out _).mono ?_; rintro e w' ⟨rfl, rfl⟩))
            go_cut [10, 46, 47] (fun s10 s46 s47 wx => s10 = .string cf2 ∧ Below W3.heap.size W3 wx)
            case first =>
              cases ho : oddT s el with
              | false =>
                have e2 : cf2 = cf := by rw [← HCF2.out]; unfold appT; rw [if_neg (by simp [ho])]
                subst e2
                go_wp2
                go_meet
                exact ⟨rfl, Below.refl _ _⟩
              | true =>
                have e2 : cf2 = negB cf := by rw [← HCF2.out]; unfold appT; rw [if_pos (by simp [ho])]
                subst e2
                go_wp2_with (go_at_call 40; refine (HNG.out _).mono ?_; rintro e w4 ⟨rfl, hb4⟩)
                go_meet
                exact ⟨rfl, hb4⟩
            case rest =>
              obtain ⟨rfl, hbx⟩ := hcut
              obtain ⟨Z, rfl⟩ : ∃ Z : World, Z = wc := ⟨_, rfl⟩
              have hb0 : Below wo.heap.size wo Z := below_all hbE hbx
              have F9 := E9.keep hbx E9.lt
              have F4 := HST.out.b4.keep hb0 HST.out.b4.lt
              have F7 := HST.out.b7.keep hb0 HST.out.b7.lt
              have hownF := own_below HST.out.own hb0 (Nat.le_refl _)
              have HMF : Hid (∀ t ∈ ts, Z.ownsRow w.heap.size 3 1 (.slice t.adr t.exps.length t.cap) t.exps.length (t.exps.map vi)) := Lib.hid (fun t ht => own_below (HST.out.mine t ht) hb0 (Nat.le_refl _))
              have hbF := below_all hbr hb0
              have hIF := hI.keep hb0
              have hzF := F9.lt
              have hz4 := F4.lt
              have hz7 := F7.lt
              have hzw := hbF.size
              clear hbx hb0 hbE E9 x0 x1 hI HPE HOE HNG
              obtain ⟨y0, y1, _, _⟩ := F9.two
              have hmk := fun W => make_ints el.length el.length (Nat.le_refl _) (by omega) W
              go_upto_region 14 with (fail)
              obtain ⟨Z1, hZ1⟩ : ∃ Z1, Z.alloc (.cells (madeCells #[.int .i64 0] el.length) 3) = Z1 := ⟨_, rfl⟩
              have G11 : Blk Z1 Z.heap.size 3 (madeCells #[.int .i64 0] el.length) := by rw [← hZ1]; exact Blk.new _ _ _
              have G9 : Blk Z1 wo.heap.size 54 #[.string cf, .slice E el.length ce] := by rw [← hZ1]; exact F9.alloc _
              have G4 : Blk Z1 (w.heap.size + 1) 36 #[.int .i64 0, .slice none 0 0] := by rw [← hZ1]; exact F4.alloc _
              have G7 : Blk Z1 w1.heap.size 36 #[.int .i64 v, .slice O ts.length co] := by rw [← hZ1]; exact F7.alloc _
              have hownG : Z1.ownsRow w.heap.size 54 2 (.slice O ts.length co) ts.length (ts.flatMap TV.cells) := by rw [← hZ1]; exact hownF.alloc _
              have HMG : Hid (∀ t ∈ ts, Z1.ownsRow w.heap.size 3 1 (.slice t.adr t.exps.length t.cap) t.exps.length (t.exps.map vi)) := Lib.hid (fun t ht => by rw [← hZ1]; exact (HMF.out t ht).alloc _)
              have hbG : Below w.heap.size w Z1 := by rw [← hZ1]; exact hbF.alloc hbF.size _
              have hIG : Ints Z1 E el := by rw [← hZ1]; exact Sl.alloc hIF _
              have hne1 : some Z.heap.size ≠ (Value.slice O ts.length co).ownBlock := fun e => by have := (hownF.lt _ e.symm).2; omega
              have HNE2 : Hid (∀ t ∈ ts, some Z.heap.size ≠ (Value.slice t.adr t.exps.length t.cap).ownBlock) := Lib.hid (fun t ht e => by have := ((HMF.out t ht).lt _ e.symm).2; omega)
              rw [hZ1]
              clear hZ1 F4 F7 F9 hownF HMF hbF hIF y0 y1 hmk
              obtain ⟨y0, y1, _, _⟩ := G9.two
              go_wp2_with (first
                | (refine wpList_copy_full rfl _ _ rfl Z.heap.size E ce el _ rfl rfl hIG (by simp [size_madeCells]) G11 ?_
                   intro Z2 H11 hBut
                   have H4 := hBut.blk _ _ _ (by omega) G4
                   have H7 := hBut.blk _ _ _ (by omega) G7
                   have hownH := hBut.own hownG hne1
                   have HMH : Hid (∀ t ∈ ts, Z2.ownsRow w.heap.size 3 1 (.slice t.adr t.exps.length t.cap) t.exps.length (t.exps.map vi)) := Lib.hid (fun t ht => hBut.own (HMG.out t ht) (HNE2.out t ht))
                   have hbH := hBut.below _ _ hbG (by omega)
                   have hnew := own_of_blk (base := w.heap.size) H11 (by omega) (by omega)
                   have hz8 := H7.lt
                   clear G11 G9 G4 G7 hownG HMG HNE2 hbG hIG hne1 hBut H11 y0 y1
                   obtain ⟨b0, b1, b2, b3⟩ := H7.two
                   have HNW := Lib.hid (cells_new Z2 54 [.string cf2, .slice (some ⟨Z.heap.size, 0, none⟩) el.length el.length]))
                | (at_builtin
                   refine wpList_append_own _ rfl _ _ 34 rfl w.heap.size 54 i0 _ 2 40 Tryz.underlying34 hi iz0 iz1 iz2 rfl (by decide) (.slice O ts.length co) ts.length _ rfl (hownH.alloc _) ⟨Z2.heap.size, 0, none⟩ 1 1 [.string cf2, .slice (some ⟨Z.heap.size, 0, none⟩) el.length el.length] rfl rfl ?c1 ?c2 ?c3 ?c4 ?c5 ?_
                   case c1 => exact HNW.out
                   case c2 => simp [Value.oneCell']
                   case c3 => simp only [maxLen]; omega
                   case c4 => omega
                   case c5 => simp; omega
                   intro v' w5 hown' hgrow _
                   have K7 := Blk.grown (Blk.alloc H7 _) hgrow (own_blk_ne hownH H7 (by decide))
                   obtain ⟨b0, b1, b2, b3⟩ := K7.two
                   obtain ⟨A2, cs2, hv2, _, _⟩ := Sl.of_own hown'
                   subst hv2))
              have K4 := Blk.grown (Blk.alloc H4 _) hgrow (own_blk_ne hownH H4 (by decide))
              go_roundw
              case rel =>
                refine ⟨k + 1, A2, cs2, ts ++ [⟨cf2, some ⟨Z.heap.size, 0, none⟩, el.length, el⟩], by go_num, by omega, Lib.hid ⟨?_, ?_, ?_, ?_, ?_, ?_⟩⟩
                · rw [HT1.out, List.map_append, List.map_append, List.map_append, HST.out.pl]
                  have e1 : (cf2, el) = appT s (cf, el) := by
                    rw [← HCF2.out]
                    exact Prod.ext rfl (appT_exps s (cf, el)).symm
                  simp only [List.map_cons, List.map_nil, TV.pl]
                  rw [← e1]
                · exact below_far ((hbH.alloc hbH.size _).grown hgrow (by simp; omega) (fun j hj => by have := (hownH.lt j hj).1; omega)) (by omega) _ _
                · exact K4.far (by show w.heap.size + 1 ≠ w1.heap.size; omega) _
                · rw [List.length_append]; exact K7.set 1 _
                · rw [List.length_append, List.flatMap_append]; exact own_far hown' (own_blk_ne hown' K7 (by decide)) _
                · intro t ht
                  rcases List.mem_append.1 ht with h | h
                  · have := ((HMH.out t h).alloc (.cells #[.string cf2, .slice (some ⟨Z.heap.size, 0, none⟩) el.length el.length] 54)).kept hgrow (own_ne (HMH.out t h) hownH (by decide))
                    exact own_far this (own_blk_ne this K7 (by decide)) _
                  · rw [List.mem_singleton.1 h]
                    have := (hnew.alloc (.cells #[.string cf2, .slice (some ⟨Z.heap.size, 0, none⟩) el.length el.length] 54)).kept hgrow (own_ne hnew hownH (by decide))
                    exact own_far this (own_blk_ne this K7 (by decide)) _
              case measure => simp [intOf]; omega
          · obtain rfl : k = tv.length := by omega
            obtain ⟨b0, b1, b2, b3⟩ := HST.out.b7.two
            obtain ⟨d0, d1, d2, d3⟩ := HST.out.b4.two
            have hz4 := HST.out.b4.lt
            have HTA : Hid (∀ W', But (w.heap.size + 1) wo W' → TermsAt W' O ts) := Lib.hid (fun W' hBut => ⟨Sl.own (hBut.own HST.out.own (own_blk_ne HST.out.own HST.out.b4 (by decide))), fun t ht => Sl.own (hBut.own (HST.out.mine t ht) (own_blk_ne (HST.out.mine t ht) HST.out.b4 (by decide)))⟩)
            have HPL := Lib.hid HST.out.pl
            rw [List.take_length] at HPL
            go_wp2
            refine bodyPost_ret (v := .tuple #[.agg #[.int .i64 v, .slice O ts.length co], .int .i64 0]) (by simp [results, Tryz.results21, go_sem, d0, d1]) rfl ⟨?_, .inr (.inr ⟨HYES.out, HLV.out, O, co, ts, rfl, HTA.out _ ⟨fun B w0 hb hg => below_far (below_far hb hg _ _) hg _ _, fun g t cs hne hb => (hb.far hne _).far hne _⟩, HPL.out⟩)⟩
            exact below_far (below_far hbr (by omega) _ _) (by omega) _ _
      · have hne : ((s.length : Int) != v) = true := by simp [hlv]
        have hne' : ((s.length : Int) == v) = false := by simp [hlv]
        have HNE := Lib.hid hlv
        clear hlv
        go_wp2_with (go_at_call 39; refine HVS.out.mono ?_; rintro e w' ⟨rfl, rfl⟩)
        refine bodyPost_ret (v := .tuple #[.agg #[.int .i64 0, .slice none 0 0], .int .i64 4]) (by simp [results, Tryz.results21, go_sem, d0, d1]) rfl ⟨?_, .inr (.inl ⟨HYES.out, HNE.out, rfl⟩)⟩
        exact below_far (below_far hbC (by omega) _ _) (by omega) _ _
end Go.Proofs.Tg
end
