/- Parts of the proof: KP1, XG1, E6, LI1. -/
import Derived.OwnWalk
import Derived.Deep.Cut
import Derived.Test.YticpnfjdooileaaGreatDoorMCPC0
import Derived.Test.YticpnfjdooileaaGreatDoorMCPC2
import Derived.Test.YticpnfjdooileaaGreatDoorMCPC6
import Derived.Test.YticpnfjdooileaaGreatDoorMCPC13
import Derived.Test.YticpnfjdooileaaGreatDoorMCPC21
import Derived.Test.YticpnfjdooileaaGreatDoorMCPC22
section
/- The harness's comparison of polynomials. -/
namespace Go.Proofs.Tg
open Go.RowKit Go.Mo
set_option maxHeartbeats 4000000
set_option maxRecDepth 100000
theorem polys_any (a b : PVal) (r : Bool) (w : World) (ha : TermsAt w a.adr a.tv) (hb : TermsAt w b.adr b.tv) (hr : r = true ↔ a.vars = b.vars ∧ a.tv.map TV.pl = b.tv.map TV.pl) (hn : a.tv.length ≤ 1000000) (hm : b.tv.length ≤ 1000000) (he : ∀ t ∈ a.tv, t.exps.length ≤ 1000000) :
    Calls Tryz.prog 23 #[.agg #[.int .i64 a.vars, .slice a.adr a.tv.length a.cap], .agg #[.int .i64 b.vars, .slice b.adr b.tv.length b.cap]] w fun e w' => e = .returned (.bool r) ∧ Below w.heap.size w w' := by
  obtain ⟨va, A, ca, ta⟩ := a
  obtain ⟨vb, B, cb, tb⟩ := b
  simp only at *
  have HR := Lib.hid hr
  have HE := Lib.hid he
  have HA := Lib.hid ha
  have HB := Lib.hid hb
  clear hr he ha hb
  obtain ⟨W, hW⟩ : ∃ W, (w.alloc (.cells #[.int .i64 va, .slice A ta.length ca] 36)).alloc (.cells #[.int .i64 vb, .slice B tb.length cb] 36) = W := ⟨_, rfl⟩
  have B2 : Blk W w.heap.size 36 #[.int .i64 va, .slice A ta.length ca] := by rw [← hW]; exact (Blk.new _ _ _).alloc _
  have B3 : Blk W (w.heap.size + 1) 36 #[.int .i64 vb, .slice B tb.length cb] := by
    rw [← hW]; have := Blk.new (w.alloc (.cells #[.int .i64 va, .slice A ta.length ca] 36)) 36 #[.int .i64 vb, .slice B tb.length cb]
    simpa using this
  have hbW : Below w.heap.size w W := by rw [← hW]; exact ((Below.refl _ _).alloc (Nat.le_refl _) _).alloc (by simp) _
  have HWW := Lib.hid hW
  clear hW
  obtain ⟨a0, a1, _, _⟩ := B2.two
  obtain ⟨c0, c1, _, _⟩ := B3.two
  go_enter Tryz.func23, Tryz.ntmps23
  go_upto_region 1 with (fail)
  rw [HWW.out]
  by_cases hv : va = vb
  · have hvb : (va != vb) = false := by simp [hv]
    by_cases hl : ta.length = tb.length
    · have hlb : ((ta.length : Int) != (tb.length : Int)) = false := by simp [hl]
      have hlb' : (ta.length != tb.length) = false := by simp [hl]
      have HL := Lib.hid hl
      have HVE := Lib.hid hv
      clear hl hv
      go_wp2
      go_loopw [5] (fun s5 wr => ∃ k : Nat, s5 = .int .i64 k ∧ k ≤ ta.length ∧ Hid ((ta.take k).map TV.pl = (tb.take k).map TV.pl) ∧ Below W.heap.size W wr) (fun s5 _ => ta.length - (intOf s5).toNat)
      case atStart => exact ⟨0, rfl, Nat.zero_le _, Lib.hid rfl, Below.refl _ _⟩
      case round =>
        clear a0 a1 c0 c1
        obtain ⟨wo, rfl⟩ : ∃ wo : World, wo = wr := ⟨_, rfl⟩
        obtain ⟨k, rfl, hk, HK, hbr⟩ := hrel
        have C2 := B2.keep hbr B2.lt
        have C3 := B3.keep hbr B3.lt
        obtain ⟨a0, a1, _, _⟩ := C2.two
        obtain ⟨c0, c1, _, _⟩ := C3.two
        have hbo := below_all hbW hbr
        by_cases hkl : k < ta.length
        · have hkl2 : k < tb.length := by have := HL.out; omega
          obtain ⟨ad, rfl, x0, x1, hI⟩ := TermsAt.at (HA.out.keep hbo) hkl
          obtain ⟨bd, rfl, y0, y1, hJ⟩ := TermsAt.at (HB.out.keep hbo) hkl2
          have HT1 : Hid (ta.take (k + 1) = ta.take k ++ [ta[k]]) := Lib.hid (List.take_succ_eq_append_getElem hkl)
          have HT2 : Hid (tb.take (k + 1) = tb.take k ++ [tb[k]]) := Lib.hid (List.take_succ_eq_append_getElem hkl2)
          have HAT : Hid (∀ h : ta.map TV.pl = tb.map TV.pl, TV.pl ta[k] = TV.pl tb[k]) := Lib.hid (fun h => by
            have : (ta.map TV.pl)[k]? = (tb.map TV.pl)[k]? := by rw [h]
            simpa [hkl, hkl2] using this)
          have hel := HE.out ta[k] (List.getElem_mem _)
          generalize ta[k] = t at *
          generalize tb[k] = u at *
          obtain ⟨s, E, ce, el⟩ := t
          obtain ⟨s', E', ce', el'⟩ := u
          simp only [TV.pl] at *
          have q0 : (0 : Int) ≤ (k : Int) := by omega
          have q1 : (k : Int) < (ta.length : Int) := by omega
          have q2 : (k : Int) < (tb.length : Int) := by omega
          have q3 : ((k : Int)).toNat = k := by omega
          have HI := Lib.hid (fun V (h : Dr wo V) => ints_any E E' el el' ce ce' V (hI.keep h.below) (hJ.keep h.below) hel)
          by_cases hs : s = s'
          · subst hs
            by_cases he2 : el = el'
            · have HI2 : Hid (∀ V, Dr wo V → Calls Tryz.prog 18 #[.slice E el.length ce, .slice E' el'.length ce'] V fun e w' => e = .returned (.bool true) ∧ Dr V w') := Lib.hid (fun V h => by
                have := HI.out V h
                rwa [decide_eq_true he2] at this)
              have HK2 : Hid ((ta.take (k + 1)).map TV.pl = (tb.take (k + 1)).map TV.pl) := Lib.hid (by
                rw [HT1.out, HT2.out, List.map_append, List.map_append, HK.out]
                simp [TV.pl, he2])
              clear he2 HI HAT
              go_wp2
              go_quiet ((go_at_call 18; exact Calls.quiet_of (HI2.out _ ⟨_, rfl⟩)))
              go_wp2
              go_roundw
              case rel => exact ⟨k + 1, by go_num, by omega, HK2, below_drewN hbr _⟩
              case measure => simp [intOf]; omega
            · have HI2 : Hid (∀ V, Dr wo V → Calls Tryz.prog 18 #[.slice E el.length ce, .slice E' el'.length ce'] V fun e w' => e = .returned (.bool false) ∧ Dr V w') := Lib.hid (fun V h => by
                have := HI.out V h
                rwa [decide_eq_false he2] at this)
              obtain rfl : r = false := by
                apply eq_false_of_ne_true
                intro h
                have := HAT.out (HR.out.1 h).2
                injection this with _ h2
                exact he2 h2
              clear he2 HI HAT
              go_wp2
              go_quiet ((go_at_call 18; exact Calls.quiet_of (HI2.out _ ⟨_, rfl⟩)))
              go_wp2
              go_ret
              exact ⟨rfl, below_all hbW (below_drewN hbr _)⟩
          · have hsl : ¬ s.toList = s'.toList := by
              rw [Lib.toList_data, Lib.toList_data]
              intro h
              apply hs
              rw [← bs_self s, ← bs_self s', h]
            have hs1 : (s.toList == s'.toList) = false := by simpa using hsl
            have hs4 : (s.toList != s'.toList) = true := by simpa using hsl
            obtain rfl : r = false := by
              apply eq_false_of_ne_true
              intro h
              have := HAT.out (HR.out.1 h).2
              injection this with h2 _
              exact hs h2
            clear HI HAT
            go_wp2
            go_quiet (fail)
            go_wp2
            go_ret
            exact ⟨rfl, below_all hbW (below_drewN hbr _)⟩
        · obtain rfl : k = ta.length := by omega
          obtain rfl : r = true := HR.out.2 ⟨HVE.out, by
            have h := HK.out
            rw [List.take_length, HL.out, List.take_length] at h
            exact h⟩
          have dd : decide (ta.length < ta.length) = false := by simp
          go_wp2
          go_ret
          exact ⟨rfl, hbo⟩
    · have hlb : ((ta.length : Int) != (tb.length : Int)) = true := by simp; omega
      have hlb' : (ta.length != tb.length) = true := by simp [hl]
      obtain rfl : r = false := by
        apply eq_false_of_ne_true
        intro h
        have := congrArg List.length (HR.out.1 h).2
        simp at this
        exact hl this
      clear hl
      go_wp2
      go_ret
      exact ⟨rfl, hbW⟩
  · have hvb : (va != vb) = true := by simp [hv]
    obtain rfl : r = false := by
      apply eq_false_of_ne_true
      intro h
      exact hv (HR.out.1 h).1
    clear hv
    go_wp2
    go_ret
    exact ⟨rfl, hbW⟩
end Go.Proofs.Tg
end
section
/- The statements' Mod. -/
namespace Go.Gr
/-- The rest that is not negative. -/
def modZ (a n : Int) : Int := if a.tmod n < 0 then a.tmod n + n else a.tmod n
theorem modZ_in (a : Int) {n : Int} (hn : 0 < n) : 0 ≤ modZ a n ∧ modZ a n < n := by
  have h1 := Int.tmod_lt_of_pos a hn
  have h2 := Int.lt_tmod_of_pos a hn
  unfold modZ
  split <;> omega
end Go.Gr
namespace Go.Proofs.Tg
open Go.RowKit Go.Gr
set_option maxHeartbeats 2000000
set_option maxRecDepth 100000
theorem mod_any (a n : Int) (w : World) (hn : 0 < n) (hn2 : n ≤ 1000) : Calls Tryz.prog 24 #[.int .i64 a, .int .i64 n] w fun e w' => e = .returned (.int .i64 (modZ a n)) ∧ w = w' := by
  have h1 := Int.tmod_lt_of_pos a hn
  have h2 := Int.lt_tmod_of_pos a hn
  have HM : Hid (modZ a n = if a.tmod n < 0 then a.tmod n + n else a.tmod n) := Lib.hid rfl
  have hne : (n == 0) = false := by simp; omega
  by_cases h : a.tmod n < 0
  · have d : decide (a.tmod n < 0) = true := by simpa using h
    rw [if_pos h] at HM
    go_enter Tryz.func24, Tryz.ntmps24
    go_wp2
    go_ret
    exact ⟨by rw [HM.out]; rfl, rfl⟩
  · have d : decide (a.tmod n < 0) = false := by simpa using h
    rw [if_neg h] at HM
    go_enter Tryz.func24, Tryz.ntmps24
    go_wp2
    go_ret
    exact ⟨by rw [HM.out]; rfl, rfl⟩
end Go.Proofs.Tg
end
section
/- Sums of sign vectors: plain. -/
namespace Go.Ev
open Go.Gr Go.Mo
theorem V_zero (rows : List (List Int)) (n : Nat) : V rows n 0 :=
  ⟨Nat.two_pow_pos n, fun row _ => by have := pr_xor row 0 0 n; rw [Nat.xor_self] at this; omega⟩
/-- The sum of the vectors of a list that a number selects by its bits. -/
def selX (K : List Nat) (b : Nat) : Nat → Nat
  | 0 => 0
  | i + 1 => selX K b i ^^^ (if b.testBit i = true then K.getD i 0 else 0)
theorem selX_V {rows : List (List Int)} {n : Nat} {K : List Nat} (hK : ∀ x ∈ K, V rows n x) (b : Nat) : ∀ i, V rows n (selX K b i)
  | 0 => V_zero rows n
  | i + 1 => by
    unfold selX
    refine (V_space rows n).xor _ _ (selX_V hK b i) ?_
    split
    · by_cases h : i < K.length
      · have : K.getD i 0 = K[i] := by simp [h]
        rw [this]; exact hK _ (List.getElem_mem _)
      · have : K.getD i 0 = 0 := by simp [h]
        rw [this]; exact V_zero rows n
    · exact V_zero rows n
theorem selX_lt {n : Nat} {K : List Nat} (hK : ∀ x ∈ K, x < 2 ^ n) (b : Nat) : ∀ i, selX K b i < 2 ^ n
  | 0 => Nat.two_pow_pos n
  | i + 1 => by
    unfold selX
    refine Nat.xor_lt_two_pow (selX_lt hK b i) ?_
    split
    · by_cases h : i < K.length
      · have : K.getD i 0 = K[i] := by simp [h]
        rw [this]; exact hK _ (List.getElem_mem _)
      · have : K.getD i 0 = 0 := by simp [h]
        rw [this]; exact Nat.two_pow_pos n
    · exact Nat.two_pow_pos n
theorem unp_zero (n : Nat) : unp 0 n = List.replicate n 0 := by
  unfold unp
  simp [List.map_const']
/-- The sum of two vectors, made up to position k. -/
def mixL (x y n k : Nat) : List Int := unp (x ^^^ y) k ++ (unp x n).drop k
theorem mixL_len (x y : Nat) {n k : Nat} (h : k ≤ n) : (mixL x y n k).length = n := by
  unfold mixL
  rw [List.length_append, unp_len, List.length_drop, unp_len]; omega
theorem mixL_zero (x y n : Nat) : mixL x y n 0 = unp x n := by simp [mixL, unp]
theorem mixL_full (x y n : Nat) : mixL x y n n = unp (x ^^^ y) n := by
  unfold mixL
  rw [List.drop_of_length_le (by rw [unp_len]; exact Nat.le_refl _), List.append_nil]
theorem mixL_at (x y : Nat) {n k : Nat} (h : k < n) : (mixL x y n k)[k]'(by rw [mixL_len x y (by omega)]; exact h) = if x.testBit k = true then 1 else 0 := by
  unfold mixL
  rw [List.getElem_append_right (by rw [unp_len]; exact Nat.le_refl _)]
  simp [unp]
theorem mixL_set (x y : Nat) {n k : Nat} (h : k < n) : (mixL x y n k).set k (if (x ^^^ y).testBit k = true then 1 else 0) = mixL x y n (k + 1) := by
  have hd : (unp x n).drop k = (if x.testBit k = true then 1 else 0) :: (unp x n).drop (k + 1) := by
    rw [List.drop_eq_getElem_cons (by rw [unp_len]; exact h)]
    simp [unp]
  have hu : unp (x ^^^ y) (k + 1) = unp (x ^^^ y) k ++ [if (x ^^^ y).testBit k = true then 1 else 0] := by
    unfold unp; rw [List.range_succ, List.map_append]; rfl
  unfold mixL
  rw [hd, hu, List.set_append_right _ _ (by rw [unp_len]; exact Nat.le_refl _), unp_len, Nat.sub_self, List.set_cons_zero, List.append_assoc]
  rfl
theorem bit_step (p q b : Bool) : ((if p = true then (1 : Int) else 0) + (if q = true then 1 else 0) * (if b = true then 1 else 0)) % 2 = if (p ^^ (b && q)) = true then 1 else 0 := by
  cases p <;> cases q <;> cases b <;> rfl
theorem sel_bit (u : Nat) (b : Bool) (k : Nat) : (if b = true then u else 0).testBit k = (b && u.testBit k) := by
  cases b <;> simp
/-- A vector of the space changes no term. -/
theorem odd_V {rows : List (List Int)} {n x : Nat} (hn : n ≤ 64) (h : V rows n x) {e : List Int} (he : e ∈ rows) (hl : e.length = n) : oddT (unp x n) e = false := by
  unfold oddT
  rw [unp_len, pk_unp h.1, hl, size_and e x n hn]
  have := h.2 e he
  simp [this]
theorem V_odd {rows : List (List Int)} {n x : Nat} (hn : n ≤ 64) (hx : x < 2 ^ n) (hr : ∀ e ∈ rows, e.length = n) (h : ∀ e ∈ rows, oddT (unp x n) e = false) : V rows n x := by
  refine ⟨hx, fun e he => ?_⟩
  have := h e he
  unfold oddT at this
  rw [unp_len, pk_unp hx, hr e he, size_and e x n hn] at this
  have h2 : ¬ pr e x n % 2 = 1 := by simpa using this
  omega
end Go.Ev
end
section
/- The statement ParityInvariant: its parts. -/
namespace Go.Proofs.Tg
open Go.RowKit Go.Gr Go.Ev Go.Mo Go.Qn
set_option maxHeartbeats 4000000
set_option maxRecDepth 100000
/-- The searches answer alike: an error, or a basis. -/
structure SgOk (ps : List PVal) (n : Nat) (us : List Nat) (r : Nat) : Prop where
  n6 : n ≤ 6
  ne : ps ≠ []
  vars : ∀ p ∈ ps, p.vars = n
  ok : ∀ p ∈ ps, p.ok
  inv : ∃ q, EInv (V (rowsOf ps) n) n us r q
  len : us.length ≤ 64
theorem sg_both (ps : List PVal) : (∃ c : Int, c ≠ 0 ∧ (∀ w e w', RetSigns ps w e w' → e = .returned (.tuple #[.slice none 0 0, .int .i64 c]) ∧ Below w.heap.size w w') ∧ (∀ w e w', RetRSigns ps w e w' → e = .returned (.tuple #[.slice none 0 0, .int .i64 c]) ∧ Below w.heap.size w w')) ∨
    ((∀ w e w', RetSigns ps w e w' → Below w.heap.size w w' ∧ ∃ n us r A c, SgOk ps n us r ∧ e = .returned (.tuple #[.slice A ((us.take r).map (unp · n)).length c, .int .i64 0]) ∧ Lists w' A ((us.take r).map (unp · n))) ∧
     (∀ w e w', RetRSigns ps w e w' → Below w.heap.size w w' ∧ ∃ A m c, e = .returned (.tuple #[.slice A m c, .int .i64 0]))) := by
  by_cases hok : ∀ p ∈ ps, p.ok
  · by_cases hd : ps = [] ∨ ∃ p ∈ ps, p.vars ≠ (ps.getD 0 ⟨0, none, 0, []⟩).vars
    · have hno : ∀ n : Nat, ps ≠ [] → (∀ p ∈ ps, p.vars = n) → False := by
        intro n hne hall
        rcases hd with h | ⟨p, hp, h⟩
        · exact hne h
        · apply h
          have h0 : 0 < ps.length := List.length_pos_iff.2 hne
          rw [hall p hp]
          have := hall ps[0] (List.getElem_mem _)
          simp [h0, this]
      refine .inl ⟨4, by decide, ?_, ?_⟩
      · rintro w e w' ⟨hb, h | h | h⟩
        · exact absurd hok h.1
        · exact ⟨h.2.2, hb⟩
        · obtain ⟨_, n, _, hne, hall, _⟩ := h
          exact (hno n hne hall).elim
      · rintro w e w' ⟨hb, h | h | h⟩
        · exact absurd hok h.1
        · exact ⟨h.2.2, hb⟩
        · obtain ⟨_, n, _, hne, hall, _⟩ := h
          exact (hno n hne hall).elim
    · refine .inr ⟨?_, ?_⟩
      · rintro w e w' ⟨hb, h | h | h⟩
        · exact absurd hok h.1
        · exact absurd h.2.1 hd
        · obtain ⟨_, n, hn, hne, hall, A, c, us, r, q, hE, h64, he, hL⟩ := h
          exact ⟨hb, n, us, r, A, c, ⟨hn, hne, hall, hok, ⟨q, hE⟩, h64⟩, he, hL⟩
      · rintro w e w' ⟨hb, h | h | h⟩
        · exact absurd hok h.1
        · exact absurd h.2.1 hd
        · obtain ⟨_, n, hn, _, hall, A, c, he, hL⟩ := h
          exact ⟨hb, A, _, c, he⟩
  · refine .inl ⟨1, by decide, ?_, ?_⟩
    · rintro w e w' ⟨hb, h | h | h⟩
      · exact ⟨h.2, hb⟩
      · exact absurd h.1 hok
      · exact absurd h.1 hok
    · rintro w e w' ⟨hb, h | h | h⟩
      · exact ⟨h.2, hb⟩
      · exact absurd h.1 hok
      · exact absurd h.1 hok
theorem ints_of_blk {w : World} {g : Nat} {l : List Int} (h : Blk w g 3 (iarr l)) (hl : l.length ≤ 1000000) : Ints w (some ⟨g, 0, none⟩) l :=
  Sl.own (own_of_blk (base := 0) h (Nat.zero_le _) hl)
theorem SgOk.rows {ps : List PVal} {n : Nat} {us : List Nat} {r : Nat} (h : SgOk ps n us r) : ∀ x ∈ us.take r, V (rowsOf ps) n x := by
  obtain ⟨q, hq⟩ := h.inv
  intro x hx
  exact hq.hV x (List.mem_of_mem_take hx)
/-- A vector of the space, applied, changes no polynomial. -/
theorem SgOk.still {ps : List PVal} {n : Nat} {us : List Nat} {r : Nat} (h : SgOk ps n us r) {x : Nat} (hx : V (rowsOf ps) n x) {p : PVal} (hp : p ∈ ps) : (p.tv.map TV.pl).map (appT (unp x n)) = p.tv.map TV.pl := by
  rw [app_same]
  intro t ht
  obtain ⟨u, hu, rfl⟩ := List.mem_map.1 ht
  have hrow : u.exps ∈ rowsOf ps := List.mem_flatMap.2 ⟨p, hp, List.mem_map_of_mem hu⟩
  refine odd_V (by have := h.n6; omega) hx hrow ?_
  obtain ⟨i, hi, rfl⟩ := List.getElem_of_mem hu
  have := ((h.ok p hp).2.1.2.2 i (by simpa using hi) (by simpa using hi)).1
  rw [List.getElem_map, termOk_iff] at this
  have h2 := this.2.1
  rw [h.vars p hp] at h2
  simp only [TV.pl] at h2
  exact_mod_cast h2
/-- Apply of a valid polynomial, where the sign vector fits. -/
theorem apply_ok (S : Option Addr) (cs : Nat) (s : List Int) (n : Nat) (T : Option Addr) (cT : Nat) (tv : List TV) (w : World) (hS : Ints w S s) (hA : TermsAt w T tv) (hn : tv.length ≤ 4096)
    (hsz : ∀ t ∈ tv, t.coef.size ≤ 9 ∧ t.exps.length ≤ 64) (hT : Tab w) (hv : VldP n (tv.map TV.pl)) (hb : bit01 s = true) (hl : s.length = n) :
    Calls Tryz.prog 21 #[.slice S n cs, .agg #[.int .i64 n, .slice T tv.length cT]] w fun e w' => Below w.heap.size w w' ∧ ∃ (O : Option Addr) (co : Nat) (ts : List TV), e = .returned (.tuple #[.agg #[.int .i64 n, .slice O ts.length co], .int .i64 0]) ∧ TermsAt w' O ts ∧ ts.map TV.pl = (tv.map TV.pl).map (appT s) := by
  have h6 := hv.2.1.2.1
  have := apply_any S cs s n T cT tv w hS (by omega) hA hn hsz hT
  rw [hl] at this
  refine this.mono ?_
  rintro e w' ⟨hbw, ⟨hno, _⟩ | ⟨_, hne, _⟩ | ⟨_, _, O, co, ts, h1, h2, h3⟩⟩
  · exact absurd ⟨hv, hb⟩ hno
  · exact absurd (by rw [hl]) hne
  · exact ⟨hbw, O, co, ts, h1, h2, h3⟩
/-- The sizes of a polynomial that a sign vector was applied to. -/
theorem app_sizes {s : List Int} {tv ts : List TV} {m : Nat} (h : ts.map TV.pl = (tv.map TV.pl).map (appT s)) (hs : ∀ t ∈ tv, t.coef.size ≤ m ∧ t.exps.length ≤ 64) : ts.length = tv.length ∧ ∀ t ∈ ts, t.coef.size ≤ m + 1 ∧ t.exps.length ≤ 64 := by
  have hl : ts.length = tv.length := by have := congrArg List.length h; simpa using this
  refine ⟨hl, fun t ht => ?_⟩
  have h1 : TV.pl t ∈ (tv.map TV.pl).map (appT s) := by rw [← h]; exact List.mem_map_of_mem ht
  obtain ⟨u, hu, he⟩ := List.mem_map.1 h1
  obtain ⟨x, hx, rfl⟩ := List.mem_map.1 hu
  have h2 := hs x hx
  have h3 := appT_size s (TV.pl x)
  have h4 := appT_exps s (TV.pl x)
  rw [he] at h3 h4
  simp only [TV.pl] at h3 h4
  exact ⟨by omega, by rw [h4]; exact h2.2⟩
end Go.Proofs.Tg
end
