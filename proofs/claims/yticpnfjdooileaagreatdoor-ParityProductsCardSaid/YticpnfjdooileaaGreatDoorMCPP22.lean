/- Parts of the proof: KP1, XG1, E6, LI1, E8. -/
import Derived.OwnWalk
import Derived.Deep.Cut
import Derived.Test.YticpnfjdooileaaGreatDoorMCPP0
import Derived.Test.YticpnfjdooileaaGreatDoorMCPP2
import Derived.Test.YticpnfjdooileaaGreatDoorMCPP5
import Derived.Test.YticpnfjdooileaaGreatDoorMCPP6
import Derived.Test.YticpnfjdooileaaGreatDoorMCPP12
import Derived.Test.YticpnfjdooileaaGreatDoorMCPP20
import Derived.Test.YticpnfjdooileaaGreatDoorMCPP21
section
/- The harness's comparison of polynomials. -/
namespace Go.Proofs.Tg
open Go.RowKit Go.Mo
set_option maxHeartbeats 4000000
set_option maxRecDepth 100000
theorem polys_any (a b : PVal) (r : Bool) (w : World) (ha : TermsAt w a.adr a.tv) (hb : TermsAt w b.adr b.tv) (hr : r = true ↔ a.vars = b.vars ∧ a.tv.map TV.pl = b.tv.map TV.pl) (hn : a.tv.length ≤ 1000000) (hm : b.tv.length ≤ 1000000) (he : ∀ t ∈ a.tv, t.exps.length ≤ 1000000) :
    Calls Tryz.prog 23 #[.agg #[.int .i64 a.vars, .slice a.adr a.tv.length a.cap], .agg #[.int .i64 b.vars, .slice b.adr b.tv.length b.cap]] w fun e w' => e = .returned (.bool r) ∧ Below w.heap.size w w' := by
  obtain ⟨va, A, ca, ta⟩ := a
  obtain ⟨vb, B, cb, tb⟩ := b
  simp only at *
  have HR := Lib.hid hr
  have HE := Lib.hid he
  have HA := Lib.hid ha
  have HB := Lib.hid hb
  clear hr he ha hb
  obtain ⟨W, hW⟩ : ∃ W, (w.alloc (.cells #[.int .i64 va, .slice A ta.length ca] 36)).alloc (.cells #[.int .i64 vb, .slice B tb.length cb] 36) = W := ⟨_, rfl⟩
  have B2 : Blk W w.heap.size 36 #[.int .i64 va, .slice A ta.length ca] := by rw [← hW]; exact (Blk.new _ _ _).alloc _
  have B3 : Blk W (w.heap.size + 1) 36 #[.int .i64 vb, .slice B tb.length cb] := by
    rw [← hW]; have := Blk.new (w.alloc (.cells #[.int .i64 va, .slice A ta.length ca] 36)) 36 #[.int .i64 vb, .slice B tb.length cb]
    simpa using this
  have hbW : Below w.heap.size w W := by rw [← hW]; exact ((Below.refl _ _).alloc (Nat.le_refl _) _).alloc (by simp) _
  have HWW := Lib.hid hW
  clear hW
  obtain ⟨a0, a1, _, _⟩ := B2.two
  obtain ⟨c0, c1, _, _⟩ := B3.two
  go_enter Tryz.func23, Tryz.ntmps23
  go_upto_region 1 with (fail)
  rw [HWW.out]
  by_cases hv : va = vb
  · have hvb : (va != vb) = false := by simp [hv]
    by_cases hl : ta.length = tb.length
    · have hlb : ((ta.length : Int) != (tb.length : Int)) = false := by simp [hl]
      have hlb' : (ta.length != tb.length) = false := by simp [hl]
      have HL := Lib.hid hl
      have HVE := Lib.hid hv
      clear hl hv
      go_wp2
      go_loopw [5] (fun s5 wr => ∃ k : Nat, s5 = .int .i64 k ∧ k ≤ ta.length ∧ Hid ((ta.take k).map TV.pl = (tb.take k).map TV.pl) ∧ Below W.heap.size W wr) (fun s5 _ => ta.length - (intOf s5).toNat)
      case atStart => exact ⟨0, rfl, Nat.zero_le _, Lib.hid rfl, Below.refl _ _⟩
      case round =>
        clear a0 a1 c0 c1
        obtain ⟨wo, rfl⟩ : ∃ wo : World, wo = wr := ⟨_, rfl⟩
        obtain ⟨k, rfl, hk, HK, hbr⟩ := hrel
        have C2 := B2.keep hbr B2.lt
        have C3 := B3.keep hbr B3.lt
        obtain ⟨a0, a1, _, _⟩ := C2.two
        obtain ⟨c0, c1, _, _⟩ := C3.two
        have hbo := below_all hbW hbr
        by_cases hkl : k < ta.length
        · have hkl2 : k < tb.length := by have := HL.out; omega
          obtain ⟨ad, rfl, x0, x1, hI⟩ := TermsAt.at (HA.out.keep hbo) hkl
          obtain ⟨bd, rfl, y0, y1, hJ⟩ := TermsAt.at (HB.out.keep hbo) hkl2
          have HT1 : Hid (ta.take (k + 1) = ta.take k ++ [ta[k]]) := Lib.hid (List.take_succ_eq_append_getElem hkl)
          have HT2 : Hid (tb.take (k + 1) = tb.take k ++ [tb[k]]) := Lib.hid (List.take_succ_eq_append_getElem hkl2)
          have HAT : Hid (∀ h : ta.map TV.pl = tb.map TV.pl, TV.pl ta[k] = TV.pl tb[k]) := Lib.hid (fun h => by
            have : (ta.map TV.pl)[k]? = (tb.map TV.pl)[k]? := by rw [h]
            simpa [hkl, hkl2] using this)
          have hel := HE.out ta[k] (List.getElem_mem _)
          generalize ta[k] = t at *
          generalize tb[k] = u at *
          obtain ⟨s, E, ce, el⟩ := t
          obtain ⟨s', E', ce', el'⟩ := u
          simp only [TV.pl] at *
          have q0 : (0 : Int) ≤ (k : Int) := by omega
          have q1 : (k : Int) < (ta.length : Int) := by omega
          have q2 : (k : Int) < (tb.length : Int) := by omega
          have q3 : ((k : Int)).toNat = k := by omega
          have HI := Lib.hid (fun V (h : Dr wo V) => ints_any E E' el el' ce ce' V (hI.keep h.below) (hJ.keep h.below) hel)
          by_cases hs : s = s'
          · subst hs
            by_cases he2 : el = el'
            · have HI2 : Hid (∀ V, Dr wo V → Calls Tryz.prog 18 #[.slice E el.length ce, .slice E' el'.length ce'] V fun e w' => e = .returned (.bool true) ∧ Dr V w') := Lib.hid (fun V h => by
                have := HI.out V h
                rwa [decide_eq_true he2] at this)
              have HK2 : Hid ((ta.take (k + 1)).map TV.pl = (tb.take (k + 1)).map TV.pl) := Lib.hid (by
                rw [HT1.out, HT2.out, List.map_append, List.map_append, HK.out]
                simp [TV.pl, he2])
              clear he2 HI HAT
              go_wp2
              go_quiet ((go_at_call 18; exact Calls.quiet_of (HI2.out _ ⟨_, rfl⟩)))
              go_wp2
              go_roundw
              case rel => exact ⟨k + 1, by go_num, by omega, HK2, below_drewN hbr _⟩
              case measure => simp [intOf]; omega
            · have HI2 : Hid (∀ V, Dr wo V → Calls Tryz.prog 18 #[.slice E el.length ce, .slice E' el'.length ce'] V fun e w' => e = .returned (.bool false) ∧ Dr V w') := Lib.hid (fun V h => by
                have := HI.out V h
                rwa [decide_eq_false he2] at this)
              obtain rfl : r = false := by
                apply eq_false_of_ne_true
                intro h
                have := HAT.out (HR.out.1 h).2
                injection this with _ h2
                exact he2 h2
              clear he2 HI HAT
              go_wp2
              go_quiet ((go_at_call 18; exact Calls.quiet_of (HI2.out _ ⟨_, rfl⟩)))
              go_wp2
              go_ret
              exact ⟨rfl, below_all hbW (below_drewN hbr _)⟩
          · have hsl : ¬ s.toList = s'.toList := by
              rw [Lib.toList_data, Lib.toList_data]
              intro h
              apply hs
              rw [← bs_self s, ← bs_self s', h]
            have hs1 : (s.toList == s'.toList) = false := by simpa using hsl
            have hs4 : (s.toList != s'.toList) = true := by simpa using hsl
            obtain rfl : r = false := by
              apply eq_false_of_ne_true
              intro h
              have := HAT.out (HR.out.1 h).2
              injection this with h2 _
              exact hs h2
            clear HI HAT
            go_wp2
            go_quiet (fail)
            go_wp2
            go_ret
            exact ⟨rfl, below_all hbW (below_drewN hbr _)⟩
        · obtain rfl : k = ta.length := by omega
          obtain rfl : r = true := HR.out.2 ⟨HVE.out, by
            have h := HK.out
            rw [List.take_length, HL.out, List.take_length] at h
            exact h⟩
          have dd : decide (ta.length < ta.length) = false := by simp
          go_wp2
          go_ret
          exact ⟨rfl, hbo⟩
    · have hlb : ((ta.length : Int) != (tb.length : Int)) = true := by simp; omega
      have hlb' : (ta.length != tb.length) = true := by simp [hl]
      obtain rfl : r = false := by
        apply eq_false_of_ne_true
        intro h
        have := congrArg List.length (HR.out.1 h).2
        simp at this
        exact hl this
      clear hl
      go_wp2
      go_ret
      exact ⟨rfl, hbW⟩
  · have hvb : (va != vb) = true := by simp [hv]
    obtain rfl : r = false := by
      apply eq_false_of_ne_true
      intro h
      exact hv (HR.out.1 h).1
    clear hv
    go_wp2
    go_ret
    exact ⟨rfl, hbW⟩
end Go.Proofs.Tg
end
section
/- The statements' Mod. -/
namespace Go.Gr
/-- The rest that is not negative. -/
def modZ (a n : Int) : Int := if a.tmod n < 0 then a.tmod n + n else a.tmod n
theorem modZ_in (a : Int) {n : Int} (hn : 0 < n) : 0 ≤ modZ a n ∧ modZ a n < n := by
  have h1 := Int.tmod_lt_of_pos a hn
  have h2 := Int.lt_tmod_of_pos a hn
  unfold modZ
  split <;> omega
end Go.Gr
namespace Go.Proofs.Tg
open Go.RowKit Go.Gr
set_option maxHeartbeats 2000000
set_option maxRecDepth 100000
theorem mod_any (a n : Int) (w : World) (hn : 0 < n) (hn2 : n ≤ 1000) : Calls Tryz.prog 24 #[.int .i64 a, .int .i64 n] w fun e w' => e = .returned (.int .i64 (modZ a n)) ∧ w = w' := by
  have h1 := Int.tmod_lt_of_pos a hn
  have h2 := Int.lt_tmod_of_pos a hn
  have HM : Hid (modZ a n = if a.tmod n < 0 then a.tmod n + n else a.tmod n) := Lib.hid rfl
  have hne : (n == 0) = false := by simp; omega
  by_cases h : a.tmod n < 0
  · have d : decide (a.tmod n < 0) = true := by simpa using h
    rw [if_pos h] at HM
    go_enter Tryz.func24, Tryz.ntmps24
    go_wp2
    go_ret
    exact ⟨by rw [HM.out]; rfl, rfl⟩
  · have d : decide (a.tmod n < 0) = false := by simpa using h
    rw [if_neg h] at HM
    go_enter Tryz.func24, Tryz.ntmps24
    go_wp2
    go_ret
    exact ⟨by rw [HM.out]; rfl, rfl⟩
end Go.Proofs.Tg
end
section
/- Sums of sign vectors: plain. -/
namespace Go.Ev
open Go.Gr Go.Mo
theorem V_zero (rows : List (List Int)) (n : Nat) : V rows n 0 :=
  ⟨Nat.two_pow_pos n, fun row _ => by have := pr_xor row 0 0 n; rw [Nat.xor_self] at this; omega⟩
/-- The sum of the vectors of a list that a number selects by its bits. -/
def selX (K : List Nat) (b : Nat) : Nat → Nat
  | 0 => 0
  | i + 1 => selX K b i ^^^ (if b.testBit i = true then K.getD i 0 else 0)
theorem selX_V {rows : List (List Int)} {n : Nat} {K : List Nat} (hK : ∀ x ∈ K, V rows n x) (b : Nat) : ∀ i, V rows n (selX K b i)
  | 0 => V_zero rows n
  | i + 1 => by
    unfold selX
    refine (V_space rows n).xor _ _ (selX_V hK b i) ?_
    split
    · by_cases h : i < K.length
      · have : K.getD i 0 = K[i] := by simp [h]
        rw [this]; exact hK _ (List.getElem_mem _)
      · have : K.getD i 0 = 0 := by simp [h]
        rw [this]; exact V_zero rows n
    · exact V_zero rows n
theorem selX_lt {n : Nat} {K : List Nat} (hK : ∀ x ∈ K, x < 2 ^ n) (b : Nat) : ∀ i, selX K b i < 2 ^ n
  | 0 => Nat.two_pow_pos n
  | i + 1 => by
    unfold selX
    refine Nat.xor_lt_two_pow (selX_lt hK b i) ?_
    split
    · by_cases h : i < K.length
      · have : K.getD i 0 = K[i] := by simp [h]
        rw [this]; exact hK _ (List.getElem_mem _)
      · have : K.getD i 0 = 0 := by simp [h]
        rw [this]; exact Nat.two_pow_pos n
    · exact Nat.two_pow_pos n
theorem unp_zero (n : Nat) : unp 0 n = List.replicate n 0 := by
  unfold unp
  simp [List.map_const']
/-- The sum of two vectors, made up to position k. -/
def mixL (x y n k : Nat) : List Int := unp (x ^^^ y) k ++ (unp x n).drop k
theorem mixL_len (x y : Nat) {n k : Nat} (h : k ≤ n) : (mixL x y n k).length = n := by
  unfold mixL
  rw [List.length_append, unp_len, List.length_drop, unp_len]; omega
theorem mixL_zero (x y n : Nat) : mixL x y n 0 = unp x n := by simp [mixL, unp]
theorem mixL_full (x y n : Nat) : mixL x y n n = unp (x ^^^ y) n := by
  unfold mixL
  rw [List.drop_of_length_le (by rw [unp_len]; exact Nat.le_refl _), List.append_nil]
theorem mixL_at (x y : Nat) {n k : Nat} (h : k < n) : (mixL x y n k)[k]'(by rw [mixL_len x y (by omega)]; exact h) = if x.testBit k = true then 1 else 0 := by
  unfold mixL
  rw [List.getElem_append_right (by rw [unp_len]; exact Nat.le_refl _)]
  simp [unp]
theorem mixL_set (x y : Nat) {n k : Nat} (h : k < n) : (mixL x y n k).set k (if (x ^^^ y).testBit k = true then 1 else 0) = mixL x y n (k + 1) := by
  have hd : (unp x n).drop k = (if x.testBit k = true then 1 else 0) :: (unp x n).drop (k + 1) := by
    rw [List.drop_eq_getElem_cons (by rw [unp_len]; exact h)]
    simp [unp]
  have hu : unp (x ^^^ y) (k + 1) = unp (x ^^^ y) k ++ [if (x ^^^ y).testBit k = true then 1 else 0] := by
    unfold unp; rw [List.range_succ, List.map_append]; rfl
  unfold mixL
  rw [hd, hu, List.set_append_right _ _ (by rw [unp_len]; exact Nat.le_refl _), unp_len, Nat.sub_self, List.set_cons_zero, List.append_assoc]
  rfl
theorem bit_step (p q b : Bool) : ((if p = true then (1 : Int) else 0) + (if q = true then 1 else 0) * (if b = true then 1 else 0)) % 2 = if (p ^^ (b && q)) = true then 1 else 0 := by
  cases p <;> cases q <;> cases b <;> rfl
theorem sel_bit (u : Nat) (b : Bool) (k : Nat) : (if b = true then u else 0).testBit k = (b && u.testBit k) := by
  cases b <;> simp
/-- A vector of the space changes no term. -/
theorem odd_V {rows : List (List Int)} {n x : Nat} (hn : n ≤ 64) (h : V rows n x) {e : List Int} (he : e ∈ rows) (hl : e.length = n) : oddT (unp x n) e = false := by
  unfold oddT
  rw [unp_len, pk_unp h.1, hl, size_and e x n hn]
  have := h.2 e he
  simp [this]
theorem V_odd {rows : List (List Int)} {n x : Nat} (hn : n ≤ 64) (hx : x < 2 ^ n) (hr : ∀ e ∈ rows, e.length = n) (h : ∀ e ∈ rows, oddT (unp x n) e = false) : V rows n x := by
  refine ⟨hx, fun e he => ?_⟩
  have := h e he
  unfold oddT at this
  rw [unp_len, pk_unp hx, hr e he, size_and e x n hn] at this
  have h2 : ¬ pr e x n % 2 = 1 := by simpa using this
  omega
end Go.Ev
end
section
/- The statement ParityInvariant: its parts. -/
namespace Go.Proofs.Tg
open Go.RowKit Go.Gr Go.Ev Go.Mo Go.Qn
set_option maxHeartbeats 4000000
set_option maxRecDepth 100000
/-- The searches answer alike: an error, or a basis. -/
structure SgOk (ps : List PVal) (n : Nat) (us : List Nat) (r : Nat) : Prop where
  n6 : n ≤ 6
  ne : ps ≠ []
  vars : ∀ p ∈ ps, p.vars = n
  ok : ∀ p ∈ ps, p.ok
  inv : ∃ q, EInv (V (rowsOf ps) n) n us r q
  len : us.length ≤ 64
theorem sg_both (ps : List PVal) : (∃ c : Int, c ≠ 0 ∧ (∀ w e w', RetSigns ps w e w' → e = .returned (.tuple #[.slice none 0 0, .int .i64 c]) ∧ Below w.heap.size w w') ∧ (∀ w e w', RetRSigns ps w e w' → e = .returned (.tuple #[.slice none 0 0, .int .i64 c]) ∧ Below w.heap.size w w')) ∨
    ((∀ w e w', RetSigns ps w e w' → Below w.heap.size w w' ∧ ∃ n us r A c, SgOk ps n us r ∧ e = .returned (.tuple #[.slice A ((us.take r).map (unp · n)).length c, .int .i64 0]) ∧ Lists w' A ((us.take r).map (unp · n))) ∧
     (∀ w e w', RetRSigns ps w e w' → Below w.heap.size w w' ∧ ∃ A m c, e = .returned (.tuple #[.slice A m c, .int .i64 0]))) := by
  by_cases hok : ∀ p ∈ ps, p.ok
  · by_cases hd : ps = [] ∨ ∃ p ∈ ps, p.vars ≠ (ps.getD 0 ⟨0, none, 0, []⟩).vars
    · have hno : ∀ n : Nat, ps ≠ [] → (∀ p ∈ ps, p.vars = n) → False := by
        intro n hne hall
        rcases hd with h | ⟨p, hp, h⟩
        · exact hne h
        · apply h
          have h0 : 0 < ps.length := List.length_pos_iff.2 hne
          rw [hall p hp]
          have := hall ps[0] (List.getElem_mem _)
          simp [h0, this]
      refine .inl ⟨4, by decide, ?_, ?_⟩
      · rintro w e w' ⟨hb, h | h | h⟩
        · exact absurd hok h.1
        · exact ⟨h.2.2, hb⟩
        · obtain ⟨_, n, _, hne, hall, _⟩ := h
          exact (hno n hne hall).elim
      · rintro w e w' ⟨hb, h | h | h⟩
        · exact absurd hok h.1
        · exact ⟨h.2.2, hb⟩
        · obtain ⟨_, n, _, hne, hall, _⟩ := h
          exact (hno n hne hall).elim
    · refine .inr ⟨?_, ?_⟩
      · rintro w e w' ⟨hb, h | h | h⟩
        · exact absurd hok h.1
        · exact absurd h.2.1 hd
        · obtain ⟨_, n, hn, hne, hall, A, c, us, r, q, hE, h64, he, hL⟩ := h
          exact ⟨hb, n, us, r, A, c, ⟨hn, hne, hall, hok, ⟨q, hE⟩, h64⟩, he, hL⟩
      · rintro w e w' ⟨hb, h | h | h⟩
        · exact absurd hok h.1
        · exact absurd h.2.1 hd
        · obtain ⟨_, n, hn, _, hall, A, c, he, hL⟩ := h
          exact ⟨hb, A, _, c, he⟩
  · refine .inl ⟨1, by decide, ?_, ?_⟩
    · rintro w e w' ⟨hb, h | h | h⟩
      · exact ⟨h.2, hb⟩
      · exact absurd h.1 hok
      · exact absurd h.1 hok
    · rintro w e w' ⟨hb, h | h | h⟩
      · exact ⟨h.2, hb⟩
      · exact absurd h.1 hok
      · exact absurd h.1 hok
theorem ints_of_blk {w : World} {g : Nat} {l : List Int} (h : Blk w g 3 (iarr l)) (hl : l.length ≤ 1000000) : Ints w (some ⟨g, 0, none⟩) l :=
  Sl.own (own_of_blk (base := 0) h (Nat.zero_le _) hl)
theorem SgOk.rows {ps : List PVal} {n : Nat} {us : List Nat} {r : Nat} (h : SgOk ps n us r) : ∀ x ∈ us.take r, V (rowsOf ps) n x := by
  obtain ⟨q, hq⟩ := h.inv
  intro x hx
  exact hq.hV x (List.mem_of_mem_take hx)
/-- A vector of the space, applied, changes no polynomial. -/
theorem SgOk.still {ps : List PVal} {n : Nat} {us : List Nat} {r : Nat} (h : SgOk ps n us r) {x : Nat} (hx : V (rowsOf ps) n x) {p : PVal} (hp : p ∈ ps) : (p.tv.map TV.pl).map (appT (unp x n)) = p.tv.map TV.pl := by
  rw [app_same]
  intro t ht
  obtain ⟨u, hu, rfl⟩ := List.mem_map.1 ht
  have hrow : u.exps ∈ rowsOf ps := List.mem_flatMap.2 ⟨p, hp, List.mem_map_of_mem hu⟩
  refine odd_V (by have := h.n6; omega) hx hrow ?_
  obtain ⟨i, hi, rfl⟩ := List.getElem_of_mem hu
  have := ((h.ok p hp).2.1.2.2 i (by simpa using hi) (by simpa using hi)).1
  rw [List.getElem_map, termOk_iff] at this
  have h2 := this.2.1
  rw [h.vars p hp] at h2
  simp only [TV.pl] at h2
  exact_mod_cast h2
/-- Apply of a valid polynomial, where the sign vector fits. -/
theorem apply_ok (S : Option Addr) (cs : Nat) (s : List Int) (n : Nat) (T : Option Addr) (cT : Nat) (tv : List TV) (w : World) (hS : Ints w S s) (hA : TermsAt w T tv) (hn : tv.length ≤ 4096)
    (hsz : ∀ t ∈ tv, t.coef.size ≤ 9 ∧ t.exps.length ≤ 64) (hT : Tab w) (hv : VldP n (tv.map TV.pl)) (hb : bit01 s = true) (hl : s.length = n) :
    Calls Tryz.prog 21 #[.slice S n cs, .agg #[.int .i64 n, .slice T tv.length cT]] w fun e w' => Below w.heap.size w w' ∧ ∃ (O : Option Addr) (co : Nat) (ts : List TV), e = .returned (.tuple #[.agg #[.int .i64 n, .slice O ts.length co], .int .i64 0]) ∧ TermsAt w' O ts ∧ ts.map TV.pl = (tv.map TV.pl).map (appT s) := by
  have h6 := hv.2.1.2.1
  have := apply_any S cs s n T cT tv w hS (by omega) hA hn hsz hT
  rw [hl] at this
  refine this.mono ?_
  rintro e w' ⟨hbw, ⟨hno, _⟩ | ⟨_, hne, _⟩ | ⟨_, _, O, co, ts, h1, h2, h3⟩⟩
  · exact absurd ⟨hv, hb⟩ hno
  · exact absurd (by rw [hl]) hne
  · exact ⟨hbw, O, co, ts, h1, h2, h3⟩
/-- The sizes of a polynomial that a sign vector was applied to. -/
theorem app_sizes {s : List Int} {tv ts : List TV} {m : Nat} (h : ts.map TV.pl = (tv.map TV.pl).map (appT s)) (hs : ∀ t ∈ tv, t.coef.size ≤ m ∧ t.exps.length ≤ 64) : ts.length = tv.length ∧ ∀ t ∈ ts, t.coef.size ≤ m + 1 ∧ t.exps.length ≤ 64 := by
  have hl : ts.length = tv.length := by have := congrArg List.length h; simpa using this
  refine ⟨hl, fun t ht => ?_⟩
  have h1 : TV.pl t ∈ (tv.map TV.pl).map (appT s) := by rw [← h]; exact List.mem_map_of_mem ht
  obtain ⟨u, hu, he⟩ := List.mem_map.1 h1
  obtain ⟨x, hx, rfl⟩ := List.mem_map.1 hu
  have h2 := hs x hx
  have h3 := appT_size s (TV.pl x)
  have h4 := appT_exps s (TV.pl x)
  rw [he] at h3 h4
  simp only [TV.pl] at h3 h4
  exact ⟨by omega, by rw [h4]; exact h2.2⟩
end Go.Proofs.Tg
end
section
/- Classes and products of monomials: plain. -/
namespace Go.Ev
open Go.Gr Go.Mo
/-- What the classes hold: the keys are different, each index is in the class of its key. -/
structure ClsInv (ks : List (List Int)) (i : Nat) : Prop where
  nodup : (clsSt ks i).1.Nodup
  mem : ∀ x, x < i → ks.getD x [] ∈ (clsSt ks i).1
  cls : ∀ j, j < (clsSt ks i).1.length → (clsSt ks i).2.getD j [] = (List.range i).filter (fun x => decide (ks.getD x [] = (clsSt ks i).1.getD j []))
theorem getD_idxOf {K : List (List Int)} {q : List Int} (h : K.idxOf q < K.length) : K.getD (K.idxOf q) [] = q := by
  simp [List.getD_eq_getElem?_getD, h]
theorem clsInv (ks : List (List Int)) : ∀ i, ClsInv ks i
  | 0 => ⟨by simp [clsSt], fun x h => by omega, fun j h => by simp [clsSt] at h⟩
  | i + 1 => by
    have ih := clsInv ks i
    have hl := (clsSt_len ks i).1
    obtain ⟨h1, h2, h3⟩ := ih
    by_cases hc : (clsSt ks i).1.idxOf (ks.getD i []) < (clsSt ks i).1.length
    · have e := clsSt_old hc
      have hq := getD_idxOf hc
      refine ⟨by rw [e]; exact h1, fun x hx => ?_, fun j hj => ?_⟩
      · rw [e]
        by_cases hxi : x < i
        · exact h2 x hxi
        · obtain rfl : x = i := by omega
          exact List.idxOf_lt_length_iff.1 hc
      · rw [e] at hj ⊢
        simp only at hj ⊢
        have h3j := h3 j hj
        rw [List.range_succ, List.filter_append]
        generalize (clsSt ks i).1.idxOf (ks.getD i []) = k at *
        by_cases hjk : j = k
        · subst hjk
          rw [List.getD_eq_getElem?_getD, List.getElem?_set_self (by omega), Option.getD_some, h3j]
          rw [hq]
          simp
        · have hne : ¬ ks.getD i [] = (clsSt ks i).1.getD j [] := by
            rw [← hq]
            intro he
            have a1 : (clsSt ks i).1.getD k [] = (clsSt ks i).1[k] := by simp [hc]
            have a2 : (clsSt ks i).1.getD j [] = (clsSt ks i).1[j] := by simp [hj]
            rw [a1, a2] at he
            exact hjk ((List.getElem_inj h1).1 he).symm
          rw [List.getD_eq_getElem?_getD, List.getElem?_set_ne (by omega), ← List.getD_eq_getElem?_getD, h3j]
          simpa [List.filter_cons] using hne
    · have e := clsSt_new hc
      have hq : ks.getD i [] ∉ (clsSt ks i).1 := fun h => hc (List.idxOf_lt_length_iff.2 h)
      refine ⟨?_, fun x hx => ?_, fun j hj => ?_⟩
      · rw [e]
        refine List.nodup_append.2 ⟨h1, by simp, fun a ha b hb => ?_⟩
        rw [List.mem_singleton.1 hb]
        rintro rfl
        exact hq ha
      · rw [e]
        by_cases hxi : x < i
        · exact List.mem_append_left _ (h2 x hxi)
        · obtain rfl : x = i := by omega
          exact List.mem_append_right _ (by simp)
      · rw [e] at hj ⊢
        simp only at hj ⊢
        rw [List.range_succ, List.filter_append]
        by_cases hji : j < (clsSt ks i).1.length
        · have h3j := h3 j hji
          have a1 : ((clsSt ks i).1 ++ [ks.getD i []]).getD j [] = (clsSt ks i).1.getD j [] := by
            simp only [List.getD_eq_getElem?_getD, List.getElem?_append_left hji]
          have a2 : ((clsSt ks i).2 ++ [[i]]).getD j [] = (clsSt ks i).2.getD j [] := by
            simp only [List.getD_eq_getElem?_getD, List.getElem?_append_left (show j < (clsSt ks i).2.length by omega)]
          have hne : ¬ ks.getD i [] = (clsSt ks i).1.getD j [] := by
            intro he
            have a1 : (clsSt ks i).1.getD j [] = (clsSt ks i).1[j] := by simp [hji]
            rw [a1] at he
            exact hq (by rw [he]; exact List.getElem_mem _)
          rw [a1, a2, h3j]
          simpa [List.filter_cons] using hne
        · have hj2 : j = (clsSt ks i).1.length := by
            rw [List.length_append, List.length_cons, List.length_nil] at hj; omega
          subst hj2
          have a1 : ((clsSt ks i).1 ++ [ks.getD i []]).getD (clsSt ks i).1.length [] = ks.getD i [] := by
            simp [List.getD_eq_getElem?_getD]
          have a2 : ((clsSt ks i).2 ++ [[i]]).getD (clsSt ks i).1.length [] = [i] := by
            rw [hl]; simp [List.getD_eq_getElem?_getD]
          rw [a1, a2]
          have hn : (List.range i).filter (fun x => decide (ks.getD x [] = ks.getD i [])) = [] := by
            rw [List.filter_eq_nil_iff]
            intro x hx
            have := h2 x (List.mem_range.1 hx)
            simp only [decide_eq_true_eq]
            intro he
            exact hq (he ▸ this)
          rw [hn]
          simp
/-- The number of the class of an index. -/
def cix (ks : List (List Int)) (x : Nat) : Nat := (clsSt ks ks.length).1.idxOf (ks.getD x [])
theorem cix_lt {ks : List (List Int)} {x : Nat} (h : x < ks.length) : cix ks x < (clsSt ks ks.length).2.length := by
  rw [← (clsSt_len ks ks.length).1]
  exact List.idxOf_lt_length_iff.2 ((clsInv ks ks.length).mem x h)
theorem cix_mem {ks : List (List Int)} {x j : Nat} (hj : j < (clsSt ks ks.length).2.length) : x ∈ (clsSt ks ks.length).2.getD j [] ↔ x < ks.length ∧ cix ks x = j := by
  have hI := clsInv ks ks.length
  rw [← (clsSt_len ks ks.length).1] at hj
  rw [hI.cls j hj, List.mem_filter, List.mem_range]
  refine ⟨fun ⟨h1, h2⟩ => ⟨h1, ?_⟩, fun ⟨h1, h2⟩ => ⟨h1, ?_⟩⟩
  · have h2 := of_decide_eq_true h2
    unfold cix
    have a1 : (clsSt ks ks.length).1.getD j [] = (clsSt ks ks.length).1[j] := by simp [hj]
    rw [h2, a1]
    exact hI.nodup.idxOf_getElem j hj
  · refine decide_eq_true ?_
    subst h2
    exact (getD_idxOf (List.idxOf_lt_length_iff.2 (hI.mem x h1))).symm
theorem cix_nodup (ks : List (List Int)) (j : Nat) : ((clsSt ks ks.length).2.getD j []).Nodup := by
  by_cases hj : j < (clsSt ks ks.length).1.length
  · rw [(clsInv ks ks.length).cls j hj]
    exact List.nodup_range.filter _
  · have : (clsSt ks ks.length).2.getD j [] = [] := by
      rw [(clsSt_len ks ks.length).1] at hj
      rw [List.getD_eq_getElem?_getD, List.getElem?_eq_none (by omega)]; rfl
    rw [this]; exact List.nodup_nil
theorem cix_eq {ks : List (List Int)} {x y : Nat} (hx : x < ks.length) (hy : y < ks.length) : cix ks x = cix ks y ↔ ks.getD x [] = ks.getD y [] := by
  have hI := clsInv ks ks.length
  refine ⟨fun h => ?_, fun h => by unfold cix; rw [h]⟩
  have h1 := getD_idxOf (List.idxOf_lt_length_iff.2 (hI.mem x hx))
  have h2 := getD_idxOf (List.idxOf_lt_length_iff.2 (hI.mem y hy))
  rw [← h1, ← h2]
  unfold cix at h
  rw [h]
/-- The numbers of the classes, made up to element k of class i. -/
def mkd (ix : Nat → Nat) (C : List Nat) (n i k : Nat) : List Int := (List.range n).map fun x => if ix x < i then (ix x : Int) + 1 else if ix x = i ∧ x ∈ C.take k then (i : Int) + 1 else 0
theorem mkd_len (ix : Nat → Nat) (C : List Nat) (n i k : Nat) : (mkd ix C n i k).length = n := by simp [mkd]
theorem mkd_zero (ix : Nat → Nat) (C : List Nat) (n : Nat) : mkd ix C n 0 0 = List.replicate n 0 := by
  unfold mkd
  rw [List.eq_replicate_iff]
  refine ⟨by simp, fun b hb => ?_⟩
  obtain ⟨x, _, rfl⟩ := List.mem_map.1 hb
  simp
theorem mkd_get (ix : Nat → Nat) (C : List Nat) {n i k x : Nat} (hx : x < n) : (mkd ix C n i k)[x]'(by rw [mkd_len]; exact hx) = if ix x < i then (ix x : Int) + 1 else if ix x = i ∧ x ∈ C.take k then (i : Int) + 1 else 0 := by simp [mkd]
theorem mkd_at (ix : Nat → Nat) (C : List Nat) {n i k x : Nat} (hx : x < n) (hi : ix x = i) (hC : C.Nodup) (hk : k < C.length) (he : C[k] = x) : (mkd ix C n i k)[x]'(by rw [mkd_len]; exact hx) = 0 := by
  rw [mkd_get ix C hx, if_neg (by omega), if_neg]
  rintro ⟨_, hm⟩
  rw [List.mem_take_iff_getElem] at hm
  obtain ⟨j, hj, hjx⟩ := hm
  have := (List.getElem_inj hC).1 (hjx.trans he.symm)
  omega
theorem mkd_set (ix : Nat → Nat) (C : List Nat) {n i k x : Nat} (hx : x < n) (hi : ix x = i) (hk : k < C.length) (he : C[k] = x) : (mkd ix C n i k).set x ((i : Int) + 1) = mkd ix C n i (k + 1) := by
  refine List.ext_getElem (by simp [mkd]) fun j h1 h2 => ?_
  have hj : j < n := by rw [mkd_len] at h2; exact h2
  rw [mkd_get ix C hj, List.getElem_set]
  have ht : C.take (k + 1) = C.take k ++ [x] := by rw [List.take_succ_eq_append_getElem hk, he]
  by_cases hjx : x = j
  · subst hjx
    rw [if_pos rfl, if_neg (by omega), if_pos ⟨hi, by rw [ht]; simp⟩]
  · rw [if_neg hjx, mkd_get ix C hj]
    have e : (j ∈ C.take (k + 1)) ↔ j ∈ C.take k := by
      rw [ht]
      simp only [List.mem_append, List.mem_singleton]
      exact ⟨fun h => h.resolve_right (fun e => hjx e.symm), .inl⟩
    simp only [e]
theorem mkd_next (ix : Nat → Nat) (C C' : List Nat) {n i : Nat} (h : ∀ x, x < n → ix x = i → x ∈ C) : mkd ix C n i C.length = mkd ix C' n (i + 1) 0 := by
  unfold mkd
  refine List.map_congr_left fun x hx => ?_
  have hx := List.mem_range.1 hx
  rw [List.take_length, List.take_zero]
  by_cases h1 : ix x < i
  · rw [if_pos h1, if_pos (by omega)]
  · by_cases h2 : ix x = i
    · rw [if_neg h1, if_pos ⟨h2, h x hx h2⟩, if_pos (by omega), h2]
    · rw [if_neg h1, if_neg (fun e => h2 e.1), if_neg (by omega), if_neg (by simp)]
theorem mkd_full (ix : Nat → Nat) (C : List Nat) {n m x : Nat} (hx : x < n) (h : ix x < m) : (mkd ix C n m 0)[x]'(by rw [mkd_len]; exact hx) = (ix x : Int) + 1 := by
  rw [mkd_get ix C hx, if_pos h]
/-- The sum of two monomials. -/
def addL (a b : List Int) : List Int := List.zipWith (· + ·) a b
theorem addL_len {a b : List Int} (h : a.length = b.length) : (addL a b).length = a.length := by simp [addL, h]
theorem addL_getD {a b : List Int} (h : a.length = b.length) (i : Nat) : (addL a b).getD i 0 = a.getD i 0 + b.getD i 0 := by
  unfold addL
  simp only [List.getD_eq_getElem?_getD, List.getElem?_zipWith]
  rcases Nat.lt_or_ge i a.length with h1 | h1
  · rw [List.getElem?_eq_getElem h1, List.getElem?_eq_getElem (by omega)]; rfl
  · rw [List.getElem?_eq_none h1, List.getElem?_eq_none (by omega)]; rfl
theorem dotN_add {a b : List Int} (h : a.length = b.length) (v : List Int) : ∀ n, dotN (addL a b) v n = dotN a v n + dotN b v n
  | 0 => rfl
  | n + 1 => by
    simp only [dotN]
    rw [dotN_add h v n, addL_getD h, Int.add_mul]; omega
/-- The character of a product is 0 exactly if the characters are equal. -/
theorem chr_zero_iff {s : List (List Int)} {a b : List Int} (h : a.length = b.length) : chr s (addL a b) = List.replicate s.length 0 ↔ chr s a = chr s b := by
  unfold chr
  rw [List.eq_replicate_iff, List.map_inj_left]
  constructor
  · rintro ⟨_, h1⟩ v hv
    have := h1 _ (List.mem_map_of_mem hv)
    rw [dotN_add h] at this
    omega
  · intro h1
    refine ⟨by simp, fun x hx => ?_⟩
    obtain ⟨v, hv, rfl⟩ := List.mem_map.1 hx
    have := h1 v hv
    rw [dotN_add h]
    omega
/-- The exponents of a term have the character 0. -/
theorem chr_row {rows : List (List Int)} {n : Nat} {K : List Nat} (hn : n ≤ 64) (hK : ∀ x ∈ K, V rows n x) {e : List Int} (he : e ∈ rows) (hl : e.length = n) (h0 : ∀ x ∈ e, 0 ≤ x) : chr (K.map (unp · n)) e = List.replicate (K.map (unp · n)).length 0 := by
  unfold chr
  rw [List.eq_replicate_iff]
  refine ⟨by simp, fun x hx => ?_⟩
  obtain ⟨v, hv, rfl⟩ := List.mem_map.1 hx
  obtain ⟨y, hy, rfl⟩ := List.mem_map.1 hv
  have h1 := odd_V hn (hK y hy) he hl
  unfold oddT at h1
  rw [chr_odd (unp_bit y n) h0 (by rw [unp_len, hl]) (by omega)]
  have h2 := of_decide_eq_false h1
  rw [if_neg h2]
/-- The coefficient of a monomial among terms. -/
def cof (ts : List Term) (m : List Int) (z : ByteArray) : ByteArray := match ts.find? (fun t => decide (t.2 = m)) with
  | some t => t.1
  | none => z
theorem cof_none {ts : List Term} {m : List Int} {z : ByteArray} (h : ∀ t ∈ ts, t.2 ≠ m) : cof ts m z = z := by
  unfold cof
  rw [List.find?_eq_none.2 (fun t ht => by simp; exact h t ht)]
end Go.Ev
end
