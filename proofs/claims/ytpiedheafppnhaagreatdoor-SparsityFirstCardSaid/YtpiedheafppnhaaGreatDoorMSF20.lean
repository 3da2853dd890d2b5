/- Parts of the proof: RS3, RS4, FN6, FP1, GXP, GXQ, GXD, RS5. -/
import Derived.Deep.AppendLies
import Derived.WalkSmall
import Derived.Laws.StructEq
import Derived.ChangeKeysEq
import Derived.Test.YtpiedheafppnhaaGreatDoorMSF4
import Derived.Test.YtpiedheafppnhaaGreatDoorMSF9
import Derived.Test.YtpiedheafppnhaaGreatDoorMSF12
import Derived.Test.YtpiedheafppnhaaGreatDoorMSF17
import Derived.Test.YtpiedheafppnhaaGreatDoorMSF19
section
/- The reference's check, and the set of the round 0. -/
namespace Go.Proofs.Tg.Sx
open Go.RowKit Go.Gr Go.Sp Go.Ev Go.Mo Go.Qn
set_option maxHeartbeats 4000000
set_option maxRecDepth 100000
def RetRC (p : PVal) (er : Int) (w : World) (e : Ending) (w' : World) : Prop := Below w.heap.size w w' ∧
  ((er ≠ 0 ∧ ∃ v O no co, e = .returned (.tuple #[.agg #[.int .i64 v, .slice O no co], .int .i64 er])) ∨
    (er = 0 ∧ ∃ O co ts, e = .returned (.tuple #[.agg #[.int .i64 p.vars, .slice O (List.length ts) co], .int .i64 0]) ∧ RTermsAt w' O ts ∧ ts.map RT.core = p.tv.map TV.core))
/-- What the reading gives, in one form. -/
theorem read_one (p : PVal) (ok : Bool) (w : World) (hP : TermsAt w p.adr p.tv) (hn : p.tv.length ≤ 4096) (hs : ∀ t ∈ p.tv, t.coef.size ≤ 8 ∧ t.exps.length ≤ 64) (hok : ok = true ↔ p.ok) :
    Calls Tryz.prog 10 #[.agg #[.int .i64 p.vars, .slice p.adr p.tv.length p.cap]] w fun e w' => Below w.heap.size w w' ∧ ∃ v O no co, e = .returned (.tuple #[.agg #[.int .i64 v, .slice O no co], .bool ok]) ∧
      (ok = true → v = p.vars ∧ ∃ ts : List RT, no = ts.length ∧ Sl w' O ts.length 5 (ts.flatMap RT.cells) ∧ (∀ g, g < w.heap.size → Off O ts.length g) ∧ ts.map RT.core = p.tv.map TV.core) := by
  refine (readP_any p.vars p.adr p.cap p.tv w hP hn hs).mono ?_
  rintro e w' ⟨hb, ⟨h1, rfl⟩ | ⟨h1, O, co, ts, rfl, hown, hcore, _⟩⟩
  · have : ok = false := eq_false_of_ne_true (fun h => h1 (hok.1 h))
    subst this
    exact ⟨hb, 0, none, 0, 0, rfl, fun h => by cases h⟩
  · have : ok = true := hok.2 h1
    subst this
    refine ⟨hb, p.vars, O, _, co, rfl, fun _ => ⟨rfl, ts, rfl, Sl.own hown, fun g hg hn ad he hgg => ?_, hcore⟩⟩
    subst he
    rcases hown.2 with ⟨h2, _⟩ | ⟨g', cap, cur, h2, h3, _⟩
    · cases h2
    · injection h2 with h2
      injection h2 with h2
      subst h2
      simp only at hgg
      omega
theorem results_p {fn : Func} {p q : Tmp} (h : fn.results = #[.cell p 39, .tmp q]) (tmps : Array Value) (w : World) (g : Nat) (a b : Value)
    (hp : tmps.getD p undef = .pointer (some ⟨g, 0, none⟩)) (hg : Blk w g 39 #[a, b]) :
    (results fn tmps).run Tryz.prog w = .ok (.tuple #[.agg #[a, b], tmps.getD q undef]) w := by
  have hp' : tmps[p]?.getD undef = .pointer (some ⟨g, 0, none⟩) := by simpa using hp
  have hi : (Tryz.prog.info? 39).map (·.size) = some (#[a, b] : Array Value).size := by
    show _ = some 2
    kernel_rfl
  simp [results, h, hp', asAddr, run_loadVar_row w g 39 39 #[a, b] (0, 0) _ hg Tryz.underlying39 rfl hi]
theorem blk_two_p {w : World} {g : Nat} {a b c d : Value} {t : TypeId} (h : Blk w g t #[a, b]) : Blk ((w.setCell ⟨g, 0, none⟩ c).setCell ⟨g, 1, none⟩ d) g t #[c, d] := by
  have := (h.set 0 c).set 1 d
  simpa using this
theorem errS_false (v v' : Int) (b : List (List Int)) : errS false v b = errS false v' b := by rw [errS_bad (.inl rfl), errS_bad (.inl rfl)]
theorem rcheck16_any (p : PVal) (B : Option Addr) (cb : Nat) (b : List (List Int)) (ok : Bool) (w : World) (hP : TermsAt w p.adr p.tv) (hn : p.tv.length ≤ 4096) (hs : ∀ t ∈ p.tv, t.coef.size ≤ 8 ∧ t.exps.length ≤ 64) (hB : Lists w B b) (hbl : b.length ≤ 64) (hml : ∀ m ∈ b, m.length ≤ 1000) (hok : ok = true ↔ p.ok) :
    Calls Tryz.prog 23 #[.agg #[.int .i64 p.vars, .slice p.adr p.tv.length p.cap], .slice B b.length cb] w (RetRC p (errS ok p.vars b) w) := by
  obtain ⟨W, hW⟩ : ∃ W, (w.alloc (.cells #[.int .i64 p.vars, .slice p.adr p.tv.length p.cap] 24)).alloc (.cells #[.int .i64 0, .slice none 0 0] 39) = W := ⟨_, rfl⟩
  have hbA : Below w.heap.size w W := by rw [← hW]; exact ((Below.refl _ _).alloc (Nat.le_refl _) _).alloc (by simp) _
  have B0 : Blk W w.heap.size 24 #[.int .i64 p.vars, .slice p.adr p.tv.length p.cap] := by rw [← hW]; exact (Blk.new _ _ _).alloc _
  have B1 : Blk W (w.heap.size + 1) 39 #[.int .i64 0, .slice none 0 0] := by
    rw [← hW]; have := Blk.new (w.alloc (.cells #[.int .i64 p.vars, .slice p.adr p.tv.length p.cap] 24)) 39 #[.int .i64 0, .slice none 0 0]
    simpa using this
  have HRD := Lib.hid (read_one p ok W (hP.keep hbA) hn hs hok)
  have HBS : Hid (∀ V v O no co, Below w.heap.size w V → Calls Tryz.prog 42 #[.agg #[.int .i64 v, .slice O no co], .bool ok, .slice B b.length cb] V fun e w' => e = .returned (.int .i64 (errS ok v b)) ∧ Below V.heap.size V w') := Lib.hid (fun V v O no co h => rbasis_any v O no co ok B cb b V (hB.keep h) hbl hml)
  have HER : Hid (∀ v, (ok = true → v = p.vars) → errS ok v b = errS ok p.vars b) := Lib.hid (fun v h => by
    cases ok with
    | true => rw [h rfl]
    | false => exact errS_false _ _ _)
  have HE0 : Hid (errS ok p.vars b = 0 → ok = true) := Lib.hid (fun h => (errS_zero h).1)
  have HPI : Hid (∀ V, Below w.heap.size w V → ∀ t ∈ p.tv, Ints V t.adr t.exps) := Lib.hid (fun V h t ht => (hP.ints t ht).keep h)
  have HWW := Lib.hid hW
  have hz : W.heap.size = w.heap.size + 2 := by rw [← hW]; simp
  unfold RetRC
  generalize hPE : errS ok p.vars b = er at *
  clear hPE hW hP hB hok
  obtain ⟨P, T, cT, tv⟩ := p
  simp only at *
  obtain ⟨c0, c1, _, _⟩ := B0.two
  go_enter Tryz.func23, Tryz.ntmps23
  go_upto_region 1 with (fail)
  rw [HWW.out]
  clear HWW
  go_upto_region 2 with (go_at_call 10; refine HRD.out.mono ?_; rintro e w1 ⟨hb1, v, O, no, co, rfl, hts⟩)
  have C1 := B1.keep hb1 B1.lt
  have hbw := below_all hbA hb1
  have hsz := hb1.size
  have D1 := C1.alloc (.cells #[.int .i64 v, .slice O no co] 39)
  have D6 := Blk.new w1 39 #[.int .i64 v, .slice O no co]
  have hbx := hbw.alloc hbw.size (.cells #[.int .i64 v, .slice O no co] 39)
  have hb1x := Below.alloc (Below.refl w1.heap.size w1) (Nat.le_refl _) (.cells #[.int .i64 v, .slice O no co] 39)
  generalize w1.alloc (.cells #[.int .i64 v, .slice O no co] 39) = X at *
  have HB2 : Hid (∀ V, Below X.heap.size X V → Calls Tryz.prog 42 #[.agg #[.int .i64 v, .slice O no co], .bool ok, .slice B b.length cb] V fun e w' => e = .returned (.int .i64 er) ∧ Below X.heap.size X w') := Lib.hid (fun V h => by
    have := HBS.out V v O no co (below_all hbx h)
    rw [HER.out v (fun hk => (hts hk).1)] at this
    exact this.mono fun e w' h2 => ⟨h2.1, below_all h h2.2⟩)
  have HD1 := Lib.hid D1
  have HD6 := Lib.hid D6
  clear HBS B0 B1 C1 c0 c1 hb1 hbA
  have hbe : Below X.heap.size X X.drew := (Below.refl _ _).drew
  obtain ⟨d0, d1, g0, g1⟩ := D1.two
  obtain ⟨e0, e1, _, _⟩ := D6.two
  have hl1 := D1.lt
  have hl6 := D6.lt
  clear D1 D6
  go_region_with (go_at_call 42; refine (HB2.out _ (by assumption)).mono ?_; rintro e w3 ⟨rfl, hbe⟩; have E1 := HD1.out.keep hbe hl1; have E6 := HD6.out.keep hbe hl6; obtain ⟨d0, d1, g0, g1⟩ := E1.two; obtain ⟨e0, e1, _, _⟩ := E6.two; have hl1 := E1.lt; have hl6 := E6.lt)
  all_goals
    go_wp2_with (fail)
    refine bodyPost_ret (v := _) (results_p (p := 4) (q := 5) rfl _ _ (w.heap.size + 1) _ _ rfl (blk_two_p E1)) rfl ?_
    have hfin : Below w.heap.size w ((w3.setCell ⟨w.heap.size + 1, 0, none⟩ (.int .i64 v)).setCell ⟨w.heap.size + 1, 1, none⟩ (.slice O no co)) := below_far (below_far (below_all hbx hbe) (by omega) _ _) (by omega) _ _
    refine ⟨hfin, ?_⟩
    by_cases her : er = 0
    · subst her
      obtain ⟨hv, ts, hno, hSl, hoff, hcore⟩ := hts (HE0.out (by trivial))
      subst hv hno
      refine .inr ⟨rfl, O, co, ts, rfl, ⟨?_, core_ints hcore (HPI.out _ hfin)⟩, hcore⟩
      have ho := hoff (w.heap.size + 1) (by omega)
      exact (((hSl.keep hb1x).keep hbe).far ho _ _).far ho _ _
    · exact .inl ⟨her, v, O, no, co, rfl⟩
end Go.Proofs.Tg.Sx
end
section
/- The reference's set of the round 0, in memory. -/
namespace Go.Proofs.Tg.Sx
open Go.RowKit Go.Gr Go.Sp Go.Ev Go.Mo Go.Qn
set_option maxHeartbeats 4000000
set_option maxRecDepth 100000
/-- A slice of numbers: where it lies, its capacity, the numbers. -/
abbrev Rw := Option Addr × Nat × List Int
def cellR (r : Rw) : Value := .slice r.1 r.2.2.length r.2.1
/-- Each of the slices lies in what was there from the first, or in a block of the call's own. -/
def RowsK (w0 w : World) (base : Nat) (rs : List Rw) : Prop := ∀ r ∈ rs, Ints w0 r.1 r.2.2 ∨ w.ownsRow base 3 1 (cellR r) r.2.2.length (r.2.2.map vi)
theorem RowsK.below {w0 w w' : World} {base : Nat} {rs : List Rw} (h : RowsK w0 w base rs) (hb : Below w.heap.size w w') : RowsK w0 w' base rs := fun r hr => (h r hr).imp id (fun h => own_below h hb (Nat.le_refl _))
theorem RowsK.kept {w0 w w' : World} {base base' n : Nat} {rs : List Rw} {V : Value} {xs : List Value} (h : RowsK w0 w base rs) (ho : w.ownsRow base' 50 1 V n xs) (hg : w.grownBy w' V.ownBlock) : RowsK w0 w' base rs :=
  fun r hr => (h r hr).imp id (fun h => h.kept hg (own_ne h ho (by decide)))
theorem RowsK.snoc {w0 w : World} {base : Nat} {rs : List Rw} {r : Rw} (h : RowsK w0 w base rs) (hr : Ints w0 r.1 r.2.2 ∨ w.ownsRow base 3 1 (cellR r) r.2.2.length (r.2.2.map vi)) : RowsK w0 w base (rs ++ [r]) := by
  intro x hx
  rcases List.mem_append.1 hx with hx | hx
  · exact h x hx
  · rw [List.mem_singleton.1 hx]; exact hr
theorem RowsK.base {w0 w : World} {base b' : Nat} {rs : List Rw} (h : RowsK w0 w base rs) (hb : b' ≤ base) : RowsK w0 w b' rs := fun r hr => (h r hr).imp id (fun h => own_base h hb)
theorem rows_lists {w0 w : World} {base c : Nat} {A : Option Addr} {rs : List Rw} (hS : Sl w A rs.length 1 (rs.map cellR)) (hK : RowsK w0 w base rs) (hb : Below w0.heap.size w0 w) : Lists w A (rs.map fun r => r.2.2) := by
  have _ := c
  refine ⟨fun i => ((rs.getD i (none, 0, [])).1, (rs.getD i (none, 0, [])).2.1), ?_, fun i hi => ?_⟩
  · have e : (List.range (rs.map fun r => r.2.2).length).map (fun i => Value.slice (rs.getD i (none, 0, [])).1 ((rs.map fun r => r.2.2).getD i []).length (rs.getD i (none, 0, [])).2.1) = rs.map cellR := by
      refine List.ext_getElem (by simp) fun i h1 h2 => ?_
      have hi : i < rs.length := by simpa using h2
      simp [hi, cellR]
    rw [e, List.length_map]
    exact hS
  · have hi' : i < rs.length := by simpa using hi
    have e1 : rs.getD i (none, 0, []) = rs[i] := by simp [hi']
    have e2 : (rs.map fun r => r.2.2).getD i [] = rs[i].2.2 := by simp [hi']
    simp only [e1, e2]
    rcases hK rs[i] (List.getElem_mem _) with h | h
    · exact h.keep hb
    · exact Sl.own h
def RetFirst (s : List (List Int)) (w : World) (e : Ending) (w' : World) : Prop := Below w.heap.size w w' ∧
  ∃ (A : Option Addr) (c : Nat) (rs : List Rw), s = rs.map (fun r => r.2.2) ∧ e = .returned (.slice A rs.length c) ∧ w'.ownsRow w.heap.size 50 1 (.slice A rs.length c) rs.length (rs.map cellR) ∧ RowsK w w' w.heap.size rs
theorem own_int {w : World} {base g n : Nat} {l : List Int} (h : Blk w g 3 (iarr l)) (hb : base ≤ g) (hl : l.length = n) (hn : n ≤ 6) : w.ownsRow base 3 1 (cellR (some ⟨g, 0, none⟩, n, l)) l.length (l.map vi) := by
  have := own_iarr h hb hl (by omega)
  unfold cellR
  simp only
  rw [hl]
  exact this
theorem rfirst_any (V : Int) (O : Option Addr) (co : Nat) (ts : List RT) (B : Option Addr) (cb n : Nat) (b : List (List Int)) (w : World) (hP : RTermsAt w O ts) (hB : Lists w B b) (hn : n ≤ 6) (hl : ts.length ≤ 4096) (hbl : b.length ≤ 64) (hdb : ∀ m ∈ b, domK n 24 m) :
    Calls Tryz.prog 26 #[.agg #[.int .i64 V, .slice O ts.length co], .slice B b.length cb] w (RetFirst (S0 (ts.map RT.exps) b) w) := by
  obtain ⟨W, hW⟩ : ∃ W, w.alloc (.cells #[.int .i64 V, .slice O ts.length co] 39) = W := ⟨_, rfl⟩
  have hbA : Below w.heap.size w W := by rw [← hW]; exact (Below.refl _ _).alloc (Nat.le_refl _) _
  have B0 : Blk W w.heap.size 39 #[.int .i64 V, .slice O ts.length co] := by rw [← hW]; exact Blk.new _ _ _
  have HWW := Lib.hid hW
  have HDB := Lib.hid hdb
  have HP := Lib.hid hP
  have HB := Lib.hid hB
  obtain ⟨j0, hj, hjz0, hjz1, hjz2⟩ := info_parts Gx.rows_info
  clear hW hP hB hdb
  go_enter Tryz.func26, Tryz.ntmps26
  go_upto_region 1 with (fail)
  rw [HWW.out]
  clear HWW
  go_wp2
  go_loopw [6, 5] (fun s6 s5 wr => ∃ (i : Nat) (A : Option Addr) (c : Nat) (rs : List Rw), s6 = .int .i64 i ∧ i ≤ ts.length ∧ Hid (rs.length = i) ∧ s5 = .slice A rs.length c ∧ Hid (rs.map (fun r => r.2.2) = (ts.take i).map RT.exps) ∧
    wr.ownsRow w.heap.size 50 1 (.slice A rs.length c) rs.length (rs.map cellR) ∧ Hid (RowsK w wr w.heap.size rs) ∧ Blk wr w.heap.size 39 #[.int .i64 V, .slice O ts.length co] ∧ Below w.heap.size w wr) (fun s6 _ _ => ts.length - (intOf s6).toNat)
  case atStart => exact ⟨0, none, 0, [], rfl, Nat.zero_le _, Lib.hid rfl, rfl, Lib.hid (by simp), World.ownsRow_nil _ _ _ _, Lib.hid (fun r hr => by cases hr), B0, hbA⟩
  case round =>
    clear B0 hbA
    obtain ⟨wo, rfl⟩ : ∃ wo : World, wo = wr := ⟨_, rfl⟩
    obtain ⟨i, A, c, rs, rfl, hi, hrl, rfl, HE, hown, HK, B0, hbr⟩ := hrel
    obtain ⟨d0, d1, _, _⟩ := B0.two
    by_cases hlt : i < ts.length
    · obtain ⟨od, rfl, hcw, hIw⟩ := HP.out.at hlt
      have hc := keep_cell hbr hcw
      have HTE : Hid ((ts.take (i + 1)).map RT.exps = (ts.take i).map RT.exps ++ [ts[i].exps]) := Lib.hid (by rw [List.take_succ_eq_append_getElem hlt, List.map_append]; rfl)
      clear hcw
      generalize ts[i] = t at *
      obtain ⟨q0, q1, q2, q3, E, ce, el⟩ := t
      simp only at hc hIw HTE
      have HNW := Lib.hid (cells_new wo 50 [.slice E el.length ce])
      have hne := own_blk_ne hown B0 (by decide)
      have hrow := hown
      go_wp2_with (at_builtin; refine wpList_append_own _ rfl _ _ 25 rfl w.heap.size 50 j0 _ 1 24 Tryz.underlying25 hj hjz0 hjz1 hjz2 rfl (by decide) (.slice A rs.length c) rs.length (rs.map cellR) rfl (hown.alloc _) ⟨wo.heap.size, 0, none⟩ 1 1 [.slice E el.length ce] rfl rfl HNW.out ?c2 ?c3 ?c4 ?c5 ?_
                   case c2 => simp [Value.oneCell']
                   case c3 => have := hrl.out; simp only [maxLen]; omega
                   case c4 => have := hrl.out; omega
                   case c5 => have := hbr.size; simp; omega
                   intro v' w3 hown3 hg3 _
                   obtain ⟨A3, c3, hv, _, _⟩ := Sl.of_own hown3
                   subst hv)
      go_roundw
      case rel =>
        refine ⟨i + 1, A3, c3, rs ++ [(E, ce, el)], by go_num, by omega, Lib.hid (by simp [hrl.out]), by simp, Lib.hid (by rw [List.map_append, HE.out, HTE.out]; rfl), ?_, Lib.hid ?_, (B0.alloc _).grown hg3 hne, ?_⟩
        · rw [List.length_append, List.map_append]; exact hown3
        · refine ((HK.out.below ((Below.refl _ _).alloc (Nat.le_refl _) _)).kept (hown.alloc _) hg3).snoc (.inl hIw)
        · exact (hbr.alloc hbr.size _).grown hg3 (by have := hbr.size; simp; omega) (fun j hj => (hown.lt j hj).1)
      case measure => simp [intOf]; omega
    · obtain rfl : i = ts.length := by omega
      rw [List.take_length] at HE
      have dk : decide ((ts.length : Int) < (ts.length : Int)) = false := by simp
      have hrl2 : rs.length ≤ 4096 + 0 := by have := hrl.out; omega
      have hrl3 : Hid (rs.length = ts.length + 0) := Lib.hid (by have := hrl.out; omega)
      have HE2 : Hid (rs.map (fun r => r.2.2) = S0 (ts.map RT.exps) (b.take 0)) := Lib.hid (by rw [HE.out]; unfold S0; simp)
      clear HP HE hrl hlt hi
      go_wp2
      clear B0 d0 d1
      go_loopw [7, 5] (fun s7 s5 wr => ∃ (j : Nat) (A : Option Addr) (c : Nat) (rs : List Rw), s7 = .int .i64 j ∧ j ≤ b.length ∧ Hid (rs.length = ts.length + j) ∧ s5 = .slice A rs.length c ∧ Hid (rs.map (fun r => r.2.2) = S0 (ts.map RT.exps) (b.take j)) ∧
        wr.ownsRow w.heap.size 50 1 (.slice A rs.length c) rs.length (rs.map cellR) ∧ Hid (RowsK w wr w.heap.size rs) ∧ Below w.heap.size w wr) (fun s7 _ _ => b.length - (intOf s7).toNat)
      case atStart => exact ⟨0, A, c, rs, rfl, Nat.zero_le _, hrl3, rfl, HE2, hown, HK, hbr⟩
      case round =>
        clear hown HK hbr HE2 hrl3 hrl2
        obtain ⟨wp, rfl⟩ : ∃ wp : World, wp = wr := ⟨_, rfl⟩
        obtain ⟨j, A, c, rs, rfl, hj', hrl, rfl, HE, hown, HK, hbr⟩ := hrel
        by_cases hlt : j < b.length
        · obtain ⟨bd, E, ce, rfl, hcw, hIw⟩ := HB.out.at hlt
          have hc := keep_cell hbr hcw
          have hbd : bd.block < w.heap.size := by have := World.block_lt_of_cell? w _ hcw; rwa [add_block] at this
          have hdm := HDB.out b[j] (List.getElem_mem _)
          have HTE : Hid (S0 (ts.map RT.exps) (b.take (j + 1)) = S0 (ts.map RT.exps) (b.take j) ++ [addL b[j] b[j]]) := Lib.hid (by
            unfold S0
            rw [List.take_succ_eq_append_getElem hlt, List.map_append, List.append_assoc]; rfl)
          have hml : b[j].length = n := hdm.1
          have HPR : Hid (∀ W, Below wp.heap.size wp W → Calls Tryz.prog 45 #[.slice E b[j].length ce, .slice E b[j].length ce] W fun e w' => ∃ g, e = .returned (.slice (some ⟨g, 0, none⟩) n n) ∧ wp.heap.size ≤ g ∧ Blk w' g 3 (iarr (addL b[j] b[j])) ∧ Below wp.heap.size wp w') := Lib.hid (fun W h =>
            (rprod_any E E ce ce n b[j] b[j] W (hIw.keep (below_all hbr h)) (hIw.keep (below_all hbr h)) hdm hdm hn).mono fun e w' h2 => ⟨W.heap.size, h2.1, h.size, h2.2.1, below_all h h2.2.2⟩)
          have HSL : Hid ((addL b[j] b[j]).length = n) := Lib.hid (addL_dom hdm hdm).1
          have hrl4 := hrl.out
          have hbs := hbr.size
          clear hcw hIw hdm hml
          generalize addL b[j] b[j] = sq at *
          generalize b[j] = m at *
          have hbe : Below wp.heap.size wp wp.drew := (Below.refl _ _).drew
          have p0 : (0 : Int) ≤ (j : Int) := by omega
          have p1 : (j : Int) < (b.length : Int) := by omega
          have p3 : ((j : Int)).toNat = j := by omega
          have hob : some (bd.add j).block ≠ (Value.slice A rs.length c).ownBlock := by
            rw [add_block]
            intro e
            have := (hown.lt bd.block e.symm).1
            omega
          have HRL := Lib.hid hrl4
          go_upto_region 9 with (fail)
          clear hrl4
          go_region_held3 (fun w' => w'.cell? (bd.add j) = some (.slice E m.length ce))
            (first | exact r0 | exact keep_cell hbe hc | exact cell_alloc (keep_cell hbe hc) _)
            (first
              | (go_at_call 45; with_reducible refine Calls.mono (HPR.out _ (by assumption)) ?_; rintro e w2 ⟨g, rfl, hgl, hG, hb2⟩
                 have hbe := hb2
                 have hown2 := own_below hown hb2 (Nat.le_refl _)
                 have hsz2 := hb2.size
                 have HNW := Lib.hid (cells_new w2 50 [.slice (some ⟨g, 0, none⟩) n n]))
              | (refine step_append_lies _ (by rfl) _ _ 25 (by rfl) w.heap.size 50 j0 _ 1 24 Tryz.underlying25 hj hjz0 hjz1 hjz2 rfl (by decide) (.slice A rs.length c) rs.length (rs.map cellR) (by simp [Act.eval]) (hown2.alloc _) ⟨w2.heap.size, 0, none⟩ 1 1 [.slice (some ⟨g, 0, none⟩) n n] (by simp [Act.eval]) rfl HNW.out (by simp [Value.oneCell']) (by omega) (by have := HRL.out; simp only [maxLen]; omega) (by have := HRL.out; omega) (by simp; omega) (w2.heap.size + 1) (by simp) ?_
                 intro g2 cap w3 hown3 hg3 _ _
                 have r0 := hg3.cell (cell_alloc (keep_cell hb2 hc) _) hob))
          all_goals
            go_wp2_with (fail)
            go_roundw
            case rel =>
              refine ⟨j + 1, some ⟨g2, 0, none⟩, cap, rs ++ [(some ⟨g, 0, none⟩, n, sq)], by go_num, by omega, Lib.hid (by simp [HRL.out]; omega), by simp, Lib.hid (by rw [List.map_append, HE.out, HTE.out]; rfl), ?_, Lib.hid ?_, ?_⟩
              · rw [List.length_append, List.map_append]
                have e : [(some ⟨g, 0, none⟩, n, sq)].map cellR = [Value.slice (some ⟨g, 0, none⟩) n n] := by simp [cellR, HSL.out]
                rw [e]; exact hown3
              · refine (((HK.out.below hb2).below ((Below.refl _ _).alloc (Nat.le_refl _) _)).kept (hown2.alloc _) hg3).snoc (.inr ?_)
                have h4 := own_int (base := w.heap.size) (hG.alloc (.cells #[.slice (some ⟨g, 0, none⟩) n n] 50)) (by omega) HSL.out hn
                exact h4.kept hg3 (own_ne h4 (hown2.alloc _) (by decide))
              · have hb5 := below_all hbr hb2
                exact (hb5.alloc hb5.size _).grown hg3 (by have := hb5.size; simp; omega) (fun k hk => (hown2.lt k hk).1)
            case measure => simp [intOf]; omega
        · obtain rfl : j = b.length := by omega
          have dk : decide ((b.length : Int) < (b.length : Int)) = false := by simp
          rw [List.take_length] at HE
          go_wp2
          go_ret
          exact ⟨hbr, A, c, rs, HE.out.symm, rfl, hown, HK.out⟩
end Go.Proofs.Tg.Sx
end
section
/- The reference's shift of a polynomial of one term, walked. -/
namespace Go.Proofs.Tg.Sx
open Go.RowKit Go.Gr Go.Sp Go.Ev Go.Mo Go.Bn Go.Qn
set_option maxHeartbeats 8000000
set_option maxRecDepth 100000
theorem blk5 {w : World} {g : Nat} {t : TypeId} {a b c d e : Value} (h : Blk w g t #[a, b, c, d, e]) : w.cell? ⟨g, 0, none⟩ = some a ∧ w.cell? ⟨g, 1, none⟩ = some b ∧ w.cell? ⟨g, 2, none⟩ = some c ∧ w.cell? ⟨g, 3, none⟩ = some d ∧ w.cell? ⟨g, 4, none⟩ = some e :=
  ⟨h.cell 0, h.cell 1, h.cell 2, h.cell 3, h.cell 4⟩
/-- What Shift's loop holds. -/
structure ShSt (w : World) (n : Nat) (L : Option Addr) (cL : Nat) (B : Option Addr) (cb : Nat) (F : Option Addr) (cf : Nat) (s : List Int) (wr : World) (k : Nat) (R : Option Addr) (c : Nat) (t : RT) : Prop where
  below : Below w.heap.size w wr
  b2 : Blk wr w.heap.size 39 #[.int .i64 n, .slice L 1 cL]
  b3 : Blk wr (w.heap.size + 1) 52 #[.bool false, .slice B 1 cb, .bool false, .slice none 0 0, .slice F n cf]
  b4 : Blk wr (w.heap.size + 2) 39 #[.int .i64 0, .slice none 0 0]
  own : wr.ownsRow (w.heap.size + 3) 52 5 (.slice R k c) k ((List.replicate k t).flatMap RT.cells)
  one : k = 1 → ∃ A' ca' g, t = one1 A' ca' (some ⟨g, 0, none⟩) n s ∧ Blk wr g 3 (iarr s)
theorem ShSt.keep {w wr wz : World} {n k c cL cb cf : Nat} {L B F R : Option Addr} {s : List Int} {t : RT} (h : ShSt w n L cL B cb F cf s wr k R c t) (hb : Below wr.heap.size wr wz) : ShSt w n L cL B cb F cf s wz k R c t :=
  ⟨below_all h.below hb, h.b2.keep hb h.b2.lt, h.b3.keep hb h.b3.lt, h.b4.keep hb h.b4.lt, own_below h.own hb (Nat.le_refl _), fun hk => by
    obtain ⟨A', ca', g, h1, h2⟩ := h.one hk
    exact ⟨A', ca', g, h1, h2.keep hb h2.lt⟩⟩
theorem rshift1_any (n : Nat) (L : Option Addr) (cL : Nat) (A : Option Addr) (ca : Nat) (E : Option Addr) (ce : Nat) (el : List Int) (B : Option Addr) (cb : Nat) (F : Option Addr) (cf : Nat) (fl : List Int) (w : World)
    (hL : Sl w L 1 5 (one1 A ca E ce el).cells) (hA : Digs w A [1]) (hE : Ints w E el) (hB : Digs w B [1]) (hF : Ints w F fl) (hel : domK n 24 el) (hfl : domK n 24 fl) (hn : n ≤ 6) :
    Calls Tryz.prog 12 #[.agg #[.int .i64 n, .slice L 1 cL], .agg #[.bool false, .slice B 1 cb, .bool false, .slice none 0 0, .slice F n cf]] w fun e w' => ∃ R c A' ca' g, e = .returned (.agg #[.int .i64 n, .slice R 1 c]) ∧ w'.ownsRow w.heap.size 52 5 (.slice R 1 c) 1 (one1 A' ca' (some ⟨g, 0, none⟩) n (addL el fl)).cells ∧ Blk w' g 3 (iarr (addL el fl)) ∧ Below w.heap.size w w' := by
  have hL1 : Sl w L ([one1 A ca E ce el]).length 5 (([one1 A ca E ce el]).flatMap RT.cells) := by simpa using hL
  obtain ⟨od, rfl, hob, k0, k1, k2, k3, k4⟩ := rt5_at hL1 (k := 0) (by simp)
  have c0 : w.cell? (od.add (0 * 5)) = some (.bool false) := k0
  have c1 : w.cell? ⟨(od.add (0 * 5)).block, (od.add (0 * 5)).off + 1, none⟩ = some (.slice A 1 ca) := k1
  have c2 : w.cell? ⟨(od.add (0 * 5)).block, (od.add (0 * 5)).off + 2, none⟩ = some (.bool false) := k2
  have c3 : w.cell? ⟨(od.add (0 * 5)).block, (od.add (0 * 5)).off + 3, none⟩ = some (.slice none 0 0) := k3
  have c4 : w.cell? ⟨(od.add (0 * 5)).block, (od.add (0 * 5)).off + 4, none⟩ = some (.slice E n ce) := by rw [← hel.1]; exact k4
  have HC : Hid (∀ k : Nat, k < 1 → w.cell? (od.add (k * 5)) = some (.bool false) ∧ w.cell? ⟨(od.add (k * 5)).block, (od.add (k * 5)).off + 1, none⟩ = some (.slice A 1 ca) ∧ w.cell? ⟨(od.add (k * 5)).block, (od.add (k * 5)).off + 2, none⟩ = some (.bool false) ∧ w.cell? ⟨(od.add (k * 5)).block, (od.add (k * 5)).off + 3, none⟩ = some (.slice none 0 0) ∧ w.cell? ⟨(od.add (k * 5)).block, (od.add (k * 5)).off + 4, none⟩ = some (.slice E n ce)) := Lib.hid (fun k hk => by
    obtain rfl : k = 0 := by omega
    exact ⟨c0, c1, c2, c3, c4⟩)
  clear k0 k1 k2 k3 k4 c0 c1 c2 c3 c4 hL hL1
  have HSL : Hid ((addL el fl).length = n) := Lib.hid (addL_dom hel hfl).1
  have HSA : Hid (∀ k (h1 : k < el.length) (h2 : k < fl.length) (h3 : k < (addL el fl).length), (addL el fl)[k] = el[k] + fl[k]) := Lib.hid (fun k h1 h2 h3 => by simp [addL])
  have HEL := Lib.hid hel
  have HFL := Lib.hid hfl
  have HE := Lib.hid hE
  have HF := Lib.hid hF
  have HRM : Hid (∀ V, Below w.heap.size w V → Calls Tryz.prog 33 #[.agg #[.bool false, .slice A 1 ca, .bool false, .slice none 0 0], .agg #[.bool false, .slice B 1 cb, .bool false, .slice none 0 0]] V fun e w' => ∃ R c, e = .returned (.agg #[.bool false, .slice R 1 c, .bool false, .slice none 0 0]) ∧ Below V.heap.size V w') := Lib.hid (fun V h =>
    (rmul1_any A B ca cb V (hA.keep h) (hB.keep h)).mono fun e w' ⟨R, c, h1, _, h3⟩ => ⟨R, c, h1, h3⟩)
  clear hel hfl hE hF hA hB
  have hmk := fun W => make_ints n n (Nat.le_refl _) (by omega) W
  generalize addL el fl = s at *
  obtain ⟨i0, hi, iz0, iz1, iz2⟩ := info_parts rt5_info
  obtain ⟨W, hW⟩ : ∃ W, ((w.alloc (.cells #[.int .i64 n, .slice (some od) 1 cL] 39)).alloc (.cells #[.bool false, .slice B 1 cb, .bool false, .slice none 0 0, .slice F n cf] 52)).alloc (.cells #[.int .i64 0, .slice none 0 0] 39) = W := ⟨_, rfl⟩
  have B2 : Blk W w.heap.size 39 #[.int .i64 n, .slice (some od) 1 cL] := by rw [← hW]; exact ((Blk.new _ _ _).alloc _).alloc _
  have B3 : Blk W (w.heap.size + 1) 52 #[.bool false, .slice B 1 cb, .bool false, .slice none 0 0, .slice F n cf] := by
    rw [← hW]; have := (Blk.new (w.alloc (.cells #[.int .i64 n, .slice (some od) 1 cL] 39)) 52 #[.bool false, .slice B 1 cb, .bool false, .slice none 0 0, .slice F n cf]).alloc (.cells #[.int .i64 0, .slice none 0 0] 39)
    simpa using this
  have B4 : Blk W (w.heap.size + 2) 39 #[.int .i64 0, .slice none 0 0] := by
    rw [← hW]; have := Blk.new ((w.alloc (.cells #[.int .i64 n, .slice (some od) 1 cL] 39)).alloc (.cells #[.bool false, .slice B 1 cb, .bool false, .slice none 0 0, .slice F n cf] 52)) 39 #[.int .i64 0, .slice none 0 0]
    simpa using this
  have hbW : Below w.heap.size w W := by rw [← hW]; exact (((Below.refl _ _).alloc (Nat.le_refl _) _).alloc (by simp) _).alloc (by simp; omega) _
  have HWW := Lib.hid hW
  clear hW
  go_enter Tryz.func12, Tryz.ntmps12
  go_upto_region 1 with (fail)
  rw [HWW.out]
  go_wp2
  go_loopw [6, 5] (fun s6 s5 wr => ∃ (k : Nat) (R : Option Addr) (c : Nat) (t : RT), s6 = .int .i64 k ∧ k ≤ 1 ∧ s5 = .slice R k c ∧ Hid (ShSt w n (some od) cL B cb F cf s wr k R c t)) (fun s6 _ _ => 1 - (intOf s6).toNat)
  case atStart => exact ⟨0, none, 0, one1 none 0 none 0 [], rfl, by omega, rfl, Lib.hid ⟨hbW, B2, B3, B4, World.ownsRow_nil _ _ _ _, fun h => absurd h (by omega)⟩⟩
  case round =>
    clear B2 B3 B4 hbW
    obtain ⟨wo, rfl⟩ : ∃ wo : World, wo = wr := ⟨_, rfl⟩
    obtain ⟨k, R, c, t, rfl, hk, rfl, HST⟩ := hrel
    have hbr := HST.out.below
    have hz : w.heap.size + 3 ≤ wo.heap.size := by have := HST.out.b4.lt; omega
    obtain ⟨x0, x1, _, _⟩ := HST.out.b2.two
    by_cases hlt : k < 1
    · have q0 : (0 : Int) ≤ (k : Int) := by omega
      have q1 : (k : Int) < 1 := by omega
      have q3 : ((k : Int)).toNat = k := by omega
      go_wp2
      clear hmk
      go_loopw [8] (fun s8 wr => ∃ j : Nat, j ≤ n ∧ s8 = .int .i64 j ∧ Blk wr wo.heap.size 3 (iarr (s.take j ++ List.replicate (n - j) 0)) ∧ Below wo.heap.size wo wr) (fun s8 _ => n - (intOf s8).toNat)
      case atStart =>
        refine ⟨0, Nat.zero_le _, rfl, ?_, (Below.refl _ _).alloc (Nat.le_refl _) _⟩
        have e : iarr (s.take 0 ++ List.replicate (n - 0) 0) = madeCells #[.int .i64 0] n := (iarr_made n).symm
        rw [e]
        exact Blk.new wo 3 _
      case round =>
        clear x0 x1
        obtain ⟨wi, rfl⟩ : ∃ wi : World, wi = wr := ⟨_, rfl⟩
        obtain ⟨j, hj, rfl, G0, hbi⟩ := hrel
        have HSI := Lib.hid (HST.out.keep hbi)
        have hbwi := HSI.out.below
        obtain ⟨x0, x1, _, _⟩ := HSI.out.b2.two
        by_cases hjl : j < n
        · have hal := HEL.out.1
          have hbl := HFL.out.1
          obtain ⟨k0, k1, k2, k3, k4⟩ := HC.out k hlt
          have k4 := keep_cell hbwi k4
          clear k0 k1 k2 k3
          obtain ⟨y0, y1, y2, y3, y4⟩ := blk5 HSI.out.b3
          clear y0 y1 y2 y3
          obtain ⟨ad, rfl, hca⟩ := Ints.at (HE.out.keep hbwi) (show j < el.length by omega)
          obtain ⟨bd, rfl, hcb⟩ := Ints.at (HF.out.keep hbwi) (show j < fl.length by omega)
          have hx := HEL.out.2 (el[j]'(by omega)) (List.getElem_mem _)
          have hy := HFL.out.2 (fl[j]'(by omega)) (List.getElem_mem _)
          have hl2 : (s.take j ++ List.replicate (n - j) 0).length = n := by
            have := HSL.out
            rw [List.length_append, List.length_take, List.length_replicate]; omega
          have HFS : Hid ((s.take j ++ List.replicate (n - j) 0).set j (el[j]'(by omega) + fl[j]'(by omega)) = s.take (j + 1) ++ List.replicate (n - (j + 1)) 0) := Lib.hid (fill_set _ j _ _ HSL.out hjl (HSA.out j (by omega) (by omega) (by rw [HSL.out]; exact hjl)))
          have g0 := G0.cell j
          have f0 := G0.frozen j
          rw [iarr_at _ (by rw [hl2]; exact hjl)] at g0
          generalize (s.take j ++ List.replicate (n - j) 0)[j]'(by rw [hl2]; exact hjl) = old at g0
          have HG0 := Lib.hid G0
          generalize fl[j]'(by omega) = y at *
          generalize el[j]'(by omega) = x at *
          have w1 : IntKind.i64.wrap (x + y) = x + y := IntWalk.i64_in _ (by omega)
          have p0 : (0 : Int) ≤ (j : Int) := by omega
          have p1 : (j : Int) < (n : Int) := by omega
          have p3 : ((j : Int)).toNat = j := by omega
          clear G0 hl2 hx hy hal hbl
          go_upto_region 9 with (fail)
          go_region
          go_wp2
          go_roundw
          case rel =>
            refine ⟨j + 1, by omega, by go_num, ?_, (below_far hbi (Nat.le_refl _) _ _).drew⟩
            have := HG0.out.set j (.int .i64 (x + y))
            rw [iarr_set, HFS.out] at this
            exact this.drew
          case measure => simp [intOf]; omega
        · obtain rfl : j = n := by omega
          rw [Nat.sub_self, List.replicate_zero, List.append_nil, List.take_of_length_le (by rw [HSL.out]; omega)] at G0
          have dk : decide ((j : Int) < (j : Int)) = false := by simp
          go_upto_region 10 with (fail)
          obtain ⟨k0, k1, k2, k3, k4⟩ := HC.out k hlt
          obtain ⟨y0, y1, y2, y3, y4⟩ := blk5 HSI.out.b3
          have k0 := keep_cell hbwi k0
          have k1 := keep_cell hbwi k1
          have k2 := keep_cell hbwi k2
          have k3 := keep_cell hbwi k3
          have HK : Hid (wi.cell? ⟨w.heap.size, 1, none⟩ = some (.slice (some od) 1 cL) ∧ wi.cell? (od.add (k * 5)) = some (.bool false) ∧ wi.cell? ⟨(od.add (k * 5)).block, (od.add (k * 5)).off + 1, none⟩ = some (.slice A 1 ca) ∧ wi.cell? ⟨(od.add (k * 5)).block, (od.add (k * 5)).off + 2, none⟩ = some (.bool false) ∧ wi.cell? ⟨(od.add (k * 5)).block, (od.add (k * 5)).off + 3, none⟩ = some (.slice none 0 0) ∧
            wi.cell? ⟨w.heap.size + 1, 0, none⟩ = some (.bool false) ∧ wi.cell? ⟨w.heap.size + 1, 1, none⟩ = some (.slice B 1 cb) ∧ wi.cell? ⟨w.heap.size + 1, 2, none⟩ = some (.bool false) ∧ wi.cell? ⟨w.heap.size + 1, 3, none⟩ = some (.slice none 0 0)) := Lib.hid ⟨x1, k0, k1, k2, k3, y0, y1, y2, y3⟩
          clear x0 x1 k0 k1 k2 k3 k4 y0 y1 y2 y3 y4
          have hoa : some (od.add (k * 5)).block ≠ (Value.slice R k c).ownBlock := fun e => by have := (HSI.out.own.lt _ e.symm).1; rw [add_block] at this; omega
          have hob2 : some w.heap.size ≠ (Value.slice R k c).ownBlock := fun e => by have := (HSI.out.own.lt _ e.symm).1; omega
          have hob3 : some (w.heap.size + 1) ≠ (Value.slice R k c).ownBlock := fun e => by have := (HSI.out.own.lt _ e.symm).1; omega
          have hzi : w.heap.size + 3 ≤ wi.heap.size := by have := HSI.out.b4.lt; omega
          have hzw := hbi.size
          have HG0 := Lib.hid G0
          have HKP : Hid (∀ V, Below wi.heap.size wi V → V.cell? ⟨w.heap.size, 1, none⟩ = some (.slice (some od) 1 cL) ∧ V.cell? (od.add (k * 5)) = some (.bool false) ∧ V.cell? ⟨(od.add (k * 5)).block, (od.add (k * 5)).off + 1, none⟩ = some (.slice A 1 ca) ∧ V.cell? ⟨(od.add (k * 5)).block, (od.add (k * 5)).off + 2, none⟩ = some (.bool false) ∧ V.cell? ⟨(od.add (k * 5)).block, (od.add (k * 5)).off + 3, none⟩ = some (.slice none 0 0) ∧
            V.cell? ⟨w.heap.size + 1, 0, none⟩ = some (.bool false) ∧ V.cell? ⟨w.heap.size + 1, 1, none⟩ = some (.slice B 1 cb) ∧ V.cell? ⟨w.heap.size + 1, 2, none⟩ = some (.bool false) ∧ V.cell? ⟨w.heap.size + 1, 3, none⟩ = some (.slice none 0 0)) := Lib.hid (fun V h => by
            obtain ⟨a1, a2, a3, a4, a5, a6, a7, a8, a9⟩ := HK.out
            exact ⟨keep_cell h a1, keep_cell h a2, keep_cell h a3, keep_cell h a4, keep_cell h a5, keep_cell h a6, keep_cell h a7, keep_cell h a8, keep_cell h a9⟩)
          have HKG : Hid (∀ V V', Below wi.heap.size wi V → V.grownBy V' (Value.slice R k c).ownBlock → V'.cell? ⟨w.heap.size, 1, none⟩ = some (.slice (some od) 1 cL) ∧ V'.cell? (od.add (k * 5)) = some (.bool false) ∧ V'.cell? ⟨(od.add (k * 5)).block, (od.add (k * 5)).off + 1, none⟩ = some (.slice A 1 ca) ∧ V'.cell? ⟨(od.add (k * 5)).block, (od.add (k * 5)).off + 2, none⟩ = some (.bool false) ∧ V'.cell? ⟨(od.add (k * 5)).block, (od.add (k * 5)).off + 3, none⟩ = some (.slice none 0 0) ∧
            V'.cell? ⟨w.heap.size + 1, 0, none⟩ = some (.bool false) ∧ V'.cell? ⟨w.heap.size + 1, 1, none⟩ = some (.slice B 1 cb) ∧ V'.cell? ⟨w.heap.size + 1, 2, none⟩ = some (.bool false) ∧ V'.cell? ⟨w.heap.size + 1, 3, none⟩ = some (.slice none 0 0)) := Lib.hid (fun V V' h hg => by
            obtain ⟨a1, a2, a3, a4, a5, a6, a7, a8, a9⟩ := HKP.out V h
            exact ⟨hg.cell a1 hob2, hg.cell a2 hoa, hg.cell a3 hoa, hg.cell a4 hoa, hg.cell a5 hoa, hg.cell a6 hob3, hg.cell a7 hob3, hg.cell a8 hob3, hg.cell a9 hob3⟩)
          have hbe : Below wi.heap.size wi wi.drew := (Below.refl _ _).drew
          clear hj hjl dk G0
          go_region_held3 (fun w' => w'.cell? ⟨w.heap.size, 1, none⟩ = some (.slice (some od) 1 cL) ∧ w'.cell? (od.add (k * 5)) = some (.bool false) ∧ w'.cell? ⟨(od.add (k * 5)).block, (od.add (k * 5)).off + 1, none⟩ = some (.slice A 1 ca) ∧ w'.cell? ⟨(od.add (k * 5)).block, (od.add (k * 5)).off + 2, none⟩ = some (.bool false) ∧ w'.cell? ⟨(od.add (k * 5)).block, (od.add (k * 5)).off + 3, none⟩ = some (.slice none 0 0) ∧
            w'.cell? ⟨w.heap.size + 1, 0, none⟩ = some (.bool false) ∧ w'.cell? ⟨w.heap.size + 1, 1, none⟩ = some (.slice B 1 cb) ∧ w'.cell? ⟨w.heap.size + 1, 2, none⟩ = some (.bool false) ∧ w'.cell? ⟨w.heap.size + 1, 3, none⟩ = some (.slice none 0 0))
            (first | exact r0 | exact HKP.out _ (by assumption) | exact HKP.out _ (hbe.alloc hbe.size _))
            (first
              | (go_at_call 33; with_reducible refine Calls.mono (HRM.out _ (below_all hbwi hbe)) ?_; rintro e w2 ⟨R2, c2, rfl, hb2⟩
                 have hbe := below_all hbe hb2
                 have hown2 := own_below HSI.out.own hbe (Nat.le_refl _)
                 have hsz2 := hbe.size
                 have HNW := Lib.hid (cells_new w2 52 [.bool false, .slice R2 1 c2, .bool false, .slice none 0 0, .slice (some ⟨wo.heap.size, 0, none⟩) j j]))
              | (refine step_append_lies _ (by rfl) _ _ 37 (by rfl) (w.heap.size + 3) 52 i0 _ 5 88 Tryz.underlying37 hi iz0 iz1 iz2 rfl (by decide) (.slice R k c) k ((List.replicate k t).flatMap RT.cells) (by simp [Act.eval]) (hown2.alloc _) ⟨w2.heap.size, 0, none⟩ 1 1 [.bool false, .slice R2 1 c2, .bool false, .slice none 0 0, .slice (some ⟨wo.heap.size, 0, none⟩) j j] (by simp [Act.eval]) rfl HNW.out (by simp [Value.oneCell']) (by omega) (by simp only [maxLen]; omega) (by omega) (by simp; omega) (w2.heap.size + 1) (by simp) ?_
                 intro g2 cap w3 hown3 hg3 _ _
                 have r0 := HKG.out _ _ (hbe.alloc hbe.size _) hg3))
          all_goals
            go_wp2_with (fail)
            go_roundw
            case rel =>
              have hk0 : k = 0 := by omega
              have hsj := HSL.out
              have hbX := hbe.alloc hbe.size (.cells #[.bool false, .slice R2 1 c2, .bool false, .slice none 0 0, .slice (some ⟨wo.heap.size, 0, none⟩) j j] 52)
              have S3 := HSI.out.keep hbX
              have hownX := hown2.alloc (.cells #[.bool false, .slice R2 1 c2, .bool false, .slice none 0 0, .slice (some ⟨wo.heap.size, 0, none⟩) j j] 52)
              have G3 := HG0.out.keep hbX HG0.out.lt
              refine ⟨k + 1, some ⟨g2, 0, none⟩, cap, one1 R2 c2 (some ⟨wo.heap.size, 0, none⟩) j s, by go_num, by omega, by simp, Lib.hid ⟨?_, ?_, ?_, ?_, ?_, ?_⟩⟩
              · exact S3.below.grown hg3 (by have := S3.below.size; omega) (fun q hq => by have := (hownX.lt q hq).1; omega)
              · exact S3.b2.grown hg3 hob2
              · exact S3.b3.grown hg3 hob3
              · exact S3.b4.grown hg3 (fun e => by have := (hownX.lt _ e.symm).1; omega)
              · subst hk0
                have e : (List.replicate (0 + 1) (one1 R2 c2 (some ⟨wo.heap.size, 0, none⟩) j s)).flatMap RT.cells = List.flatMap RT.cells (List.replicate 0 t) ++ [.bool false, .slice R2 1 c2, .bool false, .slice none 0 0, .slice (some ⟨wo.heap.size, 0, none⟩) j j] := by
                  simp [one1, RT.cells, RT.sl, hsj]
                rw [e]
                exact hown3
              · intro _
                exact ⟨R2, c2, wo.heap.size, rfl, G3.grown hg3 (own_blk_ne hownX G3 (by decide))⟩
            case measure => simp [intOf]; omega
    · obtain rfl : k = 1 := by omega
      obtain ⟨A', ca', g, rfl, hG⟩ := HST.out.one rfl
      have hSl : Sl wo R 1 5 (one1 A' ca' (some ⟨g, 0, none⟩) n s).cells := by simpa using Sl.own HST.out.own
      have HSU := Lib.hid (rsum1_any (n : Int) R c A' ca' (some ⟨g, 0, none⟩) n s wo hSl)
      have hz4 := HST.out.b4.lt
      clear hmk
      go_wp2_with (go_at_call 34; refine HSU.out.mono ?_; rintro e w6 ⟨R6, c6, rfl, hS6, hb6⟩
                   have K4 := HST.out.b4.keep hb6 HST.out.b4.lt
                   obtain ⟨d0, d1, d2, d3⟩ := K4.two)
      have hne4 := own_blk_ne hS6 K4 (by decide)
      have hlt4 := K4.lt
      have hbL := below_all hbr hb6
      have M4 := blk_two_p (c := .int .i64 n) (d := .slice R6 1 c6) K4
      obtain ⟨e0, e1, _, _⟩ := M4.two
      have hG6 := hG.keep hb6 hG.lt
      have hne : g ≠ w.heap.size + 2 := fun e => by
        have h1 := hG6
        rw [e] at h1
        unfold Blk at h1 K4
        rw [K4] at h1
        injection h1 with h1
        injection h1 with _ h2
        exact absurd h2 (by decide)
      exact bodyPost_ret (v := .agg #[.int .i64 n, .slice R6 1 c6]) (by simp [results, Tryz.results12, go_sem, e0, e1]) rfl ⟨R6, c6, A', ca', g, rfl, own_far (own_far (own_base hS6 (by omega)) hne4 _) hne4 _, (hG6.far hne _).far hne _, below_far (below_far hbL (by omega) _ _) (by omega) _ _⟩
end Go.Proofs.Tg.Sx
end
section
/- Two of the basis whose product is a monomial of the polynomial are adjacent: for SparsityFirst. -/
namespace Go.Proofs.Tg.Sx
open Go.RowKit Go.Gr Go.Sp Go.Ev Go.Mo
set_option maxHeartbeats 1000000
set_option maxRecDepth 100000
theorem first_edge {p : PVal} {b : List (List Int)} {t : TV} (ht : t ∈ p.tv) {i j : Nat} (hi : i < b.length) (hj : j < i) (he : addL (b.getD i []) (b.getD j []) = t.exps) : (readAll (edTo b (kn p b) b.length) i).testBit j = true := by
  have hmem : t.exps ∈ kn p b := by
    show t.exps ∈ S0 (exsOf p.tv) b
    unfold S0 exsOf
    rw [List.mem_append]
    exact .inl (List.mem_map.2 ⟨t, ht, rfl⟩)
  have hr : readT (edTo b (kn p b) b.length) i j = true := by
    rw [← tP_read hi (by omega), tP_full hi (by omega), decide_eq_true_eq]
    exact ⟨by omega, by rw [he]; exact hmem⟩
  rw [← read_bits] at hr
  exact hr
/-- After one round the blocks are the components of the graph. -/
theorem first_comps {b S : List (List Int)} {hb : b.length ≤ 64} {m : Nat} (h : (rnd b S hb).Final 1 m) : (rnd b S hb).B (m - 1) = comps b S := by
  have h1 : m = 1 := by
    have := h.pos
    have := h.le
    omega
  subst h1
  rfl
theorem first_made {b S : List (List Int)} {ls : List (List Int)} (hb : b.length ≤ 64) (h : MadeL (edTo b S b.length) b.length ls) : ls = comps b S := h.same (comps_made (ed_valid b S hb))
end Go.Proofs.Tg.Sx
end
section
/- The reference's Search. -/
namespace Go.Proofs.Tg.Gx
open Go.RowKit Go.Gr
set_option maxHeartbeats 4000000
set_option maxRecDepth 100000
def slen : Value → Nat
  | .slice _ l _ => l
  | _ => 0
end Go.Proofs.Tg.Gx
end
section
/- The reference's Parts. -/
namespace Go.Gr
open Go.Jt
structure FInv (t : Nat → Nat → Bool) (n k : Nat) (f : Nat → Bool) (st : List Nat) : Prop where
  start : f k = true
  conn : ∀ v, f v = true → Conn (fun a b => t a b = true) k v
  on : ∀ v ∈ st, v < n ∧ f v = true
  closed : ∀ v, f v = true → v ∉ st → ∀ u, u < n → t v u = true → f u = true
structure FMid (t : Nat → Nat → Bool) (n k : Nat) (f : Nat → Bool) (st : List Nat) (x q : Nat) : Prop where
  start : f k = true
  conn : ∀ v, f v = true → Conn (fun a b => t a b = true) k v
  on : ∀ v ∈ st, v < n ∧ f v = true
  fx : f x = true
  closed : ∀ v, f v = true → v ∉ st → v ≠ x → ∀ u, u < n → t v u = true → f u = true
  px : ∀ u, u < q → t x u = true → f u = true
theorem finv_start (t : Nat → Nat → Bool) {n k : Nat} (hk : k < n) : FInv t n k (updF (fun _ => false) k true) [k] := by
  have h : ∀ v, updF (fun _ => false) k true v = true ↔ v = k := by
    intro v; unfold updF; by_cases e : v = k <;> simp [e]
  refine ⟨(h k).2 rfl, fun v hv => ?_, fun v hv => ?_, fun v hv hn => ?_⟩
  · rw [(h v).1 hv]; exact Conn.refl _
  · simp at hv; subst hv; exact ⟨hk, (h v).2 rfl⟩
  · exact absurd (by rw [(h v).1 hv]; simp) hn
theorem fmid_start {t : Nat → Nat → Bool} {n k : Nat} {f : Nat → Bool} {l : List Nat} {x : Nat} (h : FInv t n k f (l ++ [x])) : FMid t n k f l x 0 :=
  ⟨h.start, h.conn, fun v hv => h.on v (by simp [hv]), (h.on x (by simp)).2, fun v hv h1 h2 => h.closed v hv (by simp [h1, h2]), fun u hu => by omega⟩
theorem fmid_skip {t : Nat → Nat → Bool} {n k : Nat} {f : Nat → Bool} {l : List Nat} {x q : Nat} (h : FMid t n k f l x q) (hq : (t x q && !f q) = false) : FMid t n k f l x (q + 1) :=
  ⟨h.start, h.conn, h.on, h.fx, h.closed, fun u hu ht => by
    by_cases e : u = q
    · subst e
      cases hf : f u
      · rw [ht, hf] at hq; cases hq
      · rfl
    · exact h.px u (by omega) ht⟩
theorem fmid_add {t : Nat → Nat → Bool} {n k : Nat} {f : Nat → Bool} {l : List Nat} {x q : Nat} (h : FMid t n k f l x q) (hqn : q < n) (ht : t x q = true) : FMid t n k (updF f q true) (l ++ [q]) x (q + 1) := by
  have hm : ∀ v, f v = true → updF f q true v = true := by
    intro v hv; unfold updF; by_cases e : v = q <;> simp [e, hv]
  have hu : ∀ v, updF f q true v = true → v = q ∨ f v = true := by
    intro v; unfold updF; by_cases e : v = q <;> simp [e]
  refine ⟨hm _ h.start, fun v hv => ?_, fun v hv => ?_, hm _ h.fx, fun v hv h1 h2 u hun htu => ?_, fun u hun htu => ?_⟩
  · rcases hu v hv with e | e
    · rw [e]; exact (h.conn x h.fx).trans (Conn.step ht)
    · exact h.conn v e
  · rcases List.mem_append.1 hv with e | e
    · exact ⟨(h.on v e).1, hm v (h.on v e).2⟩
    · simp at e; subst e; exact ⟨hqn, by unfold updF; simp⟩
  · have h3 : v ≠ q := fun e => h1 (by simp [e])
    exact hm u (h.closed v ((hu v hv).resolve_left h3) (fun e => h1 (by simp [e])) h2 u hun htu)
  · by_cases e : u = q
    · subst e; unfold updF; simp
    · exact hm u (h.px u (by omega) htu)
theorem finv_of {t : Nat → Nat → Bool} {n k : Nat} {f : Nat → Bool} {l : List Nat} {x : Nat} (h : FMid t n k f l x n) : FInv t n k f l :=
  ⟨h.start, h.conn, h.on, fun v hv h1 u hu ht => by
    by_cases e : v = x
    · subst e; exact h.px u hu ht
    · exact h.closed v hv h1 e u hu ht⟩
theorem finv_end {t : Nat → Nat → Bool} {n k : Nat} {f : Nat → Bool} (hN : Nice t n) (h : FInv t n k f []) : ∀ v, f v = true ↔ Conn (fun a b => t a b = true) k v :=
  fun v => ⟨h.conn v, fun hc => hc (fun x => f x = true) h.start (fun x y hx hxy => h.closed x hx (by simp) y (hN.lt x y hxy).2 hxy)⟩
def unm (f : Nat → Bool) (n : Nat) : Nat := ((List.range n).filter fun i => !f i).length
theorem unm_add {f : Nat → Bool} {n q : Nat} (hq : q < n) (hf : f q = false) : unm (updF f q true) n < unm f n := by
  unfold unm
  refine Go.Chordal.filter_len_lt _ _ _ (fun x _ hx => ?_) q (by simpa using hq) (by simp [hf]) (by simp [updF])
  unfold updF at hx
  by_cases e : x = q
  · simp [e] at hx
  · simpa [e] using hx
theorem snoc_cases (st : List Nat) : st = [] ∨ ∃ l x, st = l ++ [x] := by
  by_cases h : st = []
  · exact .inl h
  · exact .inr ⟨st.dropLast, st.getLast h, (List.dropLast_concat_getLast h).symm⟩
theorem unm_le (f : Nat → Bool) (n : Nat) : unm f n ≤ n := by
  unfold unm
  exact Nat.le_trans (List.length_filter_le _ _) (by simp)
end Go.Gr
namespace Go.Proofs.Tg.Gx
open Go.RowKit Go.Gr
set_option maxHeartbeats 4000000
set_option maxRecDepth 100000
def isF : Option Value → Bool
  | some (.bool false) => true
  | _ => false
def unmW (w : World) (g n : Nat) : Nat := ((List.range n).filter fun i => isF (w.cell? ⟨g, i, none⟩)).length
theorem unmW_blk {w : World} {g n : Nat} {f : Nat → Bool} (h : Blk w g 4 (farr n fun v => .bool (f v))) : unmW w g n = unm f n := by
  unfold unmW unm
  rw [List.filter_congr (fun i hi => ?_)]
  rw [(h.cell i).trans (farr_at n _ (by simpa using hi))]
  cases f i <;> rfl
structure Ph (n base : Nat) (es : List (Int × Int)) (w : World) (k m cr : Nat) (R : Option Addr) (F : Nat → Option Addr × Nat) (ls : Nat → List Int) (seen : Nat → Bool) (wr : World) : Prop where
  mc : m ≤ cr
  mle : m ≤ k
  own : wr.ownsRow base 50 1 (.slice R m cr) m ((List.range m).map (enc F ls))
  rows : RowsIn wr base m F ls
  blk : Blk wr w.heap.size 4 (farr n fun v => .bool (seen v))
  below : Below w.heap.size w wr
  made : MadeL es k ((List.range m).map ls)
  iff : ∀ v, v < n → (seen v = true ↔ ∃ l ∈ (List.range m).map ls, (v : Int) ∈ l)
  few : ∀ l ∈ (List.range m).map ls, l.length ≤ 64
def RetParts (n : Nat) (es : List (Int × Int)) (w : World) (e : Ending) (w' : World) : Prop :=
  ∃ ls V d, MadeL es n ls ∧ e = .returned (.slice V (List.length ls) d) ∧ Lists w' V ls ∧ Below w.heap.size w w'
def RetPartsO (n : Nat) (es : List (Int × Int)) (w : World) (e : Ending) (w' : World) : Prop :=
  ∃ (m : Nat) (V : Option Addr) (d base : Nat) (F : Nat → Option Addr × Nat) (ls : Nat → List Int), MadeL es n ((List.range m).map ls) ∧ e = .returned (.slice V m d) ∧ w.heap.size ≤ base ∧ w'.ownsRow base 50 1 (.slice V m d) m ((List.range m).map (enc F ls)) ∧ RowsIn w' base m F ls ∧ (∀ l ∈ (List.range m).map ls, l.length ≤ 64) ∧ Below w.heap.size w w'
end Go.Proofs.Tg.Gx
end
section
/- The statements' Graphs: two graphs are alike. -/
namespace Go.Proofs.Tg.Gx
open Go.RowKit Go.Gr
set_option maxHeartbeats 2000000
set_option maxRecDepth 100000
theorem pair_guard : Tryz.prog.eqGuardType Tryz.prog.depth 94 = false := by kernel_rfl
theorem pair_eq (w : World) (x y x' y' : Int) : (Op.equalIn 10000 94 (.agg #[.int .i64 x, .int .i64 y]) (.agg #[.int .i64 x', .int .i64 y'])).run Tryz.prog w = .ok (decide (x = x' ∧ y = y')) w := by
  obtain ⟨i0, hi, _, hz1, _⟩ := info_parts int_info
  rw [show (10000 : Nat) = 9998 + 1 + 1 from rfl, run_equalIn_array w _ _ _ Tryz.underlying94 hi]
  have hc : Tryz.prog.cellsOf 3 = 1 := by simp [Program.cellsOf, hi, hz1]
  rw [hc, show List.range 2 = [0, 1] from rfl]
  simp only [Op.eqItems, Sem.run_bind]
  simp [go_sem, Tryz.underlying3]
  by_cases h1 : x = x' <;> by_cases h2 : y = y' <;> simp [h1, h2]
end Go.Proofs.Tg.Gx
end
section
/- The reference's table of a set of monomials. -/
namespace Go.Proofs.Tg.Sx
open Go.RowKit Go.Gr Go.Sp Go.Ev Go.Mo Go.Qn
set_option maxHeartbeats 4000000
set_option maxRecDepth 100000
theorem drBelow {w a b : World} (h : Below w.heap.size w a) (hd : Dr a b) : Below w.heap.size w b := below_all h hd.below
theorem rtable_any (A B : Option Addr) (ca cb n : Nat) (s b : List (List Int)) (w : World) (hA : Lists w A s) (hB : Lists w B b) (hn : n ≤ 6) (hbl : b.length ≤ 64) (hdb : ∀ m ∈ b, domK n 24 m) (hls : s.length ≤ 1000000000) (hs : ∀ m ∈ s, m.length ≤ 1000000) :
    Calls Tryz.prog 25 #[.slice A s.length ca, .slice B b.length cb] w fun e w' => ∃ g, e = .returned (.slice (some ⟨g, 0, none⟩) b.length b.length) ∧ Gx.TableAt w' g b.length (tP b s b.length 0) ∧ w.heap.size ≤ g ∧ Below w.heap.size w w' := by
  have HDB := Lib.hid hdb
  have HBW := Lib.hid hB
  have HHS : Hid (∀ W g m q, Below w.heap.size w W → Blk W g 3 (iarr m) → m.length = n → decide (m ∈ s) = q → Calls Tryz.prog 44 #[.slice A s.length ca, .slice (some ⟨g, 0, none⟩) n n] W fun e w' => e = .returned (.bool q) ∧ Dr W w') := Lib.hid (fun W g m q h1 h2 h3 h4 => by
    have := rhas_any A (some ⟨g, 0, none⟩) ca n s m q W (hA.keep h1) (Sl.own (base := 0) (by have := own_iarr (b := 0) h2 (by omega) h3 (by omega); rwa [← h3] at this)) hls hs h4
    rwa [h3] at this)
  have HBL := Lib.hid (Gx.blank_any b.length w (by omega))
  have HZ := Lib.hid (tP_zero b s)
  clear hdb hB hA
  go_enter Tryz.func25, Tryz.ntmps25
  go_wp2_with (go_at_call 43; refine HBL.out.mono ?_; rintro e w1 ⟨rfl, hT1, hb1⟩)
  have hT1 : Gx.TableAt w1 w.heap.size b.length (tP b s 0 0) := by rw [HZ.out]; exact hT1
  go_loopw [6] (fun s6 wr => ∃ i : Nat, s6 = .int .i64 i ∧ i ≤ b.length ∧ Gx.TableAt wr w.heap.size b.length (tP b s i 0) ∧ Below w.heap.size w wr) (fun s6 _ => b.length - (intOf s6).toNat)
  case atStart => exact ⟨0, rfl, Nat.zero_le _, hT1, hb1⟩
  case round =>
    clear hT1 hb1
    obtain ⟨wo, rfl⟩ : ∃ wo : World, wo = wr := ⟨_, rfl⟩
    obtain ⟨i, rfl, hi, hT, hb⟩ := hrel
    by_cases hlt : i < b.length
    · obtain ⟨bd, E1, c1, rfl, hc1w, hI1⟩ := HBW.out.at hlt
      have hd1 := HDB.out b[i] (List.getElem_mem _)
      have HG1 : Hid (b.getD i [] = b[i]) := Lib.hid (by simp [hlt])
      have w1' : IntKind.i64.wrap ((i : Int) + 1) = (i : Int) + 1 := IntWalk.i64_in _ (by omega)
      go_wp2
      go_loopw [7] (fun s7 wr => ∃ k : Nat, s7 = .int .i64 k ∧ k ≤ i ∧ Gx.TableAt wr w.heap.size b.length (tP b s i k) ∧ Below w.heap.size w wr) (fun s7 _ => i - (intOf s7).toNat)
      case atStart => exact ⟨0, rfl, Nat.zero_le _, hT, hb⟩
      case round =>
        clear hT hb
        obtain ⟨wp, rfl⟩ : ∃ wp : World, wp = wr := ⟨_, rfl⟩
        obtain ⟨k, rfl, hk, hT, hb⟩ := hrel
        by_cases hkl : k < i
        · have hkb : k < b.length := by omega
          obtain ⟨bd2, E2, c2, he, hc2w, hI2⟩ := HBW.out.at hkb
          injection he with he
          subst he
          have hd2 := HDB.out b[k] (List.getElem_mem _)
          have h1 := keep_cell hb hc1w
          have h2 := keep_cell hb hc2w
          have HG2 : Hid (b.getD k [] = b[k]) := Lib.hid (by simp [hkb])
          have HNO : Hid (addL b[i] b[k] ∉ s → tP b s i (k + 1) = tP b s i k) := Lib.hid (fun h => tP_no hkl (by rw [HG1.out, HG2.out]; exact h))
          have HYES : Hid (addL b[i] b[k] ∈ s → tP b s i (k + 1) = setT (setT (tP b s i k) i k) k i) := Lib.hid (fun h => tP_yes hkl (by rw [HG1.out, HG2.out]; exact h))
          have HSL : Hid ((addL b[i] b[k]).length = n) := Lib.hid (addL_dom hd1 hd2).1
          have HPR : Hid (∀ W, Below wp.heap.size wp W → Calls Tryz.prog 45 #[.slice E1 b[i].length c1, .slice E2 b[k].length c2] W fun e w' => ∃ g, e = .returned (.slice (some ⟨g, 0, none⟩) n n) ∧ Blk w' g 3 (iarr (addL b[i] b[k])) ∧ Below wp.heap.size wp w') := Lib.hid (fun W h =>
            (rprod_any E1 E2 c1 c2 n b[i] b[k] W (hI1.keep (below_all hb h)) (hI2.keep (below_all hb h)) hd1 hd2 hn).mono fun e w' h2 => ⟨W.heap.size, h2.1, h2.2.1, below_all h h2.2.2⟩)
          have p0 : (0 : Int) ≤ (i : Int) := by omega
          have p1 : (i : Int) < (b.length : Int) := by omega
          have p3 : ((i : Int)).toNat = i := by omega
          have q0 : (0 : Int) ≤ (k : Int) := by omega
          have q1 : (k : Int) < (b.length : Int) := by omega
          have q3 : ((k : Int)).toNat = k := by omega
          have hbe : Below wp.heap.size wp wp.drew := (Below.refl _ _).drew
          clear hc2w hI2 hd2 HG2
          generalize hxe : addL b[i] b[k] = xy at *
          clear hxe
          generalize hye : b[k] = y at *
          clear hye
          obtain ⟨x, hx⟩ : ∃ x, b[i] = x := ⟨_, rfl⟩
          rw [hx] at h1 HPR
          clear hx
          by_cases hin : xy ∈ s
          · have hdec : decide (xy ∈ s) = true := decide_eq_true hin
            have HT2 := Lib.hid (HYES.out hin)
            clear hin
            go_upto_region 8 with (fail)
            go_region_held3 (fun w' => w'.cell? (bd.add i) = some (.slice E1 x.length c1) ∧ w'.cell? (bd.add k) = some (.slice E2 y.length c2))
              (first | exact ⟨keep_cell hbe h1, keep_cell hbe h2⟩)
              (first
                | (go_at_call 45; with_reducible refine Calls.mono (HPR.out _ (by assumption)) ?_; rintro e w2 ⟨g, rfl, hG, hb2⟩
                   have hbe := hb2)
                | (go_at_call 44; with_reducible refine Calls.mono (HHS.out _ _ _ _ (below_all hb hb2) hG HSL.out hdec) ?_; rintro e w3 ⟨rfl, hd3⟩
                   have hbe := drBelow hb2 hd3))
            all_goals
              have hTc := hT.keep hbe (Nat.le_refl _)
              have hbc := below_all hb hbe
              have ci := (hTc.head.cell i).trans (Gx.farr_at _ _ hlt)
              have ck := (hTc.head.cell k).trans (Gx.farr_at _ _ hkb)
              unfold Gx.rowV at ci ck
              have cij := ((hTc.row i hlt).cell k).trans (Gx.farr_at _ _ hkb)
              have cji := ((hTc.row k hkb).cell i).trans (Gx.farr_at _ _ hlt)
              have fij := (hTc.row i hlt).frozen k
              have fji := (hTc.row k hkb).frozen i
              have hT3 := Lib.hid ((hTc.set (b := k) hlt).set (b := i) hkb)
              generalize tP b s i k i k = tij at cij
              generalize tP b s i k k i = tji at cji
              have hik : i ≠ k := by omega
              have HIK := Lib.hid hik
              have HKL := Lib.hid hkl
              clear hTc hT hik
              go_wp2_with (fail)
              go_region
              go_wp2
              go_roundw
              case rel =>
                refine ⟨k + 1, by go_num, by have := HKL.out; omega, ?_, ?_⟩
                · rw [HT2.out]; exact hT3.out.drew
                · exact ((hbc.setCell (by simp; omega) _).setCell (by simp; omega) _).drew
              case measure => simp [intOf]; omega
          · have hdec : decide (xy ∈ s) = false := decide_eq_false hin
            have HT2 := Lib.hid (HNO.out hin)
            clear hin
            go_upto_region 8 with (fail)
            go_region_held3 (fun w' => w'.cell? (bd.add i) = some (.slice E1 x.length c1) ∧ w'.cell? (bd.add k) = some (.slice E2 y.length c2))
              (first | exact ⟨keep_cell hbe h1, keep_cell hbe h2⟩)
              (first
                | (go_at_call 45; with_reducible refine Calls.mono (HPR.out _ (by assumption)) ?_; rintro e w2 ⟨g, rfl, hG, hb2⟩
                   have hbe := hb2)
                | (go_at_call 44; with_reducible refine Calls.mono (HHS.out _ _ _ _ (below_all hb hb2) hG HSL.out hdec) ?_; rintro e w3 ⟨rfl, hd3⟩
                   have hbe := drBelow hb2 hd3))
            all_goals
              go_wp2_with (fail)
              go_roundw
              case rel => exact ⟨k + 1, by go_num, by omega, by rw [HT2.out]; exact hT.keep hbe (Nat.le_refl _), below_all hb hbe⟩
              case measure => simp [intOf]; omega
        · obtain rfl : k = i := by omega
          have dk : decide ((k : Int) < (k : Int)) = false := by simp
          have hT2 : Gx.TableAt wp w.heap.size b.length (tP b s (k + 1) 0) := by rw [← tP_row]; exact hT
          go_wp2
          go_roundw
          case rel => exact ⟨k + 1, by go_num, by omega, hT2, hb⟩
          case measure => simp [intOf]; omega
    · obtain rfl : i = b.length := by omega
      have dk : decide ((b.length : Int) < (b.length : Int)) = false := by simp
      go_wp2
      go_ret
      exact ⟨w.heap.size, rfl, hT, Nat.le_refl _, hb⟩
end Go.Proofs.Tg.Sx
end
