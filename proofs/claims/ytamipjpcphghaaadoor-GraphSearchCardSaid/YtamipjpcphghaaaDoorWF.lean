/- Reading a graph into an adjacency. -/
import Derived.Test.YtamipjpcphghaaaDoorWE
import Derived.Laws.Tables
import Derived.IntWalk
namespace Go.Gr
def goodEdge (n : Int) (e : Int × Int) : Prop := 0 ≤ e.1 ∧ e.1 < e.2 ∧ e.2 < n
def readAll (es : List (Int × Int)) : Nat → Nat := es.foldl (fun A e => connect A e.1.toNat e.2.toNat) (fun _ => 0)
/-- The first k edges are valid: each good by itself, and each behind the one before. -/
def validTo (n : Int) (es : List (Int × Int)) (k : Nat) : Prop := ∀ i (h : i < es.length), i < k → goodEdge n es[i] ∧ (0 < i → cmpE (es[i - 1]'(by omega)) es[i] < 0)
def valid (n : Int) (es : List (Int × Int)) : Prop := 0 ≤ n ∧ n ≤ 64 ∧ validTo n es es.length
end Go.Gr
namespace Go.Proofs.Tg
open Go.RowKit Go.Gr
abbrev EdgesAt (w : World) (E : Option Addr) (es : List (Int × Int)) : Prop := Sl w E es.length 2 (ecells es)
theorem ecells_at : ∀ (es : List (Int × Int)) (k : Nat) (hk : k < es.length), (ecells es)[k * 2]? = some (vi es[k].1) ∧ (ecells es)[k * 2 + 1]? = some (vi es[k].2)
  | e :: es, 0, _ => by simp [ecells]
  | e :: es, k + 1, hk => by
    have := ecells_at es k (by simpa using hk)
    simp only [ecells, List.flatMap_cons, show (k + 1) * 2 = k * 2 + 1 + 1 from by omega, List.cons_append, List.nil_append, List.getElem?_cons_succ, List.getElem_cons_succ] at this ⊢
    exact this
theorem EdgesAt.at {w : World} {E : Option Addr} {es : List (Int × Int)} (h : EdgesAt w E es) {k : Nat} (hk : k < es.length) :
    ∃ ad, E = some ad ∧ w.cell? (ad.add (k * 2)) = some (.int .i64 es[k].1) ∧ w.cell? ⟨(ad.add (k * 2)).block, (ad.add (k * 2)).off + 1, none⟩ = some (.int .i64 es[k].2) := by
  obtain ⟨ad, rfl, _, hc⟩ := h.lies (by omega)
  obtain ⟨h1, h2⟩ := ecells_at es k hk
  have h2' := hc _ _ h2
  exact ⟨ad, rfl, hc _ _ h1, by rw [← add_add] at h2'; exact h2'⟩
theorem adj_alloc {ops : Array Oper} {rest : List Oper} {a : Act} {w : World} {Q : Exit → Act → World → Prop} (dst : Option Tmp) (ty : TypeId) (pos : String) (after : Array Edge)
    (h : wpList Tryd.prog ops Q rest (a.put dst (.pointer (some ⟨w.heap.size, 0, none⟩))) (w.alloc (.cells (adjA fun _ => 0) 56))) : wpList Tryd.prog ops Q (⟨dst, .alloc 56, ty, pos, after, none⟩ :: rest) a w := by
  refine wpList_plain rfl fun K hK => ?_
  have hr : (execOp a.eval ⟨dst, .alloc 56, ty, pos, after, none⟩).run Tryd.prog w = .ok (.value (.pointer (some ⟨w.heap.size, 0, none⟩))) (w.alloc (.cells (adjA fun _ => 0) 56)) := by kernel_rfl
  unfold Oper.wp
  rw [hr]
  exact hK _ _ h
theorem under56 : Tryd.prog.underlying 56 = some (.array 64 54) := by kernel_rfl
theorem size56 (A : Nat → Nat) : (Tryd.prog.info? 56).map (·.size) = some (adjA A).size := by rw [adjA_size]; kernel_rfl
theorem adj_one (A : Nat → Nat) : (adjA A).all (·.oneCell') = true := by
  rw [Array.all_eq_true_iff_forall_mem]
  intro x hx
  simp only [adjA, vs, List.mem_toArray, List.mem_map] at hx
  obtain ⟨i, _, rfl⟩ := hx
  rfl
theorem results_adj {fn : Func} {p q : Tmp} (h : fn.results = #[.cell p 56, .tmp q]) (tmps : Array Value) (w : World) (g : Nat) (A : Nat → Nat)
    (hp : tmps.getD p undef = .pointer (some ⟨g, 0, none⟩)) (hg : w.heap[g]? = some (.cells (adjA A) 56 (0, 0))) :
    (results fn tmps).run Tryd.prog w = .ok (.tuple #[.agg (adjA A), tmps.getD q undef]) w := by
  have hp' : tmps[p]?.getD undef = .pointer (some ⟨g, 0, none⟩) := by simpa using hp
  simp [results, h, hp', asAddr, run_loadVar_row w g 56 56 (adjA A) (0, 0) (.array 64 54) hg under56 rfl (size56 A)]
theorem below_setRow {B : Nat} {a w : World} (h : Below B a w) {g : Nat} (hg : B ≤ g) (cs : Array Value) : Below B a (w.setRow g cs) :=
  h.trans ⟨rfl, rfl, rfl, by simp, fun k hk => setRow_other w g k _ (by omega)⟩
def RetRead (b : Bool) (A : Nat → Nat) (w : World) (e : Ending) (w' : World) : Prop :=
  ∃ A', Small A' ∧ e = .returned (.tuple #[.agg (adjA A'), .bool b]) ∧ (b = true → A' = A) ∧ Below w.heap.size w w'
set_option maxHeartbeats 1000000
set_option maxRecDepth 100000
theorem validTo_succ {n : Int} {es : List (Int × Int)} {k : Nat} (hk : k < es.length) (h : validTo n es k) (hg : goodEdge n es[k]) (hc : 0 < k → cmpE (es[k - 1]'(by omega)) es[k] < 0) : validTo n es (k + 1) := by
  intro i hi hik
  by_cases e : i = k
  · subst e; exact ⟨hg, hc⟩
  · exact h i hi (by omega)
theorem readAll_succ {es : List (Int × Int)} {k : Nat} (hk : k < es.length) : readAll (es.take (k + 1)) = connect (readAll (es.take k)) es[k].1.toNat es[k].2.toNat := by
  unfold readAll
  rw [List.take_succ_eq_append_getElem hk, List.foldl_append]
  rfl
theorem read_any (n : Int) (E : Option Addr) (c : Nat) (es : List (Int × Int)) (b : Bool) (w : World) (hE : EdgesAt w E es) (hn0 : 0 ≤ n) (hn : n ≤ 64) (hl : es.length ≤ 1000000) (hv : b = true ↔ valid n es) :
    Calls Tryd.prog 47 #[.agg #[.int .i64 n, .slice E es.length c]] w (RetRead b (readAll es) w) := by
  have hd1 : decide (n < 0) = false := by simp; omega
  have hd2 : decide (64 < n) = false := by simp; omega
  have HV := Lib.hid hv
  clear hv
  go_enter Tryd.func47, Tryd.ntmps47
  go_wp2_with (refine adj_alloc _ _ _ _ ?_)
  go_loopw [19] (fun i wr => ∃ (k : Nat) (A : Nat → Nat), i = .int .i64 k ∧ k ≤ es.length ∧ Blk wr w.heap.size 25 #[.int .i64 n, .slice E es.length c] ∧ Blk wr (w.heap.size + 1) 56 (adjA fun _ => 0) ∧ AdjAt wr (w.heap.size + 1 + 1) A ∧ Small A ∧
      Hid (A = readAll (es.take k)) ∧ Hid (validTo n es k) ∧ Below w.heap.size w wr) (fun i _ => es.length - (intOf i).toNat)
  case atStart =>
    refine ⟨0, fun _ => 0, rfl, Nat.zero_le _, ?_, ?_, ?_, Small.zero, Lib.hid (by simp [readAll]), Lib.hid (fun i _ h => by omega), ?_⟩
    · exact ((Blk.new _ _ _).alloc _).alloc _
    · have := (Blk.new (w.alloc (Obj.cells #[Value.int IntKind.i64 n, Value.slice E es.length c] 25)) 56 (adjA fun _ => 0)).alloc (Obj.cells (adjA fun _ => 0) 56)
      simpa using this
    · have := Blk.new ((w.alloc (Obj.cells #[Value.int IntKind.i64 n, Value.slice E es.length c] 25)).alloc (Obj.cells (adjA fun _ => 0) 56)) 56 (adjA fun _ => 0)
      simpa using this
    · exact (((Below.refl _ _).alloc (Nat.le_refl _) _).alloc (by simp) _).alloc (by simp; omega) _
  case round =>
    obtain ⟨k, A, rfl, hk, hb1, hb2, hb4, hS, HA, HT, hb⟩ := hrel
    by_cases hlt : k < es.length
    · obtain ⟨ad, rfl, hc1, hc2⟩ := EdgesAt.at (hE.keep hb) hlt
      have hprev : 0 < k → ∃ x0 y0 : Int, Hid (es[k - 1]'(by omega) = (x0, y0)) ∧ wr.cell? (ad.add ((k - 1) * 2)) = some (.int .i64 x0) ∧ wr.cell? ⟨(ad.add ((k - 1) * 2)).block, (ad.add ((k - 1) * 2)).off + 1, none⟩ = some (.int .i64 y0) := by
        intro h0
        obtain ⟨ad', e, g1, g2⟩ := EdgesAt.at (hE.keep hb) (k := k - 1) (by omega)
        injection e with e
        subst e
        exact ⟨_, _, Lib.hid rfl, g1, g2⟩
      obtain ⟨x, y, hp⟩ : ∃ x y, es[k] = (x, y) := ⟨_, _, rfl⟩
      have HP := Lib.hid hp
      rw [hp] at hc1 hc2
      clear hp
      simp only at hc1 hc2
      have hb1l := hb1.lt
      obtain ⟨bad, HB⟩ : ∃ bad : Bool, Hid (bad = false ↔ goodEdge n (x, y) ∧ (0 < k → cmpE (es[k - 1]'(by omega)) (x, y) < 0)) := by
        by_cases h : goodEdge n (x, y) ∧ (0 < k → cmpE (es[k - 1]'(by omega)) (x, y) < 0)
        · exact ⟨false, by simpa [Hid] using h⟩
        · exact ⟨true, by simpa [Hid] using h⟩
      go_upto_region 7 with fail
      go_cut [55] (fun s55 wx => s55 = .bool bad ∧ Below (wr.heap.size + 1) (wr.alloc (.cells #[.int .i64 x, .int .i64 y] 46)) wx)
      case first =>
        have h10 := hb1.cell 0
        have h11 := hb1.cell 1
        simp at h10 h11
        clear hE HA HT hb2 hb4 HV hc1 hc2 hb1
        by_cases hx : x < 0
        · have d1 : decide (x < 0) = true := by simpa using hx
          obtain rfl : bad = true := by
            cases bad
            · exact absurd (HB.out.1 rfl).1.1 (by simp; omega)
            · rfl
          clear HB hprev
          go_quiet (fail)
          go_wp2_with fail
          go_meet
          exact ⟨rfl, below_drewN (Below.refl _ _) _⟩
        · have d1 : decide (x < 0) = false := by simpa using hx
          by_cases hxy : y ≤ x
          · have d2 : decide (y ≤ x) = true := by simpa using hxy
            obtain rfl : bad = true := by
              cases bad
              · exact absurd (HB.out.1 rfl).1.2.1 (by simp; omega)
              · rfl
            clear HB hprev
            go_quiet (fail)
            go_wp2_with fail
            go_meet
            exact ⟨rfl, below_drewN (Below.refl _ _) _⟩
          · have d2 : decide (y ≤ x) = false := by simpa using hxy
            by_cases hyn : n ≤ y
            · have d3 : decide (n ≤ y) = true := by simpa using hyn
              obtain rfl : bad = true := by
                cases bad
                · exact absurd (HB.out.1 rfl).1.2.2 (by simp; omega)
                · rfl
              clear HB hprev
              go_quiet (fail)
              go_wp2_with fail
              go_meet
              exact ⟨rfl, below_drewN (Below.refl _ _) _⟩
            · have d3 : decide (n ≤ y) = false := by simpa using hyn
              by_cases hk0 : k = 0
              · subst hk0
                obtain rfl : bad = false := HB.out.2 ⟨⟨by simp; omega, by simp; omega, by simp; omega⟩, by omega⟩
                clear HB hprev
                go_quiet (fail)
                go_wp2_with fail
                go_meet
                exact ⟨rfl, below_drewN (Below.refl _ _) _⟩
              · have hkp : 0 < k := by omega
                obtain ⟨x0, y0, HP0, hq1, hq2⟩ := hprev hkp
                clear hprev
                have d4 : decide ((0 : Int) < (k : Int)) = true := by simp; omega
                have k0 : (0 : Int) ≤ (k : Int) - 1 := by omega
                have k1 : (k : Int) - 1 < (es.length : Int) := by omega
                have HB2 : Hid (bad = decide (0 ≤ cmpE (x0, y0) (x, y))) := by
                  refine Lib.hid ?_
                  have h := HB.out
                  rw [HP0.out] at h
                  cases bad
                  · have := (h.1 rfl).2 hkp; simp; omega
                  · by_cases hc : cmpE (x0, y0) (x, y) < 0
                    · exact absurd (h.2 ⟨⟨by simp; omega, by simp; omega, by simp; omega⟩, fun _ => hc⟩) (by simp)
                    · simp; omega
                clear HB hk0 HP HP0
                have HS : Hid ((wr.alloc (.cells #[.int .i64 x, .int .i64 y] 46)).cell? ⟨wr.heap.size, 0, none⟩ = some (.int .i64 x) ∧ (wr.alloc (.cells #[.int .i64 x, .int .i64 y] 46)).cell? ⟨wr.heap.size, 1, none⟩ = some (.int .i64 y)) :=
                  ⟨Blk.cell (Blk.new wr 46 #[.int .i64 x, .int .i64 y]) 0, Blk.cell (Blk.new wr 46 #[.int .i64 x, .int .i64 y]) 1⟩
                have k2 : (1 : Int) ≤ (k : Int) := by omega
                have k3 : ((k : Int) - 1).toNat = k - 1 := by omega
                have k4 : IntKind.i64.wrap ((k : Int) - 1) = (k : Int) - 1 := IntWalk.i64_in _ (by omega)
                go_region_held3 (fun w' => w'.cell? ⟨wr.heap.size, 0, none⟩ = some (.int .i64 x) ∧ w'.cell? ⟨wr.heap.size, 1, none⟩ = some (.int .i64 y) ∧ w'.cell? ⟨w.heap.size, 0, none⟩ = some (.int .i64 n) ∧ w'.cell? ⟨w.heap.size, 1, none⟩ = some (.slice (some ad) es.length c) ∧
                    w'.cell? (ad.add ((k - 1) * 2)) = some (.int .i64 x0) ∧ w'.cell? ⟨(ad.add ((k - 1) * 2)).block, (ad.add ((k - 1) * 2)).off + 1, none⟩ = some (.int .i64 y0)) (first | go_keep | exact ⟨keep_cell hbc HS.out.1, keep_cell hbc HS.out.2, keep_cell hbc (cell_alloc h10 _), keep_cell hbc (cell_alloc h11 _), keep_cell hbc (cell_alloc hq1 _), keep_cell hbc (cell_alloc hq2 _)⟩)
                  (first | (go_at_call 67; refine (cmpE_any _ _ _ _ _).mono ?_; rintro e w' ⟨rfl, hbc⟩))
                go_wp2_with fail
                go_meet
                exact ⟨by rw [HB2.out], (below_of_drew hbc).mono (by simp)⟩
      case rest =>
        obtain ⟨rfl, hbx⟩ := hcut
        have hbl := hb.size
        have l2 := hb2.lt
        have l4 := Blk.lt hb4
        have B1 := (hb1.alloc (.cells #[.int .i64 x, .int .i64 y] 46)).keep hbx (by omega)
        have B2 := (hb2.alloc (.cells #[.int .i64 x, .int .i64 y] 46)).keep hbx (by omega)
        have B4 := (Blk.alloc hb4 (.cells #[.int .i64 x, .int .i64 y] 46)).keep hbx (by omega)
        have B6 := (Blk.new wr 46 #[.int .i64 x, .int .i64 y]).keep hbx (by omega)
        have hbw : Below w.heap.size w wc := (hb.alloc hbl _).trans (hbx.mono (by omega))
        clear hb1 hb2 hb4 hb hbx hc1 hc2 hprev hE
        cases bad
        · have c0 := B6.cell 0
          have c1 := B6.cell 1
          simp at c0 c1
          obtain ⟨⟨p1, p2, p3⟩, p4⟩ := HB.out.1 rfl
          simp only at p1 p2 p3
          obtain ⟨i, rfl⟩ := Int.eq_ofNat_of_zero_le p1
          obtain ⟨j, rfl⟩ := Int.eq_ofNat_of_zero_le (show 0 ≤ y by omega)
          go_wp2_with (go_at_call 40; refine (connect_any _ _ _ A _ B4 hS (by omega) (by omega)).mono ?_; rintro e w1 ⟨rfl, hA1, hg1⟩)
          go_roundw
          case rel =>
            refine ⟨k + 1, connect A i j, by go_num, by omega, B1.grown hg1 (fun h => by injection h with h; omega), B2.grown hg1 (fun h => by injection h with h; omega), hA1, hS.connect (by omega) (by omega), Lib.hid ?_, Lib.hid (validTo_succ hlt HT.out ?_ ?_), hbw.grown hg1 hbw.size (fun q hq => by injection hq with hq; omega)⟩
            · rw [readAll_succ hlt, HP.out, ← HA.out]; rfl
            · rw [HP.out]; exact ⟨p1, p2, p3⟩
            · intro h0; rw [HP.out]; exact p4 h0
          case measure => simp [intOf]; omega
        · obtain rfl : b = false := by
            cases b
            · rfl
            · have := ((HV.out.1 rfl).2.2 k hlt hlt)
              rw [HP.out] at this
              exact absurd (HB.out.2 this) (by simp)
          go_wp2_with (first | (refine wpList_load_row rfl 56 (.tmp 4) rfl (w.heap.size + 1 + 1) rfl 56 (adjA A) (0, 0) (.array 64 54) B4 under56 rfl (size56 A) ?_) | (refine wpList_store_row rfl 56 (.tmp 2) (.tmp 56) rfl (w.heap.size + 1) (adjA A) rfl rfl 56 (adjA fun _ => 0) B2 (size56 A) (by simp only [adjA_size]) (adj_one A) ?_))
          exact bodyPost_ret (v := .tuple #[.agg (adjA A), .bool false]) (results_adj (p := 2) (q := 3) rfl _ _ (w.heap.size + 1) A rfl (setRow_heap wc _ _ _ _ _ B2)) rfl ⟨A, hS, rfl, by simp, below_setRow hbw (by omega) _⟩
    · obtain rfl : k = es.length := by omega
      obtain rfl : b = true := HV.out.2 ⟨hn0, hn, HT.out⟩
      go_wp2_with (first | (refine wpList_load_row rfl 56 (.tmp 4) rfl (w.heap.size + 1 + 1) rfl 56 (adjA A) (0, 0) (.array 64 54) hb4 under56 rfl (size56 A) ?_) | (refine wpList_store_row rfl 56 (.tmp 2) (.tmp 63) rfl (w.heap.size + 1) (adjA A) rfl rfl 56 (adjA fun _ => 0) hb2 (size56 A) (by simp only [adjA_size]) (adj_one A) ?_))
      exact bodyPost_ret (v := .tuple #[.agg (adjA A), .bool true]) (results_adj (p := 2) (q := 3) rfl _ _ (w.heap.size + 1) A rfl (setRow_heap wr _ _ _ _ _ hb2)) rfl ⟨A, hS, rfl, fun _ => by rw [HA.out, List.take_length], below_setRow hb (by omega) _⟩
theorem read_out (n : Int) (E : Option Addr) (c : Nat) (es : List (Int × Int)) (w : World) (hn : n < 0 ∨ 64 < n) (A : Nat → Nat) :
    Calls Tryd.prog 47 #[.agg #[.int .i64 n, .slice E es.length c]] w (RetRead false A w) := by
  have fin : ∀ W : World, Below w.heap.size w W → Blk W (w.heap.size + 1) 56 (adjA fun _ => 0) → RetRead false A w (.returned (.tuple #[.agg (adjA fun _ => 0), .bool false])) (W.setRow (w.heap.size + 1) (adjA fun _ => 0)) :=
    fun W hb _ => ⟨_, Small.zero, rfl, by simp, below_setRow hb (by omega) _⟩
  have b2 : Blk (((w.alloc (.cells #[.int .i64 n, .slice E es.length c] 25)).alloc (.cells (adjA fun _ => 0) 56)).alloc (.cells (adjA fun _ => 0) 56)) (w.heap.size + 1) 56 (adjA fun _ => 0) := by
    have := (Blk.new (w.alloc (.cells #[.int .i64 n, .slice E es.length c] 25)) 56 (adjA fun _ => 0)).alloc (.cells (adjA fun _ => 0) 56)
    simpa using this
  have b4 : Blk (((w.alloc (.cells #[.int .i64 n, .slice E es.length c] 25)).alloc (.cells (adjA fun _ => 0) 56)).alloc (.cells (adjA fun _ => 0) 56)) (w.heap.size + 1 + 1) 56 (adjA fun _ => 0) := by
    have := Blk.new ((w.alloc (.cells #[.int .i64 n, .slice E es.length c] 25)).alloc (.cells (adjA fun _ => 0) 56)) 56 (adjA fun _ => 0)
    simpa using this
  have hb : Below w.heap.size w (((w.alloc (.cells #[.int .i64 n, .slice E es.length c] 25)).alloc (.cells (adjA fun _ => 0) 56)).alloc (.cells (adjA fun _ => 0) 56)) :=
    (((Below.refl _ _).alloc (Nat.le_refl _) _).alloc (by simp) _).alloc (by simp; omega) _
  have HF := Lib.hid (fin _ hb b2)
  have H2 := Lib.hid b2
  have H4 := Lib.hid b4
  clear fin b2 b4 hb
  by_cases h1 : n < 0
  · have hd1 : decide (n < 0) = true := by simpa using h1
    clear hn
    go_enter Tryd.func47, Tryd.ntmps47
    go_wp2_with (first | (refine adj_alloc _ _ _ _ ?_) | (refine wpList_load_row rfl 56 (.tmp 4) rfl (w.heap.size + 1 + 1) rfl 56 (adjA fun _ => 0) (0, 0) (.array 64 54) H4.out under56 rfl (size56 _) ?_) | (refine wpList_store_row rfl 56 (.tmp 2) (.tmp 15) rfl (w.heap.size + 1) (adjA fun _ => 0) rfl rfl 56 (adjA fun _ => 0) H2.out (size56 _) (by simp only [adjA_size]) (adj_one _) ?_))
    exact bodyPost_ret (v := .tuple #[.agg (adjA fun _ => 0), .bool false]) (results_adj (p := 2) (q := 3) rfl _ _ (w.heap.size + 1) (fun _ => 0) rfl (setRow_heap _ _ _ _ _ _ H2.out)) rfl HF.out
  · have hd1 : decide (n < 0) = false := by simpa using h1
    have hd2 : decide (64 < n) = true := by simp; omega
    clear hn
    go_enter Tryd.func47, Tryd.ntmps47
    go_wp2_with (first | (refine adj_alloc _ _ _ _ ?_) | (refine wpList_load_row rfl 56 (.tmp 4) rfl (w.heap.size + 1 + 1) rfl 56 (adjA fun _ => 0) (0, 0) (.array 64 54) H4.out under56 rfl (size56 _) ?_) | (refine wpList_store_row rfl 56 (.tmp 2) (.tmp 15) rfl (w.heap.size + 1) (adjA fun _ => 0) rfl rfl 56 (adjA fun _ => 0) H2.out (size56 _) (by simp only [adjA_size]) (adj_one _) ?_))
    exact bodyPost_ret (v := .tuple #[.agg (adjA fun _ => 0), .bool false]) (results_adj (p := 2) (q := 3) rfl _ _ (w.heap.size + 1) (fun _ => 0) rfl (setRow_heap _ _ _ _ _ _ H2.out)) rfl HF.out
theorem read_all (n : Int) (E : Option Addr) (c : Nat) (es : List (Int × Int)) (b : Bool) (w : World) (hE : EdgesAt w E es) (hl : es.length ≤ 1000000) (hv : b = true ↔ valid n es) :
    Calls Tryd.prog 47 #[.agg #[.int .i64 n, .slice E es.length c]] w (RetRead b (readAll es) w) := by
  by_cases h : 0 ≤ n ∧ n ≤ 64
  · exact read_any n E c es b w hE h.1 h.2 hl hv
  · obtain rfl : b = false := by
      cases b
      · rfl
      · have := hv.1 rfl; exact absurd ⟨this.1, this.2.1⟩ h
    exact read_out n E c es w (by omega) _
end Go.Proofs.Tg
