/- Parts of the proof: GWE, GWF, GSpec, GWG, GWH, GSpecE. -/
import Derived.Laws.Tables
import Derived.IntWalk
import Derived.Laws.MakeOwn
import Derived.Test.YtodapfjmgnekkaaGreatDoorMU0
import Derived.Test.YtodapfjmgnekkaaGreatDoorMU1
section
/- Comparisons: cmp.Compare at int, cmp.Or of two numbers, edges. -/
namespace Go.Gr
def orI (a b : Int) : Int := if a = 0 then b else a
def cmpE (e f : Int × Int) : Int := orI (cmpI e.1 f.1) (cmpI e.2 f.2)
end Go.Gr
namespace Go.Proofs.Tg.Gx
open Go.RowKit Go.Gr
set_option maxHeartbeats 1000000
set_option maxRecDepth 100000
theorem nan_any (a : Int) (w : World) : Calls Tryz.prog 122 #[.int .i64 a] w fun e w' => e = .returned (.bool false) ∧ w = w' := by
  go_enter Tryz.func122, Tryz.ntmps122
  go_wp2
  go_ret
  exact ⟨by simp, rfl⟩
theorem cmp_any (a b : Int) (w : World) : Calls Tryz.prog 105 #[.int .i64 a, .int .i64 b] w fun e w' => e = .returned (.int .i64 (cmpI a b)) ∧ w = w' := by
  by_cases h1 : a < b
  · have e : cmpI a b = -1 := by unfold cmpI; rw [if_pos h1]
    rw [e]; clear e
    go_enter Tryz.func105, Tryz.ntmps105
    go_wp2_with (go_at_call 122; refine (nan_any _ _).mono ?_; rintro e w' ⟨rfl, rfl⟩)
    go_ret
    exact ⟨rfl, rfl⟩
  · by_cases h2 : b < a
    · have e : cmpI a b = 1 := by unfold cmpI; rw [if_neg h1, if_pos h2]
      rw [e]; clear e
      go_enter Tryz.func105, Tryz.ntmps105
      go_wp2_with (go_at_call 122; refine (nan_any _ _).mono ?_; rintro e w' ⟨rfl, rfl⟩)
      go_ret
      exact ⟨rfl, rfl⟩
    · have e : cmpI a b = 0 := by unfold cmpI; rw [if_neg h1, if_neg h2]
      rw [e]; clear e
      go_enter Tryz.func105, Tryz.ntmps105
      go_wp2_with (go_at_call 122; refine (nan_any _ _).mono ?_; rintro e w' ⟨rfl, rfl⟩)
      go_ret
      exact ⟨rfl, rfl⟩
theorem or_any (g : Nat) (a b : Int) (c : Nat) (w : World) (h0 : w.cell? ⟨g, 0, none⟩ = some (.int .i64 a)) (h1 : w.cell? ⟨g, 1, none⟩ = some (.int .i64 b)) :
    Calls Tryz.prog 104 #[.slice (some ⟨g, 0, none⟩) 2 c] w fun e w' => e = .returned (.int .i64 (orI a b)) ∧ w = w' := by
  go_enter Tryz.func104, Tryz.ntmps104
  go_wp2
  go_loop [8] (fun i => ∃ k : Nat, i = .int .i64 k ∧ k ≤ 2 ∧ (0 < k → Hid (a = 0)) ∧ (1 < k → Hid (b = 0))) (fun i => 2 - (intOf i).toNat)
  case atStart => exact ⟨0, rfl, by omega, by omega, by omega⟩
  case round =>
    obtain ⟨k, rfl, hk, ha, hb⟩ := hrel
    have : k = 0 ∨ k = 1 ∨ k = 2 := by omega
    rcases this with rfl | rfl | rfl
    · clear ha hb
      by_cases hz : a = 0
      · have hbb : (a != 0) = false := by simp [hz]
        have HZ := Lib.hid hz; clear hz
        go_wp2
        go_round
        case rel => exact ⟨1, rfl, by omega, fun _ => HZ, by omega⟩
        case measure => simp [intOf]
      · have hbb : (a != 0) = true := by simp [hz]
        have e : orI a b = a := by unfold orI; rw [if_neg hz]
        have HO := Lib.hid e; clear e hz
        go_wp2
        go_ret
        exact ⟨by rw [HO.out]; rfl, rfl⟩
    · have e : orI a b = b := by unfold orI; rw [if_pos (ha (by omega)).out]
      have HO := Lib.hid e; clear e hb
      by_cases hz : b = 0
      · have hbb : (b != 0) = false := by simp [hz]
        have HZ := Lib.hid hz; clear hz
        go_wp2
        go_round
        case rel => exact ⟨2, rfl, by omega, fun _ => ha (by omega), fun _ => HZ⟩
        case measure => simp [intOf]
      · have hbb : (b != 0) = true := by simp [hz]
        clear hz
        go_wp2
        go_ret
        exact ⟨by rw [HO.out]; rfl, rfl⟩
    · have e : orI a b = 0 := by unfold orI; rw [if_pos (ha (by omega)).out, (hb (by omega)).out]
      have HO := Lib.hid e; clear e ha hb
      go_wp2
      go_ret
      exact ⟨by rw [HO.out]; rfl, rfl⟩
theorem or_new (a b : Int) (g : Nat) (W : World) (hg : g = W.heap.size) :
    Calls Tryz.prog 104 #[.slice (some ⟨g, 0, none⟩) 2 2] (W.alloc (.cells #[.int .i64 a, .int .i64 b] 3)).drew fun e w' => e = .returned (.int .i64 (orI a b)) ∧ (W.alloc (.cells #[.int .i64 a, .int .i64 b] 3)).drew = w' := by
  subst hg
  exact or_any _ _ _ _ _ (Blk.cell (Blk.drew (Blk.new W 3 #[.int .i64 a, .int .i64 b])) 0) (Blk.cell (Blk.drew (Blk.new W 3 #[.int .i64 a, .int .i64 b])) 1)
theorem cmpE_any (a b c d : Int) (w : World) :
    Calls Tryz.prog 73 #[.agg #[.int .i64 a, .int .i64 b], .agg #[.int .i64 c, .int .i64 d]] w fun e w' => e = .returned (.int .i64 (cmpE (a, b) (c, d))) ∧ Below w.heap.size w w' := by
  go_enter Tryz.func73, Tryz.ntmps73
  go_wp2
  go_region_held3 (fun w' => w'.cell? ⟨w.heap.size, 0, none⟩ = some (.int .i64 a) ∧ w'.cell? ⟨w.heap.size, 1, none⟩ = some (.int .i64 b) ∧ w'.cell? ⟨w.heap.size + 1, 0, none⟩ = some (.int .i64 c) ∧ w'.cell? ⟨w.heap.size + 1, 1, none⟩ = some (.int .i64 d)) (go_keep)
    (first | (go_at_call 105; refine (cmp_any _ _ _).mono ?_; rintro e w' ⟨rfl, rfl⟩) | (go_at_call 104; refine (or_new (cmpI a c) (cmpI b d) (w.heap.size + 1 + 1) ((w.alloc (.cells #[.int .i64 a, .int .i64 b] 83)).alloc (.cells #[.int .i64 c, .int .i64 d] 83)) ?_).mono ?_; simp; rintro e w1 ⟨rfl, rfl⟩))
  go_wp2
  go_ret
  exact ⟨rfl, (((((Below.refl _ _).alloc (Nat.le_refl _) _).alloc (by simp) _).alloc (by simp; omega) _).drew)⟩
end Go.Proofs.Tg.Gx
end
section
/- Reading a graph into an adjacency. -/
namespace Go.Gr
def goodEdge (n : Int) (e : Int × Int) : Prop := 0 ≤ e.1 ∧ e.1 < e.2 ∧ e.2 < n
def readAll (es : List (Int × Int)) : Nat → Nat := es.foldl (fun A e => connect A e.1.toNat e.2.toNat) (fun _ => 0)
/-- The first k edges are valid: each good by itself, and each behind the one before. -/
def validTo (n : Int) (es : List (Int × Int)) (k : Nat) : Prop := ∀ i (h : i < es.length), i < k → goodEdge n es[i] ∧ (0 < i → cmpE (es[i - 1]'(by omega)) es[i] < 0)
def valid (n : Int) (es : List (Int × Int)) : Prop := 0 ≤ n ∧ n ≤ 64 ∧ validTo n es es.length
end Go.Gr
namespace Go.Proofs.Tg.Gx
open Go.RowKit Go.Gr
abbrev EdgesAt (w : World) (E : Option Addr) (es : List (Int × Int)) : Prop := Sl w E es.length 2 (ecells es)
theorem ecells_at : ∀ (es : List (Int × Int)) (k : Nat) (hk : k < es.length), (ecells es)[k * 2]? = some (vi es[k].1) ∧ (ecells es)[k * 2 + 1]? = some (vi es[k].2)
  | e :: es, 0, _ => by simp [ecells]
  | e :: es, k + 1, hk => by
    have := ecells_at es k (by simpa using hk)
    simp only [ecells, List.flatMap_cons, show (k + 1) * 2 = k * 2 + 1 + 1 from by omega, List.cons_append, List.nil_append, List.getElem?_cons_succ, List.getElem_cons_succ] at this ⊢
    exact this
theorem EdgesAt.at {w : World} {E : Option Addr} {es : List (Int × Int)} (h : EdgesAt w E es) {k : Nat} (hk : k < es.length) :
    ∃ ad, E = some ad ∧ w.cell? (ad.add (k * 2)) = some (.int .i64 es[k].1) ∧ w.cell? ⟨(ad.add (k * 2)).block, (ad.add (k * 2)).off + 1, none⟩ = some (.int .i64 es[k].2) := by
  obtain ⟨ad, rfl, _, hc⟩ := h.lies (by omega)
  obtain ⟨h1, h2⟩ := ecells_at es k hk
  have h2' := hc _ _ h2
  exact ⟨ad, rfl, hc _ _ h1, by rw [← add_add] at h2'; exact h2'⟩
theorem adj_alloc {ops : Array Oper} {rest : List Oper} {a : Act} {w : World} {Q : Exit → Act → World → Prop} (dst : Option Tmp) (ty : TypeId) (pos : String) (after : Array Edge)
    (h : wpList Tryz.prog ops Q rest (a.put dst (.pointer (some ⟨w.heap.size, 0, none⟩))) (w.alloc (.cells (adjA fun _ => 0) 89))) : wpList Tryz.prog ops Q (⟨dst, .alloc 89, ty, pos, after, none⟩ :: rest) a w := by
  refine wpList_plain rfl fun K hK => ?_
  have hr : (execOp a.eval ⟨dst, .alloc 89, ty, pos, after, none⟩).run Tryz.prog w = .ok (.value (.pointer (some ⟨w.heap.size, 0, none⟩))) (w.alloc (.cells (adjA fun _ => 0) 89)) := by kernel_rfl
  unfold Oper.wp
  rw [hr]
  exact hK _ _ h
theorem under56 : Tryz.prog.underlying 89 = some (.array 64 87) := by kernel_rfl
theorem size56 (A : Nat → Nat) : (Tryz.prog.info? 89).map (·.size) = some (adjA A).size := by rw [adjA_size]; kernel_rfl
theorem adj_one (A : Nat → Nat) : (adjA A).all (·.oneCell') = true := by
  rw [Array.all_eq_true_iff_forall_mem]
  intro x hx
  simp only [adjA, vs, List.mem_toArray, List.mem_map] at hx
  obtain ⟨i, _, rfl⟩ := hx
  rfl
theorem results_adj {fn : Func} {p q : Tmp} (h : fn.results = #[.cell p 89, .tmp q]) (tmps : Array Value) (w : World) (g : Nat) (A : Nat → Nat)
    (hp : tmps.getD p undef = .pointer (some ⟨g, 0, none⟩)) (hg : w.heap[g]? = some (.cells (adjA A) 89 (0, 0))) :
    (results fn tmps).run Tryz.prog w = .ok (.tuple #[.agg (adjA A), tmps.getD q undef]) w := by
  have hp' : tmps[p]?.getD undef = .pointer (some ⟨g, 0, none⟩) := by simpa using hp
  simp [results, h, hp', asAddr, run_loadVar_row w g 89 89 (adjA A) (0, 0) (.array 64 87) hg under56 rfl (size56 A)]
theorem below_setRow {B : Nat} {a w : World} (h : Below B a w) {g : Nat} (hg : B ≤ g) (cs : Array Value) : Below B a (w.setRow g cs) :=
  h.trans ⟨rfl, rfl, rfl, by simp, fun k hk => setRow_other w g k _ (by omega)⟩
def RetRead (b : Bool) (A : Nat → Nat) (w : World) (e : Ending) (w' : World) : Prop :=
  ∃ A', Small A' ∧ e = .returned (.tuple #[.agg (adjA A'), .bool b]) ∧ (b = true → A' = A) ∧ Below w.heap.size w w'
set_option maxHeartbeats 1000000
set_option maxRecDepth 100000
theorem validTo_succ {n : Int} {es : List (Int × Int)} {k : Nat} (hk : k < es.length) (h : validTo n es k) (hg : goodEdge n es[k]) (hc : 0 < k → cmpE (es[k - 1]'(by omega)) es[k] < 0) : validTo n es (k + 1) := by
  intro i hi hik
  by_cases e : i = k
  · subst e; exact ⟨hg, hc⟩
  · exact h i hi (by omega)
theorem readAll_succ {es : List (Int × Int)} {k : Nat} (hk : k < es.length) : readAll (es.take (k + 1)) = connect (readAll (es.take k)) es[k].1.toNat es[k].2.toNat := by
  unfold readAll
  rw [List.take_succ_eq_append_getElem hk, List.foldl_append]
  rfl
theorem read_any (n : Int) (E : Option Addr) (c : Nat) (es : List (Int × Int)) (b : Bool) (w : World) (hE : EdgesAt w E es) (hn0 : 0 ≤ n) (hn : n ≤ 64) (hl : es.length ≤ 1000000) (hv : b = true ↔ valid n es) :
    Calls Tryz.prog 45 #[.agg #[.int .i64 n, .slice E es.length c]] w (RetRead b (readAll es) w) := by
  have hd1 : decide (n < 0) = false := by simp; omega
  have hd2 : decide (64 < n) = false := by simp; omega
  have HV := Lib.hid hv
  clear hv
  go_enter Tryz.func45, Tryz.ntmps45
  go_wp2_with (refine adj_alloc _ _ _ _ ?_)
  go_loopw [19] (fun i wr => ∃ (k : Nat) (A : Nat → Nat), i = .int .i64 k ∧ k ≤ es.length ∧ Blk wr w.heap.size 40 #[.int .i64 n, .slice E es.length c] ∧ Blk wr (w.heap.size + 1) 89 (adjA fun _ => 0) ∧ AdjAt wr (w.heap.size + 1 + 1) A ∧ Small A ∧
      Hid (A = readAll (es.take k)) ∧ Hid (validTo n es k) ∧ Below w.heap.size w wr) (fun i _ => es.length - (intOf i).toNat)
  case atStart =>
    refine ⟨0, fun _ => 0, rfl, Nat.zero_le _, ?_, ?_, ?_, Small.zero, Lib.hid (by simp [readAll]), Lib.hid (fun i _ h => by omega), ?_⟩
    · exact ((Blk.new _ _ _).alloc _).alloc _
    · have := (Blk.new (w.alloc (Obj.cells #[Value.int IntKind.i64 n, Value.slice E es.length c] 40)) 89 (adjA fun _ => 0)).alloc (Obj.cells (adjA fun _ => 0) 89)
      simpa using this
    · have := Blk.new ((w.alloc (Obj.cells #[Value.int IntKind.i64 n, Value.slice E es.length c] 40)).alloc (Obj.cells (adjA fun _ => 0) 89)) 89 (adjA fun _ => 0)
      simpa using this
    · exact (((Below.refl _ _).alloc (Nat.le_refl _) _).alloc (by simp) _).alloc (by simp; omega) _
  case round =>
    obtain ⟨k, A, rfl, hk, hb1, hb2, hb4, hS, HA, HT, hb⟩ := hrel
    by_cases hlt : k < es.length
    · obtain ⟨ad, rfl, hc1, hc2⟩ := EdgesAt.at (hE.keep hb) hlt
      have hprev : 0 < k → ∃ x0 y0 : Int, Hid (es[k - 1]'(by omega) = (x0, y0)) ∧ wr.cell? (ad.add ((k - 1) * 2)) = some (.int .i64 x0) ∧ wr.cell? ⟨(ad.add ((k - 1) * 2)).block, (ad.add ((k - 1) * 2)).off + 1, none⟩ = some (.int .i64 y0) := by
        intro h0
        obtain ⟨ad', e, g1, g2⟩ := EdgesAt.at (hE.keep hb) (k := k - 1) (by omega)
        injection e with e
        subst e
        exact ⟨_, _, Lib.hid rfl, g1, g2⟩
      obtain ⟨x, y, hp⟩ : ∃ x y, es[k] = (x, y) := ⟨_, _, rfl⟩
      have HP := Lib.hid hp
      rw [hp] at hc1 hc2
      clear hp
      simp only at hc1 hc2
      have hb1l := hb1.lt
      obtain ⟨bad, HB⟩ : ∃ bad : Bool, Hid (bad = false ↔ goodEdge n (x, y) ∧ (0 < k → cmpE (es[k - 1]'(by omega)) (x, y) < 0)) := by
        by_cases h : goodEdge n (x, y) ∧ (0 < k → cmpE (es[k - 1]'(by omega)) (x, y) < 0)
        · exact ⟨false, by simpa [Hid] using h⟩
        · exact ⟨true, by simpa [Hid] using h⟩
      go_upto_region 7 with fail
      go_cut [55] (fun s55 wx => s55 = .bool bad ∧ Below (wr.heap.size + 1) (wr.alloc (.cells #[.int .i64 x, .int .i64 y] 83)) wx)
      case first =>
        have h10 := hb1.cell 0
        have h11 := hb1.cell 1
        simp at h10 h11
        clear hE HA HT hb2 hb4 HV hc1 hc2 hb1
        by_cases hx : x < 0
        · have d1 : decide (x < 0) = true := by simpa using hx
          obtain rfl : bad = true := by
            cases bad
            · exact absurd (HB.out.1 rfl).1.1 (by simp; omega)
            · rfl
          clear HB hprev
          go_quiet (fail)
          go_wp2_with fail
          go_meet
          exact ⟨rfl, below_drewN (Below.refl _ _) _⟩
        · have d1 : decide (x < 0) = false := by simpa using hx
          by_cases hxy : y ≤ x
          · have d2 : decide (y ≤ x) = true := by simpa using hxy
            obtain rfl : bad = true := by
              cases bad
              · exact absurd (HB.out.1 rfl).1.2.1 (by simp; omega)
              · rfl
            clear HB hprev
            go_quiet (fail)
            go_wp2_with fail
            go_meet
            exact ⟨rfl, below_drewN (Below.refl _ _) _⟩
          · have d2 : decide (y ≤ x) = false := by simpa using hxy
            by_cases hyn : n ≤ y
            · have d3 : decide (n ≤ y) = true := by simpa using hyn
              obtain rfl : bad = true := by
                cases bad
                · exact absurd (HB.out.1 rfl).1.2.2 (by simp; omega)
                · rfl
              clear HB hprev
              go_quiet (fail)
              go_wp2_with fail
              go_meet
              exact ⟨rfl, below_drewN (Below.refl _ _) _⟩
            · have d3 : decide (n ≤ y) = false := by simpa using hyn
              by_cases hk0 : k = 0
              · subst hk0
                obtain rfl : bad = false := HB.out.2 ⟨⟨by simp; omega, by simp; omega, by simp; omega⟩, by omega⟩
                clear HB hprev
                go_quiet (fail)
                go_wp2_with fail
                go_meet
                exact ⟨rfl, below_drewN (Below.refl _ _) _⟩
              · have hkp : 0 < k := by omega
                obtain ⟨x0, y0, HP0, hq1, hq2⟩ := hprev hkp
                clear hprev
                have d4 : decide ((0 : Int) < (k : Int)) = true := by simp; omega
                have k0 : (0 : Int) ≤ (k : Int) - 1 := by omega
                have k1 : (k : Int) - 1 < (es.length : Int) := by omega
                have HB2 : Hid (bad = decide (0 ≤ cmpE (x0, y0) (x, y))) := by
                  refine Lib.hid ?_
                  have h := HB.out
                  rw [HP0.out] at h
                  cases bad
                  · have := (h.1 rfl).2 hkp; simp; omega
                  · by_cases hc : cmpE (x0, y0) (x, y) < 0
                    · exact absurd (h.2 ⟨⟨by simp; omega, by simp; omega, by simp; omega⟩, fun _ => hc⟩) (by simp)
                    · simp; omega
                clear HB hk0 HP HP0
                have HS : Hid ((wr.alloc (.cells #[.int .i64 x, .int .i64 y] 83)).cell? ⟨wr.heap.size, 0, none⟩ = some (.int .i64 x) ∧ (wr.alloc (.cells #[.int .i64 x, .int .i64 y] 83)).cell? ⟨wr.heap.size, 1, none⟩ = some (.int .i64 y)) :=
                  ⟨Blk.cell (Blk.new wr 83 #[.int .i64 x, .int .i64 y]) 0, Blk.cell (Blk.new wr 83 #[.int .i64 x, .int .i64 y]) 1⟩
                have k2 : (1 : Int) ≤ (k : Int) := by omega
                have k3 : ((k : Int) - 1).toNat = k - 1 := by omega
                have k4 : IntKind.i64.wrap ((k : Int) - 1) = (k : Int) - 1 := IntWalk.i64_in _ (by omega)
                go_region_held3 (fun w' => w'.cell? ⟨wr.heap.size, 0, none⟩ = some (.int .i64 x) ∧ w'.cell? ⟨wr.heap.size, 1, none⟩ = some (.int .i64 y) ∧ w'.cell? ⟨w.heap.size, 0, none⟩ = some (.int .i64 n) ∧ w'.cell? ⟨w.heap.size, 1, none⟩ = some (.slice (some ad) es.length c) ∧
                    w'.cell? (ad.add ((k - 1) * 2)) = some (.int .i64 x0) ∧ w'.cell? ⟨(ad.add ((k - 1) * 2)).block, (ad.add ((k - 1) * 2)).off + 1, none⟩ = some (.int .i64 y0)) (first | go_keep | exact ⟨keep_cell hbc HS.out.1, keep_cell hbc HS.out.2, keep_cell hbc (cell_alloc h10 _), keep_cell hbc (cell_alloc h11 _), keep_cell hbc (cell_alloc hq1 _), keep_cell hbc (cell_alloc hq2 _)⟩)
                  (first | (go_at_call 73; refine (cmpE_any _ _ _ _ _).mono ?_; rintro e w' ⟨rfl, hbc⟩))
                go_wp2_with fail
                go_meet
                exact ⟨by rw [HB2.out], (below_of_drew hbc).mono (by simp)⟩
      case rest =>
        obtain ⟨rfl, hbx⟩ := hcut
        have hbl := hb.size
        have l2 := hb2.lt
        have l4 := Blk.lt hb4
        have B1 := (hb1.alloc (.cells #[.int .i64 x, .int .i64 y] 83)).keep hbx (by omega)
        have B2 := (hb2.alloc (.cells #[.int .i64 x, .int .i64 y] 83)).keep hbx (by omega)
        have B4 := (Blk.alloc hb4 (.cells #[.int .i64 x, .int .i64 y] 83)).keep hbx (by omega)
        have B6 := (Blk.new wr 83 #[.int .i64 x, .int .i64 y]).keep hbx (by omega)
        have hbw : Below w.heap.size w wc := (hb.alloc hbl _).trans (hbx.mono (by omega))
        clear hb1 hb2 hb4 hb hbx hc1 hc2 hprev hE
        cases bad
        · have c0 := B6.cell 0
          have c1 := B6.cell 1
          simp at c0 c1
          obtain ⟨⟨p1, p2, p3⟩, p4⟩ := HB.out.1 rfl
          simp only at p1 p2 p3
          obtain ⟨i, rfl⟩ := Int.eq_ofNat_of_zero_le p1
          obtain ⟨j, rfl⟩ := Int.eq_ofNat_of_zero_le (show 0 ≤ y by omega)
          go_wp2_with (go_at_call 74; refine (connect_any _ _ _ A _ B4 hS (by omega) (by omega)).mono ?_; rintro e w1 ⟨rfl, hA1, hg1⟩)
          go_roundw
          case rel =>
            refine ⟨k + 1, connect A i j, by go_num, by omega, B1.grown hg1 (fun h => by injection h with h; omega), B2.grown hg1 (fun h => by injection h with h; omega), hA1, hS.connect (by omega) (by omega), Lib.hid ?_, Lib.hid (validTo_succ hlt HT.out ?_ ?_), hbw.grown hg1 hbw.size (fun q hq => by injection hq with hq; omega)⟩
            · rw [readAll_succ hlt, HP.out, ← HA.out]; rfl
            · rw [HP.out]; exact ⟨p1, p2, p3⟩
            · intro h0; rw [HP.out]; exact p4 h0
          case measure => simp [intOf]; omega
        · obtain rfl : b = false := by
            cases b
            · rfl
            · have := ((HV.out.1 rfl).2.2 k hlt hlt)
              rw [HP.out] at this
              exact absurd (HB.out.2 this) (by simp)
          go_wp2_with (first | (refine wpList_load_row rfl 89 (.tmp 4) rfl (w.heap.size + 1 + 1) rfl 89 (adjA A) (0, 0) (.array 64 87) B4 under56 rfl (size56 A) ?_) | (refine wpList_store_row rfl 89 (.tmp 2) (.tmp 56) rfl (w.heap.size + 1) (adjA A) rfl rfl 89 (adjA fun _ => 0) B2 (size56 A) (by simp only [adjA_size]) (adj_one A) ?_))
          exact bodyPost_ret (v := .tuple #[.agg (adjA A), .bool false]) (results_adj (p := 2) (q := 3) rfl _ _ (w.heap.size + 1) A rfl (setRow_heap wc _ _ _ _ _ B2)) rfl ⟨A, hS, rfl, by simp, below_setRow hbw (by omega) _⟩
    · obtain rfl : k = es.length := by omega
      obtain rfl : b = true := HV.out.2 ⟨hn0, hn, HT.out⟩
      go_wp2_with (first | (refine wpList_load_row rfl 89 (.tmp 4) rfl (w.heap.size + 1 + 1) rfl 89 (adjA A) (0, 0) (.array 64 87) hb4 under56 rfl (size56 A) ?_) | (refine wpList_store_row rfl 89 (.tmp 2) (.tmp 63) rfl (w.heap.size + 1) (adjA A) rfl rfl 89 (adjA fun _ => 0) hb2 (size56 A) (by simp only [adjA_size]) (adj_one A) ?_))
      exact bodyPost_ret (v := .tuple #[.agg (adjA A), .bool true]) (results_adj (p := 2) (q := 3) rfl _ _ (w.heap.size + 1) A rfl (setRow_heap wr _ _ _ _ _ hb2)) rfl ⟨A, hS, rfl, fun _ => by rw [HA.out, List.take_length], below_setRow hb (by omega) _⟩
theorem read_out (n : Int) (E : Option Addr) (c : Nat) (es : List (Int × Int)) (w : World) (hn : n < 0 ∨ 64 < n) (A : Nat → Nat) :
    Calls Tryz.prog 45 #[.agg #[.int .i64 n, .slice E es.length c]] w (RetRead false A w) := by
  have fin : ∀ W : World, Below w.heap.size w W → Blk W (w.heap.size + 1) 89 (adjA fun _ => 0) → RetRead false A w (.returned (.tuple #[.agg (adjA fun _ => 0), .bool false])) (W.setRow (w.heap.size + 1) (adjA fun _ => 0)) :=
    fun W hb _ => ⟨_, Small.zero, rfl, by simp, below_setRow hb (by omega) _⟩
  have b2 : Blk (((w.alloc (.cells #[.int .i64 n, .slice E es.length c] 40)).alloc (.cells (adjA fun _ => 0) 89)).alloc (.cells (adjA fun _ => 0) 89)) (w.heap.size + 1) 89 (adjA fun _ => 0) := by
    have := (Blk.new (w.alloc (.cells #[.int .i64 n, .slice E es.length c] 40)) 89 (adjA fun _ => 0)).alloc (.cells (adjA fun _ => 0) 89)
    simpa using this
  have b4 : Blk (((w.alloc (.cells #[.int .i64 n, .slice E es.length c] 40)).alloc (.cells (adjA fun _ => 0) 89)).alloc (.cells (adjA fun _ => 0) 89)) (w.heap.size + 1 + 1) 89 (adjA fun _ => 0) := by
    have := Blk.new ((w.alloc (.cells #[.int .i64 n, .slice E es.length c] 40)).alloc (.cells (adjA fun _ => 0) 89)) 89 (adjA fun _ => 0)
    simpa using this
  have hb : Below w.heap.size w (((w.alloc (.cells #[.int .i64 n, .slice E es.length c] 40)).alloc (.cells (adjA fun _ => 0) 89)).alloc (.cells (adjA fun _ => 0) 89)) :=
    (((Below.refl _ _).alloc (Nat.le_refl _) _).alloc (by simp) _).alloc (by simp; omega) _
  have HF := Lib.hid (fin _ hb b2)
  have H2 := Lib.hid b2
  have H4 := Lib.hid b4
  clear fin b2 b4 hb
  by_cases h1 : n < 0
  · have hd1 : decide (n < 0) = true := by simpa using h1
    clear hn
    go_enter Tryz.func45, Tryz.ntmps45
    go_wp2_with (first | (refine adj_alloc _ _ _ _ ?_) | (refine wpList_load_row rfl 89 (.tmp 4) rfl (w.heap.size + 1 + 1) rfl 89 (adjA fun _ => 0) (0, 0) (.array 64 87) H4.out under56 rfl (size56 _) ?_) | (refine wpList_store_row rfl 89 (.tmp 2) (.tmp 15) rfl (w.heap.size + 1) (adjA fun _ => 0) rfl rfl 89 (adjA fun _ => 0) H2.out (size56 _) (by simp only [adjA_size]) (adj_one _) ?_))
    exact bodyPost_ret (v := .tuple #[.agg (adjA fun _ => 0), .bool false]) (results_adj (p := 2) (q := 3) rfl _ _ (w.heap.size + 1) (fun _ => 0) rfl (setRow_heap _ _ _ _ _ _ H2.out)) rfl HF.out
  · have hd1 : decide (n < 0) = false := by simpa using h1
    have hd2 : decide (64 < n) = true := by simp; omega
    clear hn
    go_enter Tryz.func45, Tryz.ntmps45
    go_wp2_with (first | (refine adj_alloc _ _ _ _ ?_) | (refine wpList_load_row rfl 89 (.tmp 4) rfl (w.heap.size + 1 + 1) rfl 89 (adjA fun _ => 0) (0, 0) (.array 64 87) H4.out under56 rfl (size56 _) ?_) | (refine wpList_store_row rfl 89 (.tmp 2) (.tmp 15) rfl (w.heap.size + 1) (adjA fun _ => 0) rfl rfl 89 (adjA fun _ => 0) H2.out (size56 _) (by simp only [adjA_size]) (adj_one _) ?_))
    exact bodyPost_ret (v := .tuple #[.agg (adjA fun _ => 0), .bool false]) (results_adj (p := 2) (q := 3) rfl _ _ (w.heap.size + 1) (fun _ => 0) rfl (setRow_heap _ _ _ _ _ _ H2.out)) rfl HF.out
theorem read_all (n : Int) (E : Option Addr) (c : Nat) (es : List (Int × Int)) (b : Bool) (w : World) (hE : EdgesAt w E es) (hl : es.length ≤ 1000000) (hv : b = true ↔ valid n es) :
    Calls Tryz.prog 45 #[.agg #[.int .i64 n, .slice E es.length c]] w (RetRead b (readAll es) w) := by
  by_cases h : 0 ≤ n ∧ n ≤ 64
  · exact read_any n E c es b w hE h.1 h.2 hl hv
  · obtain rfl : b = false := by
      cases b
      · rfl
      · have := hv.1 rfl; exact absurd ⟨this.1, this.2.1⟩ h
    exact read_out n E c es w (by omega) _
end Go.Proofs.Tg.Gx
end
section
/- Plain functions that say what package graph computes, and their first properties. -/
namespace Go.Gr

theorem mem_verts {s i : Nat} : i ∈ verts s ↔ i < 64 ∧ s.testBit i = true := by simp [verts]
theorem bset_bit (s i j : Nat) : (bset s i).testBit j = (s.testBit j || decide (i = j)) := by
  unfold bset
  rw [Nat.testBit_or, Nat.one_shiftLeft, Nat.testBit_two_pow]
theorem andn_bit (a b j : Nat) (hb : b < 18446744073709551616) (hj : j < 64) : (andn a b).testBit j = (a.testBit j && !b.testBit j) := by
  unfold andn
  rw [Nat.testBit_and]
  have : (18446744073709551615 - b).testBit j = !b.testBit j := by
    have h := Nat.testBit_two_pow_sub_succ (n := 64) (x := b) (by omega) j
    rw [show 2 ^ 64 - (b + 1) = 18446744073709551615 - b from by omega] at h
    rw [h]; simp [hj]
  rw [this]
theorem bclr_bit (s i j : Nat) (hi : i < 64) (hj : j < 64) : (bclr s i).testBit j = (s.testBit j && !decide (i = j)) := by
  unfold bclr
  rw [andn_bit _ _ _ (shl_lt i hi) hj, Nat.one_shiftLeft, Nat.testBit_two_pow]
theorem firstN_bit (n j : Nat) : (firstN n).testBit j = decide (j < n) := by
  unfold firstN
  rw [Nat.one_shiftLeft, Nat.testBit_two_pow_sub_one]
theorem high_bit {s j : Nat} (hs : s < 18446744073709551616) (hj : 64 ≤ j) : s.testBit j = false :=
  Nat.testBit_lt_two_pow (Nat.lt_of_lt_of_le hs (Nat.pow_le_pow_right (n := 2) (by omega) hj))

/-- One step of the choice of the next vertex of a maximum cardinality search. -/
def bestStep (A : Nat → Nat) (vis : Nat) (bm : Int × Int) (v : Nat) : Int × Int :=
  if vis.testBit v = false ∧ bm.2 < (size (A v &&& vis) : Nat) then ((v : Int), ((size (A v &&& vis) : Nat) : Int)) else bm
def best (A : Nat → Nat) (vis n : Nat) : Int × Int := (List.range n).foldl (bestStep A vis) (-1, -1)
theorem best_succ (A : Nat → Nat) (vis n : Nat) : best A vis (n + 1) = bestStep A vis (best A vis n) n := by
  simp [best, List.range_succ, List.foldl_append]
/-- What the choice comes to: nothing, or the first of the vertices with the most. -/
theorem best_spec (A : Nat → Nat) (vis : Nat) : ∀ n, (best A vis n = (-1, -1) ∧ ∀ v, v < n → vis.testBit v = true) ∨
    ∃ v, v < n ∧ vis.testBit v = false ∧ best A vis n = ((v : Int), ((size (A v &&& vis) : Nat) : Int)) ∧ (∀ u, u < n → vis.testBit u = false → size (A u &&& vis) ≤ size (A v &&& vis)) ∧
      (∀ u, u < v → vis.testBit u = false → size (A u &&& vis) < size (A v &&& vis))
  | 0 => .inl ⟨rfl, fun _ h => by omega⟩
  | n + 1 => by
    rw [best_succ]
    rcases best_spec A vis n with ⟨h1, h2⟩ | ⟨v, hv, hf, he, hm, hfst⟩
    · rw [h1]
      by_cases hn : vis.testBit n = true
      · left
        refine ⟨by simp [bestStep, hn], fun v hv => ?_⟩
        by_cases e : v = n
        · rw [e]; exact hn
        · exact h2 v (by omega)
      · right
        have hn' : vis.testBit n = false := by simpa using hn
        refine ⟨n, by omega, hn', by unfold bestStep; rw [if_pos ⟨hn', by simp; omega⟩], fun u hu hu2 => ?_, fun u hu hu2 => ?_⟩
        · by_cases e : u = n
          · rw [e]; exact Nat.le_refl _
          · rw [h2 u (by omega)] at hu2; cases hu2
        · rw [h2 u hu] at hu2; cases hu2
    · right
      rw [he]
      by_cases hc : vis.testBit n = false ∧ size (A v &&& vis) < size (A n &&& vis)
      · refine ⟨n, by omega, hc.1, by unfold bestStep; rw [if_pos ⟨hc.1, by simp; omega⟩], fun u hu hu2 => ?_, fun u hu hu2 => ?_⟩
        · by_cases e : u = n
          · rw [e]; exact Nat.le_refl _
          · have := hm u (by omega) hu2; omega
        · have := hm u hu hu2; omega
      · refine ⟨v, by omega, hf, by unfold bestStep; rw [if_neg]; intro ⟨h1, h2⟩; exact hc ⟨h1, by simp at h2; omega⟩, fun u hu hu2 => ?_, hfst⟩
        by_cases e : u = n
        · subst e
          by_cases hlt : size (A v &&& vis) < size (A u &&& vis)
          · exact absurd ⟨hu2, hlt⟩ hc
          · omega
        · exact hm u (by omega) hu2

/-- The visited set and the order after r rounds. -/
def searchTo (A : Nat → Nat) (n : Nat) : Nat → Nat × List Nat
  | 0 => (0, [])
  | r + 1 => (bset (searchTo A n r).1 (best A (searchTo A n r).1 n).1.toNat, (searchTo A n r).2 ++ [(best A (searchTo A n r).1 n).1.toNat])
def search (A : Nat → Nat) (n : Nat) : List Nat := (searchTo A n n).2

theorem cover_le : ∀ (n : Nat) (l : List Nat), (∀ v, v < n → v ∈ l) → n ≤ l.length
  | 0, _, _ => by omega
  | n + 1, l, h => by
    have hm := h n (by omega)
    have h2 := cover_le n (l.erase n) (fun v hv => (List.mem_erase_of_ne (by omega)).2 (h v (by omega)))
    rw [List.length_erase_of_mem hm] at h2
    have : 0 < l.length := List.length_pos_of_mem hm
    omega
structure Visits (A : Nat → Nat) (n r : Nat) : Prop where
  len : (searchTo A n r).2.length = r
  bits : ∀ i, (searchTo A n r).1.testBit i = true ↔ i ∈ (searchTo A n r).2
  lt : ∀ i ∈ (searchTo A n r).2, i < n
  small : (searchTo A n r).1 < 18446744073709551616
  nodup : (searchTo A n r).2.Nodup
theorem best_of {A : Nat → Nat} {n r : Nat} (h : Visits A n r) (hr : r < n) : ∃ v, v < n ∧ (searchTo A n r).1.testBit v = false ∧
    best A (searchTo A n r).1 n = ((v : Int), ((size (A v &&& (searchTo A n r).1) : Nat) : Int)) ∧ (∀ u, u < n → (searchTo A n r).1.testBit u = false → size (A u &&& (searchTo A n r).1) ≤ size (A v &&& (searchTo A n r).1)) ∧
      (∀ u, u < v → (searchTo A n r).1.testBit u = false → size (A u &&& (searchTo A n r).1) < size (A v &&& (searchTo A n r).1)) := by
  rcases best_spec A (searchTo A n r).1 n with ⟨_, h2⟩ | h
  · exfalso
    have := cover_le n (searchTo A n r).2 (fun v hv => (h.bits v).1 (h2 v hv))
    have := h.len
    omega
  · exact h
theorem visits {A : Nat → Nat} {n : Nat} (hn : n ≤ 64) : ∀ r, r ≤ n → Visits A n r
  | 0, _ => ⟨rfl, by simp [searchTo], by simp [searchTo], by simp [searchTo], by simp [searchTo]⟩
  | r + 1, hr => by
    have ih := visits (A := A) hn r (by omega)
    obtain ⟨v, hv, hf, he, _⟩ := best_of ih (by omega)
    have e : searchTo A n (r + 1) = (bset (searchTo A n r).1 v, (searchTo A n r).2 ++ [v]) := by
      simp only [searchTo, he]; rfl
    refine ⟨?_, ?_, ?_, ?_, ?_⟩
    · rw [e]; simp [ih.len]
    · intro i
      rw [e]
      simp only [bset_bit, Bool.or_eq_true, decide_eq_true_eq, List.mem_append, List.mem_singleton, ih.bits]
      constructor
      · rintro (h | h)
        · exact .inl h
        · exact .inr h.symm
      · rintro (h | h)
        · exact .inl h
        · exact .inr h.symm
    · intro i hi
      rw [e] at hi
      simp only [List.mem_append, List.mem_singleton] at hi
      rcases hi with h | h
      · exact ih.lt i h
      · omega
    · rw [e]; exact bset_lt ih.small (by omega)
    · rw [e]
      rw [List.nodup_append]
      refine ⟨ih.nodup, by simp, fun a ha b hb => ?_⟩
      simp at hb
      subst hb
      rintro rfl
      have := (ih.bits a).2 ha
      rw [hf] at this
      cases this
/-- For each vertex of an order, the neighbours that come ahead of it. -/
def earlierFrom (A : Nat → Nat) : Nat → List Nat → List Nat
  | _, [] => []
  | vis, v :: l => (A v &&& vis) :: earlierFrom A (bset vis v) l
def earlier (A : Nat → Nat) (l : List Nat) : List Nat := earlierFrom A 0 l
def isClique (A : Nat → Nat) (s : Nat) : Bool := (verts s).all fun v => decide (andn (bclr s v) (A v) = 0)
def isChordal (A : Nat → Nat) (n : Nat) : Bool := (earlier A (search A n)).all (isClique A)
end Go.Gr
end
section
/- Maximum cardinality search. -/
namespace Go.Proofs.Tg.Gx
open Go.RowKit Go.Gr
theorem make_ints (l n : Nat) (hl : l ≤ n) (hn : n ≤ 1000000) (w : World) : (Instr.makeSlice 36 (.int .i64 (l : Int)) (.int .i64 (n : Int))).run Tryz.prog w = .ok (.slice (some ⟨w.heap.size, 0, none⟩) l n) (w.alloc (.cells (madeCells #[.int .i64 0] n) 3)) := by
  obtain ⟨i0, hi, hz0, hz1, hz2⟩ := info_parts int_info
  have hr := run_make (P := Tryz.prog) w 36 3 i0 (.int .i64 0) Tryz.underlying36 hi hz0 .i64 .i64 l n (by omega) (by omega) (by rw [hz2]; omega) (by omega)
  rw [hz1, Nat.mul_one, Int.toNat_natCast, Int.toNat_natCast] at hr
  exact hr
set_option maxHeartbeats 1000000
set_option maxRecDepth 100000
theorem search_any (g n : Nat) (A : Nat → Nat) (w : World) (hA : AdjAt w g A) (hS : Small A) (hn : n ≤ 64) :
    Calls Tryz.prog 93 #[.pointer (some ⟨g, 0, none⟩), .int .i64 n] w (RetOwn 3 (search A n).length 1 ((search A n).map vn) w) := by
  obtain ⟨i0, hi, hz0, hz1, hz2⟩ := info_parts int_info
  have hgl := Blk.lt hA
  have hmk := fun W => make_ints 0 n (by omega) (by omega) W
  simp only [Int.natCast_zero] at hmk
  go_enter Tryz.func93, Tryz.ntmps93
  go_wp2
  clear hmk
  go_loopw [14, 6, 5] (fun i s v wr => ∃ (k : Nat) (V : Option Addr) (c : Nat), i = .int .i64 k ∧ k ≤ n ∧ s = .int .u64 ((searchTo A n k).1 : Nat) ∧ v = .slice V k c ∧ wr.ownsRow w.heap.size 3 1 (.slice V k c) k ((searchTo A n k).2.map vn) ∧ Below w.heap.size w wr) (fun i _ _ _ => n - (intOf i).toNat)
  case atStart =>
    refine ⟨0, _, _, rfl, Nat.zero_le _, rfl, rfl, ?_, ?_⟩
    · exact World.ownsRow_made _ _ _ (Nat.le_refl _) (by simp only [maxLen]; omega) (by simp [size_madeCells])
    · exact (Below.refl _ _).alloc (Nat.le_refl _) _
  case round =>
    obtain ⟨wo, rfl⟩ : ∃ wo : World, wo = wr := ⟨_, rfl⟩
    obtain ⟨k, V, c, rfl, hk, rfl, rfl, hown, hb⟩ := hrel
    have hvis := visits (A := A) hn k hk
    by_cases hlt : k < n
    · obtain ⟨v, hv, hf, he, -⟩ := best_of hvis hlt
      have hsm := hvis.small
      have HS : Hid (searchTo A n (k + 1) = (bset (searchTo A n k).1 v, (searchTo A n k).2 ++ [v])) := by
        refine Lib.hid ?_
        simp only [searchTo, he]; rfl
      have HE := Lib.hid he
      have hll := hvis.len
      clear hf he hvis
      generalize (searchTo A n k).1 = vis at HS hsm HE ⊢
      generalize (searchTo A n k).2 = out at HS hll hown
      have hA' := hA.keep hb hgl
      go_wp2
      go_loop [17, 7, 8] (fun i b m => ∃ j : Nat, i = .int .i64 j ∧ j ≤ n ∧ b = .int .i64 (best A vis j).1 ∧ m = .int .i64 (best A vis j).2) (fun i _ _ => n - (intOf i).toNat)
      case atStart => exact ⟨0, rfl, Nat.zero_le _, rfl, rfl⟩
      case round =>
        obtain ⟨j, rfl, hj, rfl, rfl⟩ := hrel
        by_cases hjn : j < n
        · have hc := AdjAt.cell hA' (i := j) (by omega)
          have hsj := hS j
          have hand := u64_and_nat (A j) vis hsj hsm
          have hal := and_lt vis hsj
          have hsz : size (A j &&& vis) ≤ 64 := size_le _
          obtain ⟨bb, mm, hbm⟩ : ∃ bb mm : Int, best A vis j = (bb, mm) := ⟨_, _, rfl⟩
          have HN : Hid (best A vis (j + 1) = bestStep A vis (bb, mm) j) := by rw [← hbm]; exact best_succ A vis j
          rw [hbm]
          clear hbm
          unfold bestStep at HN
          generalize hq : size (A j &&& vis) = q at HN hsz
          have HQ := Lib.hid hq
          clear hq
          simp only
          by_cases h1 : vis.testBit j = true
          · have hN : best A vis (j + 1) = (bb, mm) := by rw [HN.out, if_neg (by simp [h1])]
            have HN2 := Lib.hid hN
            clear HN hN
            go_wp2_with (first | (go_at_call 90; refine (size_any _ _ hal).mono ?_; rintro e w' ⟨rfl, rfl⟩; rw [HQ.out]) | (go_at_call 46; refine (has_any _ _ _ hsm (by omega)).mono ?_; rintro e w' ⟨rfl, rfl⟩))
            go_round
            case rel => exact ⟨j + 1, by go_num, by omega, by rw [HN2.out], by rw [HN2.out]⟩
            case measure => simp [intOf]; omega
          · have h1' : vis.testBit j = false := by simpa using h1
            clear h1
            by_cases h2 : mm < (q : Int)
            · have hN : best A vis (j + 1) = ((j : Int), (q : Int)) := by rw [HN.out, if_pos ⟨h1', h2⟩]
              have HN2 := Lib.hid hN
              have h2' : decide (mm < (q : Int)) = true := by simpa using h2
              clear HN hN
              go_wp2_with (first | (go_at_call 90; refine (size_any _ _ hal).mono ?_; rintro e w' ⟨rfl, rfl⟩; rw [HQ.out]) | (go_at_call 46; refine (has_any _ _ _ hsm (by omega)).mono ?_; rintro e w' ⟨rfl, rfl⟩))
              go_round
              case rel => exact ⟨j + 1, by go_num, by omega, by rw [HN2.out], by rw [HN2.out]⟩
              case measure => simp [intOf]; omega
            · have hN : best A vis (j + 1) = (bb, mm) := by rw [HN.out, if_neg (fun h => h2 h.2)]
              have HN2 := Lib.hid hN
              have h2' : decide (mm < (q : Int)) = false := by simpa using h2
              clear HN hN
              go_wp2_with (first | (go_at_call 90; refine (size_any _ _ hal).mono ?_; rintro e w' ⟨rfl, rfl⟩; rw [HQ.out]) | (go_at_call 46; refine (has_any _ _ _ hsm (by omega)).mono ?_; rintro e w' ⟨rfl, rfl⟩))
              go_round
              case rel => exact ⟨j + 1, by go_num, by omega, by rw [HN2.out], by rw [HN2.out]⟩
              case measure => simp [intOf]; omega
        · obtain rfl : j = n := by omega
          rw [HE.out]
          simp only
          have hszo := hb.size
          go_wp2_with (first
            | (go_at_call 47; refine (with_any _ _ _ hsm (by omega)).mono ?_; rintro e w' ⟨rfl, rfl⟩)
            | (at_builtin; refine wpList_append_own _ rfl _ _ 36 rfl w.heap.size 3 i0 (.int .i64 0) 1 8 Tryz.underlying36 hi hz0 hz1 hz2 rfl (by decide) (.slice V k c) k (out.map vn) rfl (hown.alloc _) ⟨wo.heap.size, 0, none⟩ 1 1 [.int .i64 v] rfl rfl ?c1 ?c2 ?c3 ?c4 ?c5 ?_
               case c1 => exact cell_one_new _ _ _
               case c2 => simp [Value.oneCell']
               case c3 => simp only [maxLen]; omega
               case c4 => omega
               case c5 => simp; omega
               intro v' w1 hown' hgrow _
               obtain ⟨V2, c2, hv2, _, _⟩ := Sl.of_own hown'
               subst hv2))
          go_roundw
          case rel =>
            refine ⟨k + 1, V2, c2, by go_num, by omega, by rw [HS.out], rfl, ?_, (hb.alloc hszo _).grown hgrow (by simp; omega) (fun q hq => (hown.lt q hq).1)⟩
            rw [HS.out]
            simpa [vn] using hown'
          case measure => simp [intOf]; omega
    · obtain rfl : k = n := by omega
      have hll := hvis.len
      clear hvis
      go_wp2
      go_ret
      obtain ⟨_, _, hvv, hcc, _⟩ := Sl.of_own hown
      injection hvv with e1 e2 e3
      refine ⟨V, c, ?_, ?_, ?_, hb⟩
      · show Ending.returned (.slice V k c) = _
        unfold search; rw [hll]
      · unfold search; rw [hll, e3]; exact hcc
      · unfold search; rw [hll]; exact hown
end Go.Proofs.Tg.Gx
end
section
/- The neighbours ahead of each vertex of an order; cliques; the test for chordal graphs. -/
namespace Go.Gr
theorem earlierFrom_len (A : Nat → Nat) : ∀ (l : List Nat) (vis : Nat), (earlierFrom A vis l).length = l.length
  | [], _ => rfl
  | _ :: l, vis => by simp [earlierFrom, earlierFrom_len A l]
end Go.Gr
namespace Go.Proofs.Tg.Gx
open Go.RowKit Go.Gr
theorem set_info : (Tryz.prog.info? 87).map (fun i => (i.zero, i.size, i.bytes)) = some (some (.int .u64 0), 1, 8) := by kernel_rfl
theorem make_sets (n : Nat) (hn : n ≤ 1000000) (w : World) : (Instr.makeSlice 148 (.int .i64 (n : Int)) (.int .i64 (n : Int))).run Tryz.prog w = .ok (.slice (some ⟨w.heap.size, 0, none⟩) n n) (w.alloc (.cells (madeCells #[.int .u64 0] n) 87)) := by
  obtain ⟨i0, hi, hz0, hz1, hz2⟩ := info_parts set_info
  have hr := run_make (P := Tryz.prog) w 148 87 i0 (.int .u64 0) Tryz.underlying148 hi hz0 .i64 .i64 n n (by omega) (by omega) (by rw [hz2]; omega) (by omega)
  rw [hz1, Nat.mul_one, Int.toNat_natCast] at hr
  exact hr
def sarr (l : List Nat) : Array Value := (l.map vs).toArray
theorem sarr_made (n : Nat) : madeCells #[.int .u64 0] n = sarr (List.replicate n 0) := by
  apply Array.ext
  · simp [sarr, size_madeCells]
  · intro i h1 h2
    simp [madeCells, sarr, vs, Nat.mod_one]
theorem sarr_set (l : List Nat) (k s : Nat) : (sarr l).setIfInBounds k (.int .u64 s) = sarr (l.set k s) := by
  simp [sarr, List.map_set, vs]
theorem set_mid (l : List Nat) (m s k : Nat) (hk : l.length = k) (hm : 0 < m) : (l ++ List.replicate m 0).set k s = (l ++ [s]) ++ List.replicate (m - 1) 0 := by
  subst hk
  obtain ⟨m, rfl⟩ : ∃ q, m = q + 1 := ⟨m - 1, by omega⟩
  simp [List.replicate_succ]
theorem own_sarr {w : World} {b g n : Nat} {l : List Nat} (h : Blk w g 87 (sarr l)) (hb : b ≤ g) (hn : l.length = n) (hm : n ≤ 1000000) : w.ownsRow b 87 1 (.slice (some ⟨g, 0, none⟩) n n) n (l.map vs) :=
  ⟨by simp [hn], .inr ⟨g, n, _, rfl, hb, h, Nat.le_refl _, by simp only [maxLen]; omega, by simp [sarr, hn], by rw [← hn]; simp only [sarr, Nat.mul_one]; exact List.take_of_length_le (by simp)⟩⟩
set_option maxHeartbeats 1000000
set_option maxRecDepth 100000
theorem earlier_any (g : Nat) (A : Nat → Nat) (V : Option Addr) (c : Nat) (l : List Nat) (w : World) (hA : AdjAt w g A) (hS : Small A) (hV : Nats w V l) (hl : l.length ≤ 64) (hlt : ∀ v ∈ l, v < 64) :
    Calls Tryz.prog 94 #[.pointer (some ⟨g, 0, none⟩), .slice V l.length c] w (RetOwn 87 (earlier A l).length 1 ((earlier A l).map vs) w) := by
  have hgl := Blk.lt hA
  have hmk := fun W => make_sets l.length (by omega) W
  go_enter Tryz.func94, Tryz.ntmps94
  go_wp2
  clear hmk
  go_loopw [14, 6] (fun i s wr => ∃ (k vis : Nat) (d : List Nat), i = .int .i64 k ∧ k ≤ l.length ∧ s = .int .u64 vis ∧ vis < 18446744073709551616 ∧ d.length = k ∧ Blk wr w.heap.size 87 (sarr (d ++ List.replicate (l.length - k) 0)) ∧ Hid (earlier A l = d ++ earlierFrom A vis (l.drop k)) ∧ Below w.heap.size w wr) (fun i _ _ => l.length - (intOf i).toNat)
  case atStart =>
    refine ⟨0, 0, [], rfl, Nat.zero_le _, rfl, by simp, rfl, ?_, Lib.hid rfl, (Below.refl _ _).alloc (Nat.le_refl _) _⟩
    have := Blk.new w 87 (madeCells #[.int .u64 0] l.length)
    rw [sarr_made] at this
    rw [sarr_made]
    exact this
  case round =>
    obtain ⟨k, vis, d, rfl, hk, rfl, hvs, hd, hB, HE, hb⟩ := hrel
    by_cases hkl : k < l.length
    · obtain ⟨ad, rfl, hc⟩ := Nats.at (hV.keep hb) hkl
      have hv64 := hlt l[k] (List.getElem_mem _)
      have HD : Hid (l.drop k = l[k] :: l.drop (k + 1)) := Lib.hid (List.drop_eq_getElem_cons hkl)
      generalize l[k] = v at hc hv64 HD
      have hca := AdjAt.cell (hA.keep hb hgl) hv64
      have hand := u64_and_nat (A v) vis (hS v) hvs
      have hal := and_lt vis (hS v)
      have HE2 : Hid (earlier A l = (d ++ [A v &&& vis]) ++ earlierFrom A (bset vis v) (l.drop (k + 1))) := by
        refine Lib.hid ?_
        rw [HE.out, HD.out, earlierFrom, List.append_assoc]; rfl
      have hco : (sarr (d ++ List.replicate (l.length - k) 0))[k]? = some (.int .u64 0) := by
        have : (d ++ List.replicate (l.length - k) 0)[k]? = some 0 := by
          rw [List.getElem?_append_right (by omega), hd, Nat.sub_self, List.getElem?_replicate, if_pos (by omega)]
        rw [sarr, List.getElem?_toArray, List.getElem?_map, this]; rfl
      have hcb := (hB.cell k).trans hco
      have hfz := hB.frozen k
      have HDL := Lib.hid hd
      clear HE HD hco hd
      go_wp2_with (go_at_call 47; refine (with_any _ _ _ hvs hv64).mono ?_; rintro e w' ⟨rfl, rfl⟩)
      go_roundw
      case rel =>
        refine ⟨k + 1, bset vis v, d ++ [A v &&& vis], by go_num, by omega, rfl, bset_lt hvs hv64, by simp [HDL.out], ?_, HE2, hb.setCell (by simp) _⟩
        have := hB.set k (.int .u64 ((A v &&& vis : Nat) : Int))
        rw [sarr_set, set_mid _ _ _ _ HDL.out (by omega), Nat.sub_sub] at this
        exact this
      case measure => simp [intOf]; omega
    · obtain rfl : k = l.length := by omega
      have he : earlier A l = d := by rw [HE.out, List.drop_length]; simp [earlierFrom]
      rw [Nat.sub_self, List.replicate_zero, List.append_nil] at hB
      have HDL := Lib.hid hd
      have HE2 := Lib.hid he
      clear HE he hd
      go_wp2
      go_ret
      rw [HE2.out]
      refine ⟨some ⟨w.heap.size, 0, none⟩, l.length, ?_, by rw [HDL.out]; exact Nat.le_refl _, ?_, hb⟩
      · show Ending.returned (.slice (some ⟨w.heap.size, 0, none⟩) l.length l.length) = _
        rw [HDL.out]
      · rw [HDL.out]
        exact own_sarr hB (Nat.le_refl _) HDL.out (by omega)
theorem andn_zero_any {s : Nat} (a : Nat) (hs : s < 18446744073709551616) (ha : a < 18446744073709551616) : bits BinOp.andNot IntKind.u64 (s : Int) (a : Int) = ((andn s a : Nat) : Int) := u64_andNot_nat s a hs ha
theorem clique_any (g : Nat) (A : Nat → Nat) (s : Nat) (w : World) (hA : AdjAt w g A) (hS : Small A) (hs : s < 18446744073709551616) (hT : Tab w) :
    Calls Tryz.prog 117 #[.pointer (some ⟨g, 0, none⟩), .int .u64 s] w fun e w' => e = .returned (.bool (isClique A s)) ∧ Below w.heap.size w w' := by
  have hgl := Blk.lt hA
  go_enter Tryz.func117, Tryz.ntmps117
  go_wp2_with (go_at_call 48; refine (verts_any _ _ hs hT).mono ?_; rintro e w1 ⟨V, c, rfl, hVc, hV, hb1⟩)
  have hvb : ∀ x ∈ verts s, x < 64 := fun x hx => (mem_verts.1 hx).1
  have hvl : (verts s).length ≤ 64 := size_le s
  have HC : Hid (isClique A s = (verts s).all fun v => decide (andn (bclr s v) (A v) = 0)) := Lib.hid rfl
  have hVr := Sl.own hV
  generalize verts s = l at hV hvb hvl HC hVr ⊢
  go_loopw [10] (fun i wr => ∃ k : Nat, i = .int .i64 k ∧ k ≤ l.length ∧ Hid ((l.take k).all (fun v => decide (andn (bclr s v) (A v) = 0)) = true) ∧ Below w1.heap.size w1 wr) (fun i _ => l.length - (intOf i).toNat)
  case atStart => exact ⟨0, rfl, Nat.zero_le _, Lib.hid (by simp), Below.refl _ _⟩
  case round =>
    obtain ⟨k, rfl, hk, HA, hbr⟩ := hrel
    by_cases hkl : k < l.length
    · obtain ⟨ad, rfl, hc⟩ := Nats.at (hVr.keep hbr) hkl
      have hv64 := hvb l[k] (List.getElem_mem _)
      have HT : Hid (l.take (k + 1) = l.take k ++ [l[k]]) := Lib.hid (List.take_succ_eq_append_getElem hkl)
      have HM : Hid (l[k] ∈ l) := Lib.hid (List.getElem_mem _)
      generalize l[k] = v at hc hv64 HT HM
      have hca := AdjAt.cell ((hA.keep hb1 hgl).keep hbr (Nat.lt_of_lt_of_le hgl hb1.size)) hv64
      have hcl := bclr_lt v hs
      have han := andn_zero_any (A v) hcl (hS v)
      have hk0 : (0 : Int) ≤ (v : Int) := by omega
      have hk1 : (v : Int) < 64 := by omega
      have hwo := fun W => (without_any s v W hs hv64).mono (R' := fun e w' => e = .returned (.int .u64 (bclr s v : Nat)) ∧ w' = W) fun _ _ h => ⟨h.1, h.2.symm⟩
      have HW := Lib.hid hwo
      clear hwo
      by_cases hz : andn (bclr s v) (A v) = 0
      · have hzb : (((andn (bclr s v) (A v) : Nat) : Int) != 0) = false := by simp [hz]
        have HZ := Lib.hid hz
        clear hz
        generalize andn (bclr s v) (A v) = z at han hzb
        go_wp2
        go_quiet ((go_at_call 91; exact Calls.quiet_of_same (HW.out _)))
        go_wp2
        go_roundw
        case rel => exact ⟨k + 1, by go_num, by omega, Lib.hid (by rw [HT.out, List.all_append, HA.out]; simp [HZ.out]), below_drewN hbr _⟩
        case measure => simp [intOf]; omega
      · have hzb : (((andn (bclr s v) (A v) : Nat) : Int) != 0) = true := by simp [hz]
        have HF : Hid (isClique A s = false) := by
          refine Lib.hid ?_
          rw [HC.out, List.all_eq_false]
          exact ⟨v, HM.out, by simpa using hz⟩
        clear hz
        generalize andn (bclr s v) (A v) = z at han hzb
        go_wp2
        go_quiet ((go_at_call 91; exact Calls.quiet_of_same (HW.out _)))
        go_wp2
        go_ret
        exact ⟨by rw [HF.out]; rfl, below_drewN (hb1.trans (hbr.mono hb1.size)) _⟩
    · obtain rfl : k = l.length := by omega
      have HF : Hid (isClique A s = true) := Lib.hid (by rw [HC.out]; have := HA.out; rwa [List.take_length] at this)
      go_wp2
      go_ret
      exact ⟨by rw [HF.out]; rfl, hb1.trans (hbr.mono hb1.size)⟩
theorem sets_lt_earlier (A : Nat → Nat) (hS : Small A) : ∀ (l : List Nat) (vis : Nat), ∀ s ∈ earlierFrom A vis l, s < 18446744073709551616
  | [], _, s, h => by simp [earlierFrom] at h
  | v :: l, vis, s, h => by
    simp only [earlierFrom, List.mem_cons] at h
    rcases h with rfl | h
    · exact and_lt _ (hS v)
    · exact sets_lt_earlier A hS l _ s h
theorem chordalA_any (g n : Nat) (A : Nat → Nat) (w : World) (hA : AdjAt w g A) (hS : Small A) (hn : n ≤ 64) (hT : Tab w) :
    Calls Tryz.prog 92 #[.pointer (some ⟨g, 0, none⟩), .int .i64 n] w fun e w' => e = .returned (.bool (isChordal A n)) ∧ Below w.heap.size w w' := by
  have hgl := Blk.lt hA
  have hvis := visits (A := A) hn n (Nat.le_refl _)
  have hlen : (search A n).length ≤ 64 := by unfold search; rw [hvis.len]; exact hn
  have hlt : ∀ v ∈ search A n, v < 64 := fun v hv => by have := hvis.lt v hv; omega
  have HL := Lib.hid hlt
  clear hvis hlt
  go_enter Tryz.func92, Tryz.ntmps92
  go_wp2_with (first
    | (go_at_call 93; refine (search_any _ _ A _ hA hS hn).mono ?_; rintro e w1 ⟨V, c, rfl, hVc, hV, hb1⟩)
    | (go_at_call 94; refine (earlier_any _ A _ _ (search A n) _ (hA.keep hb1 hgl) hS (Sl.own hV) hlen HL.out).mono ?_; rintro e w2 ⟨V2, c2, rfl, hVc2, hV2, hb2⟩))
  have HC : Hid (isChordal A n = (earlier A (search A n)).all (isClique A)) := Lib.hid rfl
  have hsl : ∀ s ∈ earlier A (search A n), s < 18446744073709551616 := sets_lt_earlier A hS _ _
  have hll : (earlier A (search A n)).length ≤ 64 := by unfold earlier; rw [earlierFrom_len]; exact hlen
  have hVr := Sl.own hV2
  have hb12 : Below w.heap.size w w2 := below_all hb1 hb2
  clear hV2 hV hb1 hb2 hVc
  generalize earlier A (search A n) = l at HC hsl hll hVr hVc2 ⊢
  have HSL := Lib.hid hsl
  clear hsl
  go_loopw [13] (fun i wr => ∃ k : Nat, i = .int .i64 k ∧ k ≤ l.length ∧ Hid ((l.take k).all (isClique A) = true) ∧ Below w2.heap.size w2 wr) (fun i _ => l.length - (intOf i).toNat)
  case atStart => exact ⟨0, rfl, Nat.zero_le _, Lib.hid (by simp), Below.refl _ _⟩
  case round =>
    obtain ⟨k, rfl, hk, HA, hbr⟩ := hrel
    have hbw : Below w.heap.size w wr := below_all hb12 hbr
    by_cases hkl : k < l.length
    · obtain ⟨ad, rfl, hc⟩ := Sets.at (hVr.keep hbr) hkl
      have hs64 := HSL.out l[k] (List.getElem_mem _)
      have HT : Hid (l.take (k + 1) = l.take k ++ [l[k]]) := Lib.hid (List.take_succ_eq_append_getElem hkl)
      have HM : Hid (l[k] ∈ l) := Lib.hid (List.getElem_mem _)
      generalize l[k] = s at hc hs64 HT HM
      have hq := clique_any g A s wr (hA.keep hbw hgl) hS hs64 (hT.below hbw hT.1)
      cases hz : isClique A s
      · rw [hz] at hq
        have HQ := Lib.hid hq
        have HF : Hid (isChordal A n = false) := by
          refine Lib.hid ?_
          rw [HC.out, List.all_eq_false]
          exact ⟨s, HM.out, by simp [hz]⟩
        clear hq hz
        go_wp2_with (go_at_call 117; refine HQ.out.mono ?_; rintro e w3 ⟨rfl, hb3⟩)
        go_ret
        exact ⟨by rw [HF.out]; rfl, below_all hbw hb3⟩
      · rw [hz] at hq
        have HQ := Lib.hid hq
        have HZ := Lib.hid hz
        clear hq hz
        go_wp2_with (go_at_call 117; refine HQ.out.mono ?_; rintro e w3 ⟨rfl, hb3⟩)
        go_roundw
        case rel => exact ⟨k + 1, by go_num, by omega, Lib.hid (by rw [HT.out, List.all_append, HA.out]; simp [HZ.out]), below_all hbr hb3⟩
        case measure => simp [intOf]; omega
    · obtain rfl : k = l.length := by omega
      have HF : Hid (isChordal A n = true) := Lib.hid (by rw [HC.out]; have := HA.out; rwa [List.take_length] at this)
      go_wp2
      go_ret
      exact ⟨by rw [HF.out]; rfl, hbw⟩
end Go.Proofs.Tg.Gx
end
section
/- Plain functions for the chordal extension. -/
namespace Go.Gr
/-- No vertex is its own neighbour. -/
def Irr (A : Nat → Nat) : Prop := ∀ v, v < 64 → (A v).testBit v = false
theorem upd_same (A : Nat → Nat) (i s : Nat) : upd A i s i = s := by simp [upd]
theorem upd_other (A : Nat → Nat) {i k : Nat} (s : Nat) (h : k ≠ i) : upd A i s k = A k := by simp [upd, h]
theorem Irr.zero : Irr (fun _ => 0) := fun _ _ => by simp
theorem Irr.connect {A : Nat → Nat} (h : Irr A) {i j : Nat} (hij : i ≠ j) : Irr (connect A i j) := by
  intro v hv
  unfold Gr.connect
  by_cases h1 : v = j
  · subst h1
    rw [upd_same, bset_bit, upd_other _ _ (fun e => hij e.symm), h v hv]
    simpa using hij
  · rw [upd_other _ _ h1]
    by_cases h2 : v = i
    · subst h2
      rw [upd_same, bset_bit, h v hv]
      simpa using fun e => hij e.symm
    · rw [upd_other _ _ h2]; exact h v hv
theorem size_lt {s i : Nat} (hi : i < 64) (h : s.testBit i = false) : size s < 64 := by
  have h1 : size s ≤ 64 := size_le s
  by_cases e : size s = 64
  · exfalso
    have h2 : verts s = List.range 64 := List.filter_eq_self.2 (by
      have := List.length_filter_eq_length_iff.1 (show ((List.range 64).filter s.testBit).length = (List.range 64).length by rw [List.length_range]; exact e)
      exact this)
    have : i ∈ verts s := by rw [h2]; simpa using hi
    rw [mem_verts] at this
    rw [h] at this
    cases this.2
  · omega
def minStep (A : Nat → Nat) (rest : Nat) (bm : Int × Int) (v : Nat) : Int × Int :=
  if ((size (A v &&& rest) : Nat) : Int) < bm.2 then ((v : Int), ((size (A v &&& rest) : Nat) : Int)) else bm
def minOf (A : Nat → Nat) (rest : Nat) (l : List Nat) : Int × Int := l.foldl (minStep A rest) (-1, 64)
theorem minOf_snoc (A : Nat → Nat) (rest : Nat) (l : List Nat) (v : Nat) : minOf A rest (l ++ [v]) = minStep A rest (minOf A rest l) v := by simp [minOf]
/-- What the choice comes to: the first of those with the fewest. -/
theorem minOf_spec (A : Nat → Nat) (rest : Nat) (hA : Irr A) : ∀ (r l : List Nat), (∀ v ∈ l, v < 64) → l.reverse = r → l = [] ∨ ∃ (v : Nat) (a b : List Nat), l = a ++ v :: b ∧ minOf A rest l = ((v : Int), ((size (A v &&& rest) : Nat) : Int)) ∧
      (∀ u ∈ a, size (A v &&& rest) < size (A u &&& rest)) ∧ (∀ u ∈ b, size (A v &&& rest) ≤ size (A u &&& rest))
  | [], l, _, hr => .inl (by simpa using hr)
  | x :: r, l, hl, hr => by
    right
    have hl2 : l = r.reverse ++ [x] := by
      have := congrArg List.reverse hr
      simpa using this
    subst hl2
    have hx : x < 64 := hl x (by simp)
    have h63 : size (A x &&& rest) < 64 := size_lt hx (by rw [Nat.testBit_and, hA x hx]; rfl)
    rw [minOf_snoc]
    rcases minOf_spec A rest hA r r.reverse (fun v hv => hl v (by simp [hv])) (by simp) with h | ⟨v, a, b, hab, hm, h1, h2⟩
    · refine ⟨x, [], [], by rw [h], ?_, by simp, by simp⟩
      rw [h]
      unfold minStep minOf
      rw [if_pos (by simp; omega)]
    · rw [hm]
      by_cases hc : size (A x &&& rest) < size (A v &&& rest)
      · refine ⟨x, a ++ v :: b, [], by rw [hab], ?_, ?_, by simp⟩
        · unfold minStep; rw [if_pos (by simp; omega)]
        · intro u hu
          simp only [List.mem_append, List.mem_cons] at hu
          rcases hu with hu | rfl | hu
          · have := h1 u hu; omega
          · exact hc
          · have := h2 u hu; omega
      · refine ⟨v, a, b ++ [x], by rw [hab]; simp, ?_, h1, ?_⟩
        · unfold minStep; rw [if_neg (by simp; omega)]
        · intro u hu
          simp only [List.mem_append, List.mem_singleton] at hu
          rcases hu with hu | rfl
          · exact h2 u hu
          · omega
def fillStep (ar : Nat) (A : Nat → Nat) (v : Nat) : Nat → Nat := upd A v (A v ||| bclr ar v)
def fill (ar : Nat) (l : List Nat) (A : Nat → Nat) : Nat → Nat := l.foldl (fillStep ar) A
theorem fill_snoc (ar : Nat) (l : List Nat) (v : Nat) (A : Nat → Nat) : fill ar (l ++ [v]) A = fillStep ar (fill ar l A) v := by simp [fill]
theorem fillStep_small {ar v : Nat} {A : Nat → Nat} (h : Small A) (ha : ar < 18446744073709551616) : Small (fillStep ar A v) := h.upd (or_lt (h v) (bclr_lt v ha))
theorem fillStep_irr {ar v : Nat} {A : Nat → Nat} (h : Irr A) (hv : v < 64) : Irr (fillStep ar A v) := by
  intro u hu
  unfold fillStep
  by_cases e : u = v
  · subst e
    rw [upd_same, Nat.testBit_or, h u hu, bclr_bit _ _ _ hu hu]
    simp
  · rw [upd_other _ _ e]; exact h u hu
theorem fill_small {ar : Nat} (ha : ar < 18446744073709551616) : ∀ (l : List Nat) {A : Nat → Nat}, Small A → Small (fill ar l A)
  | [], _, h => h
  | v :: l, A, h => by
    simp only [fill, List.foldl_cons]
    exact fill_small ha l (fillStep_small h ha)
theorem fill_irr {ar : Nat} : ∀ (l : List Nat) {A : Nat → Nat}, (∀ v ∈ l, v < 64) → Irr A → Irr (fill ar l A)
  | [], _, _, h => h
  | v :: l, A, hl, h => by
    simp only [fill, List.foldl_cons]
    exact fill_irr l (fun u hu => hl u (by simp [hu])) (fillStep_irr h (hl v (by simp)))
/-- One elimination: the adjacency and what is left. -/
def elim (A : Nat → Nat) (rest : Nat) : (Nat → Nat) × Nat :=
  let b := (minOf A rest (verts rest)).1.toNat
  (fill (A b &&& rest) (verts (A b &&& rest)) A, bclr rest b)
def extFrom : Nat → (Nat → Nat) → Nat → (Nat → Nat)
  | 0, A, _ => A
  | f + 1, A, rest => if rest = 0 then A else extFrom f (elim A rest).1 (elim A rest).2
def extend (A : Nat → Nat) (n : Nat) : Nat → Nat := extFrom 65 A (firstN n)
theorem bclr_less {s i : Nat} (hi : i < 64) (h : s.testBit i = true) : bclr s i < s ∧ size (bclr s i) < size s := by
  have hne : bclr s i ≠ s := by
    intro e
    have := congrArg (fun x => x.testBit i) e
    simp only [bclr_bit _ _ _ hi hi, h] at this
    simp at this
  have hle : bclr s i ≤ s := by unfold bclr andn; exact Nat.and_le_left
  refine ⟨by omega, ?_⟩
  unfold size verts
  have : ∀ (l : List Nat), (∀ x ∈ l, x < 64) → i ∈ l → (l.filter (bclr s i).testBit).length < (l.filter s.testBit).length := by
    intro l hl hm
    have hall : ∀ (l : List Nat), (∀ x ∈ l, x < 64) → (l.filter (bclr s i).testBit).length ≤ (l.filter s.testBit).length := by
      intro l hl
      induction l with
      | nil => simp
      | cons x l ih =>
        have ih := ih (fun y hy => hl y (by simp [hy]))
        have hx := hl x (by simp)
        by_cases h1 : (bclr s i).testBit x = true
        · have h2 : s.testBit x = true := by rw [bclr_bit _ _ _ hi hx] at h1; simp at h1; exact h1.1
          simp [h1, h2]; omega
        · by_cases h2 : s.testBit x = true <;> simp [h1, h2] <;> omega
    induction l with
    | nil => simp at hm
    | cons x l ih =>
      by_cases e : x = i
      · subst e
        have h1 : (bclr s x).testBit x = false := by rw [bclr_bit _ _ _ hi hi]; simp
        have := hall l (fun y hy => hl y (by simp [hy]))
        simp [h1, h]; omega
      · have ih := ih (fun y hy => hl y (by simp [hy])) ((List.mem_cons.1 hm).resolve_left (fun e2 => e e2.symm))
        have hx := hl x (by simp)
        have : (bclr s i).testBit x = s.testBit x := by
          rw [bclr_bit _ _ _ hi hx]; simp; intro _ e2; exact e e2.symm
        by_cases h2 : s.testBit x = true <;> simp [this, h2] <;> omega
  exact this (List.range 64) (fun x hx => by simpa using hx) (by simpa using hi)
end Go.Gr
end
