/- Parts of the proof: RS6, LR1, LR0, LG1, RS7, RS8, RS9. -/
import Derived.Test.YtpiedheafppnhaaGreatDoorMSF14
import Derived.Test.YtpiedheafppnhaaGreatDoorMSF19
import Derived.Test.YtpiedheafppnhaaGreatDoorMSF20
section
/- The reference's graph of the round 1. -/
namespace Go.Proofs.Tg.Sx
open Go.RowKit Go.Gr Go.Sp Go.Ev Go.Mo Go.Qn
set_option maxHeartbeats 4000000
set_option maxRecDepth 100000
theorem core_exps {ts : List RT} {tv : List TV} (h : ts.map RT.core = tv.map TV.core) : ts.map RT.exps = tv.map TV.exps := by
  have := congrArg (List.map fun x : Option Addr × Nat × List Int => x.2.2) h
  rw [List.map_map, List.map_map] at this
  exact this
theorem s0_len {p : PVal} {b : List (List Int)} {n : Nat} (hl : p.tv.length ≤ 4096) (hb : b.length ≤ 64) (hn : n ≤ 6) (hd : ∀ t ∈ p.tv, domK n 24 t.exps) (hdb : ∀ m ∈ b, domK n 24 m) : (kn p b).length ≤ 5000 ∧ ∀ m ∈ kn p b, domK n 48 m := by
  refine ⟨?_, fun m hm => ?_⟩
  · show (S0 (exsOf p.tv) b).length ≤ 5000
    unfold S0 exsOf
    rw [List.length_append, List.length_map, List.length_map]; omega
  · have hm : m ∈ exsOf p.tv ++ b.map fun m => addL m m := hm
    rcases List.mem_append.1 hm with h | h
    · obtain ⟨t, ht, rfl⟩ := List.mem_map.1 h
      exact (hd t ht).mono (by omega)
    · obtain ⟨x, hx, rfl⟩ := List.mem_map.1 h
      exact addL_dom (hdb x hx) (hdb x hx)
/-- The first set, its memory: what the later functions of the reference need. -/
def FirstOk (p : PVal) (b : List (List Int)) (w : World) (e : Ending) (w' : World) : Prop := Below w.heap.size w w' ∧
  ∃ (A : Option Addr) (c : Nat) (rs : List Rw), kn p b = rs.map (fun r => r.2.2) ∧ e = .returned (.slice A rs.length c) ∧ w'.ownsRow w.heap.size 50 1 (.slice A rs.length c) rs.length (rs.map cellR) ∧ RowsK w w' w.heap.size rs
theorem rgraph16_any (p : PVal) (B : Option Addr) (cb : Nat) (b : List (List Int)) (ok : Bool) (w : World) (hP : TermsAt w p.adr p.tv) (hs : ∀ t ∈ p.tv, t.coef.size ≤ 8 ∧ t.exps.length ≤ 64) (hn : p.tv.length ≤ 4096) (hB : Lists w B b) (hbl : b.length ≤ 64) (hml : ∀ m ∈ b, m.length ≤ 1000) (hok : ok = true ↔ p.ok) :
    Calls Tryz.prog 8 #[.agg #[.int .i64 p.vars, .slice p.adr p.tv.length p.cap], .slice B b.length cb] w (RetSG p b (errS ok p.vars b) w) := by
  obtain ⟨W, hW⟩ : ∃ W, (w.alloc (.cells #[.int .i64 p.vars, .slice p.adr p.tv.length p.cap] 24)).alloc (.cells #[.int .i64 0, .slice none 0 0] 30) = W := ⟨_, rfl⟩
  have hbA : Below w.heap.size w W := by rw [← hW]; exact ((Below.refl _ _).alloc (Nat.le_refl _) _).alloc (by simp) _
  have B0 : Blk W w.heap.size 24 #[.int .i64 p.vars, .slice p.adr p.tv.length p.cap] := by rw [← hW]; exact (Blk.new _ _ _).alloc _
  have B1 : Blk W (w.heap.size + 1) 30 #[.int .i64 0, .slice none 0 0] := by
    rw [← hW]; have := Blk.new (w.alloc (.cells #[.int .i64 p.vars, .slice p.adr p.tv.length p.cap] 24)) 30 #[.int .i64 0, .slice none 0 0]
    simpa using this
  have HCK := Lib.hid (rcheck16_any p B cb b ok W (hP.keep hbA) hn hs (hB.keep hbA) hbl hml hok)
  have HFI : Hid (∀ V O co (ts : List RT), Below w.heap.size w V → errS ok p.vars b = 0 → RTermsAt V O ts → ts.map RT.core = p.tv.map TV.core → Calls Tryz.prog 26 #[.agg #[.int .i64 p.vars, .slice O ts.length co], .slice B b.length cb] V fun e w' => Below V.heap.size V w' ∧
      ∃ A n c, e = .returned (.slice A n c) ∧ Calls Tryz.prog 25 #[.slice A n c, .slice B b.length cb] w' fun e w2 => ∃ g, e = .returned (.slice (some ⟨g, 0, none⟩) b.length b.length) ∧ Below w'.heap.size w' w2 ∧
        Calls Tryz.prog 24 #[.slice (some ⟨g, 0, none⟩) b.length b.length] w2 fun e w3 => ∃ F d, e = .returned (.agg #[.int .i64 b.length, .slice F (edTo b (kn p b) b.length).length d]) ∧ w3.ownsRow w2.heap.size 94 2 (.slice F (edTo b (kn p b) b.length).length d) (edTo b (kn p b) b.length).length (Gx.ecells (edTo b (kn p b) b.length)) ∧ Below w2.heap.size w2 w3) := Lib.hid (fun V O co ts hV he hR hc => by
    obtain ⟨n, hv, h6, hl, hd, hdb, _⟩ := dom_of hok he
    have hcl := core_len hc
    refine (rfirst_any p.vars O co ts B cb n b V hR (hB.keep hV) h6 (by omega) hbl hdb).mono ?_
    rintro e w' ⟨hb1, A, c, rs, hrs, rfl, hown, hK⟩
    rw [core_exps hc] at hrs
    have hrs : kn p b = rs.map fun r => r.2.2 := hrs
    refine ⟨hb1, A, rs.length, c, rfl, ?_⟩
    have hLs := rows_lists (c := c) (Sl.own hown) hK hb1
    have hs0 := s0_len hl hbl h6 hd hdb
    rw [hrs] at hs0
    rw [List.length_map] at hs0
    have htb := rtable_any A B c cb n _ b w' hLs (hB.keep (below_all hV hb1)) h6 hbl hdb (by rw [List.length_map]; omega) (fun m hm => by have := (hs0.2 m hm).1; omega)
    rw [List.length_map] at htb
    refine htb.mono ?_
    rintro e w2 ⟨g, rfl, hTA, _, hb2⟩
    refine ⟨g, rfl, hb2, ?_⟩
    rw [← hrs] at hTA
    refine (Gx.rwrite_any g b.length _ w2 hTA hbl).mono ?_
    rintro e w3 hw3
    have hw3 : Gx.RetGraph b.length (edTo b (kn p b) b.length) w2 e w3 := by
      have e1 := tP_edges b (kn p b)
      rw [← e1]
      exact hw3
    obtain ⟨F, d, h1, _, h2, h3⟩ := hw3
    exact ⟨F, d, h1, h2, h3⟩)
  generalize errS ok p.vars b = er at *
  have HWW := Lib.hid hW
  obtain ⟨P, T, cT, tv⟩ := p
  simp only at *
  obtain ⟨c0, c1, _, _⟩ := B0.two
  clear hW hP hB hok hml hs
  go_enter Tryz.func8, Tryz.ntmps8
  go_upto_region 1 with (fail)
  rw [HWW.out]
  clear HWW
  go_wp2_with (fail)
  refine HCK.out.mono ?_
  rintro e w1 ⟨hb1, ⟨her, v, O, no, co, rfl⟩ | ⟨rfl, O, co, ts, rfl, hR, hcore⟩⟩
  · have hne : (er != 0) = true := by simp [her]
    have C1 := (B1.keep hb1 B1.lt).alloc (.cells #[.int .i64 v, .slice O no co] 39)
    have hbx := (below_all hbA hb1).alloc (below_all hbA hb1).size (.cells #[.int .i64 v, .slice O no co] 39)
    go_upto_region 2 with (fail)
    generalize w1.alloc (.cells #[.int .i64 v, .slice O no co] 39) = X at *
    obtain ⟨z0, z1, y0, y1⟩ := C1.two
    have hl1 := C1.lt
    go_wp2_with (fail)
    refine bodyPost_ret (v := _) (Gx.results_g (p := 4) (q := 5) rfl _ _ (w.heap.size + 1) _ _ rfl (Gx.blk_two C1)) rfl ?_
    exact ⟨below_far (below_far hbx (by omega) _ _) (by omega) _ _, .inl ⟨her, rfl⟩⟩
  · have C1 := (B1.keep hb1 B1.lt).alloc (.cells #[.int .i64 P, .slice O ts.length co] 39)
    have C6 := Blk.new w1 39 #[.int .i64 P, .slice O ts.length co]
    have hbx := (below_all hbA hb1).alloc (below_all hbA hb1).size (.cells #[.int .i64 P, .slice O ts.length co] 39)
    have hRx := hR.keep ((Below.refl w1.heap.size w1).alloc (Nat.le_refl _) (.cells #[.int .i64 P, .slice O ts.length co] 39))
    have HCR := Lib.hid hcore
    clear hR hcore
    go_upto_region 2 with (fail)
    generalize w1.alloc (.cells #[.int .i64 P, .slice O ts.length co] 39) = X at *
    obtain ⟨z0, z1, y0, y1⟩ := C1.two
    obtain ⟨x0, x1, _, _⟩ := C6.two
    go_wp2_with (first
      | (go_at_call 26; refine (HFI.out X O co ts hbx (by trivial) hRx HCR.out).mono ?_; rintro e w2 ⟨hb2, A, n, c, rfl, HTB⟩)
      | (go_at_call 25; refine HTB.mono ?_; rintro e w3 ⟨g, rfl, hb3, HWR⟩)
      | (go_at_call 24; refine HWR.mono ?_; rintro e w4 ⟨F, d, rfl, hF, hb4⟩
         have hb5 := below_all (below_all hb2 hb3) hb4
         have C4 := C1.keep hb5 C1.lt
         obtain ⟨z0, z1, y0, y1⟩ := C4.two
         have hl4 := C4.lt))
    refine bodyPost_ret (v := _) (Gx.results_g (p := 4) (q := 5) rfl _ _ (w.heap.size + 1) _ _ rfl (Gx.blk_two C4)) rfl ?_
    have hne := own_blk_ne hF C4 (by decide)
    exact ⟨below_far (below_far (below_all hbx hb5) (by omega) _ _) (by omega) _ _, .inr ⟨rfl, F, d, rfl, Sl.own (own_far (own_far hF hne _) hne _)⟩⟩
end Go.Proofs.Tg.Sx
end
section
/- The sanity check of the statements on sparsity. -/
namespace Go.Proofs.Tg.Sx
open Go.RowKit Go.Gr Go.Sp Go.Ev Go.Mo Go.Qn
set_option maxHeartbeats 4000000
set_option maxRecDepth 100000
theorem sl_blk {w : World} {g n sz : Nat} {t : TypeId} {xs : List Value} (h : Blk w g t xs.toArray) (hl : xs.length = n * sz) : Sl w (some ⟨g, 0, none⟩) n sz xs :=
  ⟨hl, fun _ => ⟨_, rfl, h.lt, fun j u hu => by rw [add_lit, Nat.zero_add, h.cell j, List.getElem?_toArray]; exact hu⟩⟩
/-- Blocks set down one behind another. -/
def al (w : World) (os : List Obj) : World := os.foldl World.alloc w
theorem al_below (w : World) (os : List Obj) : Below w.heap.size w (al w os) := by
  induction os generalizing w with
  | nil => exact Below.refl _ _
  | cons o os ih =>
    have : al w (o :: os) = al (w.alloc o) os := rfl
    rw [this]
    exact below_all ((Below.refl _ _).alloc (Nat.le_refl _) _) (ih _)
theorem al_blk (w : World) (os : List Obj) (i : Nat) {t : TypeId} {cs : Array Value} (h : os[i]? = some (.cells cs t)) : Blk (al w os) (w.heap.size + i) t cs := by
  induction os generalizing w i with
  | nil => simp at h
  | cons o os ih =>
    have e : al w (o :: os) = al (w.alloc o) os := rfl
    rw [e]
    cases i with
    | zero =>
      have : o = .cells cs t := by simpa using h
      subst this
      exact (Blk.new w t cs).keep (al_below _ _) (by simp)
    | succ i =>
      have := ih (w.alloc o) i (by simpa using h)
      have e2 : (w.alloc o).heap.size + i = w.heap.size + (i + 1) := by simp; omega
      rwa [e2] at this
def one49 : ByteArray := ⟨#[49]⟩
theorem rd_one : rd [49] = some (false, 1, 1) := by decide
theorem coef_one : coefOk one49 = true := by
  unfold coefOk
  have e : one49.data.toList = [49] := rfl
  rw [e, rd_one]; rfl
def awP (g0 g1 g2 g3 : Nat) : PVal := ⟨2, some ⟨g3, 0, none⟩, 3, [⟨one49, some ⟨g0, 0, none⟩, 2, [4, 0]⟩, ⟨one49, some ⟨g1, 0, none⟩, 2, [0, 4]⟩, ⟨one49, some ⟨g2, 0, none⟩, 2, [0, 0]⟩]⟩
theorem awP_ok (g0 g1 g2 g3 : Nat) : (awP g0 g1 g2 g3).ok := by
  refine ⟨by simp [awP], ⟨by simp [awP], by simp [awP], ?_⟩, fun _ => (show vldM [4, 0] = true by decide)⟩
  intro i hi hl
  have h2 : i < 3 := hi
  have t1 : termOk 2 (one49, [4, 0]) = true := by rw [termOk_iff]; exact ⟨coef_one, rfl, by decide⟩
  have t2 : termOk 2 (one49, [0, 4]) = true := by rw [termOk_iff]; exact ⟨coef_one, rfl, by decide⟩
  have t3 : termOk 2 (one49, [0, 0]) = true := by rw [termOk_iff]; exact ⟨coef_one, rfl, by decide⟩
  have : i = 0 ∨ i = 1 ∨ i = 2 := by omega
  rcases this with rfl | rfl | rfl
  · exact ⟨t1, fun h => absurd h (by omega)⟩
  · exact ⟨t2, fun _ => (show 0 < Mo.ord [4, 0] [0, 4] by decide)⟩
  · exact ⟨t3, fun _ => (show 0 < Mo.ord [0, 4] [0, 0] by decide)⟩
theorem aw_err : errS true 2 awB = 0 := by decide
theorem aw_final (h : awB.length ≤ 64) : (rnd awB (S0 awE awB) h).Final bigK 1 ∧ (rnd awB (S0 awE awB) h).B 0 = [[0, 3, 5], [1], [2], [4]] := by
  refine ⟨⟨Nat.le_refl _, by decide, fun t ht => by omega, .inr ?_⟩, ?_⟩
  · rw [rnd_B, rnd_B, aw_c1, show setAt awB (S0 awE awB) (1 - 1) = S0 awE awB from rfl, aw_c0]
  · rw [rnd_B]; exact aw_c0
theorem aw_stable (w : World) (hT : Tab w) : Calls Tryz.prog 18 #[.agg #[.int .i64 2, .slice (some ⟨w.heap.size + 1 + 1 + 1, 0, none⟩) 3 3], .slice (some ⟨w.heap.size + 1 + 1 + 1 + 1 + 1 + 1 + 1 + 1 + 1 + 1 + 1, 0, none⟩) 6 6]
    ((((((((((((w.alloc (.cells #[.int .i64 4, .int .i64 0] 3)).alloc (.cells #[.int .i64 0, .int .i64 4] 3)).alloc (.cells #[.int .i64 0, .int .i64 0] 3)).alloc (.cells #[.string ⟨#[49]⟩, .slice (some ⟨w.heap.size, 0, none⟩) 2 2, .string ⟨#[49]⟩, .slice (some ⟨w.heap.size + 1, 0, none⟩) 2 2, .string ⟨#[49]⟩, .slice (some ⟨w.heap.size + 1 + 1, 0, none⟩) 2 2] 58)).alloc (.cells #[.int .i64 2, .slice (some ⟨w.heap.size + 1 + 1 + 1, 0, none⟩) 3 3] 24)).alloc (.cells #[.int .i64 0, .int .i64 0] 3)).alloc (.cells #[.int .i64 0, .int .i64 1] 3)).alloc (.cells #[.int .i64 1, .int .i64 0] 3)).alloc (.cells #[.int .i64 0, .int .i64 2] 3)).alloc (.cells #[.int .i64 1, .int .i64 1] 3)).alloc (.cells #[.int .i64 2, .int .i64 0] 3)).alloc (.cells #[.slice (some ⟨w.heap.size + 1 + 1 + 1 + 1 + 1, 0, none⟩) 2 2, .slice (some ⟨w.heap.size + 1 + 1 + 1 + 1 + 1 + 1, 0, none⟩) 2 2, .slice (some ⟨w.heap.size + 1 + 1 + 1 + 1 + 1 + 1 + 1, 0, none⟩) 2 2, .slice (some ⟨w.heap.size + 1 + 1 + 1 + 1 + 1 + 1 + 1 + 1, 0, none⟩) 2 2, .slice (some ⟨w.heap.size + 1 + 1 + 1 + 1 + 1 + 1 + 1 + 1 + 1, 0, none⟩) 2 2, .slice (some ⟨w.heap.size + 1 + 1 + 1 + 1 + 1 + 1 + 1 + 1 + 1 + 1, 0, none⟩) 2 2] 50))
    fun e w' => ∃ R c, e = .returned (.tuple #[.slice R 4 c, .int .i64 1, .int .i64 0]) ∧ Lists w' R [[0, 3, 5], [1], [2], [4]] ∧ Below w.heap.size w w' := by
  let os : List Obj := [.cells #[.int .i64 4, .int .i64 0] 3, .cells #[.int .i64 0, .int .i64 4] 3, .cells #[.int .i64 0, .int .i64 0] 3, .cells #[.string ⟨#[49]⟩, .slice (some ⟨w.heap.size, 0, none⟩) 2 2, .string ⟨#[49]⟩, .slice (some ⟨w.heap.size + 1, 0, none⟩) 2 2, .string ⟨#[49]⟩, .slice (some ⟨w.heap.size + 1 + 1, 0, none⟩) 2 2] 58, .cells #[.int .i64 2, .slice (some ⟨w.heap.size + 1 + 1 + 1, 0, none⟩) 3 3] 24, .cells #[.int .i64 0, .int .i64 0] 3, .cells #[.int .i64 0, .int .i64 1] 3, .cells #[.int .i64 1, .int .i64 0] 3, .cells #[.int .i64 0, .int .i64 2] 3, .cells #[.int .i64 1, .int .i64 1] 3, .cells #[.int .i64 2, .int .i64 0] 3, .cells #[.slice (some ⟨w.heap.size + 1 + 1 + 1 + 1 + 1, 0, none⟩) 2 2, .slice (some ⟨w.heap.size + 1 + 1 + 1 + 1 + 1 + 1, 0, none⟩) 2 2, .slice (some ⟨w.heap.size + 1 + 1 + 1 + 1 + 1 + 1 + 1, 0, none⟩) 2 2, .slice (some ⟨w.heap.size + 1 + 1 + 1 + 1 + 1 + 1 + 1 + 1, 0, none⟩) 2 2, .slice (some ⟨w.heap.size + 1 + 1 + 1 + 1 + 1 + 1 + 1 + 1 + 1, 0, none⟩) 2 2, .slice (some ⟨w.heap.size + 1 + 1 + 1 + 1 + 1 + 1 + 1 + 1 + 1 + 1, 0, none⟩) 2 2] 50]
  have hP : TermsAt (al w os) (some ⟨w.heap.size + 1 + 1 + 1, 0, none⟩) (awP w.heap.size (w.heap.size + 1) (w.heap.size + 1 + 1) (w.heap.size + 1 + 1 + 1)).tv := by
    refine ⟨sl_blk (al_blk w os 3 rfl) rfl, fun t ht => ?_⟩
    simp only [awP, List.mem_cons, List.not_mem_nil, or_false] at ht
    rcases ht with rfl | rfl | rfl
    · exact sl_blk (al_blk w os 0 rfl) rfl
    · exact sl_blk (al_blk w os 1 rfl) rfl
    · exact sl_blk (al_blk w os 2 rfl) rfl
  have hB : Lists (al w os) (some ⟨w.heap.size + 1 + 1 + 1 + 1 + 1 + 1 + 1 + 1 + 1 + 1 + 1, 0, none⟩) awB := by
    refine ⟨fun i => if i = 0 then ((some ⟨w.heap.size + 1 + 1 + 1 + 1 + 1, 0, none⟩), 2) else if i = 1 then ((some ⟨w.heap.size + 1 + 1 + 1 + 1 + 1 + 1, 0, none⟩), 2) else if i = 2 then ((some ⟨w.heap.size + 1 + 1 + 1 + 1 + 1 + 1 + 1, 0, none⟩), 2) else if i = 3 then ((some ⟨w.heap.size + 1 + 1 + 1 + 1 + 1 + 1 + 1 + 1, 0, none⟩), 2) else if i = 4 then ((some ⟨w.heap.size + 1 + 1 + 1 + 1 + 1 + 1 + 1 + 1 + 1, 0, none⟩), 2) else ((some ⟨w.heap.size + 1 + 1 + 1 + 1 + 1 + 1 + 1 + 1 + 1 + 1, 0, none⟩), 2), sl_blk (al_blk w os 11 rfl) rfl, fun i hi => ?_⟩
    have hi : i < 6 := hi
    have : i = 0 ∨ i = 1 ∨ i = 2 ∨ i = 3 ∨ i = 4 ∨ i = 5 := by omega
    rcases this with rfl | rfl | rfl | rfl | rfl | rfl
    · exact sl_blk (al_blk w os 5 rfl) rfl
    · exact sl_blk (al_blk w os 6 rfl) rfl
    · exact sl_blk (al_blk w os 7 rfl) rfl
    · exact sl_blk (al_blk w os 8 rfl) rfl
    · exact sl_blk (al_blk w os 9 rfl) rfl
    · exact sl_blk (al_blk w os 10 rfl) rfl
  have hsm : (awP w.heap.size (w.heap.size + 1) (w.heap.size + 1 + 1) (w.heap.size + 1 + 1 + 1)).small := by
    refine ⟨by simp [awP], fun t ht => ?_⟩
    simp only [awP, List.mem_cons, List.not_mem_nil, or_false] at ht
    rcases ht with rfl | rfl | rfl <;> exact ⟨(show one49.size ≤ 19 by decide), (show 2 ≤ 64 by decide)⟩
  have hbl : awB.length ≤ 64 := by decide
  refine (sstable_any (awP w.heap.size (w.heap.size + 1) (w.heap.size + 1 + 1) (w.heap.size + 1 + 1 + 1)) (some ⟨w.heap.size + 1 + 1 + 1 + 1 + 1 + 1 + 1 + 1 + 1 + 1 + 1, 0, none⟩) 6 awB true (al w os) hP hsm hB hbl (by decide) ⟨fun _ => awP_ok _ _ _ _, fun _ => rfl⟩ (hT.below (al_below w os) hT.1)).mono ?_
  rintro e w' ⟨hb, ⟨h, _⟩ | ⟨_, m, R, c, hF, he, hL⟩⟩
  · exact absurd aw_err h
  · obtain ⟨h1, h2⟩ := aw_final hbl
    obtain rfl := hF.uniq h1
    have h3 : (rnd awB (kn (awP w.heap.size (w.heap.size + 1) (w.heap.size + 1 + 1) (w.heap.size + 1 + 1 + 1)) awB) hbl).B (1 - 1) = [[0, 3, 5], [1], [2], [4]] := h2
    rw [h3] at he hL
    exact ⟨R, c, he, hL, below_all (al_below w os) hb⟩
theorem aw_lists (w : World) (A : Option Addr) (c : Nat) (hA : Lists w A [[0, 3, 5], [1], [2], [4]]) : Calls Tryz.prog 11 #[.slice A 4 c, .slice (some ⟨w.heap.size + 1 + 1 + 1 + 1, 0, none⟩) 4 4]
    (((((w.alloc (.cells #[.int .i64 0, .int .i64 3, .int .i64 5] 3)).alloc (.cells #[.int .i64 1] 3)).alloc (.cells #[.int .i64 2] 3)).alloc (.cells #[.int .i64 4] 3)).alloc (.cells #[.slice (some ⟨w.heap.size, 0, none⟩) 3 3, .slice (some ⟨w.heap.size + 1, 0, none⟩) 1 1, .slice (some ⟨w.heap.size + 1 + 1, 0, none⟩) 1 1, .slice (some ⟨w.heap.size + 1 + 1 + 1, 0, none⟩) 1 1] 50))
    fun e w' => e = .returned (.bool true) ∧ Below w.heap.size w w' := by
  let os : List Obj := [.cells #[.int .i64 0, .int .i64 3, .int .i64 5] 3, .cells #[.int .i64 1] 3, .cells #[.int .i64 2] 3, .cells #[.int .i64 4] 3, .cells #[.slice (some ⟨w.heap.size, 0, none⟩) 3 3, .slice (some ⟨w.heap.size + 1, 0, none⟩) 1 1, .slice (some ⟨w.heap.size + 1 + 1, 0, none⟩) 1 1, .slice (some ⟨w.heap.size + 1 + 1 + 1, 0, none⟩) 1 1] 50]
  have hB : Lists (al w os) (some ⟨w.heap.size + 1 + 1 + 1 + 1, 0, none⟩) [[0, 3, 5], [1], [2], [4]] := by
    refine ⟨fun i => if i = 0 then ((some ⟨w.heap.size, 0, none⟩), 3) else if i = 1 then ((some ⟨w.heap.size + 1, 0, none⟩), 1) else if i = 2 then ((some ⟨w.heap.size + 1 + 1, 0, none⟩), 1) else ((some ⟨w.heap.size + 1 + 1 + 1, 0, none⟩), 1), sl_blk (al_blk w os 4 rfl) rfl, fun i hi => ?_⟩
    have hi : i < 4 := hi
    have : i = 0 ∨ i = 1 ∨ i = 2 ∨ i = 3 := by omega
    rcases this with rfl | rfl | rfl | rfl
    · exact sl_blk (al_blk w os 0 rfl) rfl
    · exact sl_blk (al_blk w os 1 rfl) rfl
    · exact sl_blk (al_blk w os 2 rfl) rfl
    · exact sl_blk (al_blk w os 3 rfl) rfl
  refine (lists_any A _ [[0, 3, 5], [1], [2], [4]] [[0, 3, 5], [1], [2], [4]] c 4 (al w os) (hA.keep (al_below w os)) hB (by decide) (by decide)).mono fun e w' h => ⟨by rw [h.1]; rfl, below_all (al_below w os) h.2.below⟩
theorem awake_any (w : World) (hT : Tab w) : Calls Tryz.prog 5 #[] w fun e w' => e = .returned (.bool true) ∧ Below w.heap.size w w' := by
  go_enter Tryz.func5, Tryz.ntmps5
  go_wp2_with (fail)
  refine (aw_stable w hT).mono ?_
  rintro e w1 ⟨A, c, rfl, hA, hb1⟩
  go_wp2_with (fail)
  refine (aw_lists w1 A c hA).mono ?_
  rintro e w2 ⟨rfl, hb2⟩
  go_wp2_with (fail)
  go_ret
  exact ⟨rfl, below_all hb1 hb2⟩
theorem small16_any (p : PVal) (B : Option Addr) (cb : Nat) (b : List (List Int)) (sm : Bool) (w : World) (hP : TermsAt w p.adr p.tv) (hB : Lists w B b) (hsm : sm = true ↔ p.few 8 8 ∧ b.length ≤ 10 ∧ ∀ l ∈ b, l.length ≤ 8) :
    Calls Tryz.prog 4 #[.agg #[.int .i64 p.vars, .slice p.adr p.tv.length p.cap], .slice B b.length cb] w fun e w' => e = .returned (.bool sm) ∧ Below w.heap.size w w' := by
  obtain ⟨q1, h1⟩ : ∃ q1 : Bool, q1 = true ↔ p.few 8 8 := by classical exact ⟨decide (p.few 8 8), decide_eq_true_iff⟩
  obtain ⟨q2, h2⟩ : ∃ q2 : Bool, q2 = true ↔ b.length ≤ 10 ∧ ∀ l ∈ b, l.length ≤ 8 := by classical exact ⟨decide (b.length ≤ 10 ∧ ∀ l ∈ b, l.length ≤ 8), decide_eq_true_iff⟩
  have hbA : Below w.heap.size w (w.alloc (.cells #[.int .i64 p.vars, .slice p.adr p.tv.length p.cap] 24)) := (Below.refl _ _).alloc (Nat.le_refl _) _
  have HSP := Lib.hid (spoly_any p 8 8 q1 _ (hP.keep hbA) h1 (by omega) (by omega))
  have HSL := Lib.hid (fun V (h : Below w.heap.size w V) => small_any B cb 10 8 b q2 V (hB.keep h) h2 (by omega))
  obtain rfl : sm = (q1 && q2) := by
    rw [Bool.eq_iff_iff, hsm, Bool.and_eq_true, h1, h2]
  obtain ⟨P, T, cT, tv⟩ := p
  simp only at *
  clear hsm h1 h2 hP hB
  cases q1 with
  | false =>
    go_enter Tryz.func4, Tryz.ntmps4
    go_wp2_with (go_at_call 16; refine HSP.out.mono ?_; rintro e w1 ⟨rfl, hb1⟩)
    go_ret
    exact ⟨rfl, below_all hbA hb1⟩
  | true =>
    go_enter Tryz.func4, Tryz.ntmps4
    go_wp2_with (first
      | (go_at_call 16; refine HSP.out.mono ?_; rintro e w1 ⟨rfl, hb1⟩
         have hb2 := below_all hbA hb1)
      | (go_at_call 17; refine (HSL.out _ hb2).mono ?_; rintro e w' ⟨rfl, rfl⟩))
    go_ret
    exact ⟨rfl, hb2⟩
end Go.Proofs.Tg.Sx
end
section
/- Small polynomials; the lengths of blocks. -/
namespace Go.Proofs.Tg.Sx
open Go.RowKit Go.Gr Go.Sp Go.Ev Go.Mo Go.Qn
set_option maxHeartbeats 4000000
set_option maxRecDepth 100000
theorem few_small {p : PVal} (h : p.few 8 8) : p.small := ⟨by have := h.1; omega, fun t ht => by have := h.2 t ht; omega⟩
theorem B_lens {b S : List (List Int)} (h : b.length ≤ 64) (t : Nat) : ((rnd b S h).B t).length ≤ 64 ∧ ∀ l ∈ (rnd b S h).B t, l.length ≤ 64 := by
  refine ⟨by rw [rnd_B]; exact comps_len h, fun l hl => ?_⟩
  rw [rnd_B] at hl
  have hv := ed_valid b (setAt b S t) h
  have hm := comps_made hv
  have hp : ∀ {k : Nat} {ls : List (List Int)}, MadeL (edTo b (setAt b S t) b.length) k ls → ∀ l ∈ ls, l.Pairwise (· < ·) := by
    intro k ls hM
    induction hM with
    | zero => intro l hl; cases hl
    | skip _ _ ih => exact ih
    | add _ _ p _ ih =>
      intro l hl
      rcases List.mem_append.1 hl with h | h
      · exact ih l h
      · rw [List.mem_singleton.1 h]; exact p
  have hpw := hp hm l hl
  have hnd : l.Nodup := hpw.imp (fun hab e => by omega)
  have hsub : ∀ x ∈ l, x ∈ (List.range b.length).map fun v : Nat => (v : Int) := fun x hx => by
    obtain ⟨v, rfl, hv2⟩ := comps_lt hv l hl x hx
    exact List.mem_map.2 ⟨v, List.mem_range.2 hv2, rfl⟩
  have := hnd.length_le_of_subset hsub
  rw [List.length_map, List.length_range] at this
  omega
end Go.Proofs.Tg.Sx
end
section
/- The statement SparsityGraph, walked. -/
namespace Go.Proofs.Tg.Sx
open Go.RowKit Go.Gr Go.Sp Go.Ev Go.Mo Go.Qn
set_option maxHeartbeats 4000000
set_option maxRecDepth 100000
/-- The number of vertices and the edges that Graph returns. -/
noncomputable def gN (b : List (List Int)) (er : Int) : Int := if er = 0 then b.length else 0
def gE (p : PVal) (b : List (List Int)) (er : Int) : List (Int × Int) := if er = 0 then edTo b (kn p b) b.length else []
theorem sg_one {p : PVal} {b : List (List Int)} {er : Int} {w w' : World} {e : Ending} (h : RetSG p b er w e w') : ∃ F d, e = .returned (.tuple #[.agg #[.int .i64 (gN b er), .slice F (gE p b er).length d], .int .i64 er]) ∧ Gx.EdgesAt w' F (gE p b er) ∧ Below w.heap.size w w' := by
  obtain ⟨hb, ⟨h1, h2⟩ | ⟨rfl, F, d, h1, h2⟩⟩ := h
  · refine ⟨none, 0, ?_, ?_, hb⟩
    · unfold gN gE
      rw [if_neg h1, if_neg h1]; exact h2
    · unfold gE
      rw [if_neg h1]; exact Sl.nil _ _ _
  · refine ⟨F, d, ?_, ?_, hb⟩
    · unfold gN gE
      rw [if_pos rfl, if_pos rfl]; exact h1
    · unfold gE
      rw [if_pos rfl]; exact h2
end Go.Proofs.Tg.Sx
end
section
/- What the reference keeps while it adds products: words for memory. -/
namespace Go.Proofs.Tg.Sx
open Go.RowKit Go.Gr Go.Sp Go.Ev Go.Mo Go.Qn Go.Jt
set_option maxHeartbeats 4000000
set_option maxRecDepth 100000
structure AdS (w : World) (R : Option Addr) (cr : Nat) (rb : List Rw) (wr : World) (A : Option Addr) (ca : Nat) (rs : List Rw) (bd : Nat) (P : List Int → Prop) : Prop where
  own : wr.ownsRow w.heap.size 50 1 (.slice A rs.length ca) rs.length (rs.map cellR)
  rows : RowsK w wr w.heap.size rs
  bown : wr.ownsRow w.heap.size 50 1 (.slice R rb.length cr) rb.length (rb.map cellR)
  brows : RowsK w wr w.heap.size rb
  dis : (Value.slice R rb.length cr).ownBlock = none ∨ (Value.slice R rb.length cr).ownBlock ≠ (Value.slice A rs.length ca).ownBlock
  below : Below w.heap.size w wr
  few : rs.length ≤ bd
  dom : ∀ r ∈ rs, r.2.2.length ≤ 1000
  iff : ∀ v, v ∈ rs.map (fun r => r.2.2) ↔ P v
theorem AdS.keep {w : World} {R : Option Addr} {cr : Nat} {rb : List Rw} {wr wr' : World} {A : Option Addr} {ca : Nat} {rs : List Rw} {bd : Nat} {P : List Int → Prop} (h : AdS w R cr rb wr A ca rs bd P) (hb : Below wr.heap.size wr wr') : AdS w R cr rb wr' A ca rs bd P :=
  ⟨own_below h.own hb (Nat.le_refl _), h.rows.below hb, own_below h.bown hb (Nat.le_refl _), h.brows.below hb, h.dis, below_all h.below hb, h.few, h.dom, h.iff⟩
theorem AdS.more {w : World} {R : Option Addr} {cr : Nat} {rb : List Rw} {wr : World} {A : Option Addr} {ca : Nat} {rs : List Rw} {bd bd' : Nat} {P Q : List Int → Prop} (h : AdS w R cr rb wr A ca rs bd P) (hb : bd ≤ bd') (hp : ∀ v, P v ↔ Q v) : AdS w R cr rb wr A ca rs bd' Q :=
  ⟨h.own, h.rows, h.bown, h.brows, h.dis, h.below, by have := h.few; omega, h.dom, fun v => (h.iff v).trans (hp v)⟩
theorem AdS.lists {w : World} {R : Option Addr} {cr : Nat} {rb : List Rw} {wr : World} {A : Option Addr} {ca : Nat} {rs : List Rw} {bd : Nat} {P : List Int → Prop} (h : AdS w R cr rb wr A ca rs bd P) : Lists wr A (rs.map fun r => r.2.2) := rows_lists (c := ca) (Sl.own h.own) h.rows h.below
theorem AdS.blocks {w : World} {R : Option Addr} {cr : Nat} {rb : List Rw} {wr : World} {A : Option Addr} {ca : Nat} {rs : List Rw} {bd : Nat} {P : List Int → Prop} (h : AdS w R cr rb wr A ca rs bd P) : Lists wr R (rb.map fun r => r.2.2) := rows_lists (c := cr) (Sl.own h.bown) h.brows h.below
theorem AdS.snoc {w : World} {R : Option Addr} {cr : Nat} {rb : List Rw} {wx w3 : World} {A : Option Addr} {ca : Nat} {rs : List Rw} {bd : Nat} {P : List Int → Prop} (h : AdS w R cr rb wx A ca rs bd P) {g g2 cap n : Nat} {m : List Int}
    (hG : Blk wx g 3 (iarr m)) (hg : w.heap.size ≤ g) (hm : m.length = n) (hn : n ≤ 6)
    (hown : w3.ownsRow w.heap.size 50 1 (.slice (some ⟨g2, 0, none⟩) (rs.length + 1) cap) (rs.length + 1) (rs.map cellR ++ [Value.slice (some ⟨g, 0, none⟩) n n]))
    (hgr : (wx.alloc (.cells #[.slice (some ⟨g, 0, none⟩) n n] 50)).grownBy w3 (Value.slice A rs.length ca).ownBlock)
    (hloc : (Value.slice A rs.length ca).ownBlock = some g2 ∨ g2 = (wx.alloc (.cells #[.slice (some ⟨g, 0, none⟩) n n] 50)).heap.size) :
    AdS w R cr rb w3 (some ⟨g2, 0, none⟩) cap (rs ++ [(some ⟨g, 0, none⟩, n, m)]) (bd + 1) (fun v => P v ∨ v = m) := by
  have ha := Below.alloc (Below.refl wx.heap.size wx) (Nat.le_refl _) (.cells #[.slice (some ⟨g, 0, none⟩) n n] 50)
  have h2 := h.keep ha
  have hG2 := hG.alloc (.cells #[.slice (some ⟨g, 0, none⟩) n n] 50)
  generalize wx.alloc (.cells #[.slice (some ⟨g, 0, none⟩) n n] 50) = X at *
  have h4 := own_int (base := w.heap.size) hG2 hg hm hn
  have ec : [((some ⟨g, 0, none⟩, n, m) : Rw)].map cellR = [Value.slice (some ⟨g, 0, none⟩) n n] := by simp [cellR, hm]
  refine ⟨?_, (h2.rows.kept h2.own hgr).snoc (.inr (h4.kept hgr (own_ne h4 h2.own (by decide)))), h2.bown.kept hgr h2.dis, h2.brows.kept h2.own hgr, ?_, ?_, ?_, ?_, ?_⟩
  · rw [List.length_append, List.map_append, ec]; exact hown
  · rcases h2.dis with e | e
    · exact .inl e
    · right
      rcases hloc with e2 | e2
      · rw [e2] at e
        simpa [Value.ownBlock] using e
      · intro e3
        have e4 : (Value.slice R rb.length cr).ownBlock = some g2 := by simpa [Value.ownBlock] using e3
        have := (h2.bown.lt g2 e4).2
        omega
  · exact h2.below.grown hgr h2.below.size (fun k hk => (h2.own.lt k hk).1)
  · have := h.few
    rw [List.length_append, List.length_singleton]; omega
  · intro r hr
    rcases List.mem_append.1 hr with hr | hr
    · exact h.dom r hr
    · rw [List.mem_singleton.1 hr]
      simp only
      omega
  · intro v
    rw [List.map_append, List.mem_append, h.iff]
    simp
/-- The blocks' list that Parts returns, in these words. -/
theorem rows_of_enc {m : Nat} {F : Nat → Option Addr × Nat} {ls : Nat → List Int} : ((List.range m).map fun i => (((F i).1, (F i).2, ls i) : Rw)).map cellR = (List.range m).map (Gx.enc F ls) := by
  rw [List.map_map]
  rfl
theorem tableAt_congr {w : World} {g n : Nat} {t t' : Nat → Nat → Bool} (h : Gx.TableAt w g n t) (he : ∀ i j, i < n → j < n → t i j = t' i j) : Gx.TableAt w g n t' :=
  ⟨h.head, fun i hi => by
    have := h.row i hi
    rw [Gx.farr_congr (g := fun j => Value.bool (t' i j)) (fun j hj => by rw [he i j hi hj])] at this
    exact this⟩
end Go.Proofs.Tg.Sx
end
section
/- The reference's rounds. -/
namespace Go.Proofs.Tg.Sx
open Go.RowKit Go.Gr Go.Sp Go.Ev Go.Mo Go.Qn Go.Jt
set_option maxHeartbeats 4000000
set_option maxRecDepth 100000
def RetRR16 (K : Nat) (b S : List (List Int)) (hb : b.length ≤ 64) (w : World) (e : Ending) (w' : World) : Prop :=
  ∃ m R c, (rnd b S hb).Final K m ∧ e = .returned (.tuple #[.slice R ((rnd b S hb).B (m - 1)).length c, .int .i64 (m : Nat)]) ∧ Lists w' R ((rnd b S hb).B (m - 1)) ∧ Below w.heap.size w w'
end Go.Proofs.Tg.Sx
end
section
/- The reference's Blocks and Stable. -/
namespace Go.Proofs.Tg.Sx
open Go.RowKit Go.Gr Go.Sp Go.Ev Go.Mo Go.Qn Go.Jt
set_option maxHeartbeats 4000000
set_option maxRecDepth 100000
end Go.Proofs.Tg.Sx
end
