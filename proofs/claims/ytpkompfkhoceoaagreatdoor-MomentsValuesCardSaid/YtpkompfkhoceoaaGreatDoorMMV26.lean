/- Parts of the proof: TX3, OF1, VA1, TM2. -/
import Derived.Maps.AppendAt
import Derived.Test.YtpkompfkhoceoaaGreatDoorMMV5
import Derived.Test.YtpkompfkhoceoaaGreatDoorMMV8
import Derived.Test.YtpkompfkhoceoaaGreatDoorMMV18
import Derived.Test.YtpkompfkhoceoaaGreatDoorMMV24
import Derived.Test.YtpkompfkhoceoaaGreatDoorMMV25
section
/- The program's powers of the coordinates of a point. -/
namespace Go.Proofs.Tg.Fi
open Go.RowKit Go.Rq Go.Qn Go.Bn Go.Proofs.Tg
set_option maxHeartbeats 8000000
set_option maxRecDepth 100000
/-- A row of texts. -/
structure TRow where
  A : Option Addr
  c : Nat
  qs : List Rat
def TRow.cell (r : TRow) : Value := .slice r.A r.qs.length r.c
def TRow.own (base : Nat) (w : World) (r : TRow) : Prop := w.ownsRow base 9 1 (.slice r.A r.qs.length r.c) r.qs.length (r.qs.map vq)
def pw (d : Nat) (x : Rat) : List Rat := (List.range (d + 1)).map fun e => x ^ e
def pwTo (k : Nat) (x : Rat) : List Rat := (List.range k).map fun e => x ^ e
theorem pwTo_succ (k : Nat) (x : Rat) : pwTo (k + 1) x = pwTo k x ++ [x ^ k] := by unfold pwTo; rw [List.range_succ, List.map_append]; rfl
/-- The heads of n rows: some done, one under way, the others not begun. -/
def heads (done : List TRow) (cur : Value) (n : Nat) : Array Value := (done.map TRow.cell ++ cur :: List.replicate (n - (done.length + 1)) (Value.slice none 0 0)).toArray
theorem heads_set (done : List TRow) (cur cur' : Value) (n : Nat) : (heads done cur n).setIfInBounds done.length cur' = heads done cur' n := by
  unfold heads
  rw [List.setIfInBounds_toArray, List.set_append_right _ _ (by simp), List.length_map, Nat.sub_self, List.set_cons_zero]
theorem heads_at (done : List TRow) (cur : Value) (n : Nat) : (heads done cur n)[done.length]? = some cur := by
  unfold heads
  rw [List.getElem?_toArray, List.getElem?_append_right (by simp), List.length_map, Nat.sub_self]; rfl
/-- Between two rows. -/
def heads2 (done : List TRow) (n : Nat) : Array Value := (done.map TRow.cell ++ List.replicate (n - done.length) (Value.slice none 0 0)).toArray
theorem heads2_open (done : List TRow) (n : Nat) (h : done.length < n) : heads2 done n = heads done (.slice none 0 0) n := by
  unfold heads2 heads
  rw [show n - done.length = (n - (done.length + 1)) + 1 by omega, List.replicate_succ]
theorem heads2_shut (done : List TRow) (r : TRow) (n : Nat) : heads done r.cell n = heads2 (done ++ [r]) n := by
  unfold heads2 heads
  congr 1
  rw [List.map_append, List.length_append]
  simp
theorem heads2_zero (n : Nat) : madeCells #[.slice none 0 0] n = heads2 [] n := by
  apply Array.ext
  · simp [heads2, size_madeCells]
  · intro i h1 h2
    simp [madeCells, heads2, Nat.mod_one]
theorem heads2_all (done : List TRow) : heads2 done done.length = (done.map TRow.cell).toArray := by simp [heads2]
theorem txtrow_info : (Tryz.prog.info? 22).map (fun i => (i.zero, i.size, i.bytes)) = some (some (.slice none 0 0), 1, 24) := by kernel_rfl
theorem make_txtrows (n : Nat) (hn : n ≤ 1000000) (w : World) : (Instr.makeSlice 33 (.int .i64 (n : Int)) (.int .i64 (n : Int))).run Tryz.prog w = .ok (.slice (some ⟨w.heap.size, 0, none⟩) n n) (w.alloc (.cells (madeCells #[.slice none 0 0] n) 22)) := by
  obtain ⟨i0, hi, hz0, hz1, hz2⟩ := info_parts txtrow_info
  have hr := run_make (P := Tryz.prog) w 33 22 i0 (.slice none 0 0) Tryz.underlying33 hi hz0 .i64 .i64 n n (by omega) (by omega) (by rw [hz2]; omega) (by omega)
  rw [hz1, Nat.mul_one, Int.toNat_natCast] at hr
  exact hr
theorem own_str_far {w : World} {g base : Nat} {cs : Array Value} {r : TRow} (h : r.own base w) (B : Blk w g 22 cs) (i : Nat) (u : Value) : r.own base (w.setCell ⟨g, i, none⟩ u) :=
  own_far h (own_blk_ne h B (by decide)) u
/-- The powers of several numbers, in rows of the call's own. -/
structure PowsB (base : Nat) (w : World) (g : Nat) (d : Nat) (xs : List Rat) (rows : List TRow) : Prop where
  ge : base ≤ g
  hd : Blk w g 22 (rows.map TRow.cell).toArray
  eq : rows.map TRow.qs = xs.map (pw d)
  own : ∀ r ∈ rows, r.own base w
theorem PowsB.keep {base : Nat} {w w' : World} {g d : Nat} {xs : List Rat} {rows : List TRow} (h : PowsB base w g d xs rows) (hb : Below w.heap.size w w') : PowsB base w' g d xs rows :=
  ⟨h.ge, h.hd.keep hb h.hd.lt, h.eq, fun r hr => own_below (h.own r hr) hb (Nat.le_refl _)⟩
theorem PowsB.far {base : Nat} {w : World} {g d b : Nat} {xs : List Rat} {rows : List TRow} (h : PowsB base w g d xs rows) (hb : b < base) (i : Nat) (u : Value) : PowsB base (w.setCell ⟨b, i, none⟩ u) g d xs rows :=
  ⟨h.ge, h.hd.far (by have := h.ge; simp; omega) _, h.eq, fun r hr => own_far (h.own r hr) (fun e => by have := ((h.own r hr).lt _ e.symm).1; simp only at this; omega) u⟩
theorem PowsB.at {base : Nat} {w : World} {g d : Nat} {xs : List Rat} {rows : List TRow} (h : PowsB base w g d xs rows) {j : Nat} (hj : j < xs.length) : ∃ R c, w.cell? ⟨g, j, none⟩ = some (.slice R (d + 1) c) ∧ Txts w R (pw d xs[j]) := by
  have hl : rows.length = xs.length := by have := congrArg List.length h.eq; simpa using this
  have hj2 : j < rows.length := by omega
  have hq : rows[j].qs = pw d xs[j] := by
    have h1 : (rows.map TRow.qs)[j]? = (xs.map (pw d))[j]? := by rw [h.eq]
    simpa [hj, hj2] using h1
  have hql : rows[j].qs.length = d + 1 := by rw [hq]; simp [pw]
  refine ⟨rows[j].A, rows[j].c, ?_, ?_⟩
  · rw [h.hd.cell j]
    simp [hj2, TRow.cell, hql]
  · rw [← hq]; exact Sl.own (h.own _ (List.getElem_mem hj2))
theorem pw_at (d : Nat) (x : Rat) {e : Nat} (he : e ≤ d) : ∃ h : e < (pw d x).length, (pw d x)[e] = x ^ e := ⟨by simp [pw]; omega, by simp [pw]⟩
structure PwSt (w : World) (d g n : Nat) (xs : List Rat) (wr : World) (j : Nat) (done : List TRow) : Prop where
  below : Below w.heap.size w wr
  hd : Blk wr g 22 (heads2 done n)
  own : ∀ r ∈ done, r.own w.heap.size wr
  eq : done.map TRow.qs = (xs.take j).map (pw d)
structure PwIn (w w0 : World) (g n : Nat) (wr : World) (done : List TRow) (r : TRow) : Prop where
  below : Below w.heap.size w wr
  size : w0.heap.size ≤ wr.heap.size
  hd : Blk wr g 22 (heads done r.cell n)
  own : ∀ r ∈ done, r.own w.heap.size wr
  cur : r.own w0.heap.size wr
def RetPows (d : Nat) (xs : List Rat) (w : World) (e : Ending) (w' : World) : Prop := ∃ g rows, e = .returned (.slice (some ⟨g, 0, none⟩) xs.length xs.length) ∧ PowsB w.heap.size w' g d xs rows ∧ Below w.heap.size w w'
theorem pows_q (X : Option Addr) (cx d : Nat) (xs : List Rat) (w : World) (hX : Txts w X xs) (hs : ∀ x ∈ xs, Sh x ∧ ∀ e, e ≤ d → Sh (x ^ e)) (hn : xs.length ≤ 1000) (hd : d ≤ 1000) (ht : PT w) :
    Calls Tryz.prog 39 #[.slice X xs.length cx, .int .i64 (d : Nat)] w (RetPows d xs w) := by
  obtain ⟨i0, hi, hz0, hz1, hz2⟩ := info_parts text_info
  obtain ⟨n, hn'⟩ : ∃ n, xs.length = n := ⟨_, rfl⟩
  have HX := Lib.hid hX
  have HSH := Lib.hid hs
  have HT := Lib.hid ht
  have hmk := make_txtrows n (by omega)
  obtain ⟨W, hW⟩ : ∃ W, w.alloc (.cells (madeCells #[.slice none 0 0] n) 22) = W := ⟨_, rfl⟩
  have HST : Hid (PwSt w d w.heap.size n xs W 0 []) := Lib.hid (by
    refine ⟨?_, ?_, fun r hr => absurd hr (by simp), by simp⟩
    · rw [← hW]; exact (Below.refl _ _).alloc (Nat.le_refl _) _
    · rw [← hW, ← heads2_zero n]; exact Blk.new _ _ _)
  unfold RetPows
  rw [hn'] at hn ⊢
  have HN := Lib.hid hn'
  have HWW := Lib.hid hW
  clear hX hs ht hn' hW
  go_enter Tryz.func39, Tryz.ntmps39
  go_upto_region 2 with (fail)
  rw [HWW.out]
  go_wp2
  go_loopw [14] (fun s14 wr => ∃ (done : List TRow), s14 = .int .i64 (done.length : Nat) ∧ done.length ≤ n ∧ Hid (PwSt w d w.heap.size n xs wr done.length done)) (fun s14 _ => n - (intOf s14).toNat)
  case atStart => exact ⟨[], rfl, Nat.zero_le _, HST⟩
  case round =>
    clear HST
    obtain ⟨wo, rfl⟩ : ∃ wo : World, wo = wr := ⟨_, rfl⟩
    obtain ⟨done, rfl, hk, HST⟩ := hrel
    obtain ⟨k, hkk⟩ : ∃ k, done.length = k := ⟨_, rfl⟩
    rw [hkk] at hk ⊢
    have HK := Lib.hid hkk
    clear hkk
    by_cases hkn : k = n
    · have e1 : decide ((k : Int) < (n : Int)) = false := decide_eq_false (by omega)
      have e1' : decide (k < n) = false := decide_eq_false (by omega)
      have HKN := Lib.hid hkn
      clear hkn
      go_wp2
      go_ret
      have h := HST.out
      have hB := h.hd
      have hdl : done.length = n := by rw [HK.out]; exact HKN.out
      rw [← hdl, heads2_all] at hB
      refine ⟨w.heap.size, done, rfl, ⟨Nat.le_refl _, hB, ?_, h.own⟩, h.below⟩
      rw [h.eq, hdl, ← HN.out, List.take_length]
    · have hkl : k < n := by omega
      have e1 : decide ((k : Int) < (n : Int)) = true := decide_eq_true (by omega)
      have e1' : decide (k < n) = true := decide_eq_true hkl
      have q0 : (0 : Int) ≤ (k : Int) := by omega
      have q1 : (k : Int) < (n : Int) := by omega
      have hkx : k < xs.length := by rw [HN.out]; exact hkl
      obtain ⟨ad, rfl, hc⟩ := Txts.at (HX.out.keep HST.out.below) hkx
      have HTK : Hid (xs.take (k + 1) = xs.take k ++ [xs[k]'hkx]) := Lib.hid (List.take_succ_eq_append_getElem hkx)
      have HSX := Lib.hid (HSH.out (xs[k]'hkx) (List.getElem_mem _))
      generalize xs[k]'hkx = x at *
      have hgw : w.heap.size < wo.heap.size := HST.out.hd.lt
      have HIN : Hid (PwIn w wo w.heap.size n wo done ⟨none, 0, []⟩) := Lib.hid (by
        have h := HST.out
        refine ⟨h.below, Nat.le_refl _, ?_, h.own, World.ownsRow_nil _ _ _ _⟩
        have := h.hd
        rw [heads2_open done n (by rw [HK.out]; exact hkl)] at this
        exact this)
      have HP0 : Hid (bs [49] = qtx (x ^ 0)) := Lib.hid (by
        rw [Rat.pow_zero, show (1 : Rat) = ((1 : Int) : Rat) from rfl, qtx_int]
        have : Lib.itoa 1 = [49] := by unfold Lib.itoa; rw [if_neg (by omega)]; exact dec_one
        rw [this])
      obtain ⟨S, hS⟩ : ∃ S, qtx x = S := ⟨_, rfl⟩
      rw [hS] at hc
      have HSS := Lib.hid hS
      clear hkn hS
      go_wp2
      go_loopw [8, 21] (fun s8 s21 wr => ∃ (r : TRow) (U : ByteArray), s8 = .string U ∧ s21 = .int .i64 (r.qs.length : Nat) ∧ r.qs.length ≤ d + 1 ∧ Hid (U = qtx (x ^ r.qs.length)) ∧ Hid (r.qs = pwTo r.qs.length x) ∧ Hid (PwIn w wo w.heap.size n wr done r)) (fun _ s21 _ => d + 1 - (intOf s21).toNat)
      case atStart => exact ⟨⟨none, 0, []⟩, _, rfl, rfl, Nat.zero_le _, HP0, Lib.hid rfl, HIN⟩
      case round =>
        clear HIN hc
        obtain ⟨wi, rfl⟩ : ∃ wi : World, wi = wr := ⟨_, rfl⟩
        obtain ⟨r, U, rfl, rfl, hr, HU, HQ, HPI⟩ := hrel
        obtain ⟨m, hm⟩ : ∃ m, r.qs.length = m := ⟨_, rfl⟩
        rw [hm] at hr HU HQ ⊢
        have HM := Lib.hid hm
        clear hm
        by_cases hmd : m = d + 1
        · have e2 : decide ((m : Int) < (d : Int) + 1) = false := decide_eq_false (by omega)
          have HMD := Lib.hid hmd
          clear hmd
          go_wp2
          go_roundw
          case rel =>
            refine ⟨done ++ [r], by rw [List.length_append, HK.out]; go_num, by rw [List.length_append, HK.out]; simp; omega, Lib.hid ⟨HPI.out.below, ?_, ?_, ?_⟩⟩
            · rw [← heads2_shut]; exact HPI.out.hd
            · intro r' hr'
              rcases List.mem_append.1 hr' with hr' | hr'
              · exact HPI.out.own r' hr'
              · rw [List.mem_singleton.1 hr']; exact own_base HPI.out.cur (Nat.le_of_lt hgw)
            · rw [List.length_append, HK.out, List.length_singleton, HTK.out, List.map_append, List.map_append]
              have := HST.out.eq
              rw [HK.out] at this
              rw [this, List.map_cons, List.map_nil, List.map_cons, List.map_nil, HQ.out, HMD.out]
              rfl
          case measure => simp [intOf]; omega
        · have hmd2 : m < d + 1 := by omega
          have e2 : decide ((m : Int) < (d : Int) + 1) = true := decide_eq_true (by omega)
          have hB := HPI.out.hd
          have c0 : wi.cell? ⟨w.heap.size, k, none⟩ = some (.slice r.A m r.c) := by
            rw [hB.cell k, ← HK.out, heads_at]
            unfold TRow.cell
            rw [HM.out]
          have f0 := hB.frozen k
          have hsz := HPI.out.size
          have hcur := HPI.out.cur
          unfold TRow.own at hcur
          rw [HM.out] at hcur
          have hcurA := hcur.alloc (.cells #[.string U] 9)
          have hgs : w.heap.size < wi.heap.size := hB.lt
          clear hmd hB
          obtain ⟨rA, hrA⟩ : ∃ a, r.A = a := ⟨_, rfl⟩
          obtain ⟨rc, hrc⟩ : ∃ a, r.c = a := ⟨_, rfl⟩
          rw [hrA, hrc] at c0 hcur hcurA
          have HRA := Lib.hid hrA
          have HRC := Lib.hid hrc
          clear hrA hrc
          have HCA := Lib.hid hcurA
          go_wp2_with (first
            | (at_builtin; refine wpList_append_own_at _ rfl _ _ 22 rfl wo.heap.size 9 i0 _ 1 16 Tryz.underlying22 hi hz0 hz1 hz2 rfl (by decide) (.slice rA m rc) m _ rfl hcurA ⟨wi.heap.size, 0, none⟩ 1 1 [.string U] rfl rfl ?c1 ?c2 ?c3 ?c4 ?c5 ?_
               case c1 => exact cell_one_new _ _ _
               case c2 => simp [Value.oneCell']
               case c3 => simp only [maxLen]; omega
               case c4 => omega
               case c5 => simp; omega
               intro v' w5 hown' hgrow _ hat
               have hnb : some w.heap.size ≠ (Value.slice rA m rc).ownBlock := fun e => by have := (HCA.out.lt _ e.symm).1; omega
               have hal := Below.alloc (Below.refl wi.heap.size wi) (Nat.le_refl _) (.cells #[.string U] 9)
               have hB5 := (HPI.out.hd.keep hal HPI.out.hd.lt).grown hgrow hnb
               have c5 : w5.cell? ⟨w.heap.size, k, none⟩ = some (.slice rA m rc) := by
                 rw [hB5.cell k, ← HK.out, heads_at]
                 unfold TRow.cell
                 rw [HM.out, HRA.out, HRC.out]
               have f5 := hB5.frozen k
               obtain ⟨A2, cs2, hv2, _, _⟩ := Sl.of_own hown'
               subst hv2))
          have hbe5 : Below w.heap.size w w5 := (below_all HPI.out.below hal).grown hgrow (by have := (below_all HPI.out.below hal).size; exact this) (fun j hj => by have := (hcurA.lt j hj).1; omega)
          have hds : ∀ q ∈ done, q.own w.heap.size w5 := fun q hq => by
            have h1 := own_below (HPI.out.own q hq) hal (Nat.le_refl _)
            refine h1.kept hgrow ?_
            cases hob : (Value.slice q.A q.qs.length q.c).ownBlock with
            | none => exact .inl rfl
            | some b =>
              refine .inr (fun e => ?_)
              have h2 := ((HST.out.own q hq).lt b hob).2
              have h3 := (hcurA.lt b e.symm).1
              omega
          have HDS := Lib.hid hds
          have HB5 := Lib.hid hB5
          have HC5 := Lib.hid hown'
          have HBE := Lib.hid hbe5
          have hs5 : wo.heap.size ≤ w5.heap.size := by have := hgrow.size; simp at this; omega
          have HMU := Lib.hid (fun V (h : Below w.heap.size w V) => mul_q (x ^ m) x (HSX.out.2 m (by omega)) HSX.out.1 V (HT.out.keep h))
          rw [← HU.out, HSS.out] at HMU
          unfold RetTx at HMU
          have HPS : Hid (x ^ m * x = x ^ (m + 1)) := Lib.hid (Rat.pow_succ x m).symm
          rw [HPS.out] at HMU
          obtain ⟨U2, hU2⟩ : ∃ U2, qtx (x ^ (m + 1)) = U2 := ⟨_, rfl⟩
          rw [hU2] at HMU
          have HU2 := Lib.hid hU2
          clear hds hbe5 hal hcurA hcur hB5 hown' hgrow hat hU2 c0 f0
          have hbe6 : Below w.heap.size w (w5.setCell ⟨w.heap.size, k, none⟩ (.slice A2 (m + 1) cs2)) := below_far HBE.out (Nat.le_refl _) _ _
          have hlen : (r.qs ++ [x ^ m]).length = m + 1 := by rw [List.length_append, HM.out]; rfl
          have HIN2 : Hid (∀ V, Below (w5.setCell ⟨w.heap.size, k, none⟩ (.slice A2 (m + 1) cs2)).heap.size (w5.setCell ⟨w.heap.size, k, none⟩ (.slice A2 (m + 1) cs2)) V → PwIn w wo w.heap.size n V done ⟨A2, cs2, r.qs ++ [x ^ m]⟩) := Lib.hid (fun V hV => by
            have hB6 := HB5.out.set k (.slice A2 (m + 1) cs2)
            rw [← HK.out, heads_set, HK.out] at hB6
            have hcell : TRow.cell ⟨A2, cs2, r.qs ++ [x ^ m]⟩ = .slice A2 (m + 1) cs2 := by unfold TRow.cell; rw [hlen]
            refine ⟨below_all hbe6 hV, ?_, ?_, ?_, ?_⟩
            · have h1 := hV.size
              have h2 : (w5.setCell ⟨w.heap.size, k, none⟩ (.slice A2 (m + 1) cs2)).heap.size = w5.heap.size := by simp [World.setCell]
              omega
            · rw [hcell]; exact hB6.keep hV hB6.lt
            · intro q hq
              exact own_below (own_str_far (HDS.out q hq) HB5.out k _) hV (Nat.le_refl _)
            · have h1 : TRow.own wo.heap.size w5 ⟨A2, cs2, r.qs ++ [x ^ m]⟩ := by
                unfold TRow.own
                rw [hlen, List.map_append]
                have h2 := HC5.out
                rw [show U = qtx (x ^ m) from HU.out] at h2
                exact h2
              exact own_below (own_str_far h1 HB5.out k _) hV (Nat.le_refl _))
          have HLEN := Lib.hid hlen
          clear hlen
          refine (HMU.out _ hbe6).mono ?_
          rintro e w7 ⟨rfl, hb7⟩
          go_wp2
          go_roundw
          case rel =>
            refine ⟨⟨A2, cs2, r.qs ++ [x ^ m]⟩, U2, rfl, by rw [HLEN.out]; go_num, by rw [HLEN.out]; omega, Lib.hid (by rw [HLEN.out, HU2.out]), Lib.hid (by rw [HLEN.out, pwTo_succ, ← HQ.out]), HIN2.out _ hb7⟩
          case measure => simp [intOf]; omega
end Go.Proofs.Tg.Fi
end
section
/- Plain and memory: the values of the functional of points. -/
namespace Go.Rq
/-- A weight times powers of coordinates. -/
def tmTo (w : Rat) (x : List Rat) (m : List Int) : Nat → Rat
  | 0 => w
  | k + 1 => tmTo w x m k * (x.getD k 0) ^ ((m.getD k 0).toNat)
def tm (w : Rat) (x : List Rat) (m : List Int) : Rat := tmTo w x m m.length
def sumTo (ws : List Rat) (xs : List (List Rat)) : Nat → List Int → Rat
  | 0, _ => 0
  | k + 1, m => sumTo ws xs k m + tm (ws.getD k 0) (xs.getD k []) m
/-- A list of values of which the first i are new. -/
def vals (f h : List Int → Rat) (ms : List (List Int)) (i : Nat) : List Rat := (ms.take i).map h ++ (ms.drop i).map f
theorem vals_zero (f h : List Int → Rat) (ms : List (List Int)) : vals f h ms 0 = ms.map f := by simp [vals]
theorem vals_all (f h : List Int → Rat) (ms : List (List Int)) : vals f h ms ms.length = ms.map h := by simp [vals]
theorem vals_at (f h : List Int → Rat) (ms : List (List Int)) {i : Nat} (hi : i < ms.length) : (vals f h ms i)[i]? = some (f ms[i]) := by
  unfold vals
  rw [List.getElem?_append_right (by simp; omega), List.length_map, List.length_take, Nat.min_eq_left (by omega), Nat.sub_self, List.drop_eq_getElem_cons hi]; rfl
theorem vals_set (f h : List Int → Rat) (ms : List (List Int)) {i : Nat} (hi : i < ms.length) : (vals f h ms i).set i (h ms[i]) = vals f h ms (i + 1) := by
  unfold vals
  rw [List.set_append_right _ _ (by simp; omega), List.length_map, List.length_take, Nat.min_eq_left (by omega), Nat.sub_self, List.drop_eq_getElem_cons hi, List.map_cons, List.set_cons_zero, List.take_succ_eq_append_getElem hi, List.map_append, List.map_cons, List.map_nil, List.append_assoc]
  rfl
end Go.Rq
namespace Go.Proofs.Tg.Fi
open Go.RowKit Go.Rq Go.Qn Go.Bn Go.Mm Go.Proofs.Tg
set_option maxHeartbeats 8000000
set_option maxRecDepth 100000
/-- Rows of texts that can be read. -/
structure TRowsAt (w : World) (A : Option Addr) (xs : List (List Rat)) : Prop where
  ex : ∃ rows : List TRow, Sl w A rows.length 1 (rows.map TRow.cell) ∧ rows.map TRow.qs = xs ∧ ∀ r ∈ rows, Txts w r.A r.qs
theorem TRowsAt.keep {w w' : World} {A : Option Addr} {xs : List (List Rat)} (h : TRowsAt w A xs) (hb : Below w.heap.size w w') : TRowsAt w' A xs := by
  obtain ⟨rows, h1, h2, h3⟩ := h.ex
  exact ⟨rows, h1.keep hb, h2, fun r hr => (h3 r hr).keep hb⟩
theorem TRowsAt.at {w : World} {A : Option Addr} {xs : List (List Rat)} (h : TRowsAt w A xs) {k : Nat} (hk : k < xs.length) : ∃ ad R c, A = some ad ∧ w.cell? (ad.add k) = some (.slice R xs[k].length c) ∧ Txts w R xs[k] := by
  obtain ⟨rows, h1, h2, h3⟩ := h.ex
  have hl : rows.length = xs.length := by rw [← h2, List.length_map]
  have hk2 : k < rows.length := by omega
  obtain ⟨ad, e, hc⟩ := Sl.at1 h1 hk2
  have hx : xs[k] = rows[k].qs := by subst h2; simp
  refine ⟨ad, rows[k].A, rows[k].c, e, ?_, ?_⟩
  · rw [hx]; simpa [TRow.cell] using hc
  · rw [hx]; exact h3 _ (List.getElem_mem _)
theorem qtx_zero : qtx (0 : Rat) = ⟨#[48]⟩ := by
  rw [show (0 : Rat) = ((0 : Int) : Rat) from rfl, qtx_int]
  have : Lib.itoa 0 = [48] := by unfold Lib.itoa; rw [if_neg (by omega)]; exact dec_zero
  rw [this]; rfl
/-- The functional that a call returns. -/
def RetFun (v d : Nat) (qs : List Rat) (w : World) (e : Ending) (w' : World) : Prop := ∃ A, e = .returned (.tuple #[.agg #[.int .i64 (v : Nat), .int .i64 (d : Nat), .slice A qs.length qs.length], .int .i64 0]) ∧ Txts w' A qs ∧ Below w.heap.size w w'
theorem txts_set {w : World} {g : Nat} {qs : List Rat} (h : Blk w g 9 (qs.map vq).toArray) (i : Nat) (q : Rat) : Blk (w.setCell ⟨g, i, none⟩ (.string (qtx q))) g 9 ((qs.set i q).map vq).toArray := by
  have := h.set i (.string (qtx q))
  rw [List.setIfInBounds_toArray, show Value.string (qtx q) = vq q from rfl, ← List.map_set] at this
  exact this
/-- What the innermost loop of Of needs of its data. -/
structure OfOk (v d : Nat) (ws : List Rat) (xs : List (List Rat)) : Prop where
  n1 : 1 ≤ xs.length
  n2 : xs.length ≤ 16
  lw : ws.length = xs.length
  dim : ∀ x ∈ xs, x.length = v
  v1 : 1 ≤ v
  v6 : v ≤ 6
  d24 : d ≤ 24
  few : cnt v d ≤ 1024
  shw : ∀ q ∈ ws, Sh q
  shx : ∀ x ∈ xs, ∀ q ∈ x, Sh q ∧ ∀ e, e ≤ d → Sh (q ^ e)
  sht : ∀ k, k < xs.length → ∀ m ∈ mons v d, ∀ j, j ≤ v → Sh (tmTo (ws.getD k 0) (xs.getD k []) m j)
  shs : ∀ k, k ≤ xs.length → ∀ m ∈ mons v d, Sh (sumTo ws xs k m)
end Go.Proofs.Tg.Fi
end
section
/- The program's check of a functional whose values are short and as many as they must be. -/
namespace Go.Proofs.Tg.Fi
open Go.RowKit Go.Gr Go.Bn Go.Rq Go.Qn Go.Mm
set_option maxHeartbeats 8000000
set_option maxRecDepth 100000
theorem fvalid_any (v d : Nat) (A : Option Addr) (c : Nat) (qs : List Rat) (w : World) (h1 : 1 ≤ v) (h6 : v ≤ 6) (hd : d ≤ 24) (hf : cnt v d ≤ 1024) (hl : qs.length = cnt v d) (hA : Txts w A qs) (hs : ∀ q ∈ qs, Sh q) :
    Calls Tryz.prog 11 #[.agg #[.int .i64 (v : Nat), .int .i64 (d : Nat), .slice A qs.length c]] w fun e w' => e = .returned (.bool true) ∧ Below w.heap.size w w' := by
  obtain ⟨W, hW⟩ : ∃ W, w.alloc (.cells #[.int .i64 (v : Nat), .int .i64 (d : Nat), .slice A qs.length c] 24) = W := ⟨_, rfl⟩
  have hbW : Below w.heap.size w W := by rw [← hW]; exact (Below.refl _ _).alloc (Nat.le_refl _) _
  have HBW := Lib.hid hbW
  have B1 : Blk W w.heap.size 24 #[.int .i64 (v : Nat), .int .i64 (d : Nat), .slice A qs.length c] := by rw [← hW]; exact Blk.new _ _ _
  have HCO := Lib.hid (count_any v d h6 hd W)
  have HNU : Hid (∀ V, Below W.heap.size W V → Calls Tryz.prog 37 #[.slice A qs.length c] V fun e w' => e = .returned (.bool true) ∧ Below V.heap.size V w') := Lib.hid (fun V hb => numbers_q A c qs V (hA.keep (below_all hbW hb)) hs (by omega))
  have HB1 := Lib.hid B1
  have HWW := Lib.hid hW
  rw [hl] at HNU HB1 HWW ⊢
  clear hW hbW B1 hA hs hl
  generalize cnt v d = n at *
  have b1 : decide ((v : Int) < 1) = false := decide_eq_false (by omega)
  have b2 : decide ((6 : Int) < (v : Int)) = false := decide_eq_false (by omega)
  have b2' : decide (6 < v) = false := decide_eq_false (by omega)
  have b3 : decide ((n : Int) ≤ 1024) = true := decide_eq_true (by omega)
  have b3' : decide (n ≤ 1024) = true := decide_eq_true (by omega)
  have hb1 := HB1.out
  obtain ⟨x0, x1, x2, _, _, _⟩ := hb1.three
  clear hb1
  go_enter Tryz.func11, Tryz.ntmps11
  go_upto_region 1 with (fail)
  rw [HWW.out]
  go_wp2_with (first
    | (go_at_call 36; refine HCO.out.mono ?_; rintro e w2 ⟨rfl, hb2⟩; have HB2 := Lib.hid hb2; have Y := HB1.out.keep hb2 HB1.out.lt; obtain ⟨x0, x1, x2, _, _, _⟩ := Y.three; clear hb2)
    | (go_at_call 37; refine (HNU.out _ HB2.out).mono ?_; rintro e w3 ⟨rfl, hb3⟩; have HB3 := Lib.hid (below_all (below_all HBW.out HB2.out) hb3); clear hb3))
  exact bodyPost_ret (v := .bool true) (by simp [results, Tryz.results11, go_sem]) rfl ⟨rfl, HB3.out⟩
end Go.Proofs.Tg.Fi
end
section
/- Walks: the table of a functional; the degree of a polynomial; the value of a functional at a polynomial. Printed by mk_tm2.py. -/
namespace Go.Proofs.Tg
open Go.RowKit Go.Gr Go.Ev Go.Mo Go.Mm Go.Rq Go.Rs
open Go.Proofs.Tg.Fi (Txts vq PT fvalid_any)
set_option maxHeartbeats 8000000
set_option maxRecDepth 100000
theorem OwnI.setlow {base : Nat} {w : World} {A : Option Addr} {c : Nat} {rs : List IRow} (h : OwnI base w A c rs) {g : Nat} (hg : g < base) (i : Nat) (u : Value) : OwnI base (w.setCell ⟨g, i, none⟩ u) A c rs :=
  ⟨own_far (p := ⟨g, i, none⟩) h.own (fun e => by have := (h.own.lt _ e.symm).1; simp at this; omega) u, fun r hr => own_far (p := ⟨g, i, none⟩) (h.rows r hr) (fun e => by have := ((h.rows r hr).lt _ e.symm).1; simp at this; omega) u⟩
theorem newtab_any (v d n : Nat) (B : Option Addr) (cB : Nat) (φ : List Int → Rat) (w : World) (hB : Txts w B ((mons v d).map φ)) (hn : cnt v d = n) (hv : v ≤ 6) (hd : d ≤ 24) (hf : n ≤ 1024) :
    Calls Tryz.prog 59 #[.agg #[.int .i64 (v : Nat), .int .i64 (d : Nat), .slice B n cB]] w fun e w' => ∃ A cA rows, e = .returned (.agg #[.slice A n cA, .slice B n cB]) ∧ TbAt w' A B rows v d n φ ∧ Below w.heap.size w w' := by
  have HAL := Lib.hid (fun V => all_any v d hv hd (by omega) V)
  unfold RetMons at HAL
  have HN := Lib.hid hn
  have HBB := Lib.hid hB
  obtain ⟨W, hW⟩ : ∃ W, (w.alloc (.cells #[.int .i64 (v : Nat), .int .i64 (d : Nat), .slice B n cB] 24)).alloc (.cells #[.slice none 0 0, .slice none 0 0] 106) = W := ⟨_, rfl⟩
  have HBW : Hid (Below w.heap.size w W) := Lib.hid (by rw [← hW]; exact ((Below.refl _ _).alloc (Nat.le_refl _) _).alloc (by simp) _)
  have HB1 : Hid (Blk W w.heap.size 24 #[.int .i64 (v : Nat), .int .i64 (d : Nat), .slice B n cB]) := Lib.hid (by rw [← hW]; exact (Blk.new _ _ _).alloc _)
  have HB2 : Hid (Blk W (w.heap.size + 1) 106 #[.slice none 0 0, .slice none 0 0]) := Lib.hid (by
    rw [← hW]
    have := Blk.new (w.alloc (.cells #[.int .i64 (v : Nat), .int .i64 (d : Nat), .slice B n cB] 24)) 106 #[.slice none 0 0, .slice none 0 0]
    simpa using this)
  have HWW := Lib.hid hW
  obtain ⟨x0, x1, x2, _, _, _⟩ := HB1.out.three
  clear hW hB hn
  go_enter Tryz.func59, Tryz.ntmps59
  go_upto_region 1 with (fail)
  rw [HWW.out]
  clear HWW
  go_wp2_with (fail)
  refine (HAL.out _).mono ?_
  rintro e w3 ⟨MA, mc, rs, rfl, hOI, hms, hb3⟩
  have hrl : rs.length = n := by rw [← HN.out]; have := congrArg List.length hms; rw [List.length_map] at this; exact this
  rw [hrl]
  have HOI := Lib.hid hOI
  have HMS := Lib.hid hms
  have HB3 := Lib.hid hb3
  obtain ⟨x0, x1, x2, _, _, _⟩ := (HB1.out.keep hb3 HB1.out.lt).three
  obtain ⟨y0, y1, f0, f1⟩ := (HB2.out.keep hb3 HB2.out.lt).two
  have h2 := HB2.out.lt
  clear hrl hOI hms hb3
  go_wp2
  obtain ⟨t0, t1, _, _⟩ := (((HB2.out.keep HB3.out HB2.out.lt).set 0 (.slice MA n mc)).set 1 (.slice B n cB)).two
  refine bodyPost_ret (v := .agg #[.slice MA n mc, .slice B n cB]) (by simp [results, Tryz.results59, go_sem, t0, t1]) rfl ⟨MA, mc, rs, rfl, ?_, ?_⟩
  · have hb : Below w.heap.size w ((w3.setCell ⟨w.heap.size + 1, 0, none⟩ (.slice MA n mc)).setCell ⟨w.heap.size + 1, 1, none⟩ (.slice B n cB)) := below_far (below_far (below_all HBW.out HB3.out) (by omega) _ _) (by omega) _ _
    exact ⟨((HOI.out.setlow h2 _ _).setlow h2 _ _).monsAt, HBB.out.keep hb, HMS.out, HN.out⟩
  · exact below_far (below_far (below_all HBW.out HB3.out) (by omega) _ _) (by omega) _ _
/-- A valid polynomial in memory. -/
structure PolyAt (w : World) (v d : Nat) (T : Option Addr) (tn : Nat) (tv : List TV) (l : List (Rat × List Int)) : Prop where
  terms : TermsAt w T tv
  pl : tv.map TV.pl = wrT l
  len : l.length = tn
  ok : PolyOk v d l
  sz : ∀ t ∈ l, (qtx t.1).size ≤ 19
theorem PolyAt.keep {w w' : World} {v d tn : Nat} {T : Option Addr} {tv : List TV} {l : List (Rat × List Int)} (h : PolyAt w v d T tn tv l) (hb : Below w.heap.size w w') : PolyAt w' v d T tn tv l := ⟨h.terms.keep hb, h.pl, h.len, h.ok, h.sz⟩
theorem PolyAt.tvl {w : World} {v d tn : Nat} {T : Option Addr} {tv : List TV} {l : List (Rat × List Int)} (h : PolyAt w v d T tn tv l) : tv.length = tn := by
  have := congrArg List.length h.pl
  rw [List.length_map] at this
  rw [this, ← h.len]; unfold wrT; rw [List.length_map]
theorem PolyAt.few {w : World} {v d tn : Nat} {T : Option Addr} {tv : List TV} {l : List (Rat × List Int)} (h : PolyAt w v d T tn tv l) : tn ≤ 4096 := by rw [← h.len]; exact h.ok.few
theorem PolyAt.pl_mem {w : World} {v d tn : Nat} {T : Option Addr} {tv : List TV} {l : List (Rat × List Int)} (h : PolyAt w v d T tn tv l) {t : TV} (ht : t ∈ tv) : ∃ x ∈ l, t.coef = qtx x.1 ∧ t.exps = x.2 := by
  have h1 : t.pl ∈ wrT l := by rw [← h.pl]; exact List.mem_map.2 ⟨t, ht, rfl⟩
  obtain ⟨x, hx, e⟩ := List.mem_map.1 h1
  exact ⟨x, hx, (congrArg Prod.fst e).symm, (congrArg Prod.snd e).symm⟩
theorem PolyAt.valid {w : World} {v d tn : Nat} {T : Option Addr} {tv : List TV} {l : List (Rat × List Int)} (h : PolyAt w v d T tn tv l) (hv : v ≤ 6) (hd : d ≤ 24) (hT : Tab w) (cT : Nat) :
    Calls Tryz.prog 57 #[.agg #[.int .i64 (v : Nat), .slice T tn cT]] w fun e w' => e = .returned (.bool true) ∧ Below w.heap.size w w' := by
  have h1 := pvalid_any (v : Nat) T cT tv true w h.terms (by rw [h.tvl]; exact h.few) (fun t ht => by
    obtain ⟨x, hx, e1, e2⟩ := h.pl_mem ht
    refine ⟨by rw [e1]; exact h.sz x hx, ?_⟩
    rw [e2, (mons_mem (h.ok.mem x hx).2).1]; omega) ⟨fun _ => by rw [h.pl]; exact h.ok.vld hv hd, fun _ => rfl⟩ hT
  rw [h.tvl] at h1
  exact h1
/-- The degree of a polynomial: that of its first term. -/
def topd : List (Rat × List Int) → Int
  | [] => -1
  | t :: _ => t.2.sum
theorem topd_le {v d : Nat} {l : List (Rat × List Int)} (h : PolyOk v d l) : -1 ≤ topd l ∧ topd l ≤ d := by
  match l, h with
  | [], _ => exact ⟨by show (-1 : Int) ≤ -1; omega, by show (-1 : Int) ≤ (d : Int); omega⟩
  | t :: l, h =>
    have := mons_sum (h.mem t (by simp)).2
    exact ⟨by show -1 ≤ t.2.sum; omega, this.2⟩
theorem pdeg_any {w : World} {v d tn : Nat} {T : Option Addr} {tv : List TV} {l : List (Rat × List Int)} (h : PolyAt w v d T tn tv l) (hv : v ≤ 6) (hd : d ≤ 24) (hT : Tab w) (cT : Nat) :
    Calls Tryz.prog 58 #[.agg #[.int .i64 (v : Nat), .slice T tn cT]] w fun e w' => e = .returned (.int .i64 (topd l)) ∧ Below w.heap.size w w' := by
  obtain ⟨W, hW⟩ : ∃ W, w.alloc (.cells #[.int .i64 (v : Nat), .slice T tn cT] 71) = W := ⟨_, rfl⟩
  have hbW : Below w.heap.size w W := by rw [← hW]; exact (Below.refl _ _).alloc (Nat.le_refl _) _
  have HB1 : Hid (Blk W w.heap.size 71 #[.int .i64 (v : Nat), .slice T tn cT]) := Lib.hid (by rw [← hW]; exact Blk.new _ _ _)
  have HWW := Lib.hid hW
  have HBW := Lib.hid hbW
  obtain ⟨x0, x1, _, _⟩ := HB1.out.two
  by_cases h0 : tn = 0
  · subst h0
    have hl : l = [] := List.length_eq_zero_iff.1 h.len
    subst hl
    clear h hT hW hbW
    go_enter Tryz.func58, Tryz.ntmps58
    go_upto_region 1 with (fail)
    rw [HWW.out]
    clear HWW
    go_wp2
    go_ret
    exact ⟨rfl, HBW.out⟩
  · have hl0 : 0 < l.length := by rw [h.len]; omega
    have htv : 0 < tv.length := by rw [h.tvl]; omega
    have HPV : Hid (Calls Tryz.prog 57 #[.agg #[.int .i64 (v : Nat), .slice T tn cT]] W fun e w' => e = .returned (.bool true) ∧ Below W.heap.size W w') := Lib.hid ((h.keep hbW).valid hv hd (hT.below hbW hT.1) cT)
    have htop : topd l = l[0].2.sum := by
      match l, hl0 with
      | t :: _, _ => rfl
    have hmem := (h.ok.mem _ (List.getElem_mem hl0)).2
    have hvd := mons_vld hmem hv hd
    have hex : tv[0].exps = l[0].2 := by
      have h1 : (tv.map TV.pl)[0]? = (wrT l)[0]? := by rw [h.pl]
      unfold wrT at h1
      rw [List.getElem?_map, List.getElem?_map, List.getElem?_eq_getElem htv, List.getElem?_eq_getElem hl0] at h1
      exact congrArg Prod.snd (Option.some.inj h1)
    have HTE : Hid (∀ V, Below w.heap.size w V → ∃ ad, T = some ad ∧ V.cell? ⟨ad.block, ad.off + 1, none⟩ = some (.slice tv[0].adr v tv[0].cap)) := Lib.hid (fun V hb => by
      obtain ⟨ad, e, _, h2, _⟩ := TermsAt.at (h.terms.keep hb) (k := 0) htv
      rw [hex, (mons_mem hmem).1] at h2
      refine ⟨ad, e, ?_⟩
      simpa [Addr.add] using h2)
    have HMD : Hid (∀ V, Below w.heap.size w V → Calls Tryz.prog 96 #[.slice tv[0].adr v tv[0].cap] V fun e w' => e = .returned (.int .i64 (topd l)) ∧ V = w') := Lib.hid (fun V hb => by
      have h1 := (h.terms.keep hb).ints _ (List.getElem_mem htv)
      rw [hex] at h1
      have h2 := deg_any tv[0].adr tv[0].cap l[0].2 V h1 (by rw [(mons_mem hmem).1]; omega)
      rw [(mons_mem hmem).1] at h2
      unfold degM at h2
      rw [if_pos hvd] at h2
      rw [htop]
      exact h2)
    have e1 : decide ((tn : Int) = 0) = false := decide_eq_false (by omega)
    have e1' : ((tn : Int) == 0) = false := beq_eq_false_iff_ne.2 (by omega)
    have e2 : (0 : Int) < (tn : Int) := by omega
    generalize tv[0].adr = E at *
    generalize tv[0].cap = ce at *
    generalize topd l = z at *
    clear h hT hW hbW hl0 htv htop hmem hvd hex h0
    go_enter Tryz.func58, Tryz.ntmps58
    go_upto_region 1 with (fail)
    rw [HWW.out]
    clear HWW
    go_upto_region 3 with (go_at_call 57; refine HPV.out.mono ?_; rintro e w2 ⟨rfl, hb2⟩; have HB2 := Lib.hid (below_all HBW.out hb2); obtain ⟨x0, x1, _, _⟩ := (HB1.out.keep hb2 HB1.out.lt).two; clear hb2)
    obtain ⟨ad, hT, hc⟩ := HTE.out _ HB2.out
    subst hT
    go_wp2_with (go_at_call 96; refine (HMD.out _ HB2.out).mono ?_; rintro e w4 ⟨rfl, rfl⟩)
    go_ret
    exact ⟨rfl, HB2.out⟩
theorem value_any (v d n : Nat) (φ : List Int → Rat) (B : Option Addr) (cB : Nat) (T : Option Addr) (cT tn : Nat) (tv : List TV) (l : List (Rat × List Int)) (w : World) (hB : Txts w B ((mons v d).map φ)) (hn : cnt v d = n) (hP : PolyAt w v d T tn tv l)
    (hsh : ∀ m ∈ mons v d, Sh (φ m)) (hok : SumOk φ v d (List.replicate v 0) l) (hv1 : 1 ≤ v) (hv : v ≤ 6) (hd : d ≤ 24) (hf : n ≤ 1024) (hp : PT w) (hT : Tab w) :
    Calls Tryz.prog 29 #[.agg #[.int .i64 (v : Nat), .int .i64 (d : Nat), .slice B n cB], .agg #[.int .i64 (v : Nat), .slice T tn cT]] w fun e w' => e = .returned (.tuple #[.string (qtx (lin φ l)), .int .i64 0]) ∧ Below w.heap.size w w' := by
  have hlin : lin (fun e => φ (addL e (List.replicate v 0))) l = lin φ l := lin_congr fun t ht => by rw [addL_zeros (mons_mem (hP.ok.mem t ht).2).1]
  have hml : ((mons v d).map φ).length = n := by rw [List.length_map]; exact hn
  have HVA : Hid (∀ V, Below w.heap.size w V → Calls Tryz.prog 11 #[.agg #[.int .i64 (v : Nat), .int .i64 (d : Nat), .slice B n cB]] V fun e w' => e = .returned (.bool true) ∧ Below V.heap.size V w') := Lib.hid (fun V hb => by
    have h := fvalid_any v d B cB _ V hv1 hv hd (by omega) (by rw [hml, hn]) (hB.keep hb) (fun q hq => by
      obtain ⟨m, hm, rfl⟩ := List.mem_map.1 hq
      exact hsh m hm)
    rw [hml] at h
    exact h)
  have HPV : Hid (∀ V, Below w.heap.size w V → Calls Tryz.prog 57 #[.agg #[.int .i64 (v : Nat), .slice T tn cT]] V fun e w' => e = .returned (.bool true) ∧ Below V.heap.size V w') := Lib.hid (fun V hb => (hP.keep hb).valid hv hd (hT.below hb hT.1) cT)
  have HPD : Hid (∀ V, Below w.heap.size w V → Calls Tryz.prog 58 #[.agg #[.int .i64 (v : Nat), .slice T tn cT]] V fun e w' => e = .returned (.int .i64 (topd l)) ∧ Below V.heap.size V w') := Lib.hid (fun V hb => pdeg_any (hP.keep hb) hv hd (hT.below hb hT.1) cT)
  have HNT : Hid (∀ V, Below w.heap.size w V → Calls Tryz.prog 59 #[.agg #[.int .i64 (v : Nat), .int .i64 (d : Nat), .slice B n cB]] V fun e w' => ∃ A cA rows, e = .returned (.agg #[.slice A n cA, .slice B n cB]) ∧ TbAt w' A B rows v d n φ ∧ Below V.heap.size V w') := Lib.hid (fun V hb => newtab_any v d n B cB φ V (hB.keep hb) hn hv hd hf)
  have HSU : Hid (∀ V A cA rows g, Below w.heap.size w V → TbAt V A B rows v d n φ → Blk V g 3 (madeCells #[.int .i64 0] v) → Calls Tryz.prog 60 #[.agg #[.slice A n cA, .slice B n cB], .agg #[.int .i64 (v : Nat), .slice T tn cT], .slice (some ⟨g, 0, none⟩) v v] V fun e w' => e = .returned (.string (qtx (lin φ l))) ∧ Below V.heap.size V w') := Lib.hid (fun V A cA rows g hb hTb hz => by
    have hz2 : Ints V (some ⟨g, 0, none⟩) (List.replicate v 0) := by
      rw [iarr_made] at hz
      exact sl_new hz
    have h := tsum_any A B cA cB n rows v d φ (v : Nat) T cT tn tv l (some ⟨g, 0, none⟩) v (List.replicate v 0) V hTb hz2 (hP.terms.keep hb) hP.pl hP.len hok hv hd hf hP.few (hp.keep hb)
    rw [hlin] at h
    exact h)
  obtain ⟨W, hW⟩ : ∃ W, (w.alloc (.cells #[.int .i64 (v : Nat), .int .i64 (d : Nat), .slice B n cB] 24)).alloc (.cells #[.int .i64 (v : Nat), .slice T tn cT] 71) = W := ⟨_, rfl⟩
  have HBW : Hid (Below w.heap.size w W) := Lib.hid (by rw [← hW]; exact ((Below.refl _ _).alloc (Nat.le_refl _) _).alloc (by simp) _)
  have HB1 : Hid (Blk W w.heap.size 24 #[.int .i64 (v : Nat), .int .i64 (d : Nat), .slice B n cB]) := Lib.hid (by rw [← hW]; exact (Blk.new _ _ _).alloc _)
  have HB2 : Hid (Blk W (w.heap.size + 1) 71 #[.int .i64 (v : Nat), .slice T tn cT]) := Lib.hid (by
    rw [← hW]
    have := Blk.new (w.alloc (.cells #[.int .i64 (v : Nat), .int .i64 (d : Nat), .slice B n cB] 24)) 71 #[.int .i64 (v : Nat), .slice T tn cT]
    simpa using this)
  have HWW := Lib.hid hW
  have htd := (topd_le hP.ok).2
  have d1 : decide ((d : Int) < topd l) = false := decide_eq_false (by omega)
  generalize topd l = z at *
  generalize qtx (lin φ l) = S at *
  obtain ⟨x0, x1, x2, _, _, _⟩ := HB1.out.three
  obtain ⟨y0, y1, _, _⟩ := HB2.out.two
  clear hW hB hn hP hsh hok hp hT hlin hml htd
  go_enter Tryz.func29, Tryz.ntmps29
  go_upto_region 1 with (fail)
  rw [HWW.out]
  clear HWW
  go_upto_region 5 with (first
    | (go_at_call 11; with_reducible refine Calls.mono (HVA.out _ HBW.out) ?_; rintro e w2 ⟨rfl, hb2⟩; have HC2 := Lib.hid hb2; obtain ⟨x0, x1, x2, _, _, _⟩ := (HB1.out.keep hb2 HB1.out.lt).three; obtain ⟨y0, y1, _, _⟩ := (HB2.out.keep hb2 HB2.out.lt).two; clear hb2)
    | (go_at_call 57; with_reducible refine Calls.mono (HPV.out _ (below_all HBW.out HC2.out)) ?_; rintro e w3 ⟨rfl, hb3⟩; have HC3 := Lib.hid (below_all HC2.out hb3); obtain ⟨x0, x1, x2, _, _, _⟩ := (HB1.out.keep HC3.out HB1.out.lt).three; obtain ⟨y0, y1, _, _⟩ := (HB2.out.keep HC3.out HB2.out.lt).two; clear hb3))
  have HPD5 : Hid (∀ V, Below w3.heap.size w3 V → Calls Tryz.prog 58 #[.agg #[.int .i64 (v : Nat), .slice T tn cT]] V fun e w' => e = .returned (.int .i64 z) ∧ Below V.heap.size V w') := Lib.hid (fun V hb => HPD.out V (below_all (below_all HBW.out HC3.out) hb))
  go_cut [23] (fun s23 wx => s23 = .bool false ∧ Hid (Below w3.heap.size w3 wx))
  case first =>
    clear HVA HPV HNT HSU HPD
    have hbe : Below w3.heap.size w3 w3.drew := (Below.refl _ _).drew
    go_region_held3 (fun w' => w'.cell? ⟨w.heap.size, 1, none⟩ = some (.int .i64 (d : Nat)) ∧ w'.cell? ⟨w.heap.size + 1, 0, none⟩ = some (.int .i64 (v : Nat)) ∧ w'.cell? ⟨w.heap.size + 1, 1, none⟩ = some (.slice T tn cT))
      (first | exact ⟨keep_cell hbe x1, keep_cell hbe y0, keep_cell hbe y1⟩ | go_keep)
      (first | (go_at_call 58; with_reducible refine Calls.mono (HPD5.out _ (by assumption)) ?_; rintro e w4 ⟨rfl, hb4⟩; have hbe := below_all hbe hb4))
    all_goals
      go_wp2
      go_meet
      exact ⟨rfl, Lib.hid hbe⟩
  obtain ⟨rfl, HW5⟩ := hcut
  go_upto_region 7 with (fail)
  have HWC : Hid (Below w.heap.size w wc) := Lib.hid (below_all (below_all HBW.out HC3.out) HW5.out)
  obtain ⟨x0, x1, x2, _, _, _⟩ := (HB1.out.keep (below_all HC3.out HW5.out) HB1.out.lt).three
  obtain ⟨y0, y1, _, _⟩ := (HB2.out.keep (below_all HC3.out HW5.out) HB2.out.lt).two
  clear HVA HPV HPD HPD5 d1
  have BZ : Below wc.heap.size wc wc.drew := (Below.refl _ _).drew
  refine wp_region_held_drew (S := (fun w' => w'.cell? ⟨w.heap.size, 0, none⟩ = some (.int .i64 (v : Nat)) ∧ w'.cell? ⟨w.heap.size, 1, none⟩ = some (.int .i64 (d : Nat)) ∧ w'.cell? ⟨w.heap.size, 2, none⟩ = some (.slice B n cB) ∧ w'.cell? ⟨w.heap.size + 1, 0, none⟩ = some (.int .i64 (v : Nat)) ∧ w'.cell? ⟨w.heap.size + 1, 1, none⟩ = some (.slice T tn cT))) (by kernel_rfl) ⟨keep_cell BZ x0, keep_cell BZ x1, keep_cell BZ x2, keep_cell BZ y0, keep_cell BZ y1⟩ (fun hHeld => ?_)
  generalize wc.drew = Z at *
  refine wpAnyH_get 0 (some 24) (.agg #[.int .i64 (v : Nat), .int .i64 (d : Nat), .slice B n cB]) rfl rfl (by kernel_rfl) (by kernel_rfl) (by kernel_rfl) (fun _ _ _ h => h) (by rfl) hHeld ?_ ?_
  · (intro w hSw; (try dsimp only at hSw); go_simp; all_goals (try with_reducible rfl))
  (try simp only [Act.put, List.setIfInBounds_toArray, List.set_cons_zero, List.set_cons_succ])
  refine wpAnyH_get 2 (some 26) (.agg #[.int .i64 (v : Nat), .slice T tn cT]) rfl rfl (by kernel_rfl) (by kernel_rfl) (by kernel_rfl) (fun _ _ _ h => h) (by rfl) hHeld ?_ ?_
  · (intro w hSw; (try dsimp only at hSw); go_simp; all_goals (try with_reducible rfl))
  (try simp only [Act.put, List.setIfInBounds_toArray, List.set_cons_zero, List.set_cons_succ])
  refine wpAnyH_get 3 (some 27) (.pointer (some ⟨w.heap.size, 0, none⟩)) rfl rfl (by kernel_rfl) (by kernel_rfl) (by kernel_rfl) (fun _ _ _ h => h) (by rfl) hHeld ?_ ?_
  · (intro w hSw; (try dsimp only at hSw); go_simp; all_goals (try with_reducible rfl))
  (try simp only [Act.put, List.setIfInBounds_toArray, List.set_cons_zero, List.set_cons_succ])
  refine wpAnyH_get 4 (some 28) (.int .i64 (v : Nat)) rfl rfl (by kernel_rfl) (by kernel_rfl) (by kernel_rfl) (fun _ _ _ h => h) (by rfl) hHeld ?_ ?_
  · (intro w hSw; (try dsimp only at hSw); go_simp; all_goals (try with_reducible rfl))
  (try simp only [Act.put, List.setIfInBounds_toArray, List.set_cons_zero, List.set_cons_succ])
  refine wpAnyH_ready (rs := [1, 5]) (by kernel_rfl) (by simp) ?_
  refine AllReadyH.cons rfl (fun K hK => ?_) (AllReadyH.cons rfl (fun K hK => ?_) AllReadyH.nil)
  · go_simp
    refine (HNT.out _ (below_all HWC.out BZ)).mono ?_
    rintro e Z1 ⟨MA, mc, rs, rfl, hTB, hb⟩
    have HTB := Lib.hid hTB
    have BZ1 := below_all BZ hb
    clear hTB hb
    (try go_simp)
    refine hK.out _ _ ⟨keep_cell BZ1 x0, keep_cell BZ1 x1, keep_cell BZ1 x2, keep_cell BZ1 y0, keep_cell BZ1 y1⟩ (fun hHeld => ?_)
    clear hK K
    (try simp only [Act.put, List.setIfInBounds_toArray, List.set_cons_zero, List.set_cons_succ])
    refine wpAnyH_ready (rs := [5]) (by kernel_rfl) (by simp) ?_
    refine AllReadyH.cons rfl (fun K hK => ?_) AllReadyH.nil
    have hmk := make_ints v v (Nat.le_refl _) (by omega) Z1
    go_simp
    obtain ⟨Z2, hz2⟩ : ∃ x, Z1.alloc (.cells (madeCells #[.int .i64 0] v) 3) = x := ⟨_, rfl⟩
    rw [hz2]
    have hbz : Below Z1.heap.size Z1 Z2 := by rw [← hz2]; exact (Below.refl _ _).alloc (Nat.le_refl _) _
    have HZ : Hid (Blk Z2 Z1.heap.size 3 (madeCells #[.int .i64 0] v)) := Lib.hid (by rw [← hz2]; exact Blk.new _ _ _)
    have BZ2 := below_all BZ1 hbz
    have HTB := Lib.hid (HTB.out.keep hbz)
    clear hmk hz2 hbz
    generalize Z1.heap.size = gmZ1 at HZ ⊢
    refine hK.out _ _ ⟨keep_cell BZ2 x0, keep_cell BZ2 x1, keep_cell BZ2 x2, keep_cell BZ2 y0, keep_cell BZ2 y1⟩ (fun hHeld => ?_)
    clear hK K
    (try simp only [Act.put, List.setIfInBounds_toArray, List.set_cons_zero, List.set_cons_succ])
    refine wpAnyH_ready (rs := [6]) (by kernel_rfl) (by simp) ?_
    refine AllReadyH.cons rfl (fun K hK => ?_) AllReadyH.nil
    go_simp
    refine (HSU.out _ _ _ _ _ (below_all HWC.out BZ2) HTB.out HZ.out).mono ?_
    rintro e Z3 ⟨rfl, hb⟩
    have BZ3 := below_all BZ2 hb
    clear hb
    (try go_simp)
    refine hK.out _ _ ⟨keep_cell BZ3 x0, keep_cell BZ3 x1, keep_cell BZ3 x2, keep_cell BZ3 y0, keep_cell BZ3 y1⟩ (fun hHeld => ?_)
    clear hK K
    (try simp only [Act.put, List.setIfInBounds_toArray, List.set_cons_zero, List.set_cons_succ])
    refine wpAnyH_get 7 (some 4) (.string S) rfl rfl (by kernel_rfl) (by kernel_rfl) (by kernel_rfl) (fun _ _ _ h => h) (by rfl) hHeld ?_ ?_
    · (intro w hSw; (try dsimp only at hSw); go_simp; all_goals (try with_reducible rfl))
    (try simp only [Act.put, List.setIfInBounds_toArray, List.set_cons_zero, List.set_cons_succ])
    refine wpAnyH_get 8 (some 5) (.int .i64 0) rfl rfl (by kernel_rfl) (by kernel_rfl) (by kernel_rfl) (fun _ _ _ h => h) (by rfl) hHeld ?_ ?_
    · (intro w hSw; (try dsimp only at hSw); go_simp; all_goals (try with_reducible rfl))
    (try simp only [Act.put, List.setIfInBounds_toArray, List.set_cons_zero, List.set_cons_succ])
    refine wpAnyH_done (by kernel_rfl) ?_ _
    go_wp2
    go_ret2
    exact ⟨rfl, below_all HWC.out BZ3⟩
  · have hmk := make_ints v v (Nat.le_refl _) (by omega) Z
    go_simp
    obtain ⟨Z4, hz2⟩ : ∃ x, Z.alloc (.cells (madeCells #[.int .i64 0] v) 3) = x := ⟨_, rfl⟩
    rw [hz2]
    have hbz : Below Z.heap.size Z Z4 := by rw [← hz2]; exact (Below.refl _ _).alloc (Nat.le_refl _) _
    have HZ : Hid (Blk Z4 Z.heap.size 3 (madeCells #[.int .i64 0] v)) := Lib.hid (by rw [← hz2]; exact Blk.new _ _ _)
    have BZ4 := below_all BZ hbz
    clear hmk hz2 hbz
    generalize Z.heap.size = gmZ at HZ ⊢
    refine hK.out _ _ ⟨keep_cell BZ4 x0, keep_cell BZ4 x1, keep_cell BZ4 x2, keep_cell BZ4 y0, keep_cell BZ4 y1⟩ (fun hHeld => ?_)
    clear hK K
    (try simp only [Act.put, List.setIfInBounds_toArray, List.set_cons_zero, List.set_cons_succ])
    refine wpAnyH_ready (rs := [1]) (by kernel_rfl) (by simp) ?_
    refine AllReadyH.cons rfl (fun K hK => ?_) AllReadyH.nil
    go_simp
    refine (HNT.out _ (below_all HWC.out BZ4)).mono ?_
    rintro e Z5 ⟨MA, mc, rs, rfl, hTB, hb⟩
    have HTB := Lib.hid hTB
    have BZ5 := below_all BZ4 hb
    have HZ := Lib.hid (HZ.out.keep hb HZ.out.lt)
    clear hTB hb
    (try go_simp)
    refine hK.out _ _ ⟨keep_cell BZ5 x0, keep_cell BZ5 x1, keep_cell BZ5 x2, keep_cell BZ5 y0, keep_cell BZ5 y1⟩ (fun hHeld => ?_)
    clear hK K
    (try simp only [Act.put, List.setIfInBounds_toArray, List.set_cons_zero, List.set_cons_succ])
    refine wpAnyH_ready (rs := [6]) (by kernel_rfl) (by simp) ?_
    refine AllReadyH.cons rfl (fun K hK => ?_) AllReadyH.nil
    go_simp
    refine (HSU.out _ _ _ _ _ (below_all HWC.out BZ5) HTB.out HZ.out).mono ?_
    rintro e Z6 ⟨rfl, hb⟩
    have BZ6 := below_all BZ5 hb
    clear hb
    (try go_simp)
    refine hK.out _ _ ⟨keep_cell BZ6 x0, keep_cell BZ6 x1, keep_cell BZ6 x2, keep_cell BZ6 y0, keep_cell BZ6 y1⟩ (fun hHeld => ?_)
    clear hK K
    (try simp only [Act.put, List.setIfInBounds_toArray, List.set_cons_zero, List.set_cons_succ])
    refine wpAnyH_get 7 (some 4) (.string S) rfl rfl (by kernel_rfl) (by kernel_rfl) (by kernel_rfl) (fun _ _ _ h => h) (by rfl) hHeld ?_ ?_
    · (intro w hSw; (try dsimp only at hSw); go_simp; all_goals (try with_reducible rfl))
    (try simp only [Act.put, List.setIfInBounds_toArray, List.set_cons_zero, List.set_cons_succ])
    refine wpAnyH_get 8 (some 5) (.int .i64 0) rfl rfl (by kernel_rfl) (by kernel_rfl) (by kernel_rfl) (fun _ _ _ h => h) (by rfl) hHeld ?_ ?_
    · (intro w hSw; (try dsimp only at hSw); go_simp; all_goals (try with_reducible rfl))
    (try simp only [Act.put, List.setIfInBounds_toArray, List.set_cons_zero, List.set_cons_succ])
    refine wpAnyH_done (by kernel_rfl) ?_ _
    go_wp2
    go_ret2
    exact ⟨rfl, below_all HWC.out BZ6⟩
end Go.Proofs.Tg
end
