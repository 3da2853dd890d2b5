/- Parts of the proof: TX3, MO6, OF1, RO1. -/
import Derived.Maps.AppendAt
import Derived.Laws.MakeOwn
import Derived.Test.YtpkompfkhoceoaaGreatDoorMMT17
import Derived.Test.YtpkompfkhoceoaaGreatDoorMMT23
import Derived.Test.YtpkompfkhoceoaaGreatDoorMMT25
import Derived.Test.YtpkompfkhoceoaaGreatDoorMMT26
section
/- The program's powers of the coordinates of a point. -/
namespace Go.Proofs.Tg.Fi
open Go.RowKit Go.Rq Go.Qn Go.Bn Go.Proofs.Tg
set_option maxHeartbeats 8000000
set_option maxRecDepth 100000
/-- A row of texts. -/
structure TRow where
  A : Option Addr
  c : Nat
  qs : List Rat
def TRow.cell (r : TRow) : Value := .slice r.A r.qs.length r.c
def TRow.own (base : Nat) (w : World) (r : TRow) : Prop := w.ownsRow base 9 1 (.slice r.A r.qs.length r.c) r.qs.length (r.qs.map vq)
def pw (d : Nat) (x : Rat) : List Rat := (List.range (d + 1)).map fun e => x ^ e
def pwTo (k : Nat) (x : Rat) : List Rat := (List.range k).map fun e => x ^ e
theorem pwTo_succ (k : Nat) (x : Rat) : pwTo (k + 1) x = pwTo k x ++ [x ^ k] := by unfold pwTo; rw [List.range_succ, List.map_append]; rfl
/-- The heads of n rows: some done, one under way, the others not begun. -/
def heads (done : List TRow) (cur : Value) (n : Nat) : Array Value := (done.map TRow.cell ++ cur :: List.replicate (n - (done.length + 1)) (Value.slice none 0 0)).toArray
theorem heads_set (done : List TRow) (cur cur' : Value) (n : Nat) : (heads done cur n).setIfInBounds done.length cur' = heads done cur' n := by
  unfold heads
  rw [List.setIfInBounds_toArray, List.set_append_right _ _ (by simp), List.length_map, Nat.sub_self, List.set_cons_zero]
theorem heads_at (done : List TRow) (cur : Value) (n : Nat) : (heads done cur n)[done.length]? = some cur := by
  unfold heads
  rw [List.getElem?_toArray, List.getElem?_append_right (by simp), List.length_map, Nat.sub_self]; rfl
/-- Between two rows. -/
def heads2 (done : List TRow) (n : Nat) : Array Value := (done.map TRow.cell ++ List.replicate (n - done.length) (Value.slice none 0 0)).toArray
theorem heads2_open (done : List TRow) (n : Nat) (h : done.length < n) : heads2 done n = heads done (.slice none 0 0) n := by
  unfold heads2 heads
  rw [show n - done.length = (n - (done.length + 1)) + 1 by omega, List.replicate_succ]
theorem heads2_shut (done : List TRow) (r : TRow) (n : Nat) : heads done r.cell n = heads2 (done ++ [r]) n := by
  unfold heads2 heads
  congr 1
  rw [List.map_append, List.length_append]
  simp
theorem heads2_zero (n : Nat) : madeCells #[.slice none 0 0] n = heads2 [] n := by
  apply Array.ext
  · simp [heads2, size_madeCells]
  · intro i h1 h2
    simp [madeCells, heads2, Nat.mod_one]
theorem heads2_all (done : List TRow) : heads2 done done.length = (done.map TRow.cell).toArray := by simp [heads2]
theorem txtrow_info : (Tryz.prog.info? 22).map (fun i => (i.zero, i.size, i.bytes)) = some (some (.slice none 0 0), 1, 24) := by kernel_rfl
theorem make_txtrows (n : Nat) (hn : n ≤ 1000000) (w : World) : (Instr.makeSlice 33 (.int .i64 (n : Int)) (.int .i64 (n : Int))).run Tryz.prog w = .ok (.slice (some ⟨w.heap.size, 0, none⟩) n n) (w.alloc (.cells (madeCells #[.slice none 0 0] n) 22)) := by
  obtain ⟨i0, hi, hz0, hz1, hz2⟩ := info_parts txtrow_info
  have hr := run_make (P := Tryz.prog) w 33 22 i0 (.slice none 0 0) Tryz.underlying33 hi hz0 .i64 .i64 n n (by omega) (by omega) (by rw [hz2]; omega) (by omega)
  rw [hz1, Nat.mul_one, Int.toNat_natCast] at hr
  exact hr
theorem own_str_far {w : World} {g base : Nat} {cs : Array Value} {r : TRow} (h : r.own base w) (B : Blk w g 22 cs) (i : Nat) (u : Value) : r.own base (w.setCell ⟨g, i, none⟩ u) :=
  own_far h (own_blk_ne h B (by decide)) u
/-- The powers of several numbers, in rows of the call's own. -/
structure PowsB (base : Nat) (w : World) (g : Nat) (d : Nat) (xs : List Rat) (rows : List TRow) : Prop where
  ge : base ≤ g
  hd : Blk w g 22 (rows.map TRow.cell).toArray
  eq : rows.map TRow.qs = xs.map (pw d)
  own : ∀ r ∈ rows, r.own base w
theorem PowsB.keep {base : Nat} {w w' : World} {g d : Nat} {xs : List Rat} {rows : List TRow} (h : PowsB base w g d xs rows) (hb : Below w.heap.size w w') : PowsB base w' g d xs rows :=
  ⟨h.ge, h.hd.keep hb h.hd.lt, h.eq, fun r hr => own_below (h.own r hr) hb (Nat.le_refl _)⟩
theorem PowsB.far {base : Nat} {w : World} {g d b : Nat} {xs : List Rat} {rows : List TRow} (h : PowsB base w g d xs rows) (hb : b < base) (i : Nat) (u : Value) : PowsB base (w.setCell ⟨b, i, none⟩ u) g d xs rows :=
  ⟨h.ge, h.hd.far (by have := h.ge; simp; omega) _, h.eq, fun r hr => own_far (h.own r hr) (fun e => by have := ((h.own r hr).lt _ e.symm).1; simp only at this; omega) u⟩
theorem PowsB.at {base : Nat} {w : World} {g d : Nat} {xs : List Rat} {rows : List TRow} (h : PowsB base w g d xs rows) {j : Nat} (hj : j < xs.length) : ∃ R c, w.cell? ⟨g, j, none⟩ = some (.slice R (d + 1) c) ∧ Txts w R (pw d xs[j]) := by
  have hl : rows.length = xs.length := by have := congrArg List.length h.eq; simpa using this
  have hj2 : j < rows.length := by omega
  have hq : rows[j].qs = pw d xs[j] := by
    have h1 : (rows.map TRow.qs)[j]? = (xs.map (pw d))[j]? := by rw [h.eq]
    simpa [hj, hj2] using h1
  have hql : rows[j].qs.length = d + 1 := by rw [hq]; simp [pw]
  refine ⟨rows[j].A, rows[j].c, ?_, ?_⟩
  · rw [h.hd.cell j]
    simp [hj2, TRow.cell, hql]
  · rw [← hq]; exact Sl.own (h.own _ (List.getElem_mem hj2))
theorem pw_at (d : Nat) (x : Rat) {e : Nat} (he : e ≤ d) : ∃ h : e < (pw d x).length, (pw d x)[e] = x ^ e := ⟨by simp [pw]; omega, by simp [pw]⟩
structure PwSt (w : World) (d g n : Nat) (xs : List Rat) (wr : World) (j : Nat) (done : List TRow) : Prop where
  below : Below w.heap.size w wr
  hd : Blk wr g 22 (heads2 done n)
  own : ∀ r ∈ done, r.own w.heap.size wr
  eq : done.map TRow.qs = (xs.take j).map (pw d)
structure PwIn (w w0 : World) (g n : Nat) (wr : World) (done : List TRow) (r : TRow) : Prop where
  below : Below w.heap.size w wr
  size : w0.heap.size ≤ wr.heap.size
  hd : Blk wr g 22 (heads done r.cell n)
  own : ∀ r ∈ done, r.own w.heap.size wr
  cur : r.own w0.heap.size wr
def RetPows (d : Nat) (xs : List Rat) (w : World) (e : Ending) (w' : World) : Prop := ∃ g rows, e = .returned (.slice (some ⟨g, 0, none⟩) xs.length xs.length) ∧ PowsB w.heap.size w' g d xs rows ∧ Below w.heap.size w w'
theorem pows_q (X : Option Addr) (cx d : Nat) (xs : List Rat) (w : World) (hX : Txts w X xs) (hs : ∀ x ∈ xs, Sh x ∧ ∀ e, e ≤ d → Sh (x ^ e)) (hn : xs.length ≤ 1000) (hd : d ≤ 1000) (ht : PT w) :
    Calls Tryz.prog 39 #[.slice X xs.length cx, .int .i64 (d : Nat)] w (RetPows d xs w) := by
  obtain ⟨i0, hi, hz0, hz1, hz2⟩ := info_parts text_info
  obtain ⟨n, hn'⟩ : ∃ n, xs.length = n := ⟨_, rfl⟩
  have HX := Lib.hid hX
  have HSH := Lib.hid hs
  have HT := Lib.hid ht
  have hmk := make_txtrows n (by omega)
  obtain ⟨W, hW⟩ : ∃ W, w.alloc (.cells (madeCells #[.slice none 0 0] n) 22) = W := ⟨_, rfl⟩
  have HST : Hid (PwSt w d w.heap.size n xs W 0 []) := Lib.hid (by
    refine ⟨?_, ?_, fun r hr => absurd hr (by simp), by simp⟩
    · rw [← hW]; exact (Below.refl _ _).alloc (Nat.le_refl _) _
    · rw [← hW, ← heads2_zero n]; exact Blk.new _ _ _)
  unfold RetPows
  rw [hn'] at hn ⊢
  have HN := Lib.hid hn'
  have HWW := Lib.hid hW
  clear hX hs ht hn' hW
  go_enter Tryz.func39, Tryz.ntmps39
  go_upto_region 2 with (fail)
  rw [HWW.out]
  go_wp2
  go_loopw [14] (fun s14 wr => ∃ (done : List TRow), s14 = .int .i64 (done.length : Nat) ∧ done.length ≤ n ∧ Hid (PwSt w d w.heap.size n xs wr done.length done)) (fun s14 _ => n - (intOf s14).toNat)
  case atStart => exact ⟨[], rfl, Nat.zero_le _, HST⟩
  case round =>
    clear HST
    obtain ⟨wo, rfl⟩ : ∃ wo : World, wo = wr := ⟨_, rfl⟩
    obtain ⟨done, rfl, hk, HST⟩ := hrel
    obtain ⟨k, hkk⟩ : ∃ k, done.length = k := ⟨_, rfl⟩
    rw [hkk] at hk ⊢
    have HK := Lib.hid hkk
    clear hkk
    by_cases hkn : k = n
    · have e1 : decide ((k : Int) < (n : Int)) = false := decide_eq_false (by omega)
      have e1' : decide (k < n) = false := decide_eq_false (by omega)
      have HKN := Lib.hid hkn
      clear hkn
      go_wp2
      go_ret
      have h := HST.out
      have hB := h.hd
      have hdl : done.length = n := by rw [HK.out]; exact HKN.out
      rw [← hdl, heads2_all] at hB
      refine ⟨w.heap.size, done, rfl, ⟨Nat.le_refl _, hB, ?_, h.own⟩, h.below⟩
      rw [h.eq, hdl, ← HN.out, List.take_length]
    · have hkl : k < n := by omega
      have e1 : decide ((k : Int) < (n : Int)) = true := decide_eq_true (by omega)
      have e1' : decide (k < n) = true := decide_eq_true hkl
      have q0 : (0 : Int) ≤ (k : Int) := by omega
      have q1 : (k : Int) < (n : Int) := by omega
      have hkx : k < xs.length := by rw [HN.out]; exact hkl
      obtain ⟨ad, rfl, hc⟩ := Txts.at (HX.out.keep HST.out.below) hkx
      have HTK : Hid (xs.take (k + 1) = xs.take k ++ [xs[k]'hkx]) := Lib.hid (List.take_succ_eq_append_getElem hkx)
      have HSX := Lib.hid (HSH.out (xs[k]'hkx) (List.getElem_mem _))
      generalize xs[k]'hkx = x at *
      have hgw : w.heap.size < wo.heap.size := HST.out.hd.lt
      have HIN : Hid (PwIn w wo w.heap.size n wo done ⟨none, 0, []⟩) := Lib.hid (by
        have h := HST.out
        refine ⟨h.below, Nat.le_refl _, ?_, h.own, World.ownsRow_nil _ _ _ _⟩
        have := h.hd
        rw [heads2_open done n (by rw [HK.out]; exact hkl)] at this
        exact this)
      have HP0 : Hid (bs [49] = qtx (x ^ 0)) := Lib.hid (by
        rw [Rat.pow_zero, show (1 : Rat) = ((1 : Int) : Rat) from rfl, qtx_int]
        have : Lib.itoa 1 = [49] := by unfold Lib.itoa; rw [if_neg (by omega)]; exact dec_one
        rw [this])
      obtain ⟨S, hS⟩ : ∃ S, qtx x = S := ⟨_, rfl⟩
      rw [hS] at hc
      have HSS := Lib.hid hS
      clear hkn hS
      go_wp2
      go_loopw [8, 21] (fun s8 s21 wr => ∃ (r : TRow) (U : ByteArray), s8 = .string U ∧ s21 = .int .i64 (r.qs.length : Nat) ∧ r.qs.length ≤ d + 1 ∧ Hid (U = qtx (x ^ r.qs.length)) ∧ Hid (r.qs = pwTo r.qs.length x) ∧ Hid (PwIn w wo w.heap.size n wr done r)) (fun _ s21 _ => d + 1 - (intOf s21).toNat)
      case atStart => exact ⟨⟨none, 0, []⟩, _, rfl, rfl, Nat.zero_le _, HP0, Lib.hid rfl, HIN⟩
      case round =>
        clear HIN hc
        obtain ⟨wi, rfl⟩ : ∃ wi : World, wi = wr := ⟨_, rfl⟩
        obtain ⟨r, U, rfl, rfl, hr, HU, HQ, HPI⟩ := hrel
        obtain ⟨m, hm⟩ : ∃ m, r.qs.length = m := ⟨_, rfl⟩
        rw [hm] at hr HU HQ ⊢
        have HM := Lib.hid hm
        clear hm
        by_cases hmd : m = d + 1
        · have e2 : decide ((m : Int) < (d : Int) + 1) = false := decide_eq_false (by omega)
          have HMD := Lib.hid hmd
          clear hmd
          go_wp2
          go_roundw
          case rel =>
            refine ⟨done ++ [r], by rw [List.length_append, HK.out]; go_num, by rw [List.length_append, HK.out]; simp; omega, Lib.hid ⟨HPI.out.below, ?_, ?_, ?_⟩⟩
            · rw [← heads2_shut]; exact HPI.out.hd
            · intro r' hr'
              rcases List.mem_append.1 hr' with hr' | hr'
              · exact HPI.out.own r' hr'
              · rw [List.mem_singleton.1 hr']; exact own_base HPI.out.cur (Nat.le_of_lt hgw)
            · rw [List.length_append, HK.out, List.length_singleton, HTK.out, List.map_append, List.map_append]
              have := HST.out.eq
              rw [HK.out] at this
              rw [this, List.map_cons, List.map_nil, List.map_cons, List.map_nil, HQ.out, HMD.out]
              rfl
          case measure => simp [intOf]; omega
        · have hmd2 : m < d + 1 := by omega
          have e2 : decide ((m : Int) < (d : Int) + 1) = true := decide_eq_true (by omega)
          have hB := HPI.out.hd
          have c0 : wi.cell? ⟨w.heap.size, k, none⟩ = some (.slice r.A m r.c) := by
            rw [hB.cell k, ← HK.out, heads_at]
            unfold TRow.cell
            rw [HM.out]
          have f0 := hB.frozen k
          have hsz := HPI.out.size
          have hcur := HPI.out.cur
          unfold TRow.own at hcur
          rw [HM.out] at hcur
          have hcurA := hcur.alloc (.cells #[.string U] 9)
          have hgs : w.heap.size < wi.heap.size := hB.lt
          clear hmd hB
          obtain ⟨rA, hrA⟩ : ∃ a, r.A = a := ⟨_, rfl⟩
          obtain ⟨rc, hrc⟩ : ∃ a, r.c = a := ⟨_, rfl⟩
          rw [hrA, hrc] at c0 hcur hcurA
          have HRA := Lib.hid hrA
          have HRC := Lib.hid hrc
          clear hrA hrc
          have HCA := Lib.hid hcurA
          go_wp2_with (first
            | (at_builtin; refine wpList_append_own_at _ rfl _ _ 22 rfl wo.heap.size 9 i0 _ 1 16 Tryz.underlying22 hi hz0 hz1 hz2 rfl (by decide) (.slice rA m rc) m _ rfl hcurA ⟨wi.heap.size, 0, none⟩ 1 1 [.string U] rfl rfl ?c1 ?c2 ?c3 ?c4 ?c5 ?_
               case c1 => exact cell_one_new _ _ _
               case c2 => simp [Value.oneCell']
               case c3 => simp only [maxLen]; omega
               case c4 => omega
               case c5 => simp; omega
               intro v' w5 hown' hgrow _ hat
               have hnb : some w.heap.size ≠ (Value.slice rA m rc).ownBlock := fun e => by have := (HCA.out.lt _ e.symm).1; omega
               have hal := Below.alloc (Below.refl wi.heap.size wi) (Nat.le_refl _) (.cells #[.string U] 9)
               have hB5 := (HPI.out.hd.keep hal HPI.out.hd.lt).grown hgrow hnb
               have c5 : w5.cell? ⟨w.heap.size, k, none⟩ = some (.slice rA m rc) := by
                 rw [hB5.cell k, ← HK.out, heads_at]
                 unfold TRow.cell
                 rw [HM.out, HRA.out, HRC.out]
               have f5 := hB5.frozen k
               obtain ⟨A2, cs2, hv2, _, _⟩ := Sl.of_own hown'
               subst hv2))
          have hbe5 : Below w.heap.size w w5 := (below_all HPI.out.below hal).grown hgrow (by have := (below_all HPI.out.below hal).size; exact this) (fun j hj => by have := (hcurA.lt j hj).1; omega)
          have hds : ∀ q ∈ done, q.own w.heap.size w5 := fun q hq => by
            have h1 := own_below (HPI.out.own q hq) hal (Nat.le_refl _)
            refine h1.kept hgrow ?_
            cases hob : (Value.slice q.A q.qs.length q.c).ownBlock with
            | none => exact .inl rfl
            | some b =>
              refine .inr (fun e => ?_)
              have h2 := ((HST.out.own q hq).lt b hob).2
              have h3 := (hcurA.lt b e.symm).1
              omega
          have HDS := Lib.hid hds
          have HB5 := Lib.hid hB5
          have HC5 := Lib.hid hown'
          have HBE := Lib.hid hbe5
          have hs5 : wo.heap.size ≤ w5.heap.size := by have := hgrow.size; simp at this; omega
          have HMU := Lib.hid (fun V (h : Below w.heap.size w V) => mul_q (x ^ m) x (HSX.out.2 m (by omega)) HSX.out.1 V (HT.out.keep h))
          rw [← HU.out, HSS.out] at HMU
          unfold RetTx at HMU
          have HPS : Hid (x ^ m * x = x ^ (m + 1)) := Lib.hid (Rat.pow_succ x m).symm
          rw [HPS.out] at HMU
          obtain ⟨U2, hU2⟩ : ∃ U2, qtx (x ^ (m + 1)) = U2 := ⟨_, rfl⟩
          rw [hU2] at HMU
          have HU2 := Lib.hid hU2
          clear hds hbe5 hal hcurA hcur hB5 hown' hgrow hat hU2 c0 f0
          have hbe6 : Below w.heap.size w (w5.setCell ⟨w.heap.size, k, none⟩ (.slice A2 (m + 1) cs2)) := below_far HBE.out (Nat.le_refl _) _ _
          have hlen : (r.qs ++ [x ^ m]).length = m + 1 := by rw [List.length_append, HM.out]; rfl
          have HIN2 : Hid (∀ V, Below (w5.setCell ⟨w.heap.size, k, none⟩ (.slice A2 (m + 1) cs2)).heap.size (w5.setCell ⟨w.heap.size, k, none⟩ (.slice A2 (m + 1) cs2)) V → PwIn w wo w.heap.size n V done ⟨A2, cs2, r.qs ++ [x ^ m]⟩) := Lib.hid (fun V hV => by
            have hB6 := HB5.out.set k (.slice A2 (m + 1) cs2)
            rw [← HK.out, heads_set, HK.out] at hB6
            have hcell : TRow.cell ⟨A2, cs2, r.qs ++ [x ^ m]⟩ = .slice A2 (m + 1) cs2 := by unfold TRow.cell; rw [hlen]
            refine ⟨below_all hbe6 hV, ?_, ?_, ?_, ?_⟩
            · have h1 := hV.size
              have h2 : (w5.setCell ⟨w.heap.size, k, none⟩ (.slice A2 (m + 1) cs2)).heap.size = w5.heap.size := by simp [World.setCell]
              omega
            · rw [hcell]; exact hB6.keep hV hB6.lt
            · intro q hq
              exact own_below (own_str_far (HDS.out q hq) HB5.out k _) hV (Nat.le_refl _)
            · have h1 : TRow.own wo.heap.size w5 ⟨A2, cs2, r.qs ++ [x ^ m]⟩ := by
                unfold TRow.own
                rw [hlen, List.map_append]
                have h2 := HC5.out
                rw [show U = qtx (x ^ m) from HU.out] at h2
                exact h2
              exact own_below (own_str_far h1 HB5.out k _) hV (Nat.le_refl _))
          have HLEN := Lib.hid hlen
          clear hlen
          refine (HMU.out _ hbe6).mono ?_
          rintro e w7 ⟨rfl, hb7⟩
          go_wp2
          go_roundw
          case rel =>
            refine ⟨⟨A2, cs2, r.qs ++ [x ^ m]⟩, U2, rfl, by rw [HLEN.out]; go_num, by rw [HLEN.out]; omega, Lib.hid (by rw [HLEN.out, HU2.out]), Lib.hid (by rw [HLEN.out, pwTo_succ, ← HQ.out]), HIN2.out _ hb7⟩
          case measure => simp [intOf]; omega
end Go.Proofs.Tg.Fi
end
section
/- The program's list of all monomials. -/
namespace Go.Proofs.Tg
open Go.RowKit Go.Mm
set_option maxHeartbeats 8000000
set_option maxRecDepth 100000
theorem all_any (n d : Nat) (hn : n ≤ 6) (hd : d ≤ 24) (hc : cnt n d ≤ 4096) (w : World) :
    Calls Tryz.prog 38 #[.int .i64 (n : Nat), .int .i64 (d : Nat)] w (RetMons n d w) := by
  obtain ⟨j0, hj, jz0, jz1, jz2⟩ := info_parts irow_info
  have HCO := Lib.hid (count_any n d hn hd w)
  obtain ⟨k0, hk0⟩ : ∃ k, cnt n d = k := ⟨_, rfl⟩
  have HML := Lib.hid (fun k (h : k ≤ d + 1) => monTo_le n d k h)
  rw [hk0] at HCO hc HML
  have d1 : decide ((4096 : Int) < (k0 : Int)) = false := decide_eq_false (by omega)
  have hmk := fun W => run_make_own (P := Tryz.prog) W W.heap.size 80 41 j0 _ 1 Tryz.underlying80 hj jz0 jz1 .i64 .i64 k0 (by rw [jz2]; omega) (by simp only [maxLen]; omega) (Nat.le_refl _)
  have HMK := Lib.hid hmk
  clear hk0 hmk
  go_enter Tryz.func38, Tryz.ntmps38
  go_wp2_with (fail)
  refine HCO.out.mono ?_
  rintro e w1 ⟨rfl, hb1⟩
  obtain ⟨w2, hrun, hown, hgrow⟩ := HMK.out w1
  have hb2 : Below w.heap.size w w2 := hb1.grown hgrow hb1.size (fun k hk => by cases hk)
  have HST : Hid (OwnI w.heap.size w2 (some ⟨w1.heap.size, 0, none⟩) k0 [] ∧ Below w.heap.size w w2) := Lib.hid ⟨⟨own_base hown hb1.size, fun r hr => absurd hr (by simp)⟩, hb2⟩
  clear hown hgrow HMK HCO
  go_wp2
  go_loopw [8, 24] (fun s8 s24 wr => ∃ (k : Nat) (A : Option Addr) (c : Nat) (rs : List IRow), s8 = .slice A rs.length c ∧ s24 = .int .i64 (k : Nat) ∧ k ≤ d + 1 ∧ Hid (rs.map IRow.l = monTo n k) ∧ Hid (OwnI w.heap.size wr A c rs ∧ Below w.heap.size w wr)) (fun _ s24 _ => d + 1 - (intOf s24).toNat)
  case atStart => exact ⟨0, _, k0, [], rfl, rfl, Nat.zero_le _, Lib.hid rfl, HST⟩
  case round =>
    clear HST hrun
    obtain ⟨wo, rfl⟩ : ∃ wo : World, wo = wr := ⟨_, rfl⟩
    obtain ⟨k, A, c, rs, rfl, rfl, hk, HEQ, HST⟩ := hrel
    by_cases hkd : k = d + 1
    · have e1 : decide ((k : Int) < (d : Int) + 1) = false := decide_eq_false (by omega)
      have HK := Lib.hid hkd
      clear hkd
      go_wp2
      go_ret2
      exact ⟨A, c, rs, rfl, HST.out.1, by rw [HEQ.out, HK.out, monTo_all], HST.out.2⟩
    · have hk2 : k ≤ d := by omega
      have e1 : decide ((k : Int) < (d : Int) + 1) = true := decide_eq_true (by omega)
      have hrl : rs.length + (exactL n k).length ≤ 4096 := by
        have h1 := congrArg List.length HEQ.out
        rw [List.length_map] at h1
        have h2 := HML.out (k + 1) (by omega)
        rw [monTo_len] at h2
        omega
      have HC := appdeg_any n k w.heap.size wo A c rs none 0 [] HST.out.1 HST.out.2.size (World.ownsRow_nil _ _ _ _) (by omega) (by simp; omega) (by omega) (by omega)
      unfold RetApp at HC
      have e2 : (exactL n k).map (· ++ ([] : List Int)) = exactL n k := by simp
      rw [e2, List.length_nil] at HC
      obtain ⟨nr, hnr⟩ : ∃ x, rs.length = x := ⟨_, rfl⟩
      rw [hnr] at HC ⊢
      have HNR := Lib.hid hnr
      have HC := Lib.hid HC
      clear e2 hnr hrl hkd
      go_wp2_with (fail)
      refine HC.out.mono ?_
      rintro e w5 ⟨A5, c5, rs5, rfl, hO5, he5, hg5, hat5⟩
      go_wp2
      go_roundw
      case rel =>
        refine ⟨k + 1, A5, c5, rs5, rfl, by go_num, by omega, Lib.hid (by rw [he5, HEQ.out, monTo_succ]), Lib.hid ⟨hO5, ?_⟩⟩
        refine HST.out.2.grown hg5 HST.out.2.size (fun j hj => ?_)
        have := HST.out.1.own
        rw [HNR.out] at this
        exact (this.lt j hj).1
      case measure => simp [intOf]; omega
end Go.Proofs.Tg
end
section
/- Plain and memory: the values of the functional of points. -/
namespace Go.Rq
/-- A weight times powers of coordinates. -/
def tmTo (w : Rat) (x : List Rat) (m : List Int) : Nat → Rat
  | 0 => w
  | k + 1 => tmTo w x m k * (x.getD k 0) ^ ((m.getD k 0).toNat)
def tm (w : Rat) (x : List Rat) (m : List Int) : Rat := tmTo w x m m.length
def sumTo (ws : List Rat) (xs : List (List Rat)) : Nat → List Int → Rat
  | 0, _ => 0
  | k + 1, m => sumTo ws xs k m + tm (ws.getD k 0) (xs.getD k []) m
/-- A list of values of which the first i are new. -/
def vals (f h : List Int → Rat) (ms : List (List Int)) (i : Nat) : List Rat := (ms.take i).map h ++ (ms.drop i).map f
theorem vals_zero (f h : List Int → Rat) (ms : List (List Int)) : vals f h ms 0 = ms.map f := by simp [vals]
theorem vals_all (f h : List Int → Rat) (ms : List (List Int)) : vals f h ms ms.length = ms.map h := by simp [vals]
theorem vals_at (f h : List Int → Rat) (ms : List (List Int)) {i : Nat} (hi : i < ms.length) : (vals f h ms i)[i]? = some (f ms[i]) := by
  unfold vals
  rw [List.getElem?_append_right (by simp; omega), List.length_map, List.length_take, Nat.min_eq_left (by omega), Nat.sub_self, List.drop_eq_getElem_cons hi]; rfl
theorem vals_set (f h : List Int → Rat) (ms : List (List Int)) {i : Nat} (hi : i < ms.length) : (vals f h ms i).set i (h ms[i]) = vals f h ms (i + 1) := by
  unfold vals
  rw [List.set_append_right _ _ (by simp; omega), List.length_map, List.length_take, Nat.min_eq_left (by omega), Nat.sub_self, List.drop_eq_getElem_cons hi, List.map_cons, List.set_cons_zero, List.take_succ_eq_append_getElem hi, List.map_append, List.map_cons, List.map_nil, List.append_assoc]
  rfl
end Go.Rq
namespace Go.Proofs.Tg.Fi
open Go.RowKit Go.Rq Go.Qn Go.Bn Go.Mm Go.Proofs.Tg
set_option maxHeartbeats 8000000
set_option maxRecDepth 100000
/-- Rows of texts that can be read. -/
structure TRowsAt (w : World) (A : Option Addr) (xs : List (List Rat)) : Prop where
  ex : ∃ rows : List TRow, Sl w A rows.length 1 (rows.map TRow.cell) ∧ rows.map TRow.qs = xs ∧ ∀ r ∈ rows, Txts w r.A r.qs
theorem TRowsAt.keep {w w' : World} {A : Option Addr} {xs : List (List Rat)} (h : TRowsAt w A xs) (hb : Below w.heap.size w w') : TRowsAt w' A xs := by
  obtain ⟨rows, h1, h2, h3⟩ := h.ex
  exact ⟨rows, h1.keep hb, h2, fun r hr => (h3 r hr).keep hb⟩
theorem TRowsAt.at {w : World} {A : Option Addr} {xs : List (List Rat)} (h : TRowsAt w A xs) {k : Nat} (hk : k < xs.length) : ∃ ad R c, A = some ad ∧ w.cell? (ad.add k) = some (.slice R xs[k].length c) ∧ Txts w R xs[k] := by
  obtain ⟨rows, h1, h2, h3⟩ := h.ex
  have hl : rows.length = xs.length := by rw [← h2, List.length_map]
  have hk2 : k < rows.length := by omega
  obtain ⟨ad, e, hc⟩ := Sl.at1 h1 hk2
  have hx : xs[k] = rows[k].qs := by subst h2; simp
  refine ⟨ad, rows[k].A, rows[k].c, e, ?_, ?_⟩
  · rw [hx]; simpa [TRow.cell] using hc
  · rw [hx]; exact h3 _ (List.getElem_mem _)
theorem qtx_zero : qtx (0 : Rat) = ⟨#[48]⟩ := by
  rw [show (0 : Rat) = ((0 : Int) : Rat) from rfl, qtx_int]
  have : Lib.itoa 0 = [48] := by unfold Lib.itoa; rw [if_neg (by omega)]; exact dec_zero
  rw [this]; rfl
/-- The functional that a call returns. -/
def RetFun (v d : Nat) (qs : List Rat) (w : World) (e : Ending) (w' : World) : Prop := ∃ A, e = .returned (.tuple #[.agg #[.int .i64 (v : Nat), .int .i64 (d : Nat), .slice A qs.length qs.length], .int .i64 0]) ∧ Txts w' A qs ∧ Below w.heap.size w w'
theorem txts_set {w : World} {g : Nat} {qs : List Rat} (h : Blk w g 9 (qs.map vq).toArray) (i : Nat) (q : Rat) : Blk (w.setCell ⟨g, i, none⟩ (.string (qtx q))) g 9 ((qs.set i q).map vq).toArray := by
  have := h.set i (.string (qtx q))
  rw [List.setIfInBounds_toArray, show Value.string (qtx q) = vq q from rfl, ← List.map_set] at this
  exact this
/-- What the innermost loop of Of needs of its data. -/
structure OfOk (v d : Nat) (ws : List Rat) (xs : List (List Rat)) : Prop where
  n1 : 1 ≤ xs.length
  n2 : xs.length ≤ 16
  lw : ws.length = xs.length
  dim : ∀ x ∈ xs, x.length = v
  v1 : 1 ≤ v
  v6 : v ≤ 6
  d24 : d ≤ 24
  few : cnt v d ≤ 1024
  shw : ∀ q ∈ ws, Sh q
  shx : ∀ x ∈ xs, ∀ q ∈ x, Sh q ∧ ∀ e, e ≤ d → Sh (q ^ e)
  sht : ∀ k, k < xs.length → ∀ m ∈ mons v d, ∀ j, j ≤ v → Sh (tmTo (ws.getD k 0) (xs.getD k []) m j)
  shs : ∀ k, k ≤ xs.length → ∀ m ∈ mons v d, Sh (sumTo ws xs k m)
end Go.Proofs.Tg.Fi
end
section
/- What the reference's functional of points needs: the values, the points in memory, the number one. -/
namespace Go.Rq
theorem tm_pr (w : Rat) (x : List Rat) (m : List Int) : ∀ k, tmTo w x m k = w * prTo x m k
  | 0 => by show w = w * 1; rw [Rat.mul_one]
  | k + 1 => by
    show tmTo w x m k * _ = w * (prTo x m k * _)
    rw [tm_pr w x m k, Rat.mul_assoc]
end Go.Rq
namespace Go.Proofs.Tg
open Go.RowKit Go.Gr Go.Bn Go.Rq Go.Mm
open Go.Proofs.Tg.Fi (QsAt)
open Go.Proofs.Tg.Sx (one1)
set_option maxHeartbeats 8000000
set_option maxRecDepth 100000
/-- Points that can be read. -/
structure PtsAt (w : World) (X : Option Addr) (ps : List PRow2) : Prop where
  sl : Sl w X ps.length 1 (ps.map PRow2.cell)
  ok : ∀ p ∈ ps, QsAt w p.A p.rs
theorem PtsAt.keep {w w' : World} {X : Option Addr} {ps : List PRow2} (h : PtsAt w X ps) (hb : Below w.heap.size w w') : PtsAt w' X ps := ⟨h.sl.keep hb, fun p hp => (h.ok p hp).keep hb⟩
theorem OwnP.pts {base : Nat} {w : World} {X : Option Addr} {c : Nat} {ps : List PRow2} (h : OwnP base w X c ps) : PtsAt w X ps := ⟨Sl.own h.own, fun p hp => Fi.OwnQ.qs (h.rows p hp)⟩
theorem PtsAt.at {w : World} {X : Option Addr} {ps : List PRow2} (h : PtsAt w X ps) {k : Nat} (hk : k < ps.length) : ∃ ad, X = some ad ∧ w.cell? (ad.add k) = some (.slice ps[k].A ps[k].rs.length ps[k].c) ∧ QsAt w ps[k].A ps[k].rs := by
  obtain ⟨ad, e, hc⟩ := Sl.at1 h.sl (k := k) hk
  exact ⟨ad, e, by simpa [PRow2.cell] using hc, h.ok _ (List.getElem_mem hk)⟩
/-- Points as rational numbers. -/
def ptQ (ps : List PRow2) : List (List Rat) := ps.map fun p => p.rs.map RVal.q
/-- What the reference's Of needs of its data. -/
structure ROk (v d : Nat) (ws : List Rat) (xs : List (List Rat)) : Prop where
  n1 : 1 ≤ xs.length
  n2 : xs.length ≤ 16
  lw : ws.length = xs.length
  dim : ∀ x ∈ xs, x.length = v
  v1 : 1 ≤ v
  v6 : v ≤ 6
  d24 : d ≤ 24
  few : cnt v d ≤ 1024
  int : ∀ x ∈ xs, ∀ q ∈ x, ∃ z : Int, q = (z : Rat) ∧ z.natAbs ≤ 16
  qw : ∀ q ∈ ws, QS q
  qp : ∀ x ∈ xs, ∀ m ∈ mons v d, ∀ k, k ≤ v → QS (prTo x m k)
  qs : ∀ k, k ≤ xs.length → ∀ m ∈ mons v d, QS (sumTo ws xs k m)
  qt : ∀ k, k < xs.length → ∀ m ∈ mons v d, QS (tm (ws.getD k 0) (xs.getD k []) m)
theorem QS.zero : QS 0 := ⟨by decide, by decide⟩
/-- The number one, as num.R gives it. -/
def r1v (A : Option Addr) (c : Nat) : RVal := ⟨1, A, c, none, 0⟩
theorem r1v_parts : decide ((1 : Rat).num < 0) = false ∧ (dg (1 : Rat).num.natAbs).length = 1 ∧ (dg (dnz (1 : Rat).den)).length = 0 := by
  refine ⟨rfl, ?_, ?_⟩
  · show (dg 1).length = 1
    rw [dg_small (by decide) (by decide)]; rfl
  · show (dg (dnz 1)).length = 0; rw [dnz_one, dg_zero]; rfl
theorem r1v_cells (A : Option Addr) (c : Nat) : (r1v A c).cells = [.bool false, .slice A 1 c, .bool false, .slice none 0 0] := by
  unfold RVal.cells r1v
  rw [r1v_parts.1, r1v_parts.2.1, r1v_parts.2.2]
theorem one_cells (A : Option Addr) (c : Nat) (E : Option Addr) (ce : Nat) (el : List Int) : (one1 A c E ce el).cells = (r1v A c).cells ++ [.slice E el.length ce] := by
  rw [r1v_cells]; rfl
theorem r_one (w : World) :
    Calls Tryz.prog 52 #[.int .i64 1] w fun e w' => ∃ A c, e = .returned (.agg #[.bool false, .slice A 1 c, .bool false, .slice none 0 0]) ∧ (r1v A c).Ok w' ∧ Below w.heap.size w w' := by
  obtain ⟨W, hW⟩ : ∃ W, w.alloc (.cells #[.bool false, .slice none 0 0, .bool false, .slice none 0 0] 52) = W := ⟨_, rfl⟩
  have hbA : Below w.heap.size w W := by rw [← hW]; exact (Below.refl _ _).alloc (Nat.le_refl _) _
  have B0 : Blk W w.heap.size 52 #[.bool false, .slice none 0 0, .bool false, .slice none 0 0] := by rw [← hW]; exact Blk.new _ _ _
  have HWW := Lib.hid hW
  have HFI : Hid (∀ V, Calls Tryz.prog 47 #[.int .i64 1] V fun e w' => ∃ R c, e = .returned (.agg #[.bool false, .slice R 1 c]) ∧ ND w' R c 1 ∧ Below V.heap.size V w') := Lib.hid (fun V => by
    have h := fromint_num 1 (by decide) (by decide) V
    refine h.mono ?_
    rintro e w' ⟨R, c, rfl, hN, hb⟩
    exact ⟨R, c, by rw [show decide ((1 : Int) < 0) = false from rfl, show (dg (1 : Int).natAbs).length = 1 from r1v_parts.2.1], hN, hb⟩)
  clear hW
  obtain ⟨a0, a1, a2, a3, f0, f1, f2, f3⟩ := B0.four
  go_enter Tryz.func52, Tryz.ntmps52
  go_upto_region 1 with (fail)
  rw [HWW.out]
  go_wp2_with (go_at_call 47; refine (HFI.out _).mono ?_; rintro e w3 ⟨A, c, rfl, hD, hb3⟩; have B3 := B0.keep hb3 B0.lt; obtain ⟨a0, a1, a2, a3, f0, f1, f2, f3⟩ := B3.four)
  obtain ⟨g0, g1, g2, g3, _⟩ := (blk_four (a' := .bool false) (b' := .slice A 1 c) (c' := .bool false) (d' := .slice none 0 0) B3).four
  refine bodyPost_ret (v := .agg #[.bool false, .slice A 1 c, .bool false, .slice none 0 0]) (by simp [results, Tryz.results52, go_sem, g0, g1, g2, g3]) rfl ⟨A, c, rfl, ⟨?_, ?_⟩, Below.four (below_all hbA hb3) (Nat.le_refl _)⟩
  · exact hD.four B3 (by decide)
  · show ND _ none 0 (dnz 1)
    rw [dnz_one]; exact ND.zero _
end Go.Proofs.Tg
end
