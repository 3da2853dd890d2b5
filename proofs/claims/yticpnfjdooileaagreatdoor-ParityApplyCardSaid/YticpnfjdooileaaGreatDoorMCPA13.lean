/- Parts of the proof: WB3. -/
import Derived.Deep.CutRange
import Derived.ChangeKeysEq
import Derived.Laws.Rows
import Derived.Laws.Tables
import Derived.Test.YticpnfjdooileaaGreatDoorMCPA8
import Derived.Test.YticpnfjdooileaaGreatDoorMCPA12
section
/- Walks: the sign symmetries of polynomials. -/
namespace Go.Proofs.Tg
open Go.RowKit Go.Gr Go.Ev Go.Mo Go.Qn
set_option maxHeartbeats 4000000
set_option maxRecDepth 100000
/-- The exponents of all terms. -/
def rowsOf (ps : List PVal) : List (List Int) := ps.flatMap fun p => p.tv.map TV.exps
/-- What the search for sign symmetries returns. -/
def RetSigns (ps : List PVal) (w : World) (e : Ending) (w' : World) : Prop :=
  Below w.heap.size w w' ∧
  ((¬ (∀ p ∈ ps, p.ok) ∧ e = .returned (.tuple #[.slice none 0 0, .int .i64 1])) ∨
   ((∀ p ∈ ps, p.ok) ∧ (ps = [] ∨ ∃ p ∈ ps, p.vars ≠ (ps.getD 0 ⟨0, none, 0, []⟩).vars) ∧ e = .returned (.tuple #[.slice none 0 0, .int .i64 4])) ∨
   ((∀ p ∈ ps, p.ok) ∧ ∃ n : Nat, n ≤ 6 ∧ ps ≠ [] ∧ (∀ p ∈ ps, p.vars = n) ∧ ∃ A c us r q, EInv (V (rowsOf ps) n) n us r q ∧ us.length ≤ 64 ∧ e = .returned (.tuple #[.slice A ((us.take r).map (unp · n)).length c, .int .i64 0]) ∧ Lists w' A ((us.take r).map (unp · n))))
def occA (f : Nat → Bool) : Array Value := ((List.range 64).map fun i => Value.bool (f i)).toArray
theorem occA_size (f : Nat → Bool) : (occA f).size = 64 := by simp [occA]
theorem occA_at (f : Nat → Bool) {i : Nat} (hi : i < 64) : (occA f)[i]? = some (.bool (f i)) := by simp [occA, hi]
theorem occA_set (f : Nat → Bool) (j : Nat) : (occA f).setIfInBounds j (.bool true) = occA (fun i => f i || (j == i)) := by
  apply Array.ext
  · simp [occA]
  · intro i h1 h2
    simp only [occA, List.getElem_toArray, List.getElem_map, List.getElem_range]
    by_cases e : j = i
    · subst e; simp
    · simp [e]
theorem occ_alloc {ops : Array Oper} {rest : List Oper} {a : Act} {w : World} {Q : Exit → Act → World → Prop} (dst : Option Tmp) (ty : TypeId) (pos : String) (after : Array Edge)
    (h : wpList Tryz.prog ops Q rest (a.put dst (.pointer (some ⟨w.heap.size, 0, none⟩))) (w.alloc (.cells (occA fun _ => false) 56))) : wpList Tryz.prog ops Q (⟨dst, .alloc 56, ty, pos, after, none⟩ :: rest) a w := by
  refine wpList_plain rfl fun K hK => ?_
  have hr : (execOp a.eval ⟨dst, .alloc 56, ty, pos, after, none⟩).run Tryz.prog w = .ok (.value (.pointer (some ⟨w.heap.size, 0, none⟩))) (w.alloc (.cells (occA fun _ => false) 56)) := by kernel_rfl
  unfold Oper.wp
  rw [hr]
  exact hK _ _ h
theorem under_occ : Tryz.prog.underlying 56 = some (.array 64 4) := by kernel_rfl
theorem size_occ (f : Nat → Bool) : (Tryz.prog.info? 56).map (·.size) = some (occA f).size := by rw [occA_size]; kernel_rfl
theorem pvalid_lit (p : PVal) (w : World) (hA : TermsAt w p.adr p.tv) (hs : p.small) (hT : Tab w) (ok : Bool) (hok : ok = true ↔ p.ok) :
    Calls Tryz.prog 25 #[.agg #[.int .i64 p.vars, .slice p.adr p.tv.length p.cap]] w fun e w' => e = .returned (.bool ok) ∧ Below w.heap.size w w' :=
  pvalid_any p.vars p.adr p.cap p.tv ok w hA hs.1 hs.2 hok hT
theorem ok_term {p : PVal} (h : p.ok) {t : TV} (ht : t ∈ p.tv) : (t.exps.length : Int) = p.vars ∧ ∀ x ∈ t.exps, 0 ≤ x ∧ x ≤ 1048576 := by
  obtain ⟨i, hi, rfl⟩ := List.mem_iff_getElem.1 ht
  have := (h.2.1.2.2 i (by simpa using hi) (by simpa using hi)).1
  rw [List.getElem_map, termOk_iff] at this
  exact ⟨this.2.1, low20_iff.1 this.2.2⟩
theorem rowsOf_succ (ps : List PVal) (k : Nat) (hk : k < ps.length) : rowsOf (ps.take (k + 1)) = rowsOf (ps.take k) ++ ps[k].tv.map TV.exps := by
  unfold rowsOf
  rw [List.take_succ_eq_append_getElem hk, List.flatMap_append]; simp
theorem occ_index (f : Nat → Bool) (e : Nat) (he : e < 64) (w : World) : (Instr.index 56 (.agg (occA f)) (.int .i64 (e : Int))).run Tryz.prog w = .ok (.bool (f e)) w := by
  have h1 := occA_at f he
  have hsz := occA_size f
  simp [Instr.index, run_underlying under_occ, asIntOf]
  rw [if_pos he]
  exact run_part_plain w (by kernel_rfl) h1
/-- Lists that a call has made: block G j holds list j. -/
structure Made (G : Nat → Nat) (k n : Nat) (ls : Nat → List Int) (w : World) : Prop where
  blk : ∀ j, j < k → Blk w (G j) 3 (iarr (ls j))
  len : ∀ j, j < k → (ls j).length = n
theorem Made.lists {G : Nat → Nat} {k n base c : Nat} {ls : Nat → List Int} {w : World} {A : Option Addr} (h : Made G k n ls w) (ho : w.ownsRow base 33 1 (.slice A k c) k ((List.range k).map fun j => .slice (some ⟨G j, 0, none⟩) n n)) :
    Lists w A ((List.range k).map ls) := by
  refine ⟨fun j => (some ⟨G j, 0, none⟩, n), ?_, fun i hi => ?_⟩
  · have := Sl.own ho
    have e : ((List.range ((List.range k).map ls).length).map fun i => Value.slice (some ⟨G i, 0, none⟩) (((List.range k).map ls).getD i []).length n) = (List.range k).map fun j => .slice (some ⟨G j, 0, none⟩) n n := by
      rw [List.length_map, List.length_range]
      refine List.map_congr_left fun i hi => ?_
      have hi := List.mem_range.1 hi
      simp [hi, h.len i hi]
    rw [show ((List.range k).map ls).length = k by simp] at e ⊢
    rw [e]
    exact this
  · have hi' : i < k := by simpa using hi
    have e : ((List.range k).map ls).getD i [] = ls i := by simp [hi']
    rw [e]
    have hB := h.blk i hi'
    refine ⟨by simp, fun _ => ⟨_, rfl, hB.lt, fun j u hu => ?_⟩⟩
    rw [add_lit, Nat.zero_add, hB.cell j]
    simpa [iarr] using hu
theorem VecAt.keep {W0 w w' : World} {base g cap : Nat} {us : List Nat} (h : VecAt W0 base g cap us w) (hb : Below w.heap.size w w') : VecAt W0 base g cap us w' :=
  ⟨own_below h.own hb (Nat.le_refl _), below_all h.below hb⟩
theorem row_info : (Tryz.prog.info? 33).map (fun i => (i.zero, i.size, i.bytes)) = some (some (.slice none 0 0), 1, 24) := by kernel_rfl
theorem wrap_pow2 (i : Nat) (hi : i ≤ 6) : wrap64 ((2 : Int) ^ i) = ((2 ^ i : Nat) : Int) ∧ 2 ^ i ≤ 64 := by
  have h6 : 2 ^ i ≤ 2 ^ 6 := Nat.pow_le_pow_right (by omega) hi
  have e : (2 : Int) ^ i = ((2 ^ i : Nat) : Int) := by simp
  exact ⟨by rw [e, wrap64_nat _ (by omega)], h6⟩
theorem signs_any (L : Option Addr) (c : Nat) (ps : List PVal) (w : World) (hL : PolysAt w L ps) (hn : ps.length ≤ 1000) (hs : ∀ p ∈ ps, p.small) (hT : Tab w) :
    Calls Tryz.prog 10 #[.slice L ps.length c] w (RetSigns ps w) := by
  have HS := Lib.hid hs
  clear hs
  go_enter Tryz.func10, Tryz.ntmps10
  go_wp2
  go_step3
  go_wp2
  go_loopw [23] (fun i wr => ∃ k : Nat, i = .int .i64 k ∧ k ≤ ps.length ∧ Hid (∀ p ∈ ps.take k, p.ok) ∧ Below w.heap.size w wr) (fun i _ => ps.length - (intOf i).toNat)
  case atStart => exact ⟨0, rfl, Nat.zero_le _, Lib.hid (by simp), Below.refl _ _⟩
  case round =>
    obtain ⟨k, rfl, hk, HG, hb⟩ := hrel
    by_cases hlt : k < ps.length
    · obtain ⟨ad, rfl, e0, e1, hI⟩ := (hL.keep hb).at hlt
      have HM : Hid (ps[k] ∈ ps) := Lib.hid (List.getElem_mem _)
      have hsm := HS.out ps[k] (List.getElem_mem _)
      have HT0 : Hid (ps.take (k + 1) = ps.take k ++ [ps[k]]) := Lib.hid (List.take_succ_eq_append_getElem hlt)
      generalize ps[k] = p at *
      have hadl : ad.block < wr.heap.size := by have := World.block_lt_of_cell? wr _ e0; rwa [add_block] at this
      have hba := hb.alloc hb.size (.cells #[.int .i64 p.vars, .slice p.adr p.tv.length p.cap] 36)
      have hIa := hI.keep ((Below.refl _ _).alloc (Nat.le_refl _) (.cells #[.int .i64 p.vars, .slice p.adr p.tv.length p.cap] 36))
      by_cases hok : p.ok
      · have HV := Lib.hid (pvalid_lit p _ hIa hsm (hT.below hba hT.1) true (iff_of_true rfl hok))
        have HG2 : Hid (∀ p ∈ ps.take (k + 1), p.ok) := Lib.hid (by
          rw [HT0.out]; intro y hy
          rcases List.mem_append.1 hy with h | h
          · exact HG.out y h
          · simp at h; subst h; exact hok)
        clear hI hIa hsm
        obtain ⟨pv, pa, pc, pt⟩ := p
        simp only at e0 e1 HV hba
        go_wp2_with (go_at_call 25; refine HV.out.mono ?_; rintro e w1 ⟨rfl, hb1⟩)
        go_roundw
        case rel => exact ⟨k + 1, by go_num, by omega, HG2, hba.trans (hb1.mono hba.size)⟩
        case measure => simp [intOf]; omega
      · have HV := Lib.hid (pvalid_lit p _ hIa hsm (hT.below hba hT.1) false (iff_of_false (by decide) hok))
        have HNO := Lib.hid hok
        clear hI hIa hsm hok
        have HNA : Hid (¬ ∀ p ∈ ps, p.ok) := Lib.hid (fun h => HNO.out (h _ HM.out))
        obtain ⟨pv, pa, pc, pt⟩ := p
        simp only at e0 e1 HV hba
        go_wp2_with (go_at_call 25; refine HV.out.mono ?_; rintro e w1 ⟨rfl, hb1⟩)
        try rw [Exit.noGoto_ret]
        go_ret2
        exact ⟨hba.trans (hb1.mono hba.size), .inl ⟨HNA.out, rfl⟩⟩
    · obtain rfl : k = ps.length := by omega
      have HALL : Hid (∀ p ∈ ps, p.ok) := Lib.hid (by have := HG.out; rwa [List.take_length] at this)
      clear HG
      by_cases h0 : ps = []
      · subst h0
        go_wp2
        try rw [Exit.noGoto_ret]
        go_ret2
        exact ⟨hb, .inr (.inl ⟨HALL.out, .inl rfl, rfl⟩)⟩
      · have hp : 0 < ps.length := List.length_pos_iff.2 h0
        have hpb : ((ps.length : Int) == 0) = false := by simp; exact h0
        obtain ⟨ad, rfl, e0, _, _⟩ := (hL.keep hb).at hp
        have e0' : wr.cell? ad = some (.int .i64 ps[0].vars) := by simpa [Addr.add] using e0
        have HP0 : Hid ((ps.getD 0 ⟨0, none, 0, []⟩).vars = ps[0].vars) := Lib.hid (by simp [hp])
        have hv0 := (HALL.out ps[0] (List.getElem_mem _)).2.1
        have H0 := Lib.hid h0
        obtain ⟨n, hnn⟩ : ∃ n : Nat, ps[0].vars = n := ⟨ps[0].vars.toNat, by have := hv0.1; omega⟩
        have hn6 : n ≤ 6 := by have := hv0.2.1; omega
        rw [hnn] at e0' HP0
        clear hv0 e0 h0 hnn
        go_wp2
        clear e0'
        obtain ⟨wa, rfl⟩ : ∃ wa : World, wa = wr := ⟨_, rfl⟩
        go_loopw [40] (fun i wr => ∃ k : Nat, i = .int .i64 k ∧ k ≤ ps.length ∧ Hid (∀ p ∈ ps.take k, p.vars = n) ∧ Below w.heap.size w wr) (fun i _ => ps.length - (intOf i).toNat)
        case atStart => exact ⟨0, rfl, Nat.zero_le _, Lib.hid (by simp), hb⟩
        case round =>
          clear hb
          obtain ⟨k, rfl, hk, HG, hb⟩ := hrel
          by_cases hlt : k < ps.length
          · obtain ⟨ad', he', e0, e1, hI⟩ := (hL.keep hb).at hlt
            injection he' with he'
            subst he'
            have HM : Hid (ps[k] ∈ ps) := Lib.hid (List.getElem_mem _)
            have HT0 : Hid (ps.take (k + 1) = ps.take k ++ [ps[k]]) := Lib.hid (List.take_succ_eq_append_getElem hlt)
            generalize ps[k] = p at *
            have hadl : ad.block < wr.heap.size := by have := World.block_lt_of_cell? wr _ e0; rwa [add_block] at this
            have hba := hb.alloc hb.size (.cells #[.int .i64 p.vars, .slice p.adr p.tv.length p.cap] 36)
            clear hI
            by_cases hpv : p.vars = n
            · have hbb : (p.vars != (n : Int)) = false := by simp [hpv]
              have HG2 : Hid (∀ p ∈ ps.take (k + 1), p.vars = n) := Lib.hid (by
                rw [HT0.out]; intro y hy
                rcases List.mem_append.1 hy with h | h
                · exact HG.out y h
                · simp at h; subst h; exact hpv)
              clear hpv
              obtain ⟨pv, pa, pc, pt⟩ := p
              simp only at e0 e1 hba hbb
              go_wp2
              go_roundw
              case rel => exact ⟨k + 1, by go_num, by omega, HG2, hba⟩
              case measure => simp [intOf]; omega
            · have hbb : (p.vars != (n : Int)) = true := by simp [hpv]
              have HBAD : Hid (∃ p ∈ ps, p.vars ≠ (ps.getD 0 ⟨0, none, 0, []⟩).vars) := Lib.hid ⟨p, HM.out, by rw [HP0.out]; exact hpv⟩
              clear hpv
              obtain ⟨pv, pa, pc, pt⟩ := p
              simp only at e0 e1 hba hbb
              go_wp2
              try rw [Exit.noGoto_ret]
              go_ret2
              exact ⟨hba, .inr (.inl ⟨HALL.out, .inr HBAD.out, rfl⟩)⟩
          · obtain rfl : k = ps.length := by omega
            have HVN : Hid (∀ p ∈ ps, p.vars = n) := Lib.hid (by have := HG.out; rwa [List.take_length] at this)
            clear HG
            obtain ⟨wb, rfl⟩ : ∃ wb : World, wb = wr := ⟨_, rfl⟩
            go_wp2_with (refine occ_alloc _ _ _ _ ?_)
            go_loopw [51] (fun i wr => ∃ k : Nat, i = .int .i64 k ∧ k ≤ ps.length ∧ Blk wr wb.heap.size 56 (occA (occF (rowsOf (ps.take k)))) ∧ Below w.heap.size w wr) (fun i _ => ps.length - (intOf i).toNat)
            case atStart => exact ⟨0, rfl, Nat.zero_le _, Blk.new wb 56 _, hb.alloc hb.size _⟩
            case round =>
              obtain ⟨wc0, rfl⟩ : ∃ wc0 : World, wc0 = wr := ⟨_, rfl⟩
              have hbb0 := hb.size
              clear hb
              obtain ⟨k, rfl, hk, BO, hb⟩ := hrel
              by_cases hlt : k < ps.length
              · obtain ⟨ad', he', e0, e1, hI⟩ := (hL.keep hb).at hlt
                injection he' with he'
                subst he'
                have hpok := HALL.out ps[k] (List.getElem_mem _)
                have hpv := HVN.out ps[k] (List.getElem_mem _)
                have hsm := HS.out ps[k] (List.getElem_mem _)
                have HRO : Hid (rowsOf (ps.take (k + 1)) = rowsOf (ps.take k) ++ ps[k].tv.map TV.exps) := Lib.hid (rowsOf_succ ps k hlt)
                have HMP : Hid (ps[k] ∈ ps) := Lib.hid (List.getElem_mem _)
                generalize rowsOf (ps.take k) = rs at *
                generalize ps[k] = p at *
                have HTM : Hid (∀ t ∈ p.tv, t.exps.length = n ∧ ∀ x ∈ t.exps, 0 ≤ x ∧ x ≤ 1048576) := Lib.hid (fun t ht => by
                  have := ok_term hpok ht
                  exact ⟨by have h1 := this.1; rw [hpv] at h1; omega, this.2⟩)
                have hadl : ad.block < wc0.heap.size := by have := World.block_lt_of_cell? wc0 _ e0; rwa [add_block] at this
                have hba := hb.alloc hb.size (.cells #[.int .i64 p.vars, .slice p.adr p.tv.length p.cap] 36)
                have hpl : p.tv.length ≤ 4096 := hsm.1
                have BO2 := BO.alloc (.cells #[.int .i64 p.vars, .slice p.adr p.tv.length p.cap] 36)
                have HLP : Hid (∀ W, Below w.heap.size w W → TermsAt W p.adr p.tv) := Lib.hid (fun W hW => (hL.keep hW).tms p HMP.out)
                clear hI hpok hpv hsm BO
                obtain ⟨pv, pa, pc, pt⟩ := p
                simp only at e0 e1 hba BO2 hpl HTM HRO HLP
                go_wp2
                have hbz := hba.size
                go_loopw [58] (fun i wr => ∃ j : Nat, i = .int .i64 j ∧ j ≤ pt.length ∧ Blk wr wb.heap.size 56 (occA (occF (rs ++ (pt.take j).map TV.exps))) ∧ Below w.heap.size w wr) (fun i _ => pt.length - (intOf i).toNat)
                case atStart => exact ⟨0, rfl, Nat.zero_le _, by simpa using BO2, hba⟩
                case round =>
                  clear hba BO2 e0 e1 hadl hbz
                  obtain ⟨j, rfl, hj, BO, hbj⟩ := hrel
                  have hI := HLP.out wr hbj
                  by_cases hjl : j < pt.length
                  · obtain ⟨td, rfl, t0, t1, hIj⟩ := hI.at hjl
                    have htm := HTM.out pt[j] (List.getElem_mem _)
                    have HT0 : Hid (pt.take (j + 1) = pt.take j ++ [pt[j]]) := Lib.hid (List.take_succ_eq_append_getElem hjl)
                    generalize pt[j] = t at *
                    obtain ⟨ts, ta, tc, te⟩ := t
                    simp only at t0 t1 hIj htm
                    have htl : td.block < wr.heap.size := by have := World.block_lt_of_cell? wr _ t0; rwa [add_block] at this
                    have hIa := Sl.alloc hIj (.cells #[.string ts, .slice ta te.length tc] 54)
                    have hbt := hbj.alloc hbj.size (.cells #[.string ts, .slice ta te.length tc] 54)
                    have HP := Lib.hid (pack_any ta tc te _ hIa (by omega) (fun x hx => by have := htm.2 x hx; omega))
                    have hpk := pk_lt te te.length
                    have h6 : 2 ^ te.length ≤ 2 ^ 6 := Nat.pow_le_pow_right (by omega) (by omega)
                    have hpk64 : pk te te.length < 64 := by omega
                    have HOC : Hid (∀ i, occF (rs ++ (pt.take (j + 1)).map TV.exps) i = (occF (rs ++ (pt.take j).map TV.exps) i || (pk te te.length == i))) := Lib.hid (fun i => by
                      rw [HT0.out, List.map_append, ← List.append_assoc]
                      exact occF_app _ te i)
                    clear hpk h6 htm
                    generalize pk te te.length = z at *
                    have z1 : (z : Int) < 64 := by omega
                    have z0 : (0 : Int) ≤ (z : Int) := by omega
                    have cz := BO.cell z
                    rw [occA_at _ hpk64] at cz
                    have fz := BO.frozen z
                    have hgz : wb.heap.size < wr.heap.size := BO.lt
                    go_wp2_with (go_at_call 26; refine HP.out.mono ?_; rintro e w' ⟨rfl, rfl⟩)
                    go_roundw
                    case rel =>
                      refine ⟨j + 1, by go_num, by omega, ?_, ?_⟩
                      · have h1 := (BO.set z (.bool true)).alloc (.cells #[.string ts, .slice ta te.length tc] 54)
                        rw [occA_set, ← funext HOC.out] at h1
                        exact h1
                      · exact (hbj.setCell (p := ⟨wb.heap.size, z, none⟩) hbb0 (.bool true)).alloc (by simp; omega) _
                    case measure => simp [intOf]; omega
                  · obtain rfl : j = pt.length := by omega
                    rw [List.take_length, ← HRO.out] at BO
                    go_wp2
                    go_roundw
                    case rel => exact ⟨k + 1, by go_num, by omega, BO, hbj⟩
                    case measure => simp [intOf]; omega
              · obtain rfl : k = ps.length := by omega
                rw [List.take_length] at BO
                obtain ⟨i0, hi0, hz0, hz1, hz2⟩ := info_parts int_info
                obtain ⟨hw2, h64⟩ := wrap_pow2 n hn6
                have HW2 := Lib.hid hw2
                clear hw2
                obtain ⟨f, hf⟩ : ∃ f, occF (rowsOf ps) = f := ⟨_, rfl⟩
                rw [hf] at BO
                have HF := Lib.hid hf
                clear hf
                go_wp2
                go_step3
                go_wp2
                have hbz := BO.lt
                go_loopw [14, 15] (fun s14 s15 wr => ∃ (s : Nat) (A : Option Addr) (cA : Nat), s15 = .int .i64 s ∧ 1 ≤ s ∧ s ≤ 2 ^ n ∧ s14 = .slice A (fnd f s).length cA ∧ wr.ownsRow (wb.heap.size + 1) 3 1 (.slice A (fnd f s).length cA) (fnd f s).length ((fnd f s).map vn) ∧ Blk wr wb.heap.size 56 (occA f) ∧ Below w.heap.size w wr) (fun _ s15 _ => 2 ^ n - (intOf s15).toNat)
                case atStart => exact ⟨1, none, 0, rfl, Nat.le_refl _, Nat.one_le_two_pow, rfl, World.ownsRow_nil _ _ _ _, BO, hb⟩
                case round =>
                  clear BO hb hbz
                  obtain ⟨wd, rfl⟩ : ∃ wd : World, wd = wr := ⟨_, rfl⟩
                  obtain ⟨s, A, cA, rfl, hs1, hs2, rfl, hown, BO, hb⟩ := hrel
                  have hfl := fnd_len f s
                  have HFS := Lib.hid (fnd_succ f s (by omega))
                  generalize hfs : fnd f s = fs at *
                  have HFE := Lib.hid hfs
                  clear hfs
                  by_cases hsn : s < 2 ^ n
                  · have ht : decide ((s : Int) < wrap64 (2 ^ n)) = true := by rw [HW2.out]; exact decide_eq_true (by omega)
                    go_wp2_with (refine wpList_load_row rfl 56 (.tmp 9) rfl wb.heap.size rfl 56 (occA f) (0, 0) (.array 64 4) BO under_occ rfl (size_occ f) ?_)
                    go_loop [75] (fun s75 => ∃ e : Nat, s75 = .int .i64 e ∧ e ≤ 64 ∧ Hid (∀ e', e' < e → f e' = true → size (s &&& e') % 2 ≠ 1)) (fun s75 => 64 - (intOf s75).toNat)
                    case atStart => exact ⟨0, rfl, by omega, Lib.hid (fun e' h => absurd h (by omega))⟩
                    case round =>
                      obtain ⟨e, rfl, he, HEV⟩ := hrel
                      by_cases hel : e < 64
                      · have hix := fun W => occ_index f e hel W
                        have e1 : (e : Int) < 64 := by omega
                        by_cases hfe : f e = true
                        · rw [hfe] at hix
                          by_cases hod : size (s &&& e) % 2 = 1
                          · have HOD : Hid (∀ W, Calls Tryz.prog 27 #[.int .i64 s, .int .i64 e] W fun r w' => r = .returned (.bool true) ∧ W = w') := Lib.hid (fun W => (odd_any s e W (by omega) (by omega)).mono fun r w' ⟨h1, h2⟩ => ⟨by rw [h1, decide_eq_true hod], h2⟩)
                            have HF2 : Hid (fnd f (s + 1) = fs) := Lib.hid (by
                              rw [HFS.out, if_neg, List.append_nil]
                              intro h
                              exact goodS_iff.1 h e hel hfe hod)
                            clear hfe hod
                            go_wp2_with (go_at_call 27; refine (HOD.out _).mono ?_; rintro r w' ⟨rfl, rfl⟩)
                            go_roundw
                            case rel => exact ⟨s + 1, A, cA, by go_num, by omega, by omega, by rw [HF2.out], by rw [HF2.out]; exact hown, BO, hb⟩
                            case measure => simp [intOf]; omega
                          · have HOD : Hid (∀ W, Calls Tryz.prog 27 #[.int .i64 s, .int .i64 e] W fun r w' => r = .returned (.bool false) ∧ W = w') := Lib.hid (fun W => (odd_any s e W (by omega) (by omega)).mono fun r w' ⟨h1, h2⟩ => ⟨by rw [h1, decide_eq_false hod], h2⟩)
                            have HEV2 : Hid (∀ e', e' < e + 1 → f e' = true → size (s &&& e') % 2 ≠ 1) := Lib.hid (fun e' h1 h2 => by
                              by_cases e2 : e' = e
                              · subst e2; exact hod
                              · exact HEV.out e' (by omega) h2)
                            clear hfe hod
                            go_wp2_with (go_at_call 27; refine (HOD.out _).mono ?_; rintro r w' ⟨rfl, rfl⟩)
                            go_round
                            case rel => exact ⟨e + 1, by go_num, by omega, HEV2⟩
                            case measure => simp [intOf]; omega
                        · have hfe : f e = false := eq_false_of_ne_true hfe
                          rw [hfe] at hix
                          have HEV2 : Hid (∀ e', e' < e + 1 → f e' = true → size (s &&& e') % 2 ≠ 1) := Lib.hid (fun e' h1 h2 => by
                            by_cases e2 : e' = e
                            · subst e2; rw [hfe] at h2; cases h2
                            · exact HEV.out e' (by omega) h2)
                          clear hfe
                          go_wp2
                          go_round
                          case rel => exact ⟨e + 1, by go_num, by omega, HEV2⟩
                          case measure => simp [intOf]; omega
                      · obtain rfl : e = 64 := by omega
                        have HF2 : Hid (fnd f (s + 1) = fs ++ [s]) := Lib.hid (by
                          rw [HFS.out, if_pos (goodS_iff.2 HEV.out)])
                        have hbz := BO.lt
                        go_wp2_with (at_builtin; refine wpList_append_own _ rfl _ _ 33 rfl (wb.heap.size + 1) 3 i0 (.int .i64 0) 1 8 Tryz.underlying33 hi0 hz0 hz1 hz2 rfl (by decide) (.slice A fs.length cA) fs.length (fs.map vn) rfl (hown.alloc _) ⟨wd.heap.size, 0, none⟩ 1 1 [.int .i64 s] rfl rfl ?c1 ?c2 ?c3 ?c4 ?c5 ?_
                                     case c1 => exact cell_one_new _ _ _
                                     case c2 => simp [Value.oneCell']
                                     case c3 => simp only [maxLen]; omega
                                     case c4 => omega
                                     case c5 => simp; omega
                                     intro v' w2 hown' hgrow _)
                        obtain ⟨A2, cA2, hv2, _, _⟩ := Sl.of_own hown'
                        subst hv2
                        go_roundw
                        case rel =>
                          refine ⟨s + 1, A2, cA2, by go_num, by omega, by omega, by rw [HF2.out]; simp, ?_, ?_, ?_⟩
                          · rw [HF2.out]; simpa [vn] using hown'
                          · exact (BO.alloc _).grown hgrow (own_blk_ne hown BO (by decide))
                          · exact (hb.alloc hb.size _).grown hgrow (by have := hb.size; simp; omega) (fun j hj => by have := (hown.lt j hj).1; omega)
                        case measure => simp [intOf]; omega
                  · have ht : decide ((s : Int) < wrap64 (2 ^ n)) = false := by rw [HW2.out]; exact decide_eq_false (by omega)
                    have HSE : Hid (s = 2 ^ n) := Lib.hid (by omega)
                    have hrl : ∀ r ∈ rowsOf ps, r.length = n := by
                      intro r hr
                      unfold rowsOf at hr
                      obtain ⟨p, hp1, hp2⟩ := List.mem_flatMap.1 hr
                      obtain ⟨t, ht1, rfl⟩ := List.mem_map.1 hp2
                      have h1 := (ok_term (HALL.out p hp1) ht1).1
                      rw [HVN.out p hp1] at h1
                      omega
                    have hsp := fnd_space hn6 hrl
                    rw [HF.out, ← HSE.out, HFE.out] at hsp
                    have HSP := Lib.hid hsp
                    have HSV : Hid (Space (V (rowsOf ps) n) n) := Lib.hid (V_space _ _)
                    have HFIN : Hid (∀ e w', Below w.heap.size w w' → (∃ A c us r q, EInv (V (rowsOf ps) n) n us r q ∧ us.length ≤ 64 ∧ e = .returned (.tuple #[.slice A ((us.take r).map (unp · n)).length c, .int .i64 0]) ∧ Lists w' A ((us.take r).map (unp · n))) → RetSigns ps w e w') := Lib.hid (fun e w' h1 h2 => ⟨h1, .inr (.inr ⟨HALL.out, n, hn6, H0.out, HVN.out, h2⟩)⟩)
                    clear hrl hsp
                    generalize V (rowsOf ps) n = VV at *
                    rcases hown.2 with ⟨hnil, _⟩ | ⟨g, cap, cur, hsl, _⟩
                    · injection hnil with z1 z2 z3
                      obtain rfl : fs = [] := List.eq_nil_of_length_eq_zero z2
                      subst z1 z3
                      have HE := Lib.hid (fun W => ech_nil VV n hn6 W HSP.out.2)
                      clear z2
                      go_wp2_with (go_at_call 28; refine (HE.out _).mono ?_; rintro e w3 ⟨rfl, ⟨q, hq⟩, hb3⟩)
                      refine wp_loop_rounds 1 ?_
                      rw [rounds_succ]
                      go_wp2
                      try rw [Exit.noGoto_ret]
                      go_ret2
                      exact HFIN.out _ _ (below_all hb hb3) ⟨none, 0, [], 0, q, hq, by simp, rfl, ⟨fun _ => (none, 0), Sl.nil _ _ _, fun i hi => by simp at hi⟩⟩
                    · injection hsl with z1 z2 z3
                      subst z1
                      subst z3
                      have hv : VecAt w (wb.heap.size + 1) g cA fs wd := ⟨hown, hb⟩
                      have HE := Lib.hid (ech_pos VV n HSV.out hn6 fs HSP.out.1 HSP.out.2 (by omega) w (wb.heap.size + 1) g cA wd (by omega) hv)
                      obtain ⟨j0, hj, hjz0, hjz1, hjz2⟩ := info_parts row_info
                      clear hown hb hv z2 BO
                      go_wp2_with (go_at_call 28; refine HE.out.mono ?_; rintro e w3 ⟨us, r, q, rfl, hE, hul, hv⟩)
                      have hr := hE.hr
                      have HEE := Lib.hid hE
                      have hlt64 : ∀ j, us.getD j 0 < 64 := by
                        intro j
                        rcases Nat.lt_or_ge j us.length with h | h
                        · have := HSV.out.lt _ (hE.hV _ (mem_getD.2 ⟨j, h, rfl⟩))
                          omega
                        · rw [List.getD_eq_getElem?_getD, List.getElem?_eq_none h]; decide
                      have HL64 := Lib.hid hlt64
                      clear hE hlt64
                      have hg3 : wb.heap.size + 1 ≤ g := hv.base_le
                      go_loopw [18, 94] (fun s18 s94 wr => ∃ (k : Nat) (A : Option Addr) (cs : Nat) (G : Nat → Nat), s94 = .int .i64 k ∧ k ≤ r ∧ s18 = .slice A k cs ∧ wr.ownsRow (wb.heap.size + 1) 33 1 (.slice A k cs) k ((List.range k).map fun j => .slice (some ⟨G j, 0, none⟩) n n) ∧ Made G k n (fun j => unp (us.getD j 0) n) wr ∧ VecAt w (wb.heap.size + 1) g cA us wr) (fun _ s94 _ => r - (intOf s94).toNat)
                      case atStart => exact ⟨0, none, 0, fun _ => 0, rfl, Nat.zero_le _, rfl, World.ownsRow_nil _ _ _ _, ⟨fun j h => absurd h (by omega), fun j h => absurd h (by omega)⟩, hv⟩
                      case round =>
                        clear hv
                        obtain ⟨wf, rfl⟩ : ∃ wf : World, wf = wr := ⟨_, rfl⟩
                        obtain ⟨k, A, cs, G, rfl, hk, rfl, hown, hM, hv⟩ := hrel
                        by_cases hkr : k < r
                        · have ck := hv.cell (j := k) (by omega)
                          have hx := HL64.out k
                          have HU := Lib.hid (unpack_any (us.getD k 0) n wf (by omega) (by omega))
                          have HXE : Hid (us.getD k 0 = us.getD k 0) := Lib.hid rfl
                          generalize hxe : us.getD k 0 = x at ck hx HU
                          have HX := Lib.hid hxe
                          clear hxe HXE
                          have hwf : wb.heap.size + 1 ≤ wf.heap.size := by have := (hv.own.lt g rfl).2; omega
                          go_wp2_with (first
                            | (go_at_call 29; refine HU.out.mono ?_; rintro e w4 ⟨rfl, B4, hb4⟩
                               have hown4 := own_below hown hb4 (Nat.le_refl _)
                               have hz4 := hb4.size)
                            | (at_builtin; refine wpList_append_own _ rfl _ _ 25 rfl (wb.heap.size + 1) 33 j0 (.slice none 0 0) 1 24 Tryz.underlying25 hj hjz0 hjz1 hjz2 rfl (by decide) (.slice A k cs) k _ rfl (hown4.alloc _) ⟨w4.heap.size, 0, none⟩ 1 1 [.slice (some ⟨wf.heap.size, 0, none⟩) (unp x n).length (unp x n).length] rfl rfl ?c1 ?c2 ?c3 ?c4 ?c5 ?_
                               case c1 => exact cell_one_new _ _ _
                               case c2 => simp [Value.oneCell']
                               case c3 => simp only [maxLen]; omega
                               case c4 => omega
                               case c5 => simp; omega
                               intro v' w5 hown' hgrow _))
                          obtain ⟨A2, cs2, hv2, _, _⟩ := Sl.of_own hown'
                          subst hv2
                          have hv4 := hv.keep hb4
                          go_roundw
                          case rel =>
                            refine ⟨k + 1, A2, cs2, fun j => if j = k then wf.heap.size else G j, by go_num, by omega, rfl, ?_, ⟨fun j hj => ?_, fun j hj => unp_len _ _⟩, ?_⟩
                            · have e : (List.range (k + 1)).map (fun j => Value.slice (some ⟨if j = k then wf.heap.size else G j, 0, none⟩) n n) = (List.range k).map (fun j => Value.slice (some ⟨G j, 0, none⟩) n n) ++ [Value.slice (some ⟨wf.heap.size, 0, none⟩) n n] := by
                                rw [List.range_succ, List.map_append]
                                congr 1
                                · refine List.map_congr_left fun j hj => ?_
                                  have := List.mem_range.1 hj
                                  rw [if_neg (by omega)]
                                · simp
                              rw [e]
                              rw [unp_len] at hown'
                              exact hown'
                            · by_cases e : j = k
                              · subst e
                                rw [if_pos rfl, HX.out]
                                exact (B4.alloc _).grown hgrow (own_blk_ne hown4 B4 (by decide))
                              · rw [if_neg e]
                                have hB := (hM.blk j (by omega)).keep hb4 (hM.blk j (by omega)).lt
                                exact (hB.alloc _).grown hgrow (own_blk_ne hown4 hB (by decide))
                            · refine ⟨(hv4.own.alloc _).kept hgrow (own_ne hv4.own hown4 (by decide)), ?_⟩
                              exact (hv4.below.alloc hv4.below.size _).grown hgrow (by have := hv4.below.size; simp; omega) (fun j hj => by have := (hown4.lt j hj).1; omega)
                          case measure => simp [intOf]; omega
                        · obtain rfl : k = r := by omega
                          have e : (us.take k).map (unp · n) = (List.range k).map fun j => unp (us.getD j 0) n := by
                            refine List.ext_getElem (by simp; omega) fun j h1 h2 => ?_
                            have : j < us.length := by simp at h1; omega
                            simp [this]
                          have HEQ := Lib.hid e
                          clear e
                          go_wp2
                          try rw [Exit.noGoto_ret]
                          go_ret2
                          refine HFIN.out _ _ hv.below ⟨A, cs, us, k, q, HEE.out, by omega, ?_, ?_⟩
                          · rw [HEQ.out]; simp
                          · rw [HEQ.out]; exact hM.lists hown
end Go.Proofs.Tg
end
