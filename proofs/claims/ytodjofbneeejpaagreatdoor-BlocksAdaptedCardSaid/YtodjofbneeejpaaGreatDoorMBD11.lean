/- Parts of the proof: AC4, AC5, AD0, AD2. -/
import Derived.Test.YtodjofbneeejpaaGreatDoorMBD0
import Derived.Test.YtodjofbneeejpaaGreatDoorMBD1
import Derived.Test.YtodjofbneeejpaaGreatDoorMBD3
import Derived.Test.YtodjofbneeejpaaGreatDoorMBD6
import Derived.Test.YtodjofbneeejpaaGreatDoorMBD7
import Derived.Test.YtodjofbneeejpaaGreatDoorMBD8
import Derived.Test.YtodjofbneeejpaaGreatDoorMBD9
import Derived.Test.YtodjofbneeejpaaGreatDoorMBD10
section
/- The package blocks: act, Action. -/
namespace Go.Proofs.Tg.Bk
open Go.RowKit Go.Gr Go.Sp Go.Ev Go.Maps Go.WideShapes Go.Pm Go.Mo
open Go.Proofs.Tg.Gp (PRow cellP RowsB prow_info gp_isgroup)
set_option maxHeartbeats 4000000
set_option maxRecDepth 100000
theorem rowsMade_eq (z : Value) (n : Nat) : madeCells #[z] n = (List.replicate n z).toArray := by
 refine Array.ext ?_ fun i h1 h2 => ?_
 ·simp [size_madeCells]
 ·simp [madeCells, Nat.mod_one]
theorem make_rows (n : Nat) (hn : n ≤ 1000000) (w : World) : (Instr.makeSlice 23 (.int .i64 (n : Int)) (.int .i64 (n : Int))).run Tryz.prog w = .ok (.slice (some ⟨w.heap.size, 0, none⟩) n n) (w.alloc (.cells (madeCells #[.slice none 0 0] n) 22)) := by
 obtain ⟨i0, hi, hz0, hz1, hz2⟩ := info_parts prow_info
 have hr := run_make (P := Tryz.prog) w 23 22 i0 (.slice none 0 0) Tryz.underlying23 hi hz0 .i64 .i64 n n (by omega) (by omega) (by rw [hz2]; omega) (by omega)
 rw [hz1, Nat.mul_one, Int.toNat_natCast] at hr
 exact hr
theorem ints_new {w : World} {g : Nat} {l : List Int} (h : Blk w g 3 (iarr l)) : Ints w (some ⟨g, 0, none⟩) l := by
 refine ⟨by simp, fun _ => ⟨_, rfl, h.lt, fun j u hu => ?_⟩⟩
 rw [add_lit, Nat.zero_add, h.cell]
 simpa [iarr] using hu
/-- Rows in blocks of their own that a block of slices holds. -/
theorem lists_rows {w : World} {g L : Nat} {rs : List PRow} (h : Blk w g 22 (rs.map (cellP L)).toArray) (hr : RowsB w rs) (hL : ∀ r ∈ rs, r.2.length = L) : Lists w (some ⟨g, 0, none⟩) (rs.map Prod.snd) := by
 refine ⟨fun i => (some ⟨(rs.getD i (0, [])).1, 0, none⟩, L), ?_, fun i hi => ?_⟩
 ·have e : (List.range (rs.map Prod.snd).length).map (fun i => Value.slice (some ⟨(rs.getD i (0, [])).1, 0, none⟩) ((rs.map Prod.snd).getD i []).length L) = rs.map (cellP L) := by
   refine List.ext_getElem (by simp) fun i h1 h2 => ?_
   have hi : i < rs.length := by simpa using h2
   have := hL rs[i] (List.getElem_mem _)
   simp [hi, cellP, this]
  rw [e, List.length_map]
  refine ⟨by simp, fun _ => ⟨_, rfl, h.lt, fun j u hu => ?_⟩⟩
  rw [add_lit, Nat.zero_add, h.cell]
  simpa using hu
 ·have hi' : i < rs.length := by simpa using hi
  have e1 : rs.getD i (0, []) = rs[i] := by simp [hi']
  have e2 : (rs.map Prod.snd).getD i [] = rs[i].2 := by simp [hi']
  simp only [e1, e2]
  exact ints_new (hr rs[i] (List.getElem_mem _))
/-- The error of act. -/
def actE (n : Nat) (g l : List (List Int)) : Int := if szE n l ≠ 0 then szE n l else if ¬ l.Nodup then 10 else if ∃ a ∈ g, ¬ ActsOn n a l then 8 else 0
def RetAct (n : Nat) (g l : List (List Int)) (w : World) (e : Ending) (w' : World) : Prop := Below w.heap.size w w' ∧
  ((actE n g l ≠ 0 ∧ e = .returned (.tuple #[.slice none 0 0, .int .i64 (actE n g l)])) ∨ (actE n g l = 0 ∧ ∃ q, e = .returned (.tuple #[.slice (some ⟨q, 0, none⟩) g.length g.length, .int .i64 0]) ∧ Lists w' (some ⟨q, 0, none⟩) (g.map fun a => img n a l)))
theorem szE_ok {n : Nat} {l : List (List Int)} (h : szE n l = 0) : (∀ m ∈ l, m.length = n) ∧ 0 < l.length ∧ l.length ≤ 64 := by
 unfold szE at h
 split at h
 ·cases h
 ·next h1 =>
  split at h
  ·cases h
  ·next h2 => exact ⟨fun m hm => Classical.byContradiction fun hx => h1 ⟨m, hm, hx⟩, by omega, by omega⟩
/-- What the loop of act holds. -/
structure AcSt (w : World) (n : Nat) (g l : List (List Int)) (wr : World) (q k : Nat) (rs : List PRow) : Prop where
  below : Below w.heap.size w wr
  blk : Blk wr q 22 (rs.map (cellP l.length) ++ List.replicate (g.length - k) (Value.slice none 0 0)).toArray
  rows : RowsB wr rs
  eq : rs.map Prod.snd = (g.take k).map fun a => img n a l
  acts : ∀ j (h : j < g.length), j < k → ActsOn n g[j] l
  low : w.heap.size ≤ q
theorem fillV_set (xs : List Value) (m : Nat) (z u : Value) (h : 0 < m) : (xs ++ List.replicate m z).set xs.length u = xs ++ [u] ++ List.replicate (m - 1) z := by
 obtain ⟨m, rfl⟩ : ∃ k, m = k + 1 := ⟨m - 1, by omega⟩
 rw [List.set_append_right _ _ (Nat.le_refl _), Nat.sub_self, List.replicate_succ, List.set_cons_zero, List.append_assoc]
 rfl
theorem act_any (G L : Option Addr) (cG cL n : Nat) (g l : List (List Int)) (w : World) (hG : Lists w G g) (hg : ∀ a ∈ g, Perm n a) (hg0 : 0 < g.length) (hgl : g.length ≤ 1000) (hL : Lists w L l) (hv : ∀ m ∈ l, vldM m = true) (hn : n ≤ 6) (hl : l.length ≤ 1000) :
    Calls Tryz.prog 47 #[.slice G g.length cG, .slice L l.length cL] w (RetAct n g l w) := by
  have HG := Lib.hid hG
  have HP := Lib.hid hg
  have HL := Lib.hid hL
  have HV := Lib.hid hv
  obtain ⟨a0, E0, c0', rfl, g0, hE0⟩ := hG.at hg0
  rw [(hg _ (List.getElem_mem _)).1, show a0.add 0 = a0 by simp [Addr.add]] at g0
  have HSZ := Lib.hid (sizes_any L cL n l _ w hL (by omega) rfl)
  clear hG hg hL hv hE0
  have i0 : (0 : Int) < (g.length : Int) := by omega
  obtain ⟨z, hz⟩ : ∃ z, szE n l = z := ⟨_, rfl⟩
  rw [hz] at HSZ
  by_cases hz0 : z = 0
  ·subst hz0
   have HZ := Lib.hid hz
   obtain ⟨hln, hl0, hl64⟩ := szE_ok hz
   have hd : ∀ m ∈ l, domK n 48 m := fun m hm => by
    obtain ⟨h1, h2⟩ := vld_dom (HV.out m hm)
    exact ⟨hln m hm, fun x hx => by have := h2 x hx; omega⟩
   obtain ⟨q, hq⟩ : ∃ q : Bool, q = true ↔ l.Nodup := ⟨decide l.Nodup, decide_eq_true_iff⟩
   have HPO : Hid (Calls Tryz.prog 31 #[.slice L l.length cL] w fun e w' => Below w.heap.size w w' ∧ (q = false → e = .returned (.tuple #[.map none, .bool false])) ∧ (q = true → ∃ mb, e = .returned (.tuple #[.map (some mb), .bool true]) ∧ IdxM w' mb l.length n l ∧ w.heap.size ≤ mb)) :=
     Lib.hid ((positions_any L cL n l q w HL.out hd hn hl hq).mono (by
      rintro e w' ⟨hb, h⟩
      refine ⟨hb, fun hq => ?_, fun hq => ?_⟩
      ·rcases h with ⟨_, h2⟩ | ⟨h2, _⟩
       ·exact h2
       ·rw [hq] at h2; cases h2
      ·rcases h with ⟨h2, _⟩ | ⟨_, h2⟩
       ·rw [hq] at h2; cases h2
       ·exact h2))
   have HQ := Lib.hid hq
   have HD := Lib.hid hd
   clear hz hln hq hd
   cases q with
   | false =>
     have HER : Hid (actE n g l = 10) := Lib.hid (by
      unfold actE
      rw [if_neg (by rw [HZ.out]; simp), if_pos (fun h => by have := HQ.out.2 h; cases this)])
     go_enter Tryz.func47, Tryz.ntmps47
     go_wp2_with (first
       | (go_at_call 59; refine HSZ.out.mono ?_; rintro e w2 ⟨rfl, rfl⟩)
       | (go_at_call 31; refine HPO.out.mono ?_; rintro e w2 ⟨hb2, hr, _⟩; obtain rfl := hr (by first | rfl | trivial)))
     go_ret2
     exact ⟨hb2, .inl ⟨by rw [HER.out]; decide, by rw [HER.out]; rfl⟩⟩
   | true =>
     have hnd := HQ.out.1 rfl
     have HND := Lib.hid hnd
     have hmk := make_rows g.length (by omega)
     clear hnd
     go_enter Tryz.func47, Tryz.ntmps47
     go_wp2_with (first
       | (go_at_call 59; refine HSZ.out.mono ?_; rintro e w2 ⟨rfl, rfl⟩)
       | (go_at_call 31; refine HPO.out.mono ?_; rintro e w2 ⟨hb2, _, hr⟩; obtain ⟨mb, rfl, hM2, hmb⟩ := hr (by first | rfl | trivial)))
     have hq0 : w2.heap.size = w2.heap.size := rfl
     have B0 := Blk.new w2 22 (madeCells #[.slice none 0 0] g.length)
     have hal := Below.alloc (Below.refl w2.heap.size w2) (Nat.le_refl _) (.cells (madeCells #[.slice none 0 0] g.length) 22)
     have hM3 := hM2.below hal hM2.lt
     have HMB := Lib.hid hM3
     have hb3 := below_all hb2 hal
     have hlow := hb2.size
     have H0 : Hid (AcSt w n g l (w2.alloc (.cells (madeCells #[.slice none 0 0] g.length) 22)) w2.heap.size 0 []) := Lib.hid ⟨hb3, by rw [rowsMade_eq] at B0 ⊢; simpa using B0, fun r hr => absurd hr (by simp), by simp, fun j _ h => absurd h (by omega), hlow⟩
     have hmlt := hM3.lt
     have hm2 : mb ≠ w2.heap.size := by have := hM2.lt; omega
     clear hmk B0 hal hb3 hM3 hb2
     generalize hW : w2.alloc (.cells (madeCells #[.slice none 0 0] g.length) 22) = W at *
     generalize w2.heap.size = qb at *
     clear hW hM2 hq0
     go_loopw [35] (fun s35 wr => ∃ (k : Nat) (rs : List PRow), s35 = .int .i64 k ∧ k ≤ g.length ∧ Hid (AcSt w n g l wr qb k rs) ∧ Hid (IdxM wr mb l.length n l)) (fun s35 _ => g.length - (intOf s35).toNat)
     case atStart => exact ⟨0, [], rfl, Nat.zero_le _, H0, HMB⟩
     case round =>
      clear H0 HMB hmlt
      obtain ⟨wo, rfl⟩ : ∃ wo : World, wo = wr := ⟨_, rfl⟩
      obtain ⟨k, rs, rfl, hk, HST, HM⟩ := hrel
      have hbo := HST.out.below
      by_cases hkl : k < g.length
      ·obtain ⟨ad, E, ce, had, hc0, hE⟩ := HG.out.at hkl
       injection had with had
       subst had
       have hc := keep_cell hbo hc0
       have hpk := HP.out g[k] (List.getElem_mem _)
       rw [hpk.1] at hc
       have q0 : (0 : Int) ≤ (k : Int) := by omega
       have q1 : (k : Int) < (g.length : Int) := by omega
       have q3 : ((k : Int)).toNat = k := by omega
       have HSTAR := Lib.hid (star_any E L ce cL n mb l.length g[k] l wo (hE.keep hbo) hpk (HL.out.keep hbo) HD.out hn hl HND.out HM.out)
       have HBAD : Hid (¬ ActsOn n g[k] l → actE n g l = 8) := Lib.hid (fun h => by
        unfold actE
        rw [if_neg (by rw [HZ.out]; simp), if_neg (fun h2 => h2 HND.out), if_pos ⟨_, List.getElem_mem hkl, h⟩])
       have HSUC : Hid (ActsOn n g[k] l → ∀ j (h : j < g.length), j < k + 1 → ActsOn n g[j] l) := Lib.hid (fun hx j h hj => by
        by_cases he : j = k
        ·subst he; exact hx
        ·exact HST.out.acts j h (by omega))
       have HTK : Hid ((g.take (k + 1)).map (fun a => img n a l) = (g.take k).map (fun a => img n a l) ++ [img n g[k] l]) := Lib.hid (by rw [List.take_succ_eq_append_getElem hkl, List.map_append]; rfl)
       have HLN : Hid (rs.length = k) := Lib.hid (by
        have := congrArg List.length HST.out.eq
        simpa [Nat.min_eq_left hk] using this)
       clear hpk hE hc0
       generalize g[k] = x at *
       by_cases hact : ActsOn n x l
       ·have HSTAR := Lib.hid (HSTAR.out.mono fun _ _ h => h.yes hact)
        have hq4 : ∀ V, Below wo.heap.size wo V → Blk V qb 22 (rs.map (cellP l.length) ++ List.replicate (g.length - k) (Value.slice none 0 0)).toArray := fun V h => HST.out.blk.keep h HST.out.blk.lt
        have hlen : (rs.map (cellP l.length) ++ List.replicate (g.length - k) (Value.slice none 0 0)).length = g.length := by
         have := HLN.out
         simp; omega
        obtain ⟨old, hold⟩ : ∃ old, (rs.map (cellP l.length) ++ List.replicate (g.length - k) (Value.slice none 0 0))[k]? = some old := ⟨_, List.getElem?_eq_getElem (by omega)⟩
        have HOLD := Lib.hid hold
        have HQ4 := Lib.hid hq4
        have HYES := Lib.hid (HSUC.out hact)
        have hqlt := HST.out.blk.lt
        have HNE : Hid (wo.heap.size ≠ qb) := Lib.hid (by omega)
        clear hq4 hlen hold hact
        go_wp2_with (go_at_call 34; refine HSTAR.out.mono ?_; rintro e w4 ⟨hb4, rfl, hB4⟩
                     have c0 := (HQ4.out w4 hb4).cell k
                     have f0 := (HQ4.out w4 hb4).frozen k
                     rw [List.getElem?_toArray, HOLD.out] at c0
                     have HB4 := Lib.hid hB4
                     clear hB4)
        go_roundw
        case rel =>
         have hq4 := HQ4.out w4 hb4
         refine ⟨k + 1, rs ++ [(wo.heap.size, img n x l)], by go_num, by omega, Lib.hid ⟨below_far (below_all hbo hb4) HST.out.low _ _, ?_, fun r hr => ?_, ?_, HYES.out, HST.out.low⟩, Lib.hid ?_⟩
         ·have h1 := hq4.set k (.slice (some ⟨wo.heap.size, 0, none⟩) l.length l.length)
          rw [List.setIfInBounds_toArray] at h1
          have h2 := fillV_set (rs.map (cellP l.length)) (g.length - k) (.slice none 0 0) (.slice (some ⟨wo.heap.size, 0, none⟩) l.length l.length) (by omega)
          rw [List.length_map, HLN.out] at h2
          rw [h2] at h1
          rw [List.map_append, Nat.sub_add_eq]
          exact h1
         ·rcases List.mem_append.1 hr with h | h
          ·have h3 := HST.out.rows r h
           have h4 := h3.keep hb4 h3.lt
           exact h4.far (fun e => blk_ty h4 hq4 (by decide) e) _
          ·rw [List.mem_singleton.1 h]
           exact HB4.out.far HNE.out _
         ·rw [List.map_append, HST.out.eq, HTK.out]; rfl
         ·have h1 := HM.out.below hb4 HM.out.lt
          obtain ⟨D, ⟨es, clock, hh, r⟩, h2⟩ := h1
          exact ⟨D, ⟨es, clock, (Below.heap_setCell _ _ _ _ hm2).trans hh, r⟩, h2⟩
        case measure => simp [intOf]; omega
       ·have HSTAR := Lib.hid (HSTAR.out.mono fun _ _ h => h.no hact)
        have he := Lib.hid (HBAD.out hact)
        clear hact
        go_wp2_with (go_at_call 34; refine HSTAR.out.mono ?_; rintro e w4 ⟨hb4, rfl⟩)
        go_ret2
        exact ⟨below_all hbo hb4, .inl ⟨by rw [he.out]; decide, by rw [he.out]; rfl⟩⟩
      ·obtain rfl : k = g.length := by omega
       have hE : actE n g l = 0 := by
        unfold actE
        rw [if_neg (by rw [HZ.out]; simp), if_neg (fun h2 => h2 HND.out), if_neg (by
         rintro ⟨a, ha, hna⟩
         obtain ⟨j, hj, rfl⟩ := List.getElem_of_mem ha
         exact hna (HST.out.acts j hj hj))]
       have HER := Lib.hid hE
       have hB := HST.out.blk
       rw [Nat.sub_self, List.replicate_zero, List.append_nil] at hB
       have hLS := lists_rows hB HST.out.rows (fun r hr => by
        have h1 : r.2 ∈ rs.map Prod.snd := List.mem_map_of_mem hr
        rw [HST.out.eq] at h1
        obtain ⟨a, _, h2⟩ := List.mem_map.1 h1
        rw [← h2, img_len])
       rw [HST.out.eq, List.take_length] at hLS
       have HLS := Lib.hid hLS
       have dk : decide ((g.length : Int) < (g.length : Int)) = false := by simp
       clear hE hB hLS
       go_wp2
       go_ret2
       exact ⟨hbo, .inr ⟨HER.out, _, rfl, HLS.out⟩⟩
  ·have HER : Hid (actE n g l = z) := Lib.hid (by
    unfold actE
    rw [if_pos (by rw [hz]; exact hz0), hz])
   have dz : decide (z = 0) = false := decide_eq_false hz0
   have dz2 : (z == 0) = false := beq_eq_false_iff_ne.2 hz0
   have HZ0 := Lib.hid hz0
   clear hz hz0
   go_enter Tryz.func47, Tryz.ntmps47
   go_wp2_with (go_at_call 59; refine HSZ.out.mono ?_; rintro e w2 ⟨rfl, rfl⟩)
   go_ret2
   exact ⟨Below.refl _ _, .inl ⟨by rw [HER.out]; exact HZ0.out, by rw [HER.out]; rfl⟩⟩
end Go.Proofs.Tg.Bk
end
section
/- The package blocks: Action. -/
namespace Go.Pm
open Classical in
/-- The error of Action. -/
noncomputable def acnE (g l : List (List Int)) : Int := if IsG g ∧ ∀ m ∈ l, Go.Mo.vldM m = true then Go.Proofs.Tg.Bk.actE (g.headD []).length g l else 1
end Go.Pm
namespace Go.Proofs.Tg.Bk
open Go.RowKit Go.Gr Go.Sp Go.Ev Go.Maps Go.WideShapes Go.Pm Go.Mo
open Go.Proofs.Tg.Gp (PRow cellP RowsB prow_info gp_isgroup)
set_option maxHeartbeats 4000000
set_option maxRecDepth 100000
def RetAction (g l : List (List Int)) (w : World) (e : Ending) (w' : World) : Prop := Below w.heap.size w w' ∧
  ((acnE g l ≠ 0 ∧ e = .returned (.tuple #[.slice none 0 0, .int .i64 (acnE g l)])) ∨ (acnE g l = 0 ∧ ∃ q, e = .returned (.tuple #[.slice (some ⟨q, 0, none⟩) g.length g.length, .int .i64 0]) ∧ Lists w' (some ⟨q, 0, none⟩) (g.map fun a => img (g.headD []).length a l)))
theorem isg_len {g : List (List Int)} (h : IsG g) : 0 < g.length := List.length_pos_iff.2 h.2.1
theorem action_any (G L : Option Addr) (cG cL : Nat) (g l : List (List Int)) (w : World) (hG : Lists w G g) (hgl : g.length ≤ 1000) (hgg : ∀ x ∈ g, x.length ≤ 1000) (hL : Lists w L l) (hll : ∀ x ∈ l, x.length ≤ 1000) (hl : l.length ≤ 1000) :
    Calls Tryz.prog 16 #[.slice G g.length cG, .slice L l.length cL] w (RetAction g l w) := by
  have HG := Lib.hid hG
  have HL := Lib.hid hL
  have HGG := Lib.hid hgg
  have HLL := Lib.hid hll
  clear hG hL hgg hll
  by_cases hI : IsG g
  ·have HIS : Hid (∀ V, Lists V G g → Calls Tryz.prog 42 #[.slice G g.length cG] V fun e w' => e = .returned (.bool true) ∧ Below V.heap.size V w') := Lib.hid (fun V h => gp_isgroup G cG g true V h (by omega) HGG.out ⟨fun _ => hI, fun _ => rfl⟩)
   have HI := Lib.hid hI
   clear hI
   by_cases hv : ∀ m ∈ l, vldM m = true
   ·have HVM : Hid (∀ V, Lists V L l → Calls Tryz.prog 46 #[.slice L l.length cL] V fun e w' => e = .returned (.bool true) ∧ V = w') := Lib.hid (fun V h => bvmons_any L cL l true V h (by omega) HLL.out ⟨fun _ => hv, fun _ => rfl⟩)
    have HACT : Hid (∀ V, Lists V G g → Lists V L l → Calls Tryz.prog 47 #[.slice G g.length cG, .slice L l.length cL] V (RetAct (g.headD []).length g l V)) := Lib.hid (fun V h h2 =>
     act_any G L cG cL (g.headD []).length g l V h HI.out.2.2.1 (isg_len HI.out) hgl h2 hv HI.out.1 hl)
    have HE : Hid (acnE g l = actE (g.headD []).length g l) := Lib.hid (by unfold acnE; rw [if_pos ⟨HI.out, hv⟩])
    clear hv
    unfold RetAction
    generalize (g.headD []).length = n at *
    by_cases hz : actE n g l = 0
    ·have HZ := Lib.hid hz
     have HACT : Hid (∀ V, Lists V G g → Lists V L l → Calls Tryz.prog 47 #[.slice G g.length cG, .slice L l.length cL] V fun e w' => ∃ q, e = .returned (.tuple #[.slice (some ⟨q, 0, none⟩) g.length g.length, .int .i64 0]) ∧ Lists w' (some ⟨q, 0, none⟩) (g.map fun a => img n a l) ∧ Below V.heap.size V w') :=
       Lib.hid (fun V h h2 => (HACT.out V h h2).mono (fun e w' hor => by
        obtain ⟨_, q, h3, h4⟩ := hor.2.resolve_left (fun h => h.1 HZ.out)
        exact ⟨q, h3, h4, hor.1⟩))
     clear hz
     go_enter Tryz.func16, Tryz.ntmps16
     go_wp2_with (first
       | (go_at_call 42; refine (HIS.out _ HG.out).mono ?_; rintro e w1 ⟨rfl, hb1⟩)
       | (go_at_call 46; refine (HVM.out _ (HL.out.keep hb1)).mono ?_; rintro e w2 ⟨rfl, rfl⟩)
       | (go_at_call 47; refine (HACT.out _ (HG.out.keep hb1) (HL.out.keep hb1)).mono ?_; rintro e w3 ⟨q, rfl, hLS, hb3⟩))
     go_ret2
     exact ⟨below_all hb1 hb3, .inr ⟨by rw [HE.out]; exact HZ.out, q, rfl, hLS⟩⟩
    ·have HACT : Hid (∀ V, Lists V G g → Lists V L l → Calls Tryz.prog 47 #[.slice G g.length cG, .slice L l.length cL] V fun e w' => e = .returned (.tuple #[.slice none 0 0, .int .i64 (actE n g l)]) ∧ Below V.heap.size V w') :=
       Lib.hid (fun V h h2 => (HACT.out V h h2).mono (fun e w' hor => ⟨(hor.2.resolve_right (fun h => hz h.1)).2, hor.1⟩))
     have HZ := Lib.hid hz
     clear hz
     generalize actE n g l = z at *
     go_enter Tryz.func16, Tryz.ntmps16
     go_wp2_with (first
       | (go_at_call 42; refine (HIS.out _ HG.out).mono ?_; rintro e w1 ⟨rfl, hb1⟩)
       | (go_at_call 46; refine (HVM.out _ (HL.out.keep hb1)).mono ?_; rintro e w2 ⟨rfl, rfl⟩)
       | (go_at_call 47; refine (HACT.out _ (HG.out.keep hb1) (HL.out.keep hb1)).mono ?_; rintro e w3 ⟨rfl, hb3⟩))
     go_ret2
     exact ⟨below_all hb1 hb3, .inl ⟨by rw [HE.out]; exact HZ.out, by rw [HE.out]; rfl⟩⟩
   ·have HVM : Hid (∀ V, Lists V L l → Calls Tryz.prog 46 #[.slice L l.length cL] V fun e w' => e = .returned (.bool false) ∧ V = w') := Lib.hid (fun V h => bvmons_any L cL l false V h (by omega) HLL.out ⟨fun h => (by cases h), fun h => absurd h hv⟩)
    have HE : Hid (acnE g l = 1) := Lib.hid (by unfold acnE; rw [if_neg (fun h => hv h.2)])
    clear hv
    go_enter Tryz.func16, Tryz.ntmps16
    go_wp2_with (first
      | (go_at_call 42; refine (HIS.out _ HG.out).mono ?_; rintro e w1 ⟨rfl, hb1⟩)
      | (go_at_call 46; refine (HVM.out _ (HL.out.keep hb1)).mono ?_; rintro e w2 ⟨rfl, rfl⟩))
    go_ret2
    exact ⟨hb1, .inl ⟨by rw [HE.out]; decide, by rw [HE.out]; rfl⟩⟩
  ·have HIS : Hid (∀ V, Lists V G g → Calls Tryz.prog 42 #[.slice G g.length cG] V fun e w' => e = .returned (.bool false) ∧ Below V.heap.size V w') := Lib.hid (fun V h => gp_isgroup G cG g false V h (by omega) HGG.out ⟨fun h => (by cases h), fun h => absurd h hI⟩)
   have HE : Hid (acnE g l = 1) := Lib.hid (by unfold acnE; rw [if_neg (fun h => hI h.1)])
   clear hI
   go_enter Tryz.func16, Tryz.ntmps16
   go_wp2_with (go_at_call 42; refine (HIS.out _ HG.out).mono ?_; rintro e w1 ⟨rfl, hb1⟩)
   go_ret2
   exact ⟨hb1, .inl ⟨by rw [HE.out]; decide, by rw [HE.out]; rfl⟩⟩
end Go.Proofs.Tg.Bk
end
section
/- The rows of an adapted basis, as the program makes them. Plain. -/
namespace Go.Pm
open Go.Gr
/-- The sign of a subset at a character. -/
def sgn (s c : Nat) : Int := if size (s &&& c) % 2 = 0 then 1 else -1
theorem sgn_sq (s c : Nat) : sgn s c = 1 ∨ sgn s c = -1 := by
 unfold sgn
 split
 ·exact .inl rfl
 ·exact .inr rfl
/-- The place to which the subset s moves i. -/
def plc (im : List (List Int)) (i s : Nat) : Nat := ((im.getD s []).getD i 0).toNat
def wvT (c : Nat) (im : List (List Int)) (L i k : Nat) : List Int := (List.range k).foldl (fun w s => w.set (plc im i s) (w.getD (plc im i s) 0 + sgn s c)) (List.replicate L 0)
theorem wvT_zero (c : Nat) (im : List (List Int)) (L i : Nat) : wvT c im L i 0 = List.replicate L 0 := rfl
theorem wvT_succ (c : Nat) (im : List (List Int)) (L i k : Nat) : wvT c im L i (k + 1) = (wvT c im L i k).set (plc im i k) ((wvT c im L i k).getD (plc im i k) 0 + sgn k c) := by simp [wvT, List.range_succ]
theorem wvT_len (c : Nat) (im : List (List Int)) (L i : Nat) : ∀ k, (wvT c im L i k).length = L
  | 0 => by simp [wvT]
  | k + 1 => by rw [wvT_succ, List.length_set, wvT_len c im L i k]
theorem wvT_bound (c : Nat) (im : List (List Int)) (L i : Nat) : ∀ k, ∀ x ∈ wvT c im L i k, -(k : Int) ≤ x ∧ x ≤ k
  | 0 => fun x hx => by
    rw [wvT_zero] at hx
    rw [List.eq_of_mem_replicate hx]
    omega
  | k + 1 => fun x hx => by
    have ih := wvT_bound c im L i k
    rw [wvT_succ] at hx
    rcases List.mem_or_eq_of_mem_set hx with h | h
    ·have := ih x h
     omega
    ·rw [h]
     have hs := sgn_sq k c
     by_cases hp : plc im i k < (wvT c im L i k).length
     ·have := ih ((wvT c im L i k).getD (plc im i k) 0) (by
       rw [show (wvT c im L i k).getD (plc im i k) 0 = (wvT c im L i k)[plc im i k] by simp [hp]]
       exact List.getElem_mem _)
      rcases hs with hs | hs <;> rw [hs] <;> omega
     ·rw [show (wvT c im L i k).getD (plc im i k) 0 = 0 by simp [hp]]
      rcases hs with hs | hs <;> rw [hs] <;> omega
def wv (c : Nat) (im : List (List Int)) (L i : Nat) : List Int := wvT c im L i im.length
/-- No image puts i ahead of itself. -/
def leastB (im : List (List Int)) (i : Nat) : Prop := ∀ p ∈ im, (i : Int) ≤ p.getD i 0
instance (im : List (List Int)) (i : Nat) : Decidable (leastB im i) := inferInstanceAs (Decidable (∀ _ ∈ _, _))
def adRow (c : Nat) (im : List (List Int)) (L i : Nat) : Option (List Int) := if leastB im i ∧ (wv c im L i).getD i 0 ≠ 0 then some ((wv c im L i).map fun x => x.tdiv ((wv c im L i).getD i 0)) else none
def adTo (c : Nat) (im : List (List Int)) (L k : Nat) : List (List Int) := (List.range k).filterMap (adRow c im L)
theorem adTo_succ (c : Nat) (im : List (List Int)) (L k : Nat) : adTo c im L (k + 1) = adTo c im L k ++ (adRow c im L k).toList := by
 unfold adTo
 rw [List.range_succ, List.filterMap_append]
 congr 1
/-- A sign or nothing. -/
def Sg (x : Int) : Prop := x = 0 ∨ x = 1 ∨ x = -1
def SgOk (c : Nat) (im : List (List Int)) (L : Nat) : Prop := ∀ i, i < L → ∀ r, adRow c im L i = some r → ∀ x ∈ r, Sg x
theorem adRow_len {c : Nat} {im : List (List Int)} {L i : Nat} {r : List Int} (h : adRow c im L i = some r) : r.length = L := by
 unfold adRow at h
 split at h
 ·injection h with h
  rw [← h, List.length_map]
  exact wvT_len _ _ _ _ _
 ·cases h
end Go.Pm
end
section
/- The package blocks: adaptedRows. -/
namespace Go.Proofs.Tg.Bk
open Go.RowKit Go.Gr Go.Sp Go.Ev Go.Pm
open Go.Proofs.Tg.Gp (PRow cellP RowsB prow_info)
set_option maxHeartbeats 4000000
set_option maxRecDepth 100000
def strs (l : List ByteArray) : Array Value := (l.map Value.string).toArray
/-- Rows of texts in blocks of their own, each the texts of signs. -/
def TRowsB (w : World) (rs : List PRow) : Prop := ∀ r ∈ rs, Blk w r.1 9 (strs (r.2.map tx))
theorem TRowsB.keep {w w' : World} {rs : List PRow} (h : TRowsB w rs) (hb : Below w.heap.size w w') : TRowsB w' rs := fun r hr => (h r hr).keep hb (h r hr).lt
theorem str_info : (Tryz.prog.info? 9).map (fun i => (i.zero, i.size, i.bytes)) = some (some (.string ⟨#[]⟩), 1, 16) := by kernel_rfl
theorem trow_info : (Tryz.prog.info? 46).map (fun i => (i.zero, i.size, i.bytes)) = some (some (.slice none 0 0), 1, 24) := by kernel_rfl
theorem make_strs (n : Nat) (hn : n ≤ 1000000) (w : World) : (Instr.makeSlice 46 (.int .i64 (n : Int)) (.int .i64 (n : Int))).run Tryz.prog w = .ok (.slice (some ⟨w.heap.size, 0, none⟩) n n) (w.alloc (.cells (madeCells #[.string ⟨#[]⟩] n) 9)) := by
 obtain ⟨i0, hi, hz0, hz1, hz2⟩ := info_parts str_info
 have hr := run_make (P := Tryz.prog) w 46 9 i0 (.string ⟨#[]⟩) Tryz.underlying46 hi hz0 .i64 .i64 n n (by omega) (by omega) (by rw [hz2]; omega) (by omega)
 rw [hz1, Nat.mul_one, Int.toNat_natCast] at hr
 exact hr
/-- A row that is being filled. -/
def part (r : List Int) (L k : Nat) : Array Value := ((r.take k).map (fun x => Value.string (tx x)) ++ List.replicate (L - k) (Value.string ⟨#[]⟩)).toArray
theorem part_zero (r : List Int) (L : Nat) : part r L 0 = madeCells #[.string ⟨#[]⟩] L := by
 rw [rowsMade_eq]
 simp [part]
theorem part_full (r : List Int) : part r r.length r.length = strs (r.map tx) := by simp [part, strs]
theorem part_set {r : List Int} {L k : Nat} (hl : r.length = L) (hk : k < L) : (part r L k).setIfInBounds k (.string (tx (r[k]'(by omega)))) = part r L (k + 1) := by
 unfold part
 rw [List.setIfInBounds_toArray]
 have h := fillV_set ((r.take k).map (fun x => Value.string (tx x))) (L - k) (Value.string ⟨#[]⟩) (.string (tx (r[k]'(by omega)))) (by omega)
 rw [List.length_map, List.length_take, Nat.min_eq_left (by omega)] at h
 rw [h, List.take_succ_eq_append_getElem (by omega), List.map_append, Nat.sub_add_eq]
 rfl
theorem part_at (r : List Int) {L k : Nat} (hl : r.length = L) (hk : k < L) : ∃ u, (part r L k)[k]? = some u := by
 refine ⟨_, Array.getElem?_eq_getElem ?_⟩
 simp [part]
 omega
/-- What the loop of adaptedRows holds. -/
structure ArSt (w : World) (L c : Nat) (im : List (List Int)) (wr : World) (i : Nat) (A : Option Addr) (cA : Nat) (rs : List PRow) : Prop where
  below : Below w.heap.size w wr
  own : wr.ownsRow w.heap.size 46 1 (.slice A rs.length cA) rs.length (rs.map (cellP L))
  rows : TRowsB wr rs
  eq : rs.map Prod.snd = adTo c im L i
theorem ArSt.keep {w wr wz : World} {L c i cA : Nat} {im : List (List Int)} {A : Option Addr} {rs : List PRow} (h : ArSt w L c im wr i A cA rs) (hb : Below wr.heap.size wr wz) : ArSt w L c im wz i A cA rs :=
  ⟨below_all h.below hb, own_below h.own hb (Nat.le_refl _), h.rows.keep hb, h.eq⟩
def RetAr (L c : Nat) (im : List (List Int)) (w : World) (e : Ending) (w' : World) : Prop := ∃ A cA rs, e = .returned (.slice A rs.length cA) ∧ ArSt w L c im w' L A cA rs
theorem adrows_any (I : Option Addr) (cI c L : Nat) (im : List (List Int)) (w : World) (hI : Lists w I im) (hp : ∀ p ∈ im, Perm L p) (hm : im.length ≤ 64) (hL : L ≤ 64) (hc : c ≤ 64) (hs : SgOk c im L) (hT : PT w) :
    Calls Tryz.prog 35 #[.int .i64 c, .slice I im.length cI, .int .i64 L] w (RetAr L c im w) := by
  have HI := Lib.hid hI
  have HP := Lib.hid hp
  have HS := Lib.hid hs
  have HT := Lib.hid hT
  obtain ⟨j0, hj0, hjz0, hjz1, hjz2⟩ := info_parts trow_info
  clear hI hp hs hT
  go_enter Tryz.func35, Tryz.ntmps35
  go_wp2
  go_step3
  go_wp2
  go_step3
  go_wp2
  go_loopw [7, 16] (fun s7 s16 wr => ∃ (i : Nat) (A : Option Addr) (cA : Nat) (rs : List PRow), s16 = .int .i64 i ∧ i ≤ L ∧ s7 = .slice A rs.length cA ∧ Hid (ArSt w L c im wr i A cA rs)) (fun _ s16 _ => L - (intOf s16).toNat)
  case atStart => exact ⟨0, none, 0, [], rfl, Nat.zero_le _, rfl, Lib.hid ⟨Below.refl _ _, World.ownsRow_nil _ _ _ _, fun r hr => absurd hr (by simp), by simp [adTo]⟩⟩
  case round =>
   obtain ⟨wo, rfl⟩ : ∃ wo : World, wo = wr := ⟨_, rfl⟩
   obtain ⟨i, A, cA, rs, rfl, hi, rfl, HST⟩ := hrel
   have hbo := HST.out.below
   by_cases hil : i < L
   ·have hmk := make_ints L L (Nat.le_refl _) (by omega) wo
    have B0 := Blk.new wo 3 (madeCells #[.int .i64 0] L)
    have hal := Below.alloc (Below.refl wo.heap.size wo) (Nat.le_refl _) (.cells (madeCells #[.int .i64 0] L) 3)
    rw [iarr_made L, ← wvT_zero c im L i] at B0
    rw [iarr_made L] at hmk
    rw [iarr_made L] at hal
    have e0 : wo.alloc (.cells (madeCells #[.int .i64 0] L) 3) = wo.alloc (.cells (iarr (List.replicate L 0)) 3) := by rw [iarr_made L]
    try rw [wvT_zero] at B0
    generalize hW : wo.alloc (.cells (iarr (List.replicate L 0)) 3) = W at *
    have HB0 : Hid (Blk W wo.heap.size 3 (iarr (wvT c im L i 0))) := Lib.hid B0
    have HSUC := Lib.hid (adTo_succ c im L i)
    have i0 : (0 : Int) ≤ (i : Int) := by omega
    have i1 : (i : Int) < (L : Int) := by omega
    have i3 : ((i : Int)).toNat = i := by omega
    clear B0 e0 hW
    go_wp2
    clear hmk
    go_loopw [23] (fun s23 wi => ∃ k : Nat, s23 = .int .i64 k ∧ k ≤ im.length ∧ Hid (Blk wi wo.heap.size 3 (iarr (wvT c im L i k))) ∧ Below wo.heap.size wo wi ∧ Hid (∀ s (h : s < im.length), s < k → (i : Int) ≤ im[s].getD i 0)) (fun s23 _ => im.length - (intOf s23).toNat)
    case atStart => exact ⟨0, rfl, Nat.zero_le _, HB0, hal, Lib.hid (fun s _ h => absurd h (by omega))⟩
    case round =>
     clear HB0 hal
     obtain ⟨wi, rfl⟩ : ∃ wi : World, wi = wr := ⟨_, rfl⟩
     obtain ⟨k, rfl, hk, HBI, hbi, HLE⟩ := hrel
     by_cases hkl : k < im.length
     ·have hbw := below_all hbo hbi
      obtain ⟨ad, E, ce, rfl, hcw, hE⟩ := HI.out.at hkl
      have hcell := keep_cell hbw hcw
      have hpk := HP.out im[k] (List.getElem_mem _)
      rw [hpk.1] at hcell
      have hik : i < im[k].length := by rw [hpk.1]; exact hil
      obtain ⟨ee, rfl, hce⟩ := Ints.at (hE.keep hbw) hik
      obtain ⟨p, hp⟩ : ∃ p : Nat, im[k][i] = (p : Int) := ⟨(im[k][i]).toNat, by have := hpk.2.1 im[k][i] (List.getElem_mem _); omega⟩
      have hpL : p < L := by have := hpk.2.1 im[k][i] (List.getElem_mem _); omega
      rw [hp] at hce
      have hgd : im[k].getD i 0 = (p : Int) := by simp [hik, hp]
      have HPL : Hid (plc im i k = p) := Lib.hid (by unfold plc; rw [show im.getD k [] = im[k] by simp [hkl], hgd]; omega)
      have k0 : (0 : Int) ≤ (k : Int) := by omega
      have k1 : (k : Int) < (im.length : Int) := by omega
      have k3 : ((k : Int)).toNat = k := by omega
      by_cases hpi : p < i
      ·have d1 : decide ((p : Int) < (i : Int)) = true := decide_eq_true (by omega)
       have d2 : decide (p < i) = true := decide_eq_true hpi
       have HNX : Hid (adTo c im L (i + 1) = adTo c im L i) := Lib.hid (by
        rw [HSUC.out]
        have : adRow c im L i = none := by
         unfold adRow
         rw [if_neg (fun h => by
          have := h.1 im[k] (List.getElem_mem _)
          rw [hgd] at this
          omega)]
        rw [this]; simp)
       clear hpk hE hcw hgd hp
       generalize im[k] = m at *
       go_wp2
       go_roundw
       case rel => exact ⟨i + 1, A, cA, rs, by go_num, by omega, rfl, Lib.hid ⟨below_all hbo hbi, (HST.out.keep hbi).own, (HST.out.keep hbi).rows, by rw [HNX.out]; exact HST.out.eq⟩⟩
       case measure => simp [intOf]; omega
      ·have d1 : decide ((p : Int) < (i : Int)) = false := decide_eq_false (by omega)
       have d2 : decide (p < i) = false := decide_eq_false hpi
       have HLE2 : Hid (∀ s (h : s < im.length), s < k + 1 → (i : Int) ≤ im[s].getD i 0) := Lib.hid (fun s h hs => by
        by_cases he : s = k
        ·subst he; rw [hgd]; omega
        ·exact HLE.out s h (by omega))
       have p0 : (0 : Int) ≤ (p : Int) := by omega
       have p1 : (p : Int) < (L : Int) := by omega
       have p3 : ((p : Int)).toNat = p := by omega
       have c0 := HBI.out.cell p
       have f0 := HBI.out.frozen p
       rw [iarr_at _ (by rw [wvT_len]; exact hpL)] at c0
       have hbd := wvT_bound c im L i k _ (List.getElem_mem (by rw [wvT_len]; exact hpL : p < (wvT c im L i k).length))
       have HWS : Hid (∀ y, sgn k c = y → (wvT c im L i k).set p ((wvT c im L i k)[p]'(by rw [wvT_len]; exact hpL) + y) = wvT c im L i (k + 1)) := Lib.hid (fun y hy => by
        rw [wvT_succ, HPL.out, hy]
        congr 2
        simp [wvT_len, hpL])
       generalize (wvT c im L i k)[p]'(by rw [wvT_len]; exact hpL) = old at *
       have w1 : IntKind.i64.wrap (old + 1) = old + 1 := IntWalk.i64_in _ (by omega)
       have w2 : IntKind.i64.wrap (old - 1) = old - 1 := IntWalk.i64_in _ (by omega)
       have e1 := i64_and_n k c (by omega) (by omega)
       have e2 := wrap_nat (k &&& c) (by have : k &&& c ≤ k := Nat.and_le_left; omega)
       have HON := Lib.hid (fun W => ones_w (k &&& c) W (by have : k &&& c ≤ k := Nat.and_le_left; omega))
       obtain ⟨z, hz⟩ : ∃ z, size (k &&& c) = z := ⟨_, rfl⟩
       have hz64 : z ≤ 64 := by rw [← hz]; exact size_le _
       have hsg : sgn k c = if z % 2 = 0 then 1 else -1 := by unfold sgn; rw [hz]
       rw [hz] at HON
       clear hpk hE hcw hgd hp hpi hbd hz
       generalize im[k] = m at *
       generalize (k &&& c) = q at *
       by_cases hz2 : z % 2 = 0
       ·rw [if_pos hz2] at hsg
        have HST2 := Lib.hid (HWS.out _ hsg)
        have w4 : ((z : Nat) : Int).tmod 2 = 0 := by have : ((z : Nat) : Int).tmod 2 = ((z % 2 : Nat) : Int) := rfl; rw [this, hz2]; rfl
        clear HWS hsg hz2
        go_wp2_with (go_at_call 63; refine (HON.out _).mono ?_; rintro e w5 ⟨rfl, rfl⟩)
        go_roundw
        case rel =>
         refine ⟨k + 1, by go_num, by omega, Lib.hid ?_, below_far hbi (Nat.le_refl _) _ _, HLE2⟩
         have := HBI.out.set p (.int .i64 (old + 1))
         rw [iarr_set, HST2.out] at this
         exact this
        case measure => simp [intOf]; omega
       ·rw [if_neg hz2] at hsg
        have HST2 := Lib.hid (HWS.out _ hsg)
        have w4 : ((z : Nat) : Int).tmod 2 = 1 := by have : ((z : Nat) : Int).tmod 2 = ((z % 2 : Nat) : Int) := rfl; rw [this, show z % 2 = 1 by omega]; rfl
        clear HWS hsg hz2
        go_wp2_with (go_at_call 63; refine (HON.out _).mono ?_; rintro e w5 ⟨rfl, rfl⟩)
        go_roundw
        case rel =>
         refine ⟨k + 1, by go_num, by omega, Lib.hid ?_, below_far hbi (Nat.le_refl _) _ _, HLE2⟩
         have := HBI.out.set p (.int .i64 (old - 1))
         rw [iarr_set, show old - 1 = old + -1 by omega, HST2.out] at this
         exact this
        case measure => simp [intOf]; omega
     ·obtain rfl : k = im.length := by omega
      have dk : decide ((im.length : Int) < (im.length : Int)) = false := by simp
      have hbw := below_all hbo hbi
      have HLB : Hid (leastB im i) := Lib.hid (fun p hp => by
       obtain ⟨j, hj, rfl⟩ := List.getElem_of_mem hp
       exact HLE.out j hj hj)
      have hB : Blk wi wo.heap.size 3 (iarr (wv c im L i)) := HBI.out
      have hvl : (wv c im L i).length = L := wvT_len _ _ _ _ _
      have HBD : Hid (∀ x ∈ wv c im L i, -64 ≤ x ∧ x ≤ 64) := Lib.hid (fun x hx => by
       have := wvT_bound c im L i im.length x hx
       omega)
      have HAR : Hid (adRow c im L i = if (wv c im L i).getD i 0 ≠ 0 then some ((wv c im L i).map fun x => x.tdiv ((wv c im L i).getD i 0)) else none) := Lib.hid (by
       unfold adRow
       by_cases h0 : (wv c im L i).getD i 0 ≠ 0
       ·rw [if_pos ⟨HLB.out, h0⟩, if_pos h0]
       ·rw [if_neg (fun h => h0 h.2), if_neg h0])
      clear HBI HLE HLB
      generalize wv c im L i = v at *
      have hiv : i < v.length := by rw [hvl]; exact hil
      obtain ⟨y, hy⟩ : ∃ y, v[i] = y := ⟨_, rfl⟩
      have hyb := HBD.out v[i] (List.getElem_mem _)
      have c0 := hB.cell i
      rw [iarr_at _ hiv, hy] at c0
      rw [hy] at hyb
      have hgd : v.getD i 0 = y := by simp [hiv, hy]
      rw [hgd] at HAR
      have HB := Lib.hid hB
      have HVL := Lib.hid hvl
      clear hB hvl hgd hy hiv
      by_cases hy0 : y = 0
      ·subst hy0
       have HNX : Hid (adTo c im L (i + 1) = adTo c im L i) := Lib.hid (by
        rw [HSUC.out, HAR.out]
        simp)
       go_wp2
       go_roundw
       case rel => exact ⟨i + 1, A, cA, rs, by go_num, by omega, rfl, Lib.hid ⟨below_all hbo hbi, (HST.out.keep hbi).own, (HST.out.keep hbi).rows, by rw [HNX.out]; exact HST.out.eq⟩⟩
       case measure => simp [intOf]; omega
      ·rw [if_pos hy0] at HAR
       have HSG : Hid (∀ x ∈ v, Sg (x.tdiv y)) := Lib.hid (fun x hx => HS.out i hil _ HAR.out _ (List.mem_map_of_mem hx))
       have HNX : Hid (adTo c im L (i + 1) = adTo c im L i ++ [v.map fun x => x.tdiv y]) := Lib.hid (by rw [HSUC.out, HAR.out]; rfl)
       have HRL : Hid ((v.map fun x => x.tdiv y).length = L) := Lib.hid (by rw [List.length_map]; exact HVL.out)
       have HRA : Hid (∀ k (h : k < v.length) (h2 : k < (v.map fun x => x.tdiv y).length), (v.map fun x => x.tdiv y)[k] = v[k].tdiv y) := Lib.hid (fun k h h2 => by simp)
       have dy1 : (y == 0) = false := beq_eq_false_iff_ne.2 hy0
       have dy2 : decide (y = 0) = false := decide_eq_false hy0
       have hmk2 := make_strs L (by omega) wi
       have B2 := Blk.new wi 9 (madeCells #[.string ⟨#[]⟩] L)
       have hal2 := Below.alloc (Below.refl wi.heap.size wi) (Nat.le_refl _) (.cells (madeCells #[.string ⟨#[]⟩] L) 9)
       generalize v.map (fun x => x.tdiv y) = r at *
       rw [← part_zero r L] at hmk2
       rw [← part_zero r L] at B2
       rw [← part_zero r L] at hal2
       generalize hW2 : wi.alloc (.cells (part r L 0) 9) = W2 at *
       have HB2 := Lib.hid B2
       clear B2 hW2 HAR
       go_wp2
       clear hmk2
       go_loopw [69] (fun s69 wj => ∃ k : Nat, s69 = .int .i64 k ∧ k ≤ L ∧ Hid (Blk wj wi.heap.size 9 (part r L k)) ∧ Below wi.heap.size wi wj) (fun s69 _ => L - (intOf s69).toNat)
       case atStart => exact ⟨0, rfl, Nat.zero_le _, HB2, hal2⟩
       case round =>
        clear HB2 hal2
        obtain ⟨wj, rfl⟩ : ∃ wj : World, wj = wr := ⟨_, rfl⟩
        obtain ⟨k, rfl, hk, HBJ, hbj⟩ := hrel
        by_cases hkL : k < L
        ·have hkv : k < v.length := by rw [HVL.out]; exact hkL
         have hkr : k < r.length := by rw [HRL.out]; exact hkL
         have HBW := HB.out.keep hbj HB.out.lt
         have cx := HBW.cell k
         have cy := keep_cell hbj c0
         rw [iarr_at _ hkv] at cx
         obtain ⟨x, hx⟩ : ∃ x, v[k] = x := ⟨_, rfl⟩
         have hxb := HBD.out v[k] (List.getElem_mem _)
         have hsg := HSG.out v[k] (List.getElem_mem _)
         have hra := HRA.out k hkv hkr
         rw [hx] at cx hxb hsg hra
         obtain ⟨z, hz⟩ : ∃ z, x.tdiv y = z := ⟨_, rfl⟩
         rw [hz] at hsg hra
         have HFI := Lib.hid (fromint_any z hsg wj (HT.out.keep (below_all hbw hbj)))
         have HPS : Hid ((part r L k).setIfInBounds k (.string (tx z)) = part r L (k + 1)) := Lib.hid (by rw [← hra]; exact part_set HRL.out hkL)
         obtain ⟨u, hu⟩ := part_at r HRL.out hkL
         have HU := Lib.hid hu
         have wz : IntKind.i64.wrap z = z := by rcases hsg with rfl | rfl | rfl <;> decide
         have k0 : (0 : Int) ≤ (k : Int) := by omega
         have k1 : (k : Int) < (L : Int) := by omega
         have k3 : ((k : Int)).toNat = k := by omega
         clear HBW hx hxb hsg hra hu
         generalize tx z = sz at *
         go_wp2_with (go_at_call 64; refine HFI.out.mono ?_; rintro e w6 ⟨rfl, hb6⟩
                      have B6 := HBJ.out.keep hb6 HBJ.out.lt
                      have g0 := B6.cell k
                      have g1 := B6.frozen k
                      rw [HU.out] at g0
                      have HB6 := Lib.hid B6
                      clear B6)
         go_roundw
         case rel =>
          refine ⟨k + 1, by go_num, by omega, Lib.hid ?_, below_far (below_all hbj hb6) (Nat.le_refl _) _ _⟩
          have := HB6.out.set k (.string sz)
          rw [HPS.out] at this
          exact this
         case measure => simp [intOf]; omega
        ·obtain rfl : k = L := by omega
         have dk2 : decide ((k : Int) < (k : Int)) = false := by simp
         have hbz := below_all hbw hbj
         have hown := (HST.out.keep (below_all hbi hbj)).own
         have hrow := (HST.out.keep (below_all hbi hbj)).rows
         have hBJ := HBJ.out
         have hrl := HRL.out
         have hBR : Blk wj wi.heap.size 9 (strs (r.map tx)) := by
          rw [← part_full r, hrl]
          exact hBJ
         have HBR := Lib.hid hBR
         have HROW := Lib.hid hrow
         have hrl64 : rs.length ≤ k := by
          have h1 := congrArg List.length HST.out.eq
          rw [List.length_map] at h1
          have h2 : (adTo c im k i).length ≤ i := by
           have := List.length_filterMap_le (adRow c im k) (List.range i)
           rwa [List.length_range] at this
          omega
         clear hBJ hBR hrow hrl
         go_wp2_with (at_builtin
                      refine wpList_append_own_at _ rfl _ _ 69 rfl w.heap.size 46 j0 (.slice none 0 0) 1 24 Tryz.underlying69 hj0 hjz0 hjz1 hjz2 rfl (by decide) (.slice A rs.length cA) rs.length (rs.map (cellP k)) rfl (hown.alloc _) ⟨wj.heap.size, 0, none⟩ 1 1 [.slice (some ⟨wi.heap.size, 0, none⟩) k k] rfl rfl (cell_one_new _ _ _) (by simp [Value.oneCell']) (by simp only [maxLen]; omega) (by omega) (by have := hbz.size; simp; omega) ?_
                      intro v7 w7 hown7 hg7 _ hat7
                      obtain ⟨A7, c7, hv7, _, _⟩ := Sl.of_own hown7
                      subst hv7)
         go_roundw
         case rel =>
          have hal6 := Below.alloc (Below.refl wj.heap.size wj) (Nat.le_refl _) (.cells #[.slice (some ⟨wi.heap.size, 0, none⟩) k k] 46)
          have hox := hown.alloc (.cells #[.slice (some ⟨wi.heap.size, 0, none⟩) k k] 46)
          refine ⟨i + 1, A7, c7, rs ++ [(wi.heap.size, r)], by go_num, by omega, by simp, Lib.hid ⟨(hbz.alloc hbz.size _).grown hg7 (by have := hbz.size; simp; omega) (fun q hq => (hox.lt q hq).1), ?_, fun t ht => ?_, ?_⟩⟩
          ·rw [List.length_append, List.map_append, List.map_singleton]; exact hown7
          ·rcases List.mem_append.1 ht with h | h
           ·have h1 := (HROW.out t h).keep hal6 (HROW.out t h).lt
            exact h1.grown hg7 (own_blk_ne hox h1 (by decide))
           ·rw [List.mem_singleton.1 h]
            have h1 := HBR.out.keep hal6 HBR.out.lt
            exact h1.grown hg7 (own_blk_ne hox h1 (by decide))
          ·rw [List.map_append, HST.out.eq, HNX.out]; rfl
         case measure => simp [intOf]; omega
   ·obtain rfl : i = L := by omega
    have dk : decide ((i : Int) < (i : Int)) = false := by simp
    go_wp2
    try rw [Exit.noGoto_ret]
    go_ret
    exact ⟨A, cA, rs, rfl, HST.out⟩
end Go.Proofs.Tg.Bk
end
