/- Parts of the proof: SM4, WK2, WD1, WK3, SP5, SP6, SP7, SP8, SP9, QV2, QV3, GXG, GXH, GWV. -/
import Derived.Maps.OwnOps
import Derived.DeepKeys4
import Derived.Test.YtpiedheafppnhaaGreatDoorMSF1
import Derived.Test.YtpiedheafppnhaaGreatDoorMSF2
import Derived.Test.YtpiedheafppnhaaGreatDoorMSF4
import Derived.Test.YtpiedheafppnhaaGreatDoorMSF5
import Derived.Test.YtpiedheafppnhaaGreatDoorMSF7
import Derived.Test.YtpiedheafppnhaaGreatDoorMSF9
import Derived.Test.YtpiedheafppnhaaGreatDoorMSF10
import Derived.Test.YtpiedheafppnhaaGreatDoorMSF11
section
/- What stays where a map's block alone has turned. -/
namespace Go.Proofs.Tg
open Go.RowKit Go.Maps
/-- Block b is a map's. -/
def MapB (w : World) (b : Nat) : Prop := ∃ es clock, w.heap[b]? = some (.map es clock)
theorem mapB_own {w : World} {P : Program} {k : TypeId} {R : Value → Option (DataW Unit × List MemPlace)} {b n : Nat} {D : DataW Unit} (h : w.ownsMap P k R b n D) : MapB w b := by
  obtain ⟨es, clock, hb, _⟩ := h
  exact ⟨es, clock, hb⟩
theorem MapB.lt {w : World} {b : Nat} (h : MapB w b) : b < w.heap.size := by
  obtain ⟨es, clock, hb⟩ := h
  exact (Array.getElem?_eq_some_iff.1 hb).1
theorem cell_map {w : World} {b : Nat} (h : MapB w b) {p : Addr} (hp : p.block = b) : w.cell? p = none := by
  obtain ⟨es, clock, hb⟩ := h
  unfold World.cell?
  rw [hp, hb]
theorem cell_turn {w w' : World} {b : Nat} (hm : MapB w b) (hg : w.grownBy w' (some b)) {p : Addr} {v : Value} (h : w.cell? p = some v) : w'.cell? p = some v := by
  have hne : p.block ≠ b := fun e => by rw [cell_map hm e] at h; cases h
  have hl := World.block_lt_of_cell? w p h
  have := hg.block p.block hl (by simp; exact hne)
  unfold World.cell? at h ⊢
  rw [this]
  exact h
theorem Sl.turn {w w' : World} {b : Nat} {A : Option Addr} {n sz : Nat} {xs : List Value} (h : Sl w A n sz xs) (hm : MapB w b) (hg : w.grownBy w' (some b)) : Sl w' A n sz xs :=
  ⟨h.len, fun hn => by
    obtain ⟨ad, e, hl, ha⟩ := h.lies hn
    exact ⟨ad, e, Nat.lt_of_lt_of_le hl hg.size, fun j u hu => cell_turn hm hg (ha j u hu)⟩⟩
theorem Lists.turn {w w' : World} {b : Nat} {V : Option Addr} {ls : List (List Int)} (h : Lists w V ls) (hm : MapB w b) (hg : w.grownBy w' (some b)) : Lists w' V ls := by
  obtain ⟨f, hs, hr⟩ := h
  exact ⟨f, hs.turn hm hg, fun i hi => (hr i hi).turn hm hg⟩
theorem TermsAt.turn {w w' : World} {b : Nat} {T : Option Addr} {tv : List TV} (h : TermsAt w T tv) (hm : MapB w b) (hg : w.grownBy w' (some b)) : TermsAt w' T tv :=
  ⟨h.sl.turn hm hg, fun t ht => (h.ints t ht).turn hm hg⟩
theorem Blk.turn {w w' : World} {b g : Nat} {t : TypeId} {cs : Array Value} (h : Blk w g t cs) (hm : MapB w b) (hg : w.grownBy w' (some b)) : Blk w' g t cs := by
  refine (hg.block g h.lt ?_).trans h
  intro e
  obtain ⟨es, clock, hb⟩ := hm
  have : g = b := by simpa using e
  subst this
  unfold Blk at h
  rw [hb] at h
  cases h
theorem MapB.turn {w' : World} {b : Nat} {P : Program} {k : TypeId} {R : Value → Option (DataW Unit × List MemPlace)} {n : Nat} {D : DataW Unit} (h : w'.ownsMap P k R b n D) : MapB w' b := mapB_own h
end Go.Proofs.Tg
end
section
/- The program's maps from keys to bools, as sets of monomials. -/
namespace Go.Proofs.Tg
open Go.RowKit Go.Gr Go.Sp Go.Ev Go.Maps Go.WideShapes
set_option maxHeartbeats 4000000
set_option maxRecDepth 100000
theorem laidOutK : laidOutB Tryz.prog = true := by kernel_rfl
theorem keyLaw : Keyed Tryz.prog 89 :=
  Keyed.of_law (deep_law_laid laidOutK (m := 6) (by decide) (of_decide_eq_true (by kernel_rfl)) (by kernel_rfl) (by kernel_rfl))
theorem key_read {n : Nat} {el : List Int} (h : domK n 48 el) : keyOf Tryz.prog 89 (keyV el) = some (kl6 (kv el)) :=
  keyOf_six (I := 3) (s := Tryz.prog.types.size - 1) Tryz.underlying89 Tryz.underlying3 (by kernel_rfl) (by kernel_rfl) (by kernel_rfl) (by kernel_rfl) (kv el) (kv_len el) (kv_dom h)
theorem zeroB (w : World) : (zeroValue 4).run Tryz.prog w = .ok (.bool false) w := by kernel_rfl
/-- Block mb is a map that holds true at just the monomials of S, among those in n variables. -/
def SetM (w : World) (mb cnt n : Nat) (S : List (List Int)) : Prop :=
  ∃ D : DataW Unit, w.ownsMap Tryz.prog 89 (plainElem Tryz.prog 4) mb cnt D ∧ SetOK (fun v => kl6 (kv v)) (domK n 48) S D
theorem SetM.mapB {w : World} {mb cnt n : Nat} {S : List (List Int)} (h : SetM w mb cnt n S) : MapB w mb := by
  obtain ⟨D, h, _⟩ := h
  exact mapB_own h
theorem SetM.made (w : World) (n : Nat) : SetM (w.alloc (.map #[] 0)) w.heap.size 0 n [] := ⟨_, World.ownsMap_made _ _ _ _, SetOK.nil _ _⟩
theorem SetM.below {w w' : World} {B mb cnt n : Nat} {S : List (List Int)} (h : SetM w mb cnt n S) (hb : Below B w w') (hB : mb < B) : SetM w' mb cnt n S := by
  obtain ⟨D, ⟨es, clock, hh, r⟩, h2⟩ := h
  exact ⟨D, ⟨es, clock, (hb.block mb hB).trans hh, r⟩, h2⟩
theorem SetM.drew {w : World} {mb cnt n : Nat} {S : List (List Int)} (h : SetM w mb cnt n S) : SetM w.drew mb cnt n S := h
theorem SetM.congr {w : World} {mb cnt n : Nat} {S S' : List (List Int)} (h : SetM w mb cnt n S) (hs : ∀ v, v ∈ S ↔ v ∈ S') : SetM w mb cnt n S' := by
  obtain ⟨D, h1, h2⟩ := h
  exact ⟨D, h1, h2.congr (fun v _ => hs v)⟩
theorem SetM.mono {w : World} {mb cnt cnt' n : Nat} {S : List (List Int)} (h : SetM w mb cnt n S) (hc : cnt ≤ cnt') : SetM w mb cnt' n S := by
  obtain ⟨D, h1, h2⟩ := h
  exact ⟨D, h1.mono hc, h2⟩
theorem SetM.look {w : World} {mb cnt n : Nat} {S : List (List Int)} (h : SetM w mb cnt n S) {v : List Int} (hv : domK n 48 v) {c : Bool} (hc : decide (v ∈ S) = c) :
    (Instr.lookup 87 (.map (some mb)) (keyV v) false).run Tryz.prog w = .ok (.bool c) w := by
  obtain ⟨D, h1, h2⟩ := h
  obtain ⟨v', ps, hrun, hv2⟩ := h1.lookup keyLaw Tryz.underlying87 (zeroB w) (plainElem_bool Tryz.underlying4 false) (key_read hv)
  obtain ⟨c', rfl, e⟩ := plainElem_bool_inv Tryz.underlying4 hv2
  rw [h2.at' v hv, (decide_eq_decide.2 Iff.rfl).trans hc] at e
  injection e with e _
  injection e with e
  injection e with e
  subst e
  exact hrun
theorem SetM.put {w : World} {mb cnt n : Nat} {S : List (List Int)} (h : SetM w mb cnt n S) (hn : n ≤ 6) (hcnt : cnt ≤ 1000000000) {v : List Int} (hv : domK n 48 v) :
    ∃ w', (Instr.mapUpdate 87 (.map (some mb)) (keyV v) (.bool true)).run Tryz.prog w = .ok () w' ∧ SetM w' mb (cnt + 1) n (v :: S) ∧ w.grownBy w' (some mb) := by
  obtain ⟨D, h1, h2⟩ := h
  obtain ⟨w', hrun, h3, h4⟩ := h1.update keyLaw Tryz.underlying87 (by simp only [maxLen]; omega) (key_read hv) (plainElem_bool Tryz.underlying4 true)
  exact ⟨w', hrun, ⟨_, h3, h2.put (fun _ _ => kl6_key _) (fun _ _ hu hv => klv_inj hn hu hv) hv⟩, h4⟩
end Go.Proofs.Tg
end
section
/- Walks: the check of sign vectors and monomials; characters. -/
namespace Go.Proofs.Tg
open Go.RowKit Go.Gr Go.Ev Go.Mo
set_option maxHeartbeats 2000000
set_option maxRecDepth 100000
theorem bit_same (l : List Int) : bit01 l = b01 l := rfl
theorem vld_lit (A : Option Addr) (c : Nat) (m : List Int) (w : World) (hA : Ints w A m) (hn : m.length ≤ 1000) (b : Bool) (hb : vldM m = b) :
    Calls Tryz.prog 37 #[.slice A m.length c] w fun e w' => e = .returned (.bool b) ∧ w = w' := by rw [← hb]; exact valid_any A c m w hA hn
theorem all_take {α : Type} {P : α → Prop} {l : List α} {k : Nat} (hk : k < l.length) (h : ∀ x ∈ l.take k, P x) (h1 : P l[k]) : ∀ x ∈ l.take (k + 1), P x := by
  rw [List.take_succ_eq_append_getElem hk]
  intro x hx
  rcases List.mem_append.1 hx with h2 | h2
  · exact h x h2
  · simp at h2; rw [h2]; exact h1
end Go.Proofs.Tg
end
section
/- The check of a polynomial and a basis. -/
namespace Go.Proofs.Tg
open Go.RowKit Go.Gr Go.Sp Go.Ev Go.Mo
set_option maxHeartbeats 4000000
set_option maxRecDepth 100000
theorem vvld_lit (A : Option Addr) (c : Nat) (m : List Int) (w : World) (hA : Ints w A m) (hn : m.length ≤ 1000) (b : Bool) (hb : vldM m = b) :
    Calls Tryz.prog 37 #[.slice A m.length c] w fun e w' => e = .returned (.bool b) ∧ w = w' := by rw [← hb]; exact valid_any A c m w hA hn
theorem take_mem_succ {α : Type} {l : List α} {k : Nat} (hk : k < l.length) (v : α) : v ∈ l[k] :: l.take k ↔ v ∈ l.take (k + 1) := by
  rw [List.take_succ_eq_append_getElem hk, List.mem_append, List.mem_singleton, List.mem_cons]
  exact Or.comm
theorem take_nodup_succ {α : Type} {l : List α} {k : Nat} (hk : k < l.length) (h : (l.take k).Nodup) (hn : l[k] ∉ l.take k) : (l.take (k + 1)).Nodup := by
  rw [List.take_succ_eq_append_getElem hk, List.nodup_append]
  refine ⟨h, by simp, fun a ha b hb => ?_⟩
  rw [List.mem_singleton.1 hb]
  rintro rfl
  exact hn ha
theorem not_nodup_take {α : Type} {l : List α} {k : Nat} (hk : k < l.length) (hn : l[k] ∈ l.take k) : ¬ l.Nodup := by
  intro h
  obtain ⟨i, hi, e⟩ := List.getElem_of_mem hn
  have hik : i < k := by rw [List.length_take] at hi; omega
  rw [List.getElem_take] at e
  have := (List.getElem_inj h).1 e
  omega
theorem scheck_any (p : PVal) (B : Option Addr) (cb : Nat) (b : List (List Int)) (ok : Bool) (w : World) (hP : TermsAt w p.adr p.tv) (hsm : p.small) (hB : Lists w B b) (hbl : b.length ≤ 64) (hml : ∀ m ∈ b, m.length ≤ 1000) (hok : ok = true ↔ p.ok) (hT : Tab w) :
    Calls Tryz.prog 19 #[.agg #[.int .i64 p.vars, .slice p.adr p.tv.length p.cap], .slice B b.length cb] w fun e w' => e = .returned (.int .i64 (errS ok p.vars b)) ∧ Below w.heap.size w w' := by
  obtain ⟨V, T, cT, tv⟩ := p
  simp only at *
  obtain ⟨W, hW⟩ : ∃ W, w.alloc (.cells #[.int .i64 V, .slice T tv.length cT] 24) = W := ⟨_, rfl⟩
  have hbA : Below w.heap.size w W := by rw [← hW]; exact (Below.refl _ _).alloc (Nat.le_refl _) _
  have B0 : Blk W w.heap.size 24 #[.int .i64 V, .slice T tv.length cT] := by rw [← hW]; exact Blk.new _ _ _
  have HPV := Lib.hid (pvalid_any V T cT tv ok W (hP.keep hbA) hsm.1 hsm.2 hok (hT.below hbA hT.1))
  have HOK := Lib.hid hok
  have HML := Lib.hid hml
  have hBW := hB.keep hbA
  have HWW := Lib.hid hW
  clear hok hml hW hB hP
  obtain ⟨c0, c1, _, _⟩ := B0.two
  go_enter Tryz.func19, Tryz.ntmps19
  go_upto_region 1 with (fail)
  rw [HWW.out]
  clear HWW
  cases ok with
  | false =>
    have HF : Hid (errS false V b = 1) := Lib.hid (errS_bad (.inl rfl))
    go_wp2_with (go_at_call 36; refine HPV.out.mono ?_; rintro e w1 ⟨rfl, hb1⟩)
    go_ret
    exact ⟨by rw [HF.out]; rfl, below_all hbA hb1⟩
  | true =>
    have hv := HOK.out.1 rfl
    obtain ⟨n, rfl⟩ : ∃ n : Nat, V = n := ⟨V.toNat, by have := hv.2.1.1; simp only at this; omega⟩
    have hn6 : n ≤ 6 := by have := hv.2.1.2.1; simp only at this; omega
    clear hv HOK
    go_wp2_with (go_at_call 36; refine HPV.out.mono ?_; rintro e w1 ⟨rfl, hb1⟩)
    have D0 := B0.keep hb1 B0.lt
    have hL := hBW.keep hb1
    have hbw := below_all hbA hb1
    have hgl := D0.lt
    clear c0 c1 B0 hBW hb1 hbA HPV
    obtain ⟨c0, c1, _, _⟩ := D0.two
    go_loop [17] (fun i => ∃ k : Nat, i = .int .i64 k ∧ k ≤ b.length ∧ Hid (∀ m ∈ b.take k, vldM m = true)) (fun i => b.length - (intOf i).toNat)
    case atStart => exact ⟨0, rfl, Nat.zero_le _, Lib.hid (by simp)⟩
    case round =>
      obtain ⟨k, rfl, hk, HG⟩ := hrel
      by_cases hlt : k < b.length
      · obtain ⟨ad, A, c, rfl, hc, hA⟩ := hL.at hlt
        have hml := HML.out b[k] (List.getElem_mem _)
        have HM : Hid (b[k] ∈ b) := Lib.hid (List.getElem_mem _)
        have HN : Hid (vldM b[k] = true → ∀ m ∈ b.take (k + 1), vldM m = true) := Lib.hid (all_take hlt HG.out)
        generalize b[k] = m at *
        by_cases hv : vldM m = true
        · have HV := Lib.hid (vvld_lit A c m w1 hA hml true hv)
          have HG2 := Lib.hid (HN.out hv)
          clear hv
          go_wp2_with (go_at_call 37; refine HV.out.mono ?_; rintro e w' ⟨rfl, rfl⟩)
          go_round
          case rel => exact ⟨k + 1, by go_num, by omega, HG2⟩
          case measure => simp [intOf]; omega
        · have hv : vldM m = false := eq_false_of_ne_true hv
          have HV := Lib.hid (vvld_lit A c m w1 hA hml false hv)
          have HF : Hid (errS true n b = 1) := Lib.hid (errS_bad (.inr ⟨m, HM.out, hv⟩))
          clear hv
          go_wp2_with (go_at_call 37; refine HV.out.mono ?_; rintro e w' ⟨rfl, rfl⟩)
          go_ret
          exact ⟨by rw [HF.out]; rfl, hbw⟩
      · have HAV : Hid (∀ m ∈ b, vldM m = true) := Lib.hid (by have := HG.out; rwa [List.take_of_length_le (by omega)] at this)
        clear HG
        go_wp2
        go_loop [27] (fun i => ∃ k : Nat, i = .int .i64 k ∧ k ≤ b.length ∧ Hid (∀ m ∈ b.take k, (m.length : Int) = n)) (fun i => b.length - (intOf i).toNat)
        case atStart => exact ⟨0, rfl, Nat.zero_le _, Lib.hid (by simp)⟩
        case round =>
          obtain ⟨k', rfl, hk', HG⟩ := hrel
          by_cases hlt' : k' < b.length
          · obtain ⟨ad, A, c, rfl, hc, hA⟩ := hL.at hlt'
            have HM : Hid (b[k'] ∈ b) := Lib.hid (List.getElem_mem _)
            have HN : Hid ((b[k'].length : Int) = n → ∀ m ∈ b.take (k' + 1), (m.length : Int) = n) := Lib.hid (all_take (P := fun m : List Int => (m.length : Int) = n) hlt' HG.out)
            generalize b[k'] = m at *
            by_cases hl : (m.length : Int) = n
            · have hb : ((m.length : Int) != (n : Int)) = false := by simp; omega
              have HG2 := Lib.hid (HN.out hl)
              have HL := Lib.hid hl
              clear hl
              go_wp2
              go_round
              case rel => exact ⟨k' + 1, by go_num, by omega, HG2⟩
              case measure => simp [intOf]; omega
            · have hb : ((m.length : Int) != (n : Int)) = true := by simp; omega
              have HF : Hid (errS true n b = 4) := Lib.hid (errS_shape HAV.out ⟨m, HM.out, hl⟩)
              clear hl
              go_wp2
              go_ret
              exact ⟨by rw [HF.out]; rfl, hbw⟩
          · have HAL : Hid (∀ m ∈ b, (m.length : Int) = n) := Lib.hid (by have := HG.out; rwa [List.take_of_length_le (by omega)] at this)
            have d64 : decide ((64 : Int) < (b.length : Int)) = false := by simp; omega
            have d64' : decide (64 < b.length) = false := by simp; omega
            have hmm := @run_makeMap Tryz.prog
            clear HG c0 c1 D0
            go_wp2
            go_loopw [43] (fun i wr => ∃ k : Nat, i = .int .i64 k ∧ k ≤ b.length ∧ SetM wr w1.heap.size k n (b.take k) ∧ Hid ((b.take k).Nodup) ∧ Below w.heap.size w wr ∧ Lists wr B b) (fun i _ => b.length - (intOf i).toNat)
            case atStart => exact ⟨0, rfl, Nat.zero_le _, SetM.made w1 n, Lib.hid (by simp), hbw.alloc hbw.size _, hL.keep ((Below.refl _ _).alloc (Nat.le_refl _) _)⟩
            case round =>
              obtain ⟨wo, rfl⟩ : ∃ wo : World, wo = wr := ⟨_, rfl⟩
              obtain ⟨j, rfl, hj, hS, HND, hbr, hLr⟩ := hrel
              by_cases hjl : j < b.length
              · obtain ⟨ad, A, c, rfl, hc, hA⟩ := hLr.at hjl
                have HM : Hid (b[j] ∈ b) := Lib.hid (List.getElem_mem _)
                have hdom : domK n 24 b[j] := by
                  have h1 := vld_dom (HAV.out b[j] (List.getElem_mem _))
                  have h2 := HAL.out b[j] (List.getElem_mem _)
                  rwa [show b[j].length = n by omega] at h1
                have HTM : Hid (∀ v, v ∈ b[j] :: b.take j ↔ v ∈ b.take (j + 1)) := Lib.hid (take_mem_succ hjl)
                have HTN : Hid (b[j] ∉ b.take j → (b.take (j + 1)).Nodup) := Lib.hid (take_nodup_succ hjl HND.out)
                have HTB : Hid (b[j] ∈ b.take j → errS true n b = 10) := Lib.hid (fun h => errS_dup HAV.out HAL.out hbl (not_nodup_take hjl h))
                have hLK : ∀ W, Below wo.heap.size wo W → Lists W (some ad) b := fun W h => hLr.keep h
                have HLK := Lib.hid hLK
                generalize b[j] = m at *
                have HKO : Hid (∀ W, Below wo.heap.size wo W → Calls Tryz.prog 38 #[.slice A m.length c] W fun e w' => e = .returned (keyV m) ∧ Below wo.heap.size wo w') := Lib.hid (fun W h => (keyOf_any A c m W (hA.keep h) (by rw [hdom.1]; exact hn6)).mono fun e w' h2 => ⟨h2.1, below_all h h2.2⟩)
                have hdom' : domK n 48 m := hdom.mono (by omega)
                have hml2 : w1.heap.size < wo.heap.size := hS.mapB.lt
                have hbo : Below wo.heap.size wo wo := Below.refl _ _
                clear hLr hLK hA
                by_cases hin : m ∈ b.take j
                · have HF := Lib.hid (HTB.out hin)
                  have hdec : decide (m ∈ b.take j) = true := decide_eq_true hin
                  clear hin
                  go_wp2_with (go_at_call 38; with_reducible refine Calls.mono (HKO.out _ (by assumption)) ?_; rintro e w2 ⟨rfl, hb2⟩; have hrun := (hS.below hb2 hml2).look hdom' hdec)
                  go_ret
                  exact ⟨by rw [HF.out]; rfl, hbr.trans (hb2.mono hbr.size)⟩
                · have HN2 := Lib.hid (HTN.out hin)
                  have hdec : decide (m ∈ b.take j) = false := decide_eq_false hin
                  clear hin
                  go_upto_region 23 with (go_at_call 38; with_reducible refine Calls.mono (HKO.out _ (by assumption)) ?_; rintro e w2 ⟨rfl, hb2⟩; have hrun := (hS.below hb2 hml2).look hdom' hdec)
                  clear hrun
                  go_wp2_with (go_at_call 38; with_reducible refine Calls.mono (HKO.out _ hb2) ?_; rintro e w3 ⟨rfl, hb3⟩; obtain ⟨w4, hrun, hS4, hg4⟩ := (hS.below hb3 hml2).put hn6 (by omega) hdom')
                  go_roundw
                  case rel =>
                    have hL3 := HLK.out _ hb3
                    have hm3 := (hS.below hb3 hml2).mapB
                    refine ⟨j + 1, by go_num, by omega, hS4.congr HTM.out, HN2, ?_, hL3.turn hm3 hg4⟩
                    exact (hbr.trans (hb3.mono hbr.size)).grown hg4 (by have := hbr.size; have := hb3.size; omega) (fun q hq => by injection hq with hq; have := hbw.size; omega)
                  case measure => simp [intOf]; omega
              · have HF : Hid (errS true n b = 0) := Lib.hid (errS_ok HAV.out HAL.out hbl (by have := HND.out; rwa [List.take_of_length_le (by omega)] at this))
                go_wp2
                go_ret
                exact ⟨by rw [HF.out]; rfl, hbr⟩
end Go.Proofs.Tg
end
section
/- The reference's table of a set of monomials: plain. -/
namespace Go.Sp
open Go.Gr Go.Ev Go.Jt
/-- Row i and the rows ahead of it, row i up to column k: who is joined. -/
def tP (b s : List (List Int)) (i k x y : Nat) : Bool := decide (min x y < max x y ∧ (max x y < i ∨ (max x y = i ∧ min x y < k)) ∧ addL (b.getD x []) (b.getD y []) ∈ s)
theorem tP_zero (b s : List (List Int)) : tP b s 0 0 = fun _ _ => false := by
  funext x y
  unfold tP
  exact decide_eq_false (fun h => by rcases h.2.1 with h | h <;> omega)
theorem tP_row (b s : List (List Int)) (i : Nat) : tP b s i i = tP b s (i + 1) 0 := by
  funext x y
  unfold tP
  rw [decide_eq_decide]
  constructor
  · rintro ⟨h1, h2, h3⟩; exact ⟨h1, .inl (by omega), h3⟩
  · rintro ⟨h1, h2, h3⟩; exact ⟨h1, by omega, h3⟩
theorem tP_no {b s : List (List Int)} {i k : Nat} (hk : k < i) (h : addL (b.getD i []) (b.getD k []) ∉ s) : tP b s i (k + 1) = tP b s i k := by
  funext x y
  unfold tP
  rw [decide_eq_decide]
  constructor
  · rintro ⟨h1, h2, h3⟩
    refine ⟨h1, ?_, h3⟩
    rcases h2 with h2 | ⟨h2, h4⟩
    · exact .inl h2
    · by_cases hm : min x y = k
      · exfalso
        have : (x = i ∧ y = k) ∨ (x = k ∧ y = i) := by omega
        rcases this with ⟨rfl, rfl⟩ | ⟨rfl, rfl⟩
        · exact h h3
        · rw [addL_comm] at h3; exact h h3
      · exact .inr ⟨h2, by omega⟩
  · rintro ⟨h1, h2, h3⟩; exact ⟨h1, by omega, h3⟩
theorem tP_yes {b s : List (List Int)} {i k : Nat} (hk : k < i) (h : addL (b.getD i []) (b.getD k []) ∈ s) : tP b s i (k + 1) = setT (setT (tP b s i k) i k) k i := by
  funext x y
  unfold setT
  by_cases h1 : x = k ∧ y = i
  · rw [if_pos h1]
    obtain ⟨rfl, rfl⟩ := h1
    unfold tP
    exact decide_eq_true ⟨by omega, .inr ⟨by omega, by omega⟩, by rw [addL_comm]; exact h⟩
  · rw [if_neg h1]
    by_cases h2 : x = i ∧ y = k
    · rw [if_pos h2]
      obtain ⟨rfl, rfl⟩ := h2
      unfold tP
      exact decide_eq_true ⟨by omega, .inr ⟨by omega, by omega⟩, h⟩
    · rw [if_neg h2]
      unfold tP
      rw [decide_eq_decide]
      constructor
      · rintro ⟨h3, h4, h5⟩; exact ⟨h3, by omega, h5⟩
      · rintro ⟨h3, h4, h5⟩; exact ⟨h3, by omega, h5⟩
theorem tP_full {b s : List (List Int)} {x y : Nat} (hx : x < b.length) (hy : y < b.length) : tP b s b.length 0 x y = decide (x ≠ y ∧ addL (b.getD x []) (b.getD y []) ∈ s) := by
  unfold tP
  rw [decide_eq_decide]
  constructor
  · rintro ⟨h1, h2, h3⟩; exact ⟨by omega, h3⟩
  · rintro ⟨h1, h3⟩; exact ⟨by omega, .inl (by omega), h3⟩
theorem tP_read {b s : List (List Int)} {x y : Nat} (hx : x < b.length) (hy : y < b.length) : tP b s b.length 0 x y = readT (edTo b s b.length) x y := by
  rw [tP_full hx hy, Bool.eq_iff_iff, decide_eq_true_eq, readT_iff]
  constructor
  · rintro ⟨h1, h2⟩
    by_cases hlt : x < y
    · exact ⟨_, edTo_mem.2 ⟨x, y, rfl, hlt, hy, h2⟩, .inl ⟨rfl, rfl⟩⟩
    · exact ⟨_, edTo_mem.2 ⟨y, x, rfl, by omega, hx, by rw [addL_comm]; exact h2⟩, .inr ⟨rfl, rfl⟩⟩
  · rintro ⟨e, he, h⟩
    obtain ⟨i, j, rfl, h1, h2, h3⟩ := edTo_mem.1 he
    simp only [Int.toNat_natCast] at h
    rcases h with ⟨rfl, rfl⟩ | ⟨rfl, rfl⟩
    · exact ⟨by omega, h3⟩
    · exact ⟨by omega, by rw [addL_comm]; exact h3⟩
theorem tP_edges (b s : List (List Int)) : tableEdges (tP b s b.length 0) b.length b.length = edTo b s b.length := by
  unfold tableEdges edTo
  have : ∀ i ∈ List.range b.length, rowT (tP b s b.length 0) i b.length = edRow b s i := by
    intro i hi
    have hi := List.mem_range.1 hi
    unfold rowT edRow
    have hf : ((List.range b.length).filter fun k => decide (i < k) && tP b s b.length 0 i k) = (List.range b.length).filter fun j => decide (i < j) && decide (addL (b.getD i []) (b.getD j []) ∈ s) := by
      refine List.filter_congr (fun j hj => ?_)
      have hj := List.mem_range.1 hj
      by_cases hij : i < j
      · rw [tP_full hi hj, decide_eq_true hij]
        simp only [Bool.true_and]
        rw [decide_eq_decide]
        exact ⟨fun h => h.2, fun h => ⟨by omega, h⟩⟩
      · rw [decide_eq_false hij]; rfl
    rw [hf]
  rw [List.flatMap_def, List.flatMap_def, List.map_congr_left this]
end Go.Sp
end
section
/- The products within blocks, as the reference and the program add them: plain. -/
namespace Go.Sp
open Go.Gr Go.Ev Go.Jt
def Blks (b ls : List (List Int)) (v : List Int) : Prop := ∃ l ∈ ls, ∃ x ∈ l, ∃ y ∈ l, v = addL (b.getD x.toNat []) (b.getD y.toNat [])
theorem blks_nil {b : List (List Int)} {v : List Int} : ¬ Blks b [] v := fun ⟨_, h, _⟩ => by cases h
theorem blks_take_zero {b ls : List (List Int)} {v : List Int} : ¬ Blks b (ls.take 0) v := fun ⟨_, h, _⟩ => by simp at h
theorem blks_succ {b ls : List (List Int)} {v : List Int} {i : Nat} (h : i < ls.length) : Blks b (ls.take (i + 1)) v ↔ Blks b (ls.take i) v ∨ InB b ls[i] ls[i].length v := by
  rw [inB_full, List.take_succ_eq_append_getElem h]
  unfold Blks
  constructor
  · rintro ⟨l, hl, r⟩
    rcases List.mem_append.1 hl with hl | hl
    · exact .inl ⟨l, hl, r⟩
    · rw [List.mem_singleton.1 hl] at r; exact .inr r
  · rintro (⟨l, hl, r⟩ | r)
    · exact ⟨l, List.mem_append_left _ hl, r⟩
    · exact ⟨ls[i], List.mem_append_right _ (by simp), r⟩
theorem setAt_blks {b S : List (List Int)} {t : Nat} {v : List Int} : v ∈ setAt b S (t + 1) ↔ v ∈ setAt b S t ∨ Blks b (comps b (setAt b S t)) v := setAt_mem
/-- The pairs of a block that the reference has met: rows ahead of a, row a up to c. -/
def RB (b : List (List Int)) (l : List Int) (a c : Nat) (v : List Int) : Prop := ∃ x y : Nat, y < x ∧ (x < a ∨ (x = a ∧ y < c)) ∧ x < l.length ∧ v = addL (b.getD (l.getD x 0).toNat []) (b.getD (l.getD y 0).toNat [])
theorem rb_zero {b : List (List Int)} {l v : List Int} : ¬ RB b l 0 0 v := fun ⟨x, y, h1, h2, _⟩ => by omega
theorem rb_row {b : List (List Int)} {l v : List Int} {a : Nat} : RB b l a a v ↔ RB b l (a + 1) 0 v := by
  constructor
  · rintro ⟨x, y, h1, h2, h3⟩; exact ⟨x, y, h1, .inl (by omega), h3⟩
  · rintro ⟨x, y, h1, h2, h3⟩; exact ⟨x, y, h1, by omega, h3⟩
theorem rb_succ {b : List (List Int)} {l v : List Int} {a c : Nat} (hc : c < a) (ha : a < l.length) : RB b l a (c + 1) v ↔ RB b l a c v ∨ v = addL (b.getD (l.getD a 0).toNat []) (b.getD (l.getD c 0).toNat []) := by
  constructor
  · rintro ⟨x, y, h1, h2, h3, h4⟩
    by_cases h : x = a ∧ y = c
    · obtain ⟨rfl, rfl⟩ := h; exact .inr h4
    · exact .inl ⟨x, y, h1, by omega, h3, h4⟩
  · rintro (⟨x, y, h1, h2, h3, h4⟩ | h4)
    · exact ⟨x, y, h1, by omega, h3, h4⟩
    · exact ⟨a, c, hc, .inr ⟨rfl, by omega⟩, ha, h4⟩
theorem rb_full {b : List (List Int)} {l v : List Int} : RB b l l.length 0 v ↔ ∃ x y : Nat, y < x ∧ x < l.length ∧ v = addL (b.getD (l.getD x 0).toNat []) (b.getD (l.getD y 0).toNat []) := by
  constructor
  · rintro ⟨x, y, h1, h2, h3, h4⟩; exact ⟨x, y, h1, h3, h4⟩
  · rintro ⟨x, y, h1, h3, h4⟩; exact ⟨x, y, h1, .inl h3, h3, h4⟩
def RBlks (b ls : List (List Int)) (v : List Int) : Prop := ∃ l ∈ ls, RB b l l.length 0 v
theorem rblks_zero {b ls : List (List Int)} {v : List Int} : ¬ RBlks b (ls.take 0) v := fun ⟨_, h, _⟩ => by simp at h
theorem rblks_succ {b ls : List (List Int)} {v : List Int} {i : Nat} (h : i < ls.length) : RBlks b (ls.take (i + 1)) v ↔ RBlks b (ls.take i) v ∨ RB b ls[i] ls[i].length 0 v := by
  rw [List.take_succ_eq_append_getElem h]
  unfold RBlks
  constructor
  · rintro ⟨l, hl, r⟩
    rcases List.mem_append.1 hl with hl | hl
    · exact .inl ⟨l, hl, r⟩
    · rw [List.mem_singleton.1 hl] at r; exact .inr r
  · rintro (⟨l, hl, r⟩ | r)
    · exact ⟨l, List.mem_append_left _ hl, r⟩
    · exact ⟨ls[i], List.mem_append_right _ (by simp), r⟩
theorem comps_lt {b S : List (List Int)} (hv : valid b.length (edTo b S b.length)) : ∀ l ∈ comps b S, ∀ x ∈ l, ∃ v : Nat, x = (v : Int) ∧ v < b.length := by
  intro l hl x hx
  obtain ⟨r, hr, h⟩ := (made_r (comps_made hv)).each l hl
  obtain ⟨v, rfl, hc⟩ := (h x).1 hx
  exact ⟨v, rfl, conn_lt hv hr hc⟩
theorem rblks_full {b ls S : List (List Int)} (hl : ∀ l ∈ ls, ∀ x ∈ l, ∃ v : Nat, x = (v : Int) ∧ v < b.length) (hsq : ∀ m ∈ b, addL m m ∈ S) {v : List Int} : (v ∈ S ∨ RBlks b ls v) ↔ (v ∈ S ∨ Blks b ls v) := by
  have hg : ∀ (l : List Int) (i : Nat), i < l.length → l.getD i 0 ∈ l := fun l i h => by rw [List.getD_eq_getElem?_getD, List.getElem?_eq_getElem h, Option.getD_some]; exact List.getElem_mem h
  constructor
  · rintro (h | ⟨l, h1, h2⟩)
    · exact .inl h
    · obtain ⟨x, y, hxy, hx, e⟩ := rb_full.1 h2
      exact .inr ⟨l, h1, _, hg l x hx, _, hg l y (by omega), e⟩
  · rintro (h | ⟨l, h1, x, hx, y, hy, rfl⟩)
    · exact .inl h
    · by_cases hxy : x = y
      · subst hxy
        left
        obtain ⟨v, rfl, hv⟩ := hl l h1 x hx
        rw [Int.toNat_natCast, List.getD_eq_getElem?_getD, List.getElem?_eq_getElem hv, Option.getD_some]
        exact hsq _ (List.getElem_mem _)
      · right
        refine ⟨l, h1, rb_full.2 ?_⟩
        obtain ⟨i, hi, rfl⟩ := List.getElem_of_mem hx
        obtain ⟨j, hj, rfl⟩ := List.getElem_of_mem hy
        have e1 : l.getD i 0 = l[i] := by simp [hi]
        have e2 : l.getD j 0 = l[j] := by simp [hj]
        rcases Nat.lt_trichotomy i j with h | h | h
        · exact ⟨j, i, h, hj, by rw [e1, e2, addL_comm]⟩
        · subst h; exact absurd rfl hxy
        · exact ⟨i, j, h, hi, by rw [e1, e2]⟩
theorem s0_sq {es b : List (List Int)} : ∀ m ∈ b, addL m m ∈ S0 es b := fun m hm => List.mem_append_right _ (List.mem_map.2 ⟨m, hm, rfl⟩)
/-- Only what is known decides the blocks. -/
theorem edTo_set {b S S' : List (List Int)} (h : ∀ v, v ∈ S ↔ v ∈ S') : edTo b S b.length = edTo b S' b.length := edTo_congr (fun _ _ _ _ => h _)
theorem comps_set {b S S' : List (List Int)} (h : ∀ v, v ∈ S ↔ v ∈ S') : comps b S = comps b S' := by
  unfold comps
  rw [edTo_set h]
end Go.Sp
end
section
/- Blocks told by a table of classes; the example of the sanity check: plain. -/
namespace Go.Sp
open Go.Gr Go.Ev Go.Jt
section
variable {n : Nat} {es : List (Int × Int)} {cls : Nat → Nat}
theorem cls_conn (h1 : ∀ e ∈ es, cls e.1.toNat = cls e.2.toNat) {a b : Nat} (hc : Conn (Rel es) a b) : cls a = cls b :=
  hc (fun x => cls a = cls x) rfl (fun x y hx hxy => by
    obtain ⟨e, he, h⟩ := (readT_iff _ _ _).1 hxy
    have := h1 e he
    rcases h with ⟨rfl, rfl⟩ | ⟨rfl, rfl⟩
    · exact hx.trans this
    · exact hx.trans this.symm)
theorem conn_cls (hv : valid n es) (h2 : ∀ v, v < n → cls v = v ∨ ((cls v : Int), (v : Int)) ∈ es) {a b : Nat} (ha : a < n) (hb : b < n) (h : cls a = cls b) : Conn (Rel es) a b := by
  have key : ∀ v, v < n → Conn (Rel es) (cls v) v := fun v hvn => by
    rcases h2 v hvn with e | e
    · rw [e]; exact Conn.refl v
    · exact Conn.step ((readT_iff _ _ _).2 ⟨_, e, .inl ⟨by simp, by simp⟩⟩)
  have h3 := key b hb
  rw [← h] at h3
  exact (Conn.symm (rel_sym hv) (key a ha)).trans h3
def clsTo (n : Nat) (cls : Nat → Nat) (k : Nat) : List (List Int) := ((List.range k).filter fun j => decide (cls j = j)).map fun j => ((List.range n).filter fun v => decide (cls v = j)).map fun v : Nat => (v : Int)
theorem made_cls (hv : valid n es) (h1 : ∀ e ∈ es, cls e.1.toNat = cls e.2.toNat) (h2 : ∀ v, v < n → cls v = v ∨ ((cls v : Int), (v : Int)) ∈ es) : ∀ k, k ≤ n → MadeL es k (clsTo n cls k)
  | 0, _ => .zero
  | k + 1, hk => by
    have ih := made_cls hv h1 h2 k (by omega)
    by_cases hc : cls k = k
    · have e : clsTo n cls (k + 1) = clsTo n cls k ++ [((List.range n).filter fun v => decide (cls v = k)).map fun v : Nat => (v : Int)] := by
        unfold clsTo
        rw [List.range_succ, List.filter_append, List.map_append, List.filter_cons_of_pos (by simpa using hc)]
        rfl
      rw [e]
      refine .add ih ?_ ?_ ?_
      · intro m hm hkm
        unfold clsTo at hm
        obtain ⟨j, hj, rfl⟩ := List.mem_map.1 hm
        obtain ⟨v, hv1, hv2⟩ := List.mem_map.1 hkm
        have hv3 := (List.mem_filter.1 hv1).2
        have hj1 := List.mem_range.1 (List.mem_filter.1 hj).1
        obtain rfl : v = k := by omega
        have hv4 : cls v = j := by simpa using hv3
        omega
      · rw [List.pairwise_map]
        exact ((List.pairwise_lt_range (n := n)).filter _).imp (fun hab => by omega)
      · intro x
        rw [List.mem_map]
        constructor
        · rintro ⟨v, hv1, rfl⟩
          obtain ⟨hv2, hv3⟩ := List.mem_filter.1 hv1
          have hv3 : cls v = k := by simpa using hv3
          exact ⟨v, rfl, conn_cls hv h2 (by omega) (List.mem_range.1 hv2) (by rw [hc, hv3])⟩
        · rintro ⟨v, rfl, hc2⟩
          refine ⟨v, List.mem_filter.2 ⟨List.mem_range.2 (conn_lt hv (by omega) hc2), ?_⟩, rfl⟩
          have := cls_conn h1 hc2
          simp; omega
    · have e : clsTo n cls (k + 1) = clsTo n cls k := by
        unfold clsTo
        rw [List.range_succ, List.filter_append, List.filter_cons_of_neg (by simpa using hc)]
        simp
      rw [e]
      refine .skip ih ?_
      rcases h2 k (by omega) with h | h
      · exact absurd h hc
      · have hlt : cls k < k := by
          obtain ⟨i, hi, he⟩ := List.getElem_of_mem h
          have := (hv.2.2 i hi (by omega)).1
          rw [he] at this
          have := this.2.1
          simp only at this
          omega
        have hcc : cls (cls k) = cls k := by have := h1 _ h; simpa using this
        refine ⟨((List.range n).filter fun v => decide (cls v = cls k)).map fun v : Nat => (v : Int), ?_, ?_⟩
        · unfold clsTo
          exact List.mem_map.2 ⟨cls k, List.mem_filter.2 ⟨List.mem_range.2 hlt, by simpa using hcc⟩, rfl⟩
        · exact List.mem_map.2 ⟨k, List.mem_filter.2 ⟨List.mem_range.2 (by omega), by simp⟩, rfl⟩
end
/-- The components, told by a table. -/
theorem comps_cls {b S : List (List Int)} (cls : Nat → Nat) (hb : b.length ≤ 64) (h1 : ∀ e ∈ edTo b S b.length, cls e.1.toNat = cls e.2.toNat) (h2 : ∀ v, v < b.length → cls v = v ∨ ((cls v : Int), (v : Int)) ∈ edTo b S b.length) :
    comps b S = clsTo b.length cls b.length := by
  have hv := ed_valid b S hb
  exact MadeR.same (fun _ _ _ => Iff.rfl) (made_r (comps_made hv)) (made_r (made_cls hv h1 h2 _ (Nat.le_refl _)))
def awB : List (List Int) := [[0, 0], [0, 1], [1, 0], [0, 2], [1, 1], [2, 0]]
def awE : List (List Int) := [[4, 0], [0, 4], [0, 0]]
def awC (v : Nat) : Nat := if v = 3 ∨ v = 5 then 0 else v
theorem aw_ed0 : edTo awB (S0 awE awB) awB.length = [(0, 3), (0, 5), (3, 5)] := by decide +kernel
theorem aw_c0 : comps awB (S0 awE awB) = [[0, 3, 5], [1], [2], [4]] := by
  rw [comps_cls awC (by decide) (by rw [aw_ed0]; decide) (by rw [aw_ed0]; decide)]
  decide +kernel
theorem aw_ed1 : edTo awB (setAt awB (S0 awE awB) 1) awB.length = [(0, 3), (0, 5), (3, 5)] := by
  show edTo awB (S0 awE awB ++ blockAll awB (comps awB (S0 awE awB))) awB.length = _
  rw [aw_c0]
  decide +kernel
theorem aw_c1 : comps awB (setAt awB (S0 awE awB) 1) = [[0, 3, 5], [1], [2], [4]] := by
  rw [comps_cls awC (by decide) (by rw [aw_ed1]; decide) (by rw [aw_ed1]; decide)]
  decide +kernel
end Go.Sp
end
section
/- The monomials of a valid polynomial are valid: plain. -/
namespace Go.Sp
open Go.Gr Go.Ev Go.Mo
theorem ord_pos {a b : List Int} (h : 0 < Mo.ord a b) : b.sum ≤ a.sum := by
  unfold Mo.ord at h
  split at h
  · omega
  · split at h
    · omega
    · omega
theorem vldP_all {v : Int} {ts : List Term} (h : VldP v ts) : ∀ i (hi : i < ts.length), vldM ts[i].2 = true ∧ (ts[i].2.length : Int) = v := by
  obtain ⟨_, ⟨h0, h6, hw⟩, hv⟩ := h
  have hsum : ∀ i (hi : i < ts.length), ts[i].2.sum ≤ 24 := by
    intro i
    induction i with
    | zero => intro hi; exact (vldM_iff.1 (hv hi)).2.2
    | succ i ih =>
      intro hi
      have h1 := (hw (i + 1) hi hi).2 (by omega)
      have h2 := ord_pos h1
      have h3 := ih (by omega)
      rw [show i + 1 - 1 = i by omega, List.getD_eq_getElem?_getD, List.getElem?_eq_getElem (by omega), Option.getD_some] at h2
      omega
  intro i hi
  have h1 := termOk_iff.1 (hw i hi hi).1
  refine ⟨vldM_iff.2 ⟨by have := h1.2.1; omega, fun e he => (low20_iff.1 h1.2.2 e he).1, hsum i hi⟩, h1.2.1⟩
theorem vldP_dom {n : Nat} {ts : List Term} (h : VldP (n : Int) ts) : ∀ t ∈ ts, domK n 24 t.2 := by
  intro t ht
  obtain ⟨i, hi, rfl⟩ := List.getElem_of_mem ht
  have h1 := vldP_all h i hi
  have h2 := vld_dom h1.1
  rwa [show ts[i].2.length = n by have := h1.2; omega] at h2
end Go.Sp
end
section
/- The graph made from the edges of a set of monomials has just these edges: plain. -/
namespace Go.Sp
open Go.Gr Go.Ev Go.Jt
theorem tableEdges_congr {t t' : Nat → Nat → Bool} {n : Nat} (h : ∀ i k, i < n → k < n → i < k → t i k = t' i k) : tableEdges t n n = tableEdges t' n n := by
  unfold tableEdges
  have : ∀ i ∈ List.range n, rowT t i n = rowT t' i n := by
    intro i hi
    unfold rowT
    have hf : ((List.range n).filter fun k => decide (i < k) && t i k) = (List.range n).filter fun k => decide (i < k) && t' i k := by
      refine List.filter_congr (fun k hk => ?_)
      by_cases hik : i < k
      · rw [h i k (List.mem_range.1 hi) (List.mem_range.1 hk) hik]
      · rw [decide_eq_false hik]; rfl
    rw [hf]
  rw [List.flatMap_def, List.flatMap_def, List.map_congr_left this]
theorem ed_range {b S : List (List Int)} (h : b.length ≤ 64) : rangeOk (b.length : Int) (edTo b S b.length) ∧ ∀ e ∈ edTo b S b.length, e.1 ≠ e.2 := by
  refine ⟨⟨⟨by omega, by omega⟩, fun e he => ?_⟩, fun e he => ?_⟩
  · obtain ⟨i, j, rfl, h1, h2, _⟩ := edTo_mem.1 he
    unfold inR
    simp only
    omega
  · obtain ⟨i, j, rfl, h1, h2, _⟩ := edTo_mem.1 he
    simp only
    omega
theorem ed_make {b S : List (List Int)} (h : b.length ≤ 64) : writeEdges (readAll (edTo b S b.length)) b.length = edTo b S b.length := by
  have h1 := ed_range (S := S) h
  have h2 := make_edges h1.1 h1.2
  rw [Int.toNat_natCast] at h2
  rw [h2, ← tableEdges_congr (t := tP b S b.length 0) (fun i k hi hk _ => tP_read hi hk), tP_edges]
theorem edPart_len (b S : List (List Int)) (i m : Nat) : (edPart b S i m).length ≤ m := by
  unfold edPart
  rw [List.length_map]
  have := List.length_filter_le (fun j => decide (i < j) && decide (addL (b.getD i []) (b.getD j []) ∈ S)) (List.range m)
  rwa [List.length_range] at this
end Go.Sp
end
section
/- The errors of a polynomial and of constraints; the pairs of variables that occur together: plain, and the first loops of Variables. -/
namespace Go.Proofs.Tg.Sx
open Go.RowKit Go.Gr Go.Sp Go.Ev Go.Mo
set_option maxHeartbeats 4000000
set_option maxRecDepth 100000
/-- The error of an objective and constraints. -/
noncomputable def errV (p : PVal) (ps : List PVal) : Int :=
  @ite _ (p.ok ∧ ∀ c ∈ ps, c.ok) (Classical.propDecidable _) (if ∀ c ∈ ps, c.vars = p.vars then (if ps.length ≤ 32 then 0 else 2) else 4) 1
theorem errV_bad {p : PVal} {ps : List PVal} (h : ¬ (p.ok ∧ ∀ c ∈ ps, c.ok)) : errV p ps = 1 := by unfold errV; rw [if_neg h]
theorem errV_shape {p : PVal} {ps : List PVal} (h : p.ok ∧ ∀ c ∈ ps, c.ok) (h2 : ¬ ∀ c ∈ ps, c.vars = p.vars) : errV p ps = 4 := by unfold errV; rw [if_pos h, if_neg h2]
theorem errV_lim {p : PVal} {ps : List PVal} (h : p.ok ∧ ∀ c ∈ ps, c.ok) (h2 : ∀ c ∈ ps, c.vars = p.vars) (h3 : ¬ ps.length ≤ 32) : errV p ps = 2 := by unfold errV; rw [if_pos h, if_pos h2, if_neg h3]
theorem errV_ok {p : PVal} {ps : List PVal} (h : p.ok ∧ ∀ c ∈ ps, c.ok) (h2 : ∀ c ∈ ps, c.vars = p.vars) (h3 : ps.length ≤ 32) : errV p ps = 0 := by unfold errV; rw [if_pos h, if_pos h2, if_pos h3]
theorem errV_zero {p : PVal} {ps : List PVal} (h : errV p ps = 0) : (p.ok ∧ ∀ c ∈ ps, c.ok) ∧ (∀ c ∈ ps, c.vars = p.vars) ∧ ps.length ≤ 32 := by
  unfold errV at h
  split at h
  · rename_i h1
    split at h
    · rename_i h2
      split at h
      · rename_i h3
        exact ⟨h1, h2, h3⟩
      · cases h
    · cases h
  · cases h
/-- Two variables occur in one of the terms. -/
def inT (ts : List TV) (x y : Nat) : Prop := ∃ t ∈ ts, 0 < t.exps.getD x 0 ∧ 0 < t.exps.getD y 0
/-- A variable occurs in a polynomial. -/
def occ (ts : List TV) (x : Nat) : Prop := ∃ t ∈ ts, 0 < t.exps.getD x 0
def inC (ps : List PVal) (x y : Nat) : Prop := ∃ c ∈ ps, occ c.tv x ∧ occ c.tv y
/-- Two variables are joined. -/
noncomputable def jV (p : PVal) (ps : List PVal) (x y : Nat) : Bool := @decide (inT p.tv x y ∨ inC ps x y) (Classical.propDecidable _)
theorem jV_iff {p : PVal} {ps : List PVal} {x y : Nat} : jV p ps x y = true ↔ inT p.tv x y ∨ inC ps x y := by unfold jV; exact @decide_eq_true_iff _ (Classical.propDecidable _)
theorem kv_getD (m : List Int) {x : Nat} (h : x < 6) : (kv m).getD x 0 = m.getD x 0 := by rw [List.getD_eq_getElem?_getD, kv_at m h, Option.getD_some]
theorem inT_succ {ts : List TV} {k : Nat} (hk : k < ts.length) {x y : Nat} : inT (ts.take (k + 1)) x y ↔ inT (ts.take k) x y ∨ (0 < ts[k].exps.getD x 0 ∧ 0 < ts[k].exps.getD y 0) := by
  unfold inT
  constructor
  · rintro ⟨t, ht, h⟩
    rcases List.mem_cons.1 ((take_mem_succ hk t).2 ht) with rfl | h2
    · exact .inr h
    · exact .inl ⟨t, h2, h⟩
  · rintro (⟨t, ht, h⟩ | h)
    · exact ⟨t, (take_mem_succ hk t).1 (List.mem_cons_of_mem _ ht), h⟩
    · exact ⟨_, (take_mem_succ hk _).1 (List.mem_cons_self ..), h⟩
theorem inC_succ {ps : List PVal} {k : Nat} (hk : k < ps.length) {x y : Nat} : inC (ps.take (k + 1)) x y ↔ inC (ps.take k) x y ∨ (occ ps[k].tv x ∧ occ ps[k].tv y) := by
  unfold inC
  constructor
  · rintro ⟨t, ht, h⟩
    rcases List.mem_cons.1 ((take_mem_succ hk t).2 ht) with rfl | h2
    · exact .inr h
    · exact .inl ⟨t, h2, h⟩
  · rintro (⟨t, ht, h⟩ | h)
    · exact ⟨t, (take_mem_succ hk t).1 (List.mem_cons_of_mem _ ht), h⟩
    · exact ⟨_, (take_mem_succ hk _).1 (List.mem_cons_self ..), h⟩
theorem occ_succ {ts : List TV} {k : Nat} (hk : k < ts.length) {x : Nat} : occ (ts.take (k + 1)) x ↔ occ (ts.take k) x ∨ 0 < ts[k].exps.getD x 0 := by
  unfold occ
  constructor
  · rintro ⟨t, ht, h⟩
    rcases List.mem_cons.1 ((take_mem_succ hk t).2 ht) with rfl | h2
    · exact .inr h
    · exact .inl ⟨t, h2, h⟩
  · rintro (⟨t, ht, h⟩ | h)
    · exact ⟨t, (take_mem_succ hk t).1 (List.mem_cons_of_mem _ ht), h⟩
    · exact ⟨_, (take_mem_succ hk _).1 (List.mem_cons_self ..), h⟩
/-- The sums of the exponents of the first terms: never below nought, above it just where the variable occurs. -/
structure Sums (ts : List TV) (xs : List Int) (bd : Int) : Prop where
  len : xs.length = 6
  ge : ∀ x ∈ xs, 0 ≤ x ∧ x ≤ bd
  iff : ∀ i, i < 6 → (0 < xs.getD i 0 ↔ occ ts i)
/-- The table holds just the pairs of P. -/
def JP (J : Nat → Nat → Bool) (P : Nat → Nat → Prop) : Prop := ∀ x y, x < y → y < 6 → (J x y = true ↔ P x y)
theorem JP.join {J : Nat → Nat → Bool} {P : Nat → Nat → Prop} (h : JP J P) (xs : List Int) : JP (jTo J xs 6 0) (fun x y => P x y ∨ (0 < xs.getD x 0 ∧ 0 < xs.getD y 0)) := by
  intro x y hxy hy
  unfold jTo
  rw [Bool.or_eq_true, decide_eq_true_eq, h x y hxy hy]
  constructor
  · rintro (h | h)
    · exact .inl h
    · exact .inr ⟨h.2.2.2.1, h.2.2.2.2⟩
  · rintro (h | h)
    · exact .inl h
    · exact .inr ⟨hxy, hy, by omega, h.1, h.2⟩
theorem JP.congr {J : Nat → Nat → Bool} {P Q : Nat → Nat → Prop} (h : JP J P) (hp : ∀ x y, x < y → y < 6 → (P x y ↔ Q x y)) : JP J Q := fun x y h1 h2 => (h x y h1 h2).trans (hp x y h1 h2)
/-- The graph made from the edges of a table has just these edges. -/
theorem te_make {t : Nat → Nat → Bool} {n : Nat} (hn : n ≤ 64) : writeEdges (readAll (tableEdges t n n)) n = tableEdges t n n := by
  have hv := tableEdges_valid t hn
  have hg := valid_good hv
  have h2 := make_edges (n := (n : Int)) (es := tableEdges t n n) ⟨⟨by omega, by omega⟩, fun e he => by
    have := hg e he
    unfold goodEdge at this
    unfold inR
    omega⟩ (fun e he => by
    have := hg e he
    unfold goodEdge at this
    omega)
  rw [Int.toNat_natCast] at h2
  rw [h2]
  refine tableEdges_congr (fun i k hi hk hik => ?_)
  rw [Bool.eq_iff_iff, readT_table]
  constructor
  · rintro (h | h)
    · exact h.2.2
    · omega
  · exact fun h => .inl ⟨hik, hk, h⟩
theorem te_JP {J : Nat → Nat → Bool} {p : PVal} {ps : List PVal} (h : JP J fun x y => inT p.tv x y ∨ inC ps x y) {n : Nat} (hn : n ≤ 6) : tableEdges J n n = tableEdges (jV p ps) n n :=
  tableEdges_congr (fun i k hi hk hik => by rw [Bool.eq_iff_iff, jV_iff, h i k hik (by omega)])
def RetVar (p : PVal) (ps : List PVal) (w : World) (e : Ending) (w' : World) : Prop := Below w.heap.size w w' ∧
  ((errV p ps ≠ 0 ∧ e = .returned (.tuple #[Gx.zeroG, .int .i64 (errV p ps)])) ∨
    (errV p ps = 0 ∧ ∃ n : Nat, p.vars = n ∧ n ≤ 6 ∧ ∃ F d, e = .returned (.tuple #[.agg #[.int .i64 n, .slice F (tableEdges (jV p ps) n n).length d], .int .i64 0]) ∧ Gx.EdgesAt w' F (tableEdges (jV p ps) n n)))
theorem below_tab {w w1 w2 : World} {B g : Nat} (h : Below B w w1) (hl : g < w1.heap.size) (hg : w1.grownBy w2 (some g)) (hB : B ≤ g) : Below B w w2 :=
  h.grown hg (by omega) (fun q hq => by injection hq with hq; omega)
end Go.Proofs.Tg.Sx
end
section
/- The program's graph of the variables. -/
namespace Go.Proofs.Tg.Sx
open Go.RowKit Go.Gr Go.Sp Go.Ev Go.Mo
set_option maxHeartbeats 4000000
set_option maxRecDepth 100000
theorem j36 : (#[.bool false, .bool false, .bool false, .bool false, .bool false, .bool false, .bool false, .bool false, .bool false, .bool false, .bool false, .bool false, .bool false, .bool false, .bool false, .bool false, .bool false, .bool false, .bool false, .bool false, .bool false, .bool false, .bool false, .bool false, .bool false, .bool false, .bool false, .bool false, .bool false, .bool false, .bool false, .bool false, .bool false, .bool false, .bool false, .bool false] : Array Value) = jarr (fun _ _ => false) := rfl
end Go.Proofs.Tg.Sx
end
section
/- The statements' Mod and made. -/
namespace Go.Gr
/-- The rest that is not negative. -/
def modZ (a n : Int) : Int := if a.tmod n < 0 then a.tmod n + n else a.tmod n
theorem modZ_in (a : Int) {n : Int} (hn : 0 < n) : 0 ≤ modZ a n ∧ modZ a n < n := by
  have h1 := Int.tmod_lt_of_pos a hn
  have h2 := Int.lt_tmod_of_pos a hn
  unfold modZ
  split <;> omega
/-- The pairs that made keeps. -/
def madeEs (m : Int) (es : List (Int × Int)) : List (Int × Int) := (es.map fun e => (modZ e.1 m, modZ e.2 m)).filter fun e => decide (e.1 ≠ e.2)
theorem madeEs_snoc (m : Int) (es : List (Int × Int)) (a b : Int) : madeEs m (es ++ [(a, b)]) = madeEs m es ++ if modZ a m = modZ b m then [] else [(modZ a m, modZ b m)] := by
  unfold madeEs
  rw [List.map_append, List.filter_append]
  by_cases h : modZ a m = modZ b m <;> simp [h]
theorem madeEs_ok {m : Int} (hm : 0 < m) (h64 : m ≤ 64) (es : List (Int × Int)) : rangeOk m (madeEs m es) ∧ ∀ x ∈ madeEs m es, x.1 ≠ x.2 := by
  refine ⟨⟨⟨by omega, h64⟩, fun e he => ?_⟩, fun x hx => ?_⟩
  · unfold madeEs at he
    obtain ⟨x, _, rfl⟩ := List.mem_map.1 (List.mem_filter.1 he).1
    have h1 := modZ_in x.1 hm
    have h2 := modZ_in x.2 hm
    exact ⟨h1.1, h1.2, h2.1, h2.2⟩
  · unfold madeEs at hx
    simpa using (List.mem_filter.1 hx).2
end Go.Gr
namespace Go.Proofs.Tg.Gx
open Go.RowKit Go.Gr
set_option maxHeartbeats 2000000
set_option maxRecDepth 100000
end Go.Proofs.Tg.Gx
end
section
/- The statements' made: a small valid graph, whatever comes in. -/
namespace Go.Proofs.Tg.Gx
open Go.RowKit Go.Gr
set_option maxHeartbeats 2000000
set_option maxRecDepth 100000
def okEs (m : Int) (fs : List (Int × Int)) : Prop := rangeOk m fs ∧ ∀ x ∈ fs, x.1 ≠ x.2
theorem okEs_snoc {m : Int} {fs : List (Int × Int)} (h : okEs m fs) (a b : Int) (hm : 0 < m) (hab : modZ a m ≠ modZ b m) : okEs m (fs ++ [(modZ a m, modZ b m)]) := by
  have h1 := modZ_in a hm
  have h2 := modZ_in b hm
  refine ⟨⟨h.1.1, fun e he => ?_⟩, fun e he => ?_⟩
  · rcases List.mem_append.1 he with he | he
    · exact h.1.2 e he
    · simp at he; subst he; exact ⟨h1.1, h1.2, h2.1, h2.2⟩
  · rcases List.mem_append.1 he with he | he
    · exact h.2 e he
    · simp at he; subst he; exact hab
def RetMade (w : World) (e : Ending) (w' : World) : Prop :=
  ∃ (m : Nat) (fs : List (Int × Int)) (F : Option Addr) (d : Nat), m ≤ 8 ∧ valid m fs ∧ fs.length ≤ 64 ∧ e = .returned (.tuple #[.agg #[.int .i64 m, .slice F fs.length d], .bool true]) ∧ EdgesAt w' F fs ∧ Below w.heap.size w w'
end Go.Proofs.Tg.Gx
end
section
/- Adjacent and Neighbors. -/
namespace Go.Proofs.Tg.Gx
open Go.RowKit Go.Gr
set_option maxHeartbeats 1000000
set_option maxRecDepth 100000
theorem adj_in (n : Nat) (E : Option Addr) (c : Nat) (es : List (Int × Int)) (i j : Nat) (w : World) (hE : EdgesAt w E es) (hl : es.length ≤ 1000000) (hv : valid n es) (hi : i < n) (hj : j < n) :
    Calls Tryz.prog 15 #[.agg #[.int .i64 n, .slice E es.length c], .int .i64 i, .int .i64 j] w fun e w' => e = .returned (.bool ((readAll es i).testBit j)) ∧ Below w.heap.size w w' := by
  have hr := read_all n E c es true (w.alloc (.cells #[.int .i64 n, .slice E es.length c] 30)) (hE.keep ((Below.refl _ _).alloc (Nat.le_refl _) _)) hl (by simp [hv])
  have hsm := (readAll_small es n hv).1
  have hn : n ≤ 64 := by have := hv.2.1; omega
  have hbA : Below w.heap.size w (w.alloc (.cells #[.int .i64 n, .slice E es.length c] 30)) := (Below.refl _ _).alloc (Nat.le_refl _) _
  have hB := Blk.new w 30 #[.int .i64 n, .slice E es.length c]
  have HR := Lib.hid hr
  have HB := Lib.hid hB
  clear hr hv hB
  have d1 : decide ((0 : Int) ≤ (i : Int)) = true := by simp
  have d2 : decide ((i : Int) < (n : Int)) = true := by simp; omega
  have d3 : decide ((0 : Int) ≤ (j : Int)) = true := by simp
  have d4 : decide ((j : Int) < (n : Int)) = true := by simp; omega
  have hs1 := hsm i
  go_enter Tryz.func15, Tryz.ntmps15
  go_wp2_with (first
    | (go_at_call 27; refine HR.out.mono ?_; rintro e w1 ⟨A, hAs, rfl, hAe, hb1⟩; obtain rfl := hAe rfl; clear hAe)
    | (refine adj_alloc _ _ _ _ ?_)
    | (refine wpList_store_row rfl 76 (.tmp 7) (.tmp 12) rfl w1.heap.size (adjA (readAll es)) rfl rfl 76 (adjA fun _ => 0) (Blk.new w1 76 _) (size56 _) (by simp only [adjA_size]) (adj_one _) ?_
       have hA1 := blk_setRow (Blk.new w1 76 (adjA fun _ => 0)) (adjA (readAll es))
       have hB1 := blk_setRow_far (Blk.alloc (HB.out.keep hb1 (Blk.lt HB.out)) (.cells (adjA fun _ => 0) 76)) (g' := w1.heap.size) (by have := hb1.size; simp at this; omega) (adjA (readAll es))
       have hbw := below_setRow ((hbA.trans (hb1.mono (by simp))).alloc (by have := hb1.size; simp at this; omega) (.cells (adjA fun _ => 0) 76)) (g := w1.heap.size) (by have := hb1.size; simp at this; omega) (adjA (readAll es))
       have c0 := hB1.cell 0
       simp at c0
       have ci := AdjAt.cell hA1 (show i < 64 by omega)
       generalize (w1.alloc (.cells (adjA fun _ => 0) 76)).setRow w1.heap.size (adjA (readAll es)) = W at hA1 hB1 hbw c0 ci ⊢)
    | (go_at_call 28; refine (has_any _ _ _ hs1 (by omega)).mono ?_; rintro e w2 ⟨rfl, rfl⟩))
  go_ret
  exact ⟨rfl, hbw⟩
theorem adj_out (n : Nat) (E : Option Addr) (c : Nat) (es : List (Int × Int)) (i j : Int) (w : World) (hE : EdgesAt w E es) (hl : es.length ≤ 1000000) (hv : valid n es) (hij : ¬ (0 ≤ i ∧ i < n ∧ 0 ≤ j ∧ j < n)) :
    Calls Tryz.prog 15 #[.agg #[.int .i64 n, .slice E es.length c], .int .i64 i, .int .i64 j] w fun e w' => e = .returned (.bool false) ∧ Below w.heap.size w w' := by
  have hr := read_all n E c es true (w.alloc (.cells #[.int .i64 n, .slice E es.length c] 30)) (hE.keep ((Below.refl _ _).alloc (Nat.le_refl _) _)) hl (by simp [hv])
  have hsm := (readAll_small es n hv).1
  have hn : n ≤ 64 := by have := hv.2.1; omega
  have hbA : Below w.heap.size w (w.alloc (.cells #[.int .i64 n, .slice E es.length c] 30)) := (Below.refl _ _).alloc (Nat.le_refl _) _
  have hB := Blk.new w 30 #[.int .i64 n, .slice E es.length c]
  have HR := Lib.hid hr
  have HB := Lib.hid hB
  clear hr hv hB
  by_cases h1 : 0 ≤ i
  · have d1 : decide (0 ≤ i) = true := by simpa using h1
    by_cases h2 : i < n
    · have d2 : decide (i < (n : Int)) = true := by simpa using h2
      by_cases h3 : 0 ≤ j
      · have d3 : decide (0 ≤ j) = true := by simpa using h3
        have d4 : decide (j < (n : Int)) = false := by simp; omega
        clear hij
        go_enter Tryz.func15, Tryz.ntmps15
        go_wp2_with (first
          | (go_at_call 27; refine HR.out.mono ?_; rintro e w1 ⟨A, hAs, rfl, hAe, hb1⟩; obtain rfl := hAe rfl; clear hAe)
          | (refine adj_alloc _ _ _ _ ?_)
          | (refine wpList_store_row rfl 76 (.tmp 7) (.tmp 12) rfl w1.heap.size (adjA (readAll es)) rfl rfl 76 (adjA fun _ => 0) (Blk.new w1 76 _) (size56 _) (by simp only [adjA_size]) (adj_one _) ?_
             have hA1 := blk_setRow (Blk.new w1 76 (adjA fun _ => 0)) (adjA (readAll es))
             have hB1 := blk_setRow_far (Blk.alloc (HB.out.keep hb1 (Blk.lt HB.out)) (.cells (adjA fun _ => 0) 76)) (g' := w1.heap.size) (by have := hb1.size; simp at this; omega) (adjA (readAll es))
             have hbw := below_setRow ((hbA.trans (hb1.mono (by simp))).alloc (by have := hb1.size; simp at this; omega) (.cells (adjA fun _ => 0) 76)) (g := w1.heap.size) (by have := hb1.size; simp at this; omega) (adjA (readAll es))
             have c0 := hB1.cell 0
             simp at c0
             generalize (w1.alloc (.cells (adjA fun _ => 0) 76)).setRow w1.heap.size (adjA (readAll es)) = W at hA1 hB1 hbw c0 ⊢))
        go_ret
        exact ⟨rfl, hbw⟩
      · have d3 : decide (0 ≤ j) = false := by simpa using h3
        clear hij
        go_enter Tryz.func15, Tryz.ntmps15
        go_wp2_with (first
          | (go_at_call 27; refine HR.out.mono ?_; rintro e w1 ⟨A, hAs, rfl, hAe, hb1⟩; obtain rfl := hAe rfl; clear hAe)
          | (refine adj_alloc _ _ _ _ ?_)
          | (refine wpList_store_row rfl 76 (.tmp 7) (.tmp 12) rfl w1.heap.size (adjA (readAll es)) rfl rfl 76 (adjA fun _ => 0) (Blk.new w1 76 _) (size56 _) (by simp only [adjA_size]) (adj_one _) ?_
             have hA1 := blk_setRow (Blk.new w1 76 (adjA fun _ => 0)) (adjA (readAll es))
             have hB1 := blk_setRow_far (Blk.alloc (HB.out.keep hb1 (Blk.lt HB.out)) (.cells (adjA fun _ => 0) 76)) (g' := w1.heap.size) (by have := hb1.size; simp at this; omega) (adjA (readAll es))
             have hbw := below_setRow ((hbA.trans (hb1.mono (by simp))).alloc (by have := hb1.size; simp at this; omega) (.cells (adjA fun _ => 0) 76)) (g := w1.heap.size) (by have := hb1.size; simp at this; omega) (adjA (readAll es))
             have c0 := hB1.cell 0
             simp at c0
             generalize (w1.alloc (.cells (adjA fun _ => 0) 76)).setRow w1.heap.size (adjA (readAll es)) = W at hA1 hB1 hbw c0 ⊢))
        go_ret
        exact ⟨rfl, hbw⟩
    · have d2 : decide (i < (n : Int)) = false := by simpa using h2
      clear hij
      go_enter Tryz.func15, Tryz.ntmps15
      go_wp2_with (first
        | (go_at_call 27; refine HR.out.mono ?_; rintro e w1 ⟨A, hAs, rfl, hAe, hb1⟩; obtain rfl := hAe rfl; clear hAe)
        | (refine adj_alloc _ _ _ _ ?_)
        | (refine wpList_store_row rfl 76 (.tmp 7) (.tmp 12) rfl w1.heap.size (adjA (readAll es)) rfl rfl 76 (adjA fun _ => 0) (Blk.new w1 76 _) (size56 _) (by simp only [adjA_size]) (adj_one _) ?_
           have hA1 := blk_setRow (Blk.new w1 76 (adjA fun _ => 0)) (adjA (readAll es))
           have hB1 := blk_setRow_far (Blk.alloc (HB.out.keep hb1 (Blk.lt HB.out)) (.cells (adjA fun _ => 0) 76)) (g' := w1.heap.size) (by have := hb1.size; simp at this; omega) (adjA (readAll es))
           have hbw := below_setRow ((hbA.trans (hb1.mono (by simp))).alloc (by have := hb1.size; simp at this; omega) (.cells (adjA fun _ => 0) 76)) (g := w1.heap.size) (by have := hb1.size; simp at this; omega) (adjA (readAll es))
           have c0 := hB1.cell 0
           simp at c0
           generalize (w1.alloc (.cells (adjA fun _ => 0) 76)).setRow w1.heap.size (adjA (readAll es)) = W at hA1 hB1 hbw c0 ⊢))
      go_ret
      exact ⟨rfl, hbw⟩
  · have d1 : decide (0 ≤ i) = false := by simpa using h1
    clear hij
    go_enter Tryz.func15, Tryz.ntmps15
    go_wp2_with (first
      | (go_at_call 27; refine HR.out.mono ?_; rintro e w1 ⟨A, hAs, rfl, hAe, hb1⟩; obtain rfl := hAe rfl; clear hAe)
      | (refine adj_alloc _ _ _ _ ?_)
      | (refine wpList_store_row rfl 76 (.tmp 7) (.tmp 12) rfl w1.heap.size (adjA (readAll es)) rfl rfl 76 (adjA fun _ => 0) (Blk.new w1 76 _) (size56 _) (by simp only [adjA_size]) (adj_one _) ?_
         have hA1 := blk_setRow (Blk.new w1 76 (adjA fun _ => 0)) (adjA (readAll es))
         have hB1 := blk_setRow_far (Blk.alloc (HB.out.keep hb1 (Blk.lt HB.out)) (.cells (adjA fun _ => 0) 76)) (g' := w1.heap.size) (by have := hb1.size; simp at this; omega) (adjA (readAll es))
         have hbw := below_setRow ((hbA.trans (hb1.mono (by simp))).alloc (by have := hb1.size; simp at this; omega) (.cells (adjA fun _ => 0) 76)) (g := w1.heap.size) (by have := hb1.size; simp at this; omega) (adjA (readAll es))
         have c0 := hB1.cell 0
         simp at c0
         generalize (w1.alloc (.cells (adjA fun _ => 0) 76)).setRow w1.heap.size (adjA (readAll es)) = W at hA1 hB1 hbw c0 ⊢))
    go_ret
    exact ⟨rfl, hbw⟩
theorem adj_bad (n : Int) (E : Option Addr) (c : Nat) (es : List (Int × Int)) (i j : Int) (w : World) (hE : EdgesAt w E es) (hl : es.length ≤ 1000000) (hv : ¬ valid n es) :
    Calls Tryz.prog 15 #[.agg #[.int .i64 n, .slice E es.length c], .int .i64 i, .int .i64 j] w fun e w' => e = .returned (.bool false) ∧ Below w.heap.size w w' := by
  have hr := read_all n E c es false (w.alloc (.cells #[.int .i64 n, .slice E es.length c] 30)) (hE.keep ((Below.refl _ _).alloc (Nat.le_refl _) _)) hl (by simp [hv])
  have hbA : Below w.heap.size w (w.alloc (.cells #[.int .i64 n, .slice E es.length c] 30)) := (Below.refl _ _).alloc (Nat.le_refl _) _
  have HR := Lib.hid hr
  clear hr hv
  go_enter Tryz.func15, Tryz.ntmps15
  go_wp2_with (first
    | (go_at_call 27; refine HR.out.mono ?_; rintro e w1 ⟨A, hAs, rfl, -, hb1⟩)
    | (refine adj_alloc _ _ _ _ ?_)
    | (refine wpList_store_row rfl 76 (.tmp 7) (.tmp 12) rfl w1.heap.size (adjA A) rfl rfl 76 (adjA fun _ => 0) (Blk.new w1 76 _) (size56 _) (by simp only [adjA_size]) (adj_one _) ?_
       have hbw := below_setRow ((hbA.trans (hb1.mono (by simp))).alloc (by have := hb1.size; simp at this; omega) (.cells (adjA fun _ => 0) 76)) (g := w1.heap.size) (by have := hb1.size; simp at this; omega) (adjA A)
       generalize (w1.alloc (.cells (adjA fun _ => 0) 76)).setRow w1.heap.size (adjA A) = W at hbw ⊢))
  go_ret
  exact ⟨rfl, hbw⟩
/-- What Adjacent answers. -/
def adjB (n : Int) (es : List (Int × Int)) (i j : Int) : Prop := valid n es ∧ (0 ≤ i ∧ i < n ∧ 0 ≤ j ∧ j < n) ∧ (readAll es i.toNat).testBit j.toNat = true
theorem adj_any (n : Int) (E : Option Addr) (c : Nat) (es : List (Int × Int)) (i j : Int) (b : Bool) (w : World) (hE : EdgesAt w E es) (hl : es.length ≤ 1000000) (hb : b = true ↔ adjB n es i j) :
    Calls Tryz.prog 15 #[.agg #[.int .i64 n, .slice E es.length c], .int .i64 i, .int .i64 j] w fun e w' => e = .returned (.bool b) ∧ Below w.heap.size w w' := by
  by_cases hv : valid n es
  · obtain ⟨m, rfl⟩ := Int.eq_ofNat_of_zero_le hv.1
    by_cases hij : 0 ≤ i ∧ i < m ∧ 0 ≤ j ∧ j < m
    · obtain ⟨i, rfl⟩ := Int.eq_ofNat_of_zero_le hij.1
      obtain ⟨j, rfl⟩ := Int.eq_ofNat_of_zero_le hij.2.2.1
      have e : b = (readAll es i).testBit j := by
        rw [Bool.eq_iff_iff, hb]
        exact ⟨fun h => h.2.2, fun h => ⟨hv, hij, h⟩⟩
      rw [e]
      exact adj_in m E c es i j w hE hl hv (by omega) (by omega)
    · obtain rfl : b = false := by
        cases b
        · rfl
        · exact absurd (hb.1 rfl).2.1 hij
      exact adj_out m E c es i j w hE hl hv hij
  · obtain rfl : b = false := by
      cases b
      · rfl
      · exact absurd (hb.1 rfl).1 hv
    exact adj_bad n E c es i j w hE hl hv
end Go.Proofs.Tg.Gx
end
