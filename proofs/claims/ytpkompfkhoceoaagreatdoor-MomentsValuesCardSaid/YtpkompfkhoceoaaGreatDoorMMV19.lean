/- Parts of the proof: ST2. -/
import Derived.Deep.RegionHeld3
import Derived.Maps.AppendAt
import Derived.Test.YtpkompfkhoceoaaGreatDoorMMV15
import Derived.Test.YtpkompfkhoceoaaGreatDoorMMV17
import Derived.Test.YtpkompfkhoceoaaGreatDoorMMV18
section
/- The harness's sort of terms: sorted. -/
namespace Go.Proofs.Tg
open Go.RowKit Go.Gr Go.Bn Go.Rq Go.Mo Go.Rs
set_option maxHeartbeats 16000000
set_option maxRecDepth 100000
/-- Which of two terms comes first. -/
def leT (a b : TQ) : Bool := decide (0 ≤ Mo.ord a.el b.el)
/-- What the merging loop holds. -/
structure MgSt (w2 wr : World) (xs ys : List TQ) (i k : Nat) (R : Option Addr) (c : Nat) (out : List TQ) : Prop where
  own : wr.ownsRow w2.heap.size 99 5 (.slice R (i + k) c) (i + k) (out.flatMap TQ.cells)
  mem : ∀ t ∈ out, t.Ok w2
  len : out.length = i + k
  eq : out ++ List.merge (xs.drop i) (ys.drop k) leT = List.merge xs ys leT
  below : Below w2.heap.size w2 wr
/-- Whether the next term comes from the first list. -/
def pickT (xs ys : List TQ) (i k : Nat) : Bool :=
  match xs[i]?, ys[k]? with
  | some a, some b => leT a b
  | some _, none => true
  | none, _ => false
theorem pick_true {xs ys : List TQ} {i k : Nat} (h : pickT xs ys i k = true) : ∃ hi : i < xs.length, List.merge (xs.drop i) (ys.drop k) leT = xs[i] :: List.merge (xs.drop (i + 1)) (ys.drop k) leT := by
  unfold pickT at h
  rcases Nat.lt_or_ge i xs.length with hi | hi
  · refine ⟨hi, ?_⟩
    rw [List.drop_eq_getElem_cons hi]
    refine merge_left leT (fun b l' hb => ?_)
    have hk : k < ys.length := by
      rcases Nat.lt_or_ge k ys.length with hk | hk
      · exact hk
      · rw [List.drop_eq_nil_of_le hk] at hb; exact absurd hb (by simp)
    rw [List.drop_eq_getElem_cons hk] at hb
    injection hb with hb _
    rw [List.getElem?_eq_getElem hi, List.getElem?_eq_getElem hk] at h
    rw [← hb]; exact h
  · rw [List.getElem?_eq_none hi] at h
    exact absurd h (by simp)
theorem pick_false {xs ys : List TQ} {i k : Nat} (h : pickT xs ys i k = false) (hnd : i < xs.length ∨ k < ys.length) : ∃ hk : k < ys.length, List.merge (xs.drop i) (ys.drop k) leT = ys[k] :: List.merge (xs.drop i) (ys.drop (k + 1)) leT := by
  unfold pickT at h
  rcases Nat.lt_or_ge k ys.length with hk | hk
  · refine ⟨hk, ?_⟩
    rw [List.drop_eq_getElem_cons hk]
    refine merge_right leT (fun a l' ha => ?_)
    have hi : i < xs.length := by
      rcases Nat.lt_or_ge i xs.length with hi | hi
      · exact hi
      · rw [List.drop_eq_nil_of_le hi] at ha; exact absurd ha (by simp)
    rw [List.drop_eq_getElem_cons hi] at ha
    injection ha with ha _
    rw [List.getElem?_eq_getElem hi, List.getElem?_eq_getElem hk] at h
    rw [← ha]; exact h
  · have hi : i < xs.length := by omega
    rw [List.getElem?_eq_getElem hi, List.getElem?_eq_none hk] at h
    exact absurd h (by simp)
theorem MgSt.left {w2 wr w' : World} {xs ys : List TQ} {i k : Nat} {R R' : Option Addr} {c c' : Nat} {out : List TQ} {t : TQ} (h : MgSt w2 wr xs ys i k R c out) (ht : t.Ok w2) (hm : List.merge (xs.drop i) (ys.drop k) leT = t :: List.merge (xs.drop (i + 1)) (ys.drop k) leT)
    (ho : w'.ownsRow w2.heap.size 99 5 (.slice R' (i + k + 1) c') (i + k + 1) (out.flatMap TQ.cells ++ t.cells)) (hb : Below w2.heap.size w2 w') : MgSt w2 w' xs ys (i + 1) k R' c' (out ++ [t]) := by
  refine ⟨?_, fun x hx => ?_, by rw [List.length_append, h.len, List.length_singleton]; omega, by rw [List.append_assoc, List.singleton_append, ← hm, h.eq], hb⟩
  · rw [show i + 1 + k = i + k + 1 by omega, List.flatMap_append]
    simpa using ho
  · rcases List.mem_append.1 hx with hx | hx
    · exact h.mem x hx
    · rw [List.mem_singleton.1 hx]; exact ht
theorem MgSt.right {w2 wr w' : World} {xs ys : List TQ} {i k : Nat} {R R' : Option Addr} {c c' : Nat} {out : List TQ} {t : TQ} (h : MgSt w2 wr xs ys i k R c out) (ht : t.Ok w2) (hm : List.merge (xs.drop i) (ys.drop k) leT = t :: List.merge (xs.drop i) (ys.drop (k + 1)) leT)
    (ho : w'.ownsRow w2.heap.size 99 5 (.slice R' (i + k + 1) c') (i + k + 1) (out.flatMap TQ.cells ++ t.cells)) (hb : Below w2.heap.size w2 w') : MgSt w2 w' xs ys i (k + 1) R' c' (out ++ [t]) := by
  refine ⟨?_, fun x hx => ?_, by rw [List.length_append, h.len, List.length_singleton]; omega, by rw [List.append_assoc, List.singleton_append, ← hm, h.eq], hb⟩
  · rw [show i + (k + 1) = i + k + 1 by omega, List.flatMap_append]
    simpa using ho
  · rcases List.mem_append.1 hx with hx | hx
    · exact h.mem x hx
    · rw [List.mem_singleton.1 hx]; exact ht

theorem sorted_short (A : Option Addr) (n c : Nat) (w : World) (h : n < 2) : Calls Tryz.prog 87 #[.slice A n c] w fun e w' => e = .returned (.slice A n c) ∧ w = w' := by
  have d1 : decide ((n : Int) < 2) = true := decide_eq_true (by omega)
  have d2 : decide (n < 2) = true := decide_eq_true h
  go_enter Tryz.func87, Tryz.ntmps87
  go_wp2
  go_ret
  exact ⟨rfl, rfl⟩

theorem sorted_any (v : Nat) (hv : v ≤ 10) (n : Nat) : ∀ (ts : List TQ) (A : Option Addr) (c : Nat) (w : World), ts.length ≤ n + 1 → ts.length ≤ 1000 → ts.length ≤ c → TQs w A ts → (∀ t ∈ ts, t.el.length = v ∧ low20 t.el = true) →
    Calls Tryz.prog 87 #[.slice A ts.length c] w fun e w' => ∃ B d, e = .returned (.slice B ts.length d) ∧ ts.length ≤ d ∧ TQs w' B (msrt leT n ts) ∧ Below w.heap.size w w' := by
  induction n with
  | zero =>
    intro ts A c w h1 h2 h3 hT hE
    refine (sorted_short A ts.length c w (by omega)).mono ?_
    rintro e w' ⟨rfl, rfl⟩
    exact ⟨A, c, rfl, h3, hT, Below.refl _ _⟩
  | succ n ih =>
    intro ts A c w h1 h2 h3 hT hE
    by_cases hs : ts.length < 2
    · refine (sorted_short A ts.length c w hs).mono ?_
      rintro e w' ⟨rfl, rfl⟩
      rw [msrt_short leT hs]
      exact ⟨A, c, rfl, h3, hT, Below.refl _ _⟩
    · rw [msrt_step leT hs]
      obtain ⟨od, hA, _, _⟩ := hT.sl.lies (by omega)
      subst hA
      obtain ⟨L, hL⟩ : ∃ x, ts.length = x := ⟨_, rfl⟩
      obtain ⟨h, hh⟩ : ∃ x, L / 2 = x := ⟨_, rfl⟩
      rw [hL] at h1 h2 h3 hs ⊢
      rw [hh]
      have hq : (L : Int).tdiv 2 = (h : Int) := by rw [Int.tdiv_eq_ediv_of_nonneg (by omega)]; omega
      have hwr : IntKind.i64.wrap ((h : Nat) : Int) = (h : Int) := IntWalk.i64_in _ (by omega)
      have hhL : h ≤ L := by omega
      have hh1 : 1 ≤ h := by omega
      have hhn : h ≤ n + 1 := by omega
      have hmn : L - h ≤ n + 1 := by omega
      obtain ⟨m, hm⟩ : ∃ x, L - h = x := ⟨_, rfl⟩
      have ht1 : (ts.take h).length = h := by rw [List.length_take]; omega
      have ht2 : (ts.drop h).length = m := by rw [List.length_drop]; omega
      have hT1 : TQs w (some od) (ts.take h) := hT.take (by omega)
      have hT2 : TQs w (some (od.add (h * 5))) (ts.drop h) := hT.drop (by omega)
      obtain ⟨xs, hxs⟩ : ∃ x, msrt leT n (ts.take h) = x := ⟨_, rfl⟩
      obtain ⟨ys, hys⟩ : ∃ x, msrt leT n (ts.drop h) = x := ⟨_, rfl⟩
      rw [hxs, hys]
      have HI1 : Hid (∀ V, Below w.heap.size w V → Calls Tryz.prog 87 #[.slice (some od) h c] V fun e w' => ∃ B d, e = .returned (.slice B h d) ∧ h ≤ d ∧ TQs w' B xs ∧ Below V.heap.size V w') := Lib.hid (fun V hb => by
        have := ih (ts.take h) (some od) c V (by omega) (by omega) (by omega) (hT1.keep hb) (fun t ht => hE t (List.mem_of_mem_take ht))
        rw [ht1, hxs] at this
        exact this)
      have HI2 : Hid (∀ V, Below w.heap.size w V → Calls Tryz.prog 87 #[.slice (some (od.add (h * 5))) m (c - h)] V fun e w' => ∃ B d, e = .returned (.slice B m d) ∧ m ≤ d ∧ TQs w' B ys ∧ Below V.heap.size V w') := Lib.hid (fun V hb => by
        have := ih (ts.drop h) (some (od.add (h * 5))) (c - h) V (by omega) (by omega) (by omega) (hT2.keep hb) (fun t ht => hE t (List.mem_of_mem_drop ht))
        rw [ht2, hys] at this
        exact this)
      have HXL : Hid (xs.length = h) := Lib.hid (by rw [← hxs, msrt_len, ht1])
      have HYL : Hid (ys.length = m) := Lib.hid (by rw [← hys, msrt_len, ht2])
      have HXE : Hid (∀ t ∈ xs, t.el.length = v ∧ low20 t.el = true) := Lib.hid (fun t ht => hE t (List.mem_of_mem_take ((msrt_mem leT).1 (hxs ▸ ht))))
      have HYE : Hid (∀ t ∈ ys, t.el.length = v ∧ low20 t.el = true) := Lib.hid (fun t ht => hE t (List.mem_of_mem_drop ((msrt_mem leT).1 (hys ▸ ht))))
      have d1 : decide ((L : Int) < 2) = false := decide_eq_false (by omega)
      have d2 : decide (L < 2) = false := decide_eq_false hs
      have hcf : (c = 0) = False := eq_false (by omega)
      have hch : (c = h) = False := eq_false (by omega)
      have hch2 : (h = c) = False := eq_false (by omega)
      have p1 : (0 : Int) ≤ (h : Int) := by omega
      have p2 : (h : Int) ≤ (c : Int) := by omega
      have p3 : (h : Int) ≤ (L : Int) := by omega
      have HM := Lib.hid hm
      have hLm : L = h + m := by omega
      have HLM := Lib.hid hLm
      have hmI : (L : Int) - (h : Int) = (m : Int) := by omega
      clear ih hT hE hT1 hT2 ht1 ht2 hxs hys hL hh hs hLm
      go_enter Tryz.func87, Tryz.ntmps87
      go_upto_region 3 with (fail)
      have BZ : Below w.heap.size w w.drew := (Below.refl _ _).drew
      refine wp_region_held_drew (S := (fun w' => True)) (by kernel_rfl) trivial (fun hHeld => ?_)
      generalize w.drew = Z at *
      refine wpAnyH_get 0 (some 12) (.slice (some od) L c) rfl rfl (by kernel_rfl) (by kernel_rfl) (by kernel_rfl) (fun _ _ _ h => h) (by rfl) hHeld ?_ ?_
      · (intro w hSw; (try dsimp only at hSw); go_simp; all_goals (try with_reducible rfl))
      (try simp only [Act.put, List.setIfInBounds_toArray, List.set_cons_zero, List.set_cons_succ])
      refine wpAnyH_get 1 (some 13) (.slice (some od) L c) rfl rfl (by kernel_rfl) (by kernel_rfl) (by kernel_rfl) (fun _ _ _ h => h) (by rfl) hHeld ?_ ?_
      · (intro w hSw; (try dsimp only at hSw); go_simp; all_goals (try with_reducible rfl))
      (try simp only [Act.put, List.setIfInBounds_toArray, List.set_cons_zero, List.set_cons_succ])
      refine wpAnyH_get 2 (some 14) (.int .i64 (L : Nat)) rfl rfl (by kernel_rfl) (by kernel_rfl) (by kernel_rfl) (fun _ _ _ h => h) (by rfl) hHeld ?_ ?_
      · (intro w hSw; (try dsimp only at hSw); go_simp; all_goals (try with_reducible rfl))
      (try simp only [Act.put, List.setIfInBounds_toArray, List.set_cons_zero, List.set_cons_succ])
      refine wpAnyH_get 3 (some 15) (.int .i64 (h : Nat)) rfl rfl (by kernel_rfl) (by kernel_rfl) (by kernel_rfl) (fun _ _ _ h => h) (by rfl) hHeld ?_ ?_
      · (intro w hSw; (try dsimp only at hSw); go_simp; all_goals (try with_reducible rfl))
      (try simp only [Act.put, List.setIfInBounds_toArray, List.set_cons_zero, List.set_cons_succ])
      refine wpAnyH_get 4 (some 16) (.slice (some od) h c) rfl rfl (by kernel_rfl) (by kernel_rfl) (by kernel_rfl) (fun _ _ _ h => h) (by rfl) hHeld ?_ ?_
      · (intro w hSw; (try dsimp only at hSw); go_simp; all_goals (try with_reducible rfl))
      (try simp only [Act.put, List.setIfInBounds_toArray, List.set_cons_zero, List.set_cons_succ])
      refine wpAnyH_get 6 (some 18) (.slice (some od) L c) rfl rfl (by kernel_rfl) (by kernel_rfl) (by kernel_rfl) (fun _ _ _ h => h) (by rfl) hHeld ?_ ?_
      · (intro w hSw; (try dsimp only at hSw); go_simp; all_goals (try with_reducible rfl))
      (try simp only [Act.put, List.setIfInBounds_toArray, List.set_cons_zero, List.set_cons_succ])
      refine wpAnyH_get 7 (some 19) (.slice (some od) L c) rfl rfl (by kernel_rfl) (by kernel_rfl) (by kernel_rfl) (fun _ _ _ h => h) (by rfl) hHeld ?_ ?_
      · (intro w hSw; (try dsimp only at hSw); go_simp; all_goals (try with_reducible rfl))
      (try simp only [Act.put, List.setIfInBounds_toArray, List.set_cons_zero, List.set_cons_succ])
      refine wpAnyH_get 8 (some 20) (.int .i64 (L : Nat)) rfl rfl (by kernel_rfl) (by kernel_rfl) (by kernel_rfl) (fun _ _ _ h => h) (by rfl) hHeld ?_ ?_
      · (intro w hSw; (try dsimp only at hSw); go_simp; all_goals (try with_reducible rfl))
      (try simp only [Act.put, List.setIfInBounds_toArray, List.set_cons_zero, List.set_cons_succ])
      refine wpAnyH_get 9 (some 21) (.int .i64 (h : Nat)) rfl rfl (by kernel_rfl) (by kernel_rfl) (by kernel_rfl) (fun _ _ _ h => h) (by rfl) hHeld ?_ ?_
      · (intro w hSw; (try dsimp only at hSw); go_simp; all_goals (try with_reducible rfl))
      (try simp only [Act.put, List.setIfInBounds_toArray, List.set_cons_zero, List.set_cons_succ])
      refine wpAnyH_get 10 (some 22) (.slice (some (od.add (h * 5))) m (c - h)) rfl rfl (by kernel_rfl) (by kernel_rfl) (by kernel_rfl) (fun _ _ _ h => h) (by rfl) hHeld ?_ ?_
      · (intro w hSw; (try dsimp only at hSw); go_simp; all_goals (try with_reducible rfl))
      (try simp only [Act.put, List.setIfInBounds_toArray, List.set_cons_zero, List.set_cons_succ])
      refine wpAnyH_ready (rs := [5]) (by kernel_rfl) (by simp) ?_
      refine AllReadyH.cons rfl (fun K hK => ?_) AllReadyH.nil
      go_simp
      refine (HI1.out _ BZ).mono ?_
      rintro e w1 ⟨B1, d1, rfl, hd1, hX, hb⟩
      have HX := Lib.hid (And.intro hX hd1)
      clear hX hd1
      (try go_simp)
      have BZ := below_all BZ hb

      refine hK.out _ _ trivial (fun hHeld => ?_)
      clear hK K hb
      (try simp only [Act.put, List.setIfInBounds_toArray, List.set_cons_zero, List.set_cons_succ])
      refine wpAnyH_ready (rs := [11]) (by kernel_rfl) (by simp) ?_
      refine AllReadyH.cons rfl (fun K hK => ?_) AllReadyH.nil
      go_simp
      refine (HI2.out _ BZ).mono ?_
      rintro e w2 ⟨B2, d2, rfl, hd2, hY, hb⟩
      have HY := Lib.hid (And.intro hY hd2)
      clear hY hd2
      (try go_simp)
      have BZ := below_all BZ hb
      have HX := Lib.hid (And.intro (HX.out.1.keep hb) HX.out.2)
      refine hK.out _ _ trivial (fun hHeld => ?_)
      clear hK K hb
      (try simp only [Act.put, List.setIfInBounds_toArray, List.set_cons_zero, List.set_cons_succ])
      refine wpAnyH_get 12 (some 3) (.slice B1 h d1) rfl rfl (by kernel_rfl) (by kernel_rfl) (by kernel_rfl) (fun _ _ _ h => h) (by rfl) hHeld ?_ ?_
      · (intro w hSw; (try dsimp only at hSw); go_simp; all_goals (try with_reducible rfl))
      (try simp only [Act.put, List.setIfInBounds_toArray, List.set_cons_zero, List.set_cons_succ])
      refine wpAnyH_get 13 (some 4) (.slice B2 m d2) rfl rfl (by kernel_rfl) (by kernel_rfl) (by kernel_rfl) (fun _ _ _ h => h) (by rfl) hHeld ?_ ?_
      · (intro w hSw; (try dsimp only at hSw); go_simp; all_goals (try with_reducible rfl))
      (try simp only [Act.put, List.setIfInBounds_toArray, List.set_cons_zero, List.set_cons_succ])
      refine wpAnyH_done (by kernel_rfl) ?_ _
      have HBW := Lib.hid BZ
      clear BZ hHeld HI1 HI2
      have HST0 : Hid (MgSt w2 w2 xs ys 0 0 none 0 []) := Lib.hid ⟨World.ownsRow_nil _ _ _ _, fun t h => absurd h (by simp), rfl, rfl, Below.refl _ _⟩
      go_wp2
      go_loopw [5, 6, 7] (fun s5 s6 s7 wr => ∃ (i k : Nat) (R : Option Addr) (cr : Nat) (out : List TQ), s5 = .slice R (i + k) cr ∧ s6 = .int .i64 (i : Nat) ∧ s7 = .int .i64 (k : Nat) ∧ i ≤ h ∧ k ≤ m ∧ Hid (MgSt w2 wr xs ys i k R cr out)) (fun _ s6 s7 _ => h + m - (intOf s6).toNat - (intOf s7).toNat)
      case atStart => exact ⟨0, 0, none, 0, [], rfl, rfl, rfl, Nat.zero_le _, Nat.zero_le _, HST0⟩
      case round =>
        clear HST0
        obtain ⟨wo, rfl⟩ : ∃ wo : World, wo = wr := ⟨_, rfl⟩
        obtain ⟨i, k, R, cr, out, rfl, rfl, rfl, hi, hk, HST⟩ := hrel
        by_cases hdone : i = h ∧ k = m
        · have e1 : decide ((i : Int) < (h : Int)) = false := decide_eq_false (by omega)
          have e1' : decide (i < h) = false := decide_eq_false (by omega)
          have e2 : decide ((k : Int) < (m : Int)) = false := decide_eq_false (by omega)
          have e2' : decide (k < m) = false := decide_eq_false (by omega)
          have HRES : Hid (∃ B d, Ending.returned (.slice R (i + k) cr) = .returned (.slice B L d) ∧ L ≤ d ∧ TQs wo B (List.merge xs ys leT) ∧ Below w.heap.size w wo) := Lib.hid (by
            have hL2 : i + k = L := by have := HLM.out; omega
            obtain ⟨B', d', hv', hcap, hS⟩ := Sl.of_own HST.out.own
            injection hv' with h1 h2 h3
            have he := HST.out.eq
            rw [hdone.1, hdone.2, List.drop_of_length_le (by rw [HXL.out]; exact Nat.le_refl _), List.drop_of_length_le (by rw [HYL.out]; exact Nat.le_refl _)] at he
            have he2 : out = List.merge xs ys leT := by simpa using he
            refine ⟨R, cr, by rw [hL2], by rw [← hL2, h3]; exact hcap, ⟨?_, fun t ht => ?_⟩, below_all HBW.out HST.out.below⟩
            · rw [← he2, HST.out.len]; exact Sl.own HST.out.own
            · rw [← he2] at ht; exact (HST.out.mem t ht).keep HST.out.below)
          clear hdone
          go_wp2
          go_ret
          exact HRES.out
        · have hnd : i < h ∨ k < m := by omega
          have HND := Lib.hid hnd
          obtain ⟨tk, htk⟩ : ∃ b, pickT xs ys i k = b := ⟨_, rfl⟩
          have HTK := Lib.hid htk
          have hce : (decide ((i : Int) < (h : Int)) || decide ((k : Int) < (m : Int))) = true := by
            rcases hnd with h1 | h1
            · rw [decide_eq_true (by omega : (i : Int) < (h : Int))]; rfl
            · rw [decide_eq_true (by omega : (k : Int) < (m : Int)), Bool.or_true]
          clear htk hdone
          by_cases hil : i < h
          · have e1 : decide ((i : Int) < (h : Int)) = true := decide_eq_true (by omega)
            have e1' : decide (i < h) = true := decide_eq_true hil
            clear hce hnd
            obtain ⟨a1, hA1, _, _, _, _, x4⟩ := (HX.out.1.keep HST.out.below).at (k := i) (by rw [HXL.out]; exact hil)
            subst hA1
            have q1a : (0 : Int) ≤ (i : Int) := by omega
            have q2a : (i : Int) < (h : Int) := by omega
            by_cases hkm : k = m
            · have htt : tk = true := by
                rw [← HTK.out]
                unfold pickT
                rw [List.getElem?_eq_getElem (by rw [HXL.out]; exact hil), List.getElem?_eq_none (by rw [HYL.out]; omega)]
              subst htt
              subst k
              go_upto_region 7 with (fail)
              have BZ : Below wo.heap.size wo wo.drew := (Below.refl _ _).drew
              refine wp_region_held_drew (S := (fun w' => True)) (by kernel_rfl) trivial (fun hHeld => ?_)
              generalize wo.drew = Z at *
              refine wpAnyH_get 0 (some 34) (.int .i64 (m : Nat)) rfl rfl (by kernel_rfl) (by kernel_rfl) (by kernel_rfl) (fun _ _ _ h => h) (by rfl) hHeld ?_ ?_
              · (intro w hSw; (try dsimp only at hSw); go_simp; all_goals (try with_reducible rfl))
              (try simp only [Act.put, List.setIfInBounds_toArray, List.set_cons_zero, List.set_cons_succ])
              refine wpAnyH_get 1 (some 35) (.slice B2 m d2) rfl rfl (by kernel_rfl) (by kernel_rfl) (by kernel_rfl) (fun _ _ _ h => h) (by rfl) hHeld ?_ ?_
              · (intro w hSw; (try dsimp only at hSw); go_simp; all_goals (try with_reducible rfl))
              (try simp only [Act.put, List.setIfInBounds_toArray, List.set_cons_zero, List.set_cons_succ])
              refine wpAnyH_get 2 (some 36) (.int .i64 (m : Nat)) rfl rfl (by kernel_rfl) (by kernel_rfl) (by kernel_rfl) (fun _ _ _ h => h) (by rfl) hHeld ?_ ?_
              · (intro w hSw; (try dsimp only at hSw); go_simp; all_goals (try with_reducible rfl))
              (try simp only [Act.put, List.setIfInBounds_toArray, List.set_cons_zero, List.set_cons_succ])
              refine wpAnyH_get 3 (some 37) (.bool true) rfl rfl (by kernel_rfl) (by kernel_rfl) (by kernel_rfl) (fun _ _ _ h => h) (by rfl) hHeld ?_ ?_
              · (intro w hSw; (try dsimp only at hSw); go_simp; all_goals (try with_reducible rfl))
              (try simp only [Act.put, List.setIfInBounds_toArray, List.set_cons_zero, List.set_cons_succ])
              refine wpAnyH_get 4 (some 38) (.bool true) rfl rfl (by kernel_rfl) (by kernel_rfl) (by kernel_rfl) (fun _ _ _ h => h) (by rfl) hHeld ?_ ?_
              · (intro w hSw; (try dsimp only at hSw); go_simp; all_goals (try with_reducible rfl))
              (try simp only [Act.put, List.setIfInBounds_toArray, List.set_cons_zero, List.set_cons_succ])
              refine wpAnyH_pass 5 (some 39) rfl rfl (by kernel_rfl) (by kernel_rfl) (by kernel_rfl) (fun _ _ _ h => h) (by rfl) hHeld ?_
              (try simp only [Act.put, List.setIfInBounds_toArray, List.set_cons_zero, List.set_cons_succ])
              refine wpAnyH_pass 6 (some 40) rfl rfl (by kernel_rfl) (by kernel_rfl) (by kernel_rfl) (fun _ _ _ h => h) (by rfl) hHeld ?_
              (try simp only [Act.put, List.setIfInBounds_toArray, List.set_cons_zero, List.set_cons_succ])
              refine wpAnyH_pass 7 (some 41) rfl rfl (by kernel_rfl) (by kernel_rfl) (by kernel_rfl) (fun _ _ _ h => h) (by rfl) hHeld ?_
              (try simp only [Act.put, List.setIfInBounds_toArray, List.set_cons_zero, List.set_cons_succ])
              refine wpAnyH_pass 8 (some 42) rfl rfl (by kernel_rfl) (by kernel_rfl) (by kernel_rfl) (fun _ _ _ h => h) (by rfl) hHeld ?_
              (try simp only [Act.put, List.setIfInBounds_toArray, List.set_cons_zero, List.set_cons_succ])
              refine wpAnyH_pass 9 (some 43) rfl rfl (by kernel_rfl) (by kernel_rfl) (by kernel_rfl) (fun _ _ _ h => h) (by rfl) hHeld ?_
              (try simp only [Act.put, List.setIfInBounds_toArray, List.set_cons_zero, List.set_cons_succ])
              refine wpAnyH_pass 10 (some 44) rfl rfl (by kernel_rfl) (by kernel_rfl) (by kernel_rfl) (fun _ _ _ h => h) (by rfl) hHeld ?_
              (try simp only [Act.put, List.setIfInBounds_toArray, List.set_cons_zero, List.set_cons_succ])
              refine wpAnyH_pass 11 (some 45) rfl rfl (by kernel_rfl) (by kernel_rfl) (by kernel_rfl) (fun _ _ _ h => h) (by rfl) hHeld ?_
              (try simp only [Act.put, List.setIfInBounds_toArray, List.set_cons_zero, List.set_cons_succ])
              refine wpAnyH_pass 12 (some 46) rfl rfl (by kernel_rfl) (by kernel_rfl) (by kernel_rfl) (fun _ _ _ h => h) (by rfl) hHeld ?_
              (try simp only [Act.put, List.setIfInBounds_toArray, List.set_cons_zero, List.set_cons_succ])
              refine wpAnyH_pass 13 (some 47) rfl rfl (by kernel_rfl) (by kernel_rfl) (by kernel_rfl) (fun _ _ _ h => h) (by rfl) hHeld ?_
              (try simp only [Act.put, List.setIfInBounds_toArray, List.set_cons_zero, List.set_cons_succ])
              refine wpAnyH_pass 14 (some 48) rfl rfl (by kernel_rfl) (by kernel_rfl) (by kernel_rfl) (fun _ _ _ h => h) (by rfl) hHeld ?_
              (try simp only [Act.put, List.setIfInBounds_toArray, List.set_cons_zero, List.set_cons_succ])
              refine wpAnyH_pass 15 (some 49) rfl rfl (by kernel_rfl) (by kernel_rfl) (by kernel_rfl) (fun _ _ _ h => h) (by rfl) hHeld ?_
              (try simp only [Act.put, List.setIfInBounds_toArray, List.set_cons_zero, List.set_cons_succ])
              refine wpAnyH_pass 16 (some 50) rfl rfl (by kernel_rfl) (by kernel_rfl) (by kernel_rfl) (fun _ _ _ h => h) (by rfl) hHeld ?_
              (try simp only [Act.put, List.setIfInBounds_toArray, List.set_cons_zero, List.set_cons_succ])
              refine wpAnyH_pass 17 (some 51) rfl rfl (by kernel_rfl) (by kernel_rfl) (by kernel_rfl) (fun _ _ _ h => h) (by rfl) hHeld ?_
              (try simp only [Act.put, List.setIfInBounds_toArray, List.set_cons_zero, List.set_cons_succ])
              refine wpAnyH_pass 18 (some 52) rfl rfl (by kernel_rfl) (by kernel_rfl) (by kernel_rfl) (fun _ _ _ h => h) (by rfl) hHeld ?_
              (try simp only [Act.put, List.setIfInBounds_toArray, List.set_cons_zero, List.set_cons_succ])
              refine wpAnyH_pass 19 (some 53) rfl rfl (by kernel_rfl) (by kernel_rfl) (by kernel_rfl) (fun _ _ _ h => h) (by rfl) hHeld ?_
              (try simp only [Act.put, List.setIfInBounds_toArray, List.set_cons_zero, List.set_cons_succ])
              refine wpAnyH_pass 20 (some 54) rfl rfl (by kernel_rfl) (by kernel_rfl) (by kernel_rfl) (fun _ _ _ h => h) (by rfl) hHeld ?_
              (try simp only [Act.put, List.setIfInBounds_toArray, List.set_cons_zero, List.set_cons_succ])
              refine wpAnyH_pass 21 (some 55) rfl rfl (by kernel_rfl) (by kernel_rfl) (by kernel_rfl) (fun _ _ _ h => h) (by rfl) hHeld ?_
              (try simp only [Act.put, List.setIfInBounds_toArray, List.set_cons_zero, List.set_cons_succ])
              refine wpAnyH_pass 22 (some 56) rfl rfl (by kernel_rfl) (by kernel_rfl) (by kernel_rfl) (fun _ _ _ h => h) (by rfl) hHeld ?_
              (try simp only [Act.put, List.setIfInBounds_toArray, List.set_cons_zero, List.set_cons_succ])
              refine wpAnyH_get 23 (some 57) (.bool true) rfl rfl (by kernel_rfl) (by kernel_rfl) (by kernel_rfl) (fun _ _ _ h => h) (by rfl) hHeld ?_ ?_
              · (intro w hSw; (try dsimp only at hSw); go_simp; all_goals (try with_reducible rfl))
              (try simp only [Act.put, List.setIfInBounds_toArray, List.set_cons_zero, List.set_cons_succ])
              refine wpAnyH_done (by kernel_rfl) ?_ _
              obtain ⟨wq, rfl⟩ : ∃ x : World, x = Z := ⟨_, rfl⟩
              clear hHeld
              clear x4

              obtain ⟨hj, hmg⟩ := pick_true HTK.out
              have hlt : i < h := by rw [← HXL.out]; exact hj
              have hok := HX.out.1.ok xs[i] (List.getElem_mem _)
              obtain ⟨ax, hAX, c0, c1, c2, c3, c4⟩ := (HX.out.1.keep (below_all HST.out.below BZ)).at hj
              injection hAX with hAX
              subst hAX
              obtain ⟨t, ht⟩ : ∃ t, xs[i] = t := ⟨_, rfl⟩
              rw [ht] at c0 c1 c3 c4 hok hmg
              have HMG := Lib.hid hmg
              have HOK := Lib.hid hok
              have HCE : Hid (t.cells = [.bool (decide (t.r.q.num < 0)), .slice t.r.N (dg t.r.q.num.natAbs).length t.r.cn, .bool false, .slice t.r.D (dg (dnz t.r.q.den)).length t.r.cd, .slice t.E t.el.length t.ce]) := Lib.hid rfl
              have HNC := Lib.hid (cells_new wq 99 t.cells)
              rw [HCE.out] at HNC
              obtain ⟨i0, hi0, hz0, hz1, hz2⟩ := info_parts Sx.rt5_info
              have hown := own_below HST.out.own BZ (Nat.le_refl _)
              have hsz : w2.heap.size ≤ wq.heap.size := Nat.le_trans HST.out.below.size BZ.size
              have p5 : (0 : Int) ≤ (i : Int) := by omega
              have p6 : (i : Int) < (h : Int) := by omega
              have HBZ := Lib.hid (below_all HST.out.below BZ)
              clear ht hok hmg hj BZ
              generalize decide (t.r.q.num < 0) = s1 at *
              generalize (dg t.r.q.num.natAbs).length = n1 at *
              generalize (dg (dnz t.r.q.den)).length = n2 at *
              generalize t.r.N = rN at *
              generalize t.r.D = rD at *
              generalize t.r.cn = rcn at *
              generalize t.r.cd = rcd at *
              generalize t.E = rE at *
              generalize t.el.length = rv at *
              generalize t.ce = rce at *
              go_wp2_with (first
                | (at_builtin; refine wpList_append_own_at _ rfl _ _ 63 rfl w2.heap.size 99 i0 _ 5 88 Tryz.underlying63 hi0 hz0 hz1 hz2 rfl (by decide) (.slice R (i + m) cr) (i + m) _ rfl (hown.alloc _) ⟨wq.heap.size, 0, none⟩ 1 1 [.bool s1, .slice rN n1 rcn, .bool false, .slice rD n2 rcd, .slice rE rv rce] rfl rfl ?c1 ?c2 ?c3 ?c4 ?c5 ?_
                   case c1 => exact HNC.out
                   case c2 => simp [Value.oneCell']
                   case c3 => simp only [maxLen]; omega
                   case c4 => omega
                   case c5 => simp; omega
                   intro v' w5 hown' hgrow _ hat))
              obtain ⟨A2, cs2, hv2, _, _⟩ := Sl.of_own hown'
              subst hv2
              have hal := Below.alloc (Below.refl wq.heap.size wq) (Nat.le_refl _) (.cells #[.bool s1, .slice rN n1 rcn, .bool false, .slice rD n2 rcd, .slice rE rv rce] 99)
              have hownA := hown.alloc (.cells #[.bool s1, .slice rN n1 rcn, .bool false, .slice rD n2 rcd, .slice rE rv rce] 99)
              have HNX : Hid (MgSt w2 w5 xs ys (i + 1) (m) A2 cs2 (out ++ [t])) := Lib.hid (by
                refine MgSt.left HST.out HOK.out HMG.out (by rw [HCE.out]; exact hown') ?_
                exact Below.grown (below_all HBZ.out hal) hgrow (by have := (below_all HBZ.out hal).size; exact this) (fun j hj => (hownA.lt j hj).1))
              go_roundw
              case rel => exact ⟨i + 1, m, A2, cs2, _, by rw [show i + 1 + m = i + m + 1 by omega], by go_num, by go_num, by omega, by omega, HNX⟩
              case measure => simp [intOf]; omega

            · have hkl : k < m := by omega
              have e3 : decide ((k : Int) = (m : Int)) = false := decide_eq_false (by omega)
              have e3' : decide (k = m) = false := decide_eq_false hkm
              have e4 : ((k : Int) = (m : Int)) = False := eq_false (by omega)
              have e4' : (k = m) = False := eq_false hkm
              obtain ⟨b1, hB1, _, _, _, _, y4⟩ := (HY.out.1.keep HST.out.below).at (k := k) (by rw [HYL.out]; exact hkl)
              subst hB1
              have hix : i < xs.length := by rw [HXL.out]; exact hil
              have hky : k < ys.length := by rw [HYL.out]; exact hkl
              obtain ⟨ta, hta⟩ : ∃ t, xs[i] = t := ⟨_, rfl⟩
              obtain ⟨tb, htb⟩ : ∃ t, ys[k] = t := ⟨_, rfl⟩
              have hla := HXE.out ta (by rw [← hta]; exact List.getElem_mem _)
              have hlb := HYE.out tb (by rw [← htb]; exact List.getElem_mem _)
              have hoa := HX.out.1.ok ta (by rw [← hta]; exact List.getElem_mem _)
              have hob := HY.out.1.ok tb (by rw [← htb]; exact List.getElem_mem _)
              rw [hta, hla.1] at x4
              rw [htb, hlb.1] at y4
              obtain ⟨z, hz⟩ : ∃ z, Mo.ord ta.el tb.el = z := ⟨_, rfl⟩
              have htz : decide (0 ≤ z) = tk := by
                rw [← HTK.out]
                unfold pickT
                rw [List.getElem?_eq_getElem hix, List.getElem?_eq_getElem hky, hta, htb]
                show decide (0 ≤ z) = decide (0 ≤ Mo.ord ta.el tb.el)
                rw [hz]
              have htz2 : decide (z ≥ 0) = tk := htz
              have HOR : Hid (∀ V, Below wo.heap.size wo V → Calls Tryz.prog 88 #[.slice ta.E v ta.ce, .slice tb.E v tb.ce] V fun e w' => e = .returned (.int .i64 z) ∧ Below V.heap.size V w') := Lib.hid (fun V hb => by
                have h1 := rord_any ta.E tb.E ta.ce tb.ce ta.el tb.el V ((hoa.e.keep HST.out.below).keep hb) ((hob.e.keep HST.out.below).keep hb) (by rw [hla.1, hlb.1]) (by rw [hla.1]; omega) hla.2 hlb.2
                rw [hla.1, hlb.1, hz] at h1
                exact h1.mono fun e w' h2 => ⟨h2.1, h2.2.below⟩)
              clear hla hlb hoa hob hta htb hz hix hky hkm
              generalize ta.E = E1 at *
              generalize ta.ce = q1 at *
              generalize tb.E = E2 at *
              generalize tb.ce = q2 at *
              have q1b : (0 : Int) ≤ (k : Int) := by omega
              have q2b : (k : Int) < (m : Int) := by omega
              go_upto_region 7 with (fail)
              have BZ : Below wo.heap.size wo wo.drew := (Below.refl _ _).drew
              refine wp_region_held_drew (S := (fun w' => w'.cell? ⟨(a1.add (i * 5)).block, (a1.add (i * 5)).off + 4, none⟩ = some (.slice E1 v q1) ∧ w'.cell? ⟨(b1.add (k * 5)).block, (b1.add (k * 5)).off + 4, none⟩ = some (.slice E2 v q2))) (by kernel_rfl) ⟨keep_cell BZ x4, keep_cell BZ y4⟩ (fun hHeld => ?_)
              generalize wo.drew = Z at *
              refine wpAnyH_get 0 (some 34) (.int .i64 (k : Nat)) rfl rfl (by kernel_rfl) (by kernel_rfl) (by kernel_rfl) (fun _ _ _ h => h) (by rfl) hHeld ?_ ?_
              · (intro w hSw; (try dsimp only at hSw); go_simp; all_goals (try with_reducible rfl))
              (try simp only [Act.put, List.setIfInBounds_toArray, List.set_cons_zero, List.set_cons_succ])
              refine wpAnyH_get 1 (some 35) (.slice (some b1) m d2) rfl rfl (by kernel_rfl) (by kernel_rfl) (by kernel_rfl) (fun _ _ _ h => h) (by rfl) hHeld ?_ ?_
              · (intro w hSw; (try dsimp only at hSw); go_simp; all_goals (try with_reducible rfl))
              (try simp only [Act.put, List.setIfInBounds_toArray, List.set_cons_zero, List.set_cons_succ])
              refine wpAnyH_get 2 (some 36) (.int .i64 (m : Nat)) rfl rfl (by kernel_rfl) (by kernel_rfl) (by kernel_rfl) (fun _ _ _ h => h) (by rfl) hHeld ?_ ?_
              · (intro w hSw; (try dsimp only at hSw); go_simp; all_goals (try with_reducible rfl))
              (try simp only [Act.put, List.setIfInBounds_toArray, List.set_cons_zero, List.set_cons_succ])
              refine wpAnyH_get 3 (some 37) (.bool false) rfl rfl (by kernel_rfl) (by kernel_rfl) (by kernel_rfl) (fun _ _ _ h => h) (by rfl) hHeld ?_ ?_
              · (intro w hSw; (try dsimp only at hSw); go_simp; all_goals (try with_reducible rfl))
              (try simp only [Act.put, List.setIfInBounds_toArray, List.set_cons_zero, List.set_cons_succ])
              refine wpAnyH_get 4 (some 38) (.bool false) rfl rfl (by kernel_rfl) (by kernel_rfl) (by kernel_rfl) (fun _ _ _ h => h) (by rfl) hHeld ?_ ?_
              · (intro w hSw; (try dsimp only at hSw); go_simp; all_goals (try with_reducible rfl))
              (try simp only [Act.put, List.setIfInBounds_toArray, List.set_cons_zero, List.set_cons_succ])
              refine wpAnyH_get 5 (some 39) (.int .i64 (i : Nat)) rfl rfl (by kernel_rfl) (by kernel_rfl) (by kernel_rfl) (fun _ _ _ h => h) (by rfl) hHeld ?_ ?_
              · (intro w hSw; (try dsimp only at hSw); go_simp; all_goals (try with_reducible rfl))
              (try simp only [Act.put, List.setIfInBounds_toArray, List.set_cons_zero, List.set_cons_succ])
              refine wpAnyH_get 6 (some 40) (.slice (some a1) h d1) rfl rfl (by kernel_rfl) (by kernel_rfl) (by kernel_rfl) (fun _ _ _ h => h) (by rfl) hHeld ?_ ?_
              · (intro w hSw; (try dsimp only at hSw); go_simp; all_goals (try with_reducible rfl))
              (try simp only [Act.put, List.setIfInBounds_toArray, List.set_cons_zero, List.set_cons_succ])
              refine wpAnyH_get 7 (some 41) (.int .i64 (h : Nat)) rfl rfl (by kernel_rfl) (by kernel_rfl) (by kernel_rfl) (fun _ _ _ h => h) (by rfl) hHeld ?_ ?_
              · (intro w hSw; (try dsimp only at hSw); go_simp; all_goals (try with_reducible rfl))
              (try simp only [Act.put, List.setIfInBounds_toArray, List.set_cons_zero, List.set_cons_succ])
              refine wpAnyH_get 8 (some 42) (.bool true) rfl rfl (by kernel_rfl) (by kernel_rfl) (by kernel_rfl) (fun _ _ _ h => h) (by rfl) hHeld ?_ ?_
              · (intro w hSw; (try dsimp only at hSw); go_simp; all_goals (try with_reducible rfl))
              (try simp only [Act.put, List.setIfInBounds_toArray, List.set_cons_zero, List.set_cons_succ])
              refine wpAnyH_get 9 (some 43) (.bool true) rfl rfl (by kernel_rfl) (by kernel_rfl) (by kernel_rfl) (fun _ _ _ h => h) (by rfl) hHeld ?_ ?_
              · (intro w hSw; (try dsimp only at hSw); go_simp; all_goals (try with_reducible rfl))
              (try simp only [Act.put, List.setIfInBounds_toArray, List.set_cons_zero, List.set_cons_succ])
              refine wpAnyH_get 10 (some 44) (.slice (some a1) h d1) rfl rfl (by kernel_rfl) (by kernel_rfl) (by kernel_rfl) (fun _ _ _ h => h) (by rfl) hHeld ?_ ?_
              · (intro w hSw; (try dsimp only at hSw); go_simp; all_goals (try with_reducible rfl))
              (try simp only [Act.put, List.setIfInBounds_toArray, List.set_cons_zero, List.set_cons_succ])
              refine wpAnyH_get 11 (some 45) (.int .i64 (i : Nat)) rfl rfl (by kernel_rfl) (by kernel_rfl) (by kernel_rfl) (fun _ _ _ h => h) (by rfl) hHeld ?_ ?_
              · (intro w hSw; (try dsimp only at hSw); go_simp; all_goals (try with_reducible rfl))
              (try simp only [Act.put, List.setIfInBounds_toArray, List.set_cons_zero, List.set_cons_succ])
              refine wpAnyH_get 12 (some 46) (.pointer (some (a1.add (i * 5)))) rfl rfl (by kernel_rfl) (by kernel_rfl) (by kernel_rfl) (fun _ _ _ h => h) (by rfl) hHeld ?_ ?_
              · (intro w hSw; (try dsimp only at hSw); go_simp; all_goals (try with_reducible rfl))
              (try simp only [Act.put, List.setIfInBounds_toArray, List.set_cons_zero, List.set_cons_succ])
              refine wpAnyH_get 13 (some 47) (.pointer (some ⟨(a1.add (i * 5)).block, (a1.add (i * 5)).off + 4, none⟩)) rfl rfl (by kernel_rfl) (by kernel_rfl) (by kernel_rfl) (fun _ _ _ h => h) (by rfl) hHeld ?_ ?_
              · (intro w hSw; (try dsimp only at hSw); go_simp; all_goals (try with_reducible rfl))
              (try simp only [Act.put, List.setIfInBounds_toArray, List.set_cons_zero, List.set_cons_succ])
              refine wpAnyH_get 14 (some 48) (.slice E1 v q1) rfl rfl (by kernel_rfl) (by kernel_rfl) (by kernel_rfl) (fun _ _ _ h => h) (by rfl) hHeld ?_ ?_
              · (intro w hSw; (try dsimp only at hSw); go_simp; all_goals (try with_reducible rfl))
              (try simp only [Act.put, List.setIfInBounds_toArray, List.set_cons_zero, List.set_cons_succ])
              refine wpAnyH_get 15 (some 49) (.slice (some b1) m d2) rfl rfl (by kernel_rfl) (by kernel_rfl) (by kernel_rfl) (fun _ _ _ h => h) (by rfl) hHeld ?_ ?_
              · (intro w hSw; (try dsimp only at hSw); go_simp; all_goals (try with_reducible rfl))
              (try simp only [Act.put, List.setIfInBounds_toArray, List.set_cons_zero, List.set_cons_succ])
              refine wpAnyH_get 16 (some 50) (.int .i64 (k : Nat)) rfl rfl (by kernel_rfl) (by kernel_rfl) (by kernel_rfl) (fun _ _ _ h => h) (by rfl) hHeld ?_ ?_
              · (intro w hSw; (try dsimp only at hSw); go_simp; all_goals (try with_reducible rfl))
              (try simp only [Act.put, List.setIfInBounds_toArray, List.set_cons_zero, List.set_cons_succ])
              refine wpAnyH_get 17 (some 51) (.pointer (some (b1.add (k * 5)))) rfl rfl (by kernel_rfl) (by kernel_rfl) (by kernel_rfl) (fun _ _ _ h => h) (by rfl) hHeld ?_ ?_
              · (intro w hSw; (try dsimp only at hSw); go_simp; all_goals (try with_reducible rfl))
              (try simp only [Act.put, List.setIfInBounds_toArray, List.set_cons_zero, List.set_cons_succ])
              refine wpAnyH_get 18 (some 52) (.pointer (some ⟨(b1.add (k * 5)).block, (b1.add (k * 5)).off + 4, none⟩)) rfl rfl (by kernel_rfl) (by kernel_rfl) (by kernel_rfl) (fun _ _ _ h => h) (by rfl) hHeld ?_ ?_
              · (intro w hSw; (try dsimp only at hSw); go_simp; all_goals (try with_reducible rfl))
              (try simp only [Act.put, List.setIfInBounds_toArray, List.set_cons_zero, List.set_cons_succ])
              refine wpAnyH_get 19 (some 53) (.slice E2 v q2) rfl rfl (by kernel_rfl) (by kernel_rfl) (by kernel_rfl) (fun _ _ _ h => h) (by rfl) hHeld ?_ ?_
              · (intro w hSw; (try dsimp only at hSw); go_simp; all_goals (try with_reducible rfl))
              (try simp only [Act.put, List.setIfInBounds_toArray, List.set_cons_zero, List.set_cons_succ])
              refine wpAnyH_ready (rs := [20]) (by kernel_rfl) (by simp) ?_
              refine AllReadyH.cons rfl (fun K hK => ?_) AllReadyH.nil
              go_simp
              refine (HOR.out _ BZ).mono ?_
              rintro e wz ⟨rfl, hb⟩
              (try go_simp)
              have BZ := below_all BZ hb
              refine hK.out _ _ ⟨keep_cell BZ x4, keep_cell BZ y4⟩ (fun hHeld => ?_)
              clear hK K hb
              (try simp only [Act.put, List.setIfInBounds_toArray, List.set_cons_zero, List.set_cons_succ])
              refine wpAnyH_get 21 (some 55) (.bool tk) rfl rfl (by kernel_rfl) (by kernel_rfl) (by kernel_rfl) (fun _ _ _ h => h) (by rfl) hHeld ?_ ?_
              · (intro w hSw; (try dsimp only at hSw); go_simp; all_goals (try with_reducible rfl))
              (try simp only [Act.put, List.setIfInBounds_toArray, List.set_cons_zero, List.set_cons_succ])
              refine wpAnyH_get 22 (some 56) (.bool tk) rfl rfl (by kernel_rfl) (by kernel_rfl) (by kernel_rfl) (fun _ _ _ h => h) (by rfl) hHeld ?_ ?_
              · (intro w hSw; (try dsimp only at hSw); go_simp; all_goals (try with_reducible rfl))
              (try simp only [Act.put, List.setIfInBounds_toArray, List.set_cons_zero, List.set_cons_succ])
              refine wpAnyH_get 23 (some 57) (.bool tk) rfl rfl (by kernel_rfl) (by kernel_rfl) (by kernel_rfl) (fun _ _ _ h => h) (by rfl) hHeld ?_ ?_
              · (intro w hSw; (try dsimp only at hSw); go_simp; all_goals (try with_reducible rfl))
              (try simp only [Act.put, List.setIfInBounds_toArray, List.set_cons_zero, List.set_cons_succ])
              refine wpAnyH_done (by kernel_rfl) ?_ _
              obtain ⟨wq, rfl⟩ : ∃ x : World, x = wz := ⟨_, rfl⟩
              clear hHeld
              clear x4 y4 HOR htz htz2
              cases tk
              · skip
                obtain ⟨hj, hmg⟩ := pick_false HTK.out (by rw [HXL.out, HYL.out]; exact HND.out)
                have hlt : k < m := by rw [← HYL.out]; exact hj
                have hok := HY.out.1.ok ys[k] (List.getElem_mem _)
                obtain ⟨ax, hAX, c0, c1, c2, c3, c4⟩ := (HY.out.1.keep (below_all HST.out.below BZ)).at hj
                injection hAX with hAX
                subst hAX
                obtain ⟨t, ht⟩ : ∃ t, ys[k] = t := ⟨_, rfl⟩
                rw [ht] at c0 c1 c3 c4 hok hmg
                have HMG := Lib.hid hmg
                have HOK := Lib.hid hok
                have HCE : Hid (t.cells = [.bool (decide (t.r.q.num < 0)), .slice t.r.N (dg t.r.q.num.natAbs).length t.r.cn, .bool false, .slice t.r.D (dg (dnz t.r.q.den)).length t.r.cd, .slice t.E t.el.length t.ce]) := Lib.hid rfl
                have HNC := Lib.hid (cells_new wq 99 t.cells)
                rw [HCE.out] at HNC
                obtain ⟨i0, hi0, hz0, hz1, hz2⟩ := info_parts Sx.rt5_info
                have hown := own_below HST.out.own BZ (Nat.le_refl _)
                have hsz : w2.heap.size ≤ wq.heap.size := Nat.le_trans HST.out.below.size BZ.size
                have p5 : (0 : Int) ≤ (k : Int) := by omega
                have p6 : (k : Int) < (m : Int) := by omega
                have HBZ := Lib.hid (below_all HST.out.below BZ)
                clear ht hok hmg hj BZ
                generalize decide (t.r.q.num < 0) = s1 at *
                generalize (dg t.r.q.num.natAbs).length = n1 at *
                generalize (dg (dnz t.r.q.den)).length = n2 at *
                generalize t.r.N = rN at *
                generalize t.r.D = rD at *
                generalize t.r.cn = rcn at *
                generalize t.r.cd = rcd at *
                generalize t.E = rE at *
                generalize t.el.length = rv at *
                generalize t.ce = rce at *
                go_wp2_with (first
                  | (at_builtin; refine wpList_append_own_at _ rfl _ _ 63 rfl w2.heap.size 99 i0 _ 5 88 Tryz.underlying63 hi0 hz0 hz1 hz2 rfl (by decide) (.slice R (i + k) cr) (i + k) _ rfl (hown.alloc _) ⟨wq.heap.size, 0, none⟩ 1 1 [.bool s1, .slice rN n1 rcn, .bool false, .slice rD n2 rcd, .slice rE rv rce] rfl rfl ?c1 ?c2 ?c3 ?c4 ?c5 ?_
                     case c1 => exact HNC.out
                     case c2 => simp [Value.oneCell']
                     case c3 => simp only [maxLen]; omega
                     case c4 => omega
                     case c5 => simp; omega
                     intro v' w5 hown' hgrow _ hat))
                obtain ⟨A2, cs2, hv2, _, _⟩ := Sl.of_own hown'
                subst hv2
                have hal := Below.alloc (Below.refl wq.heap.size wq) (Nat.le_refl _) (.cells #[.bool s1, .slice rN n1 rcn, .bool false, .slice rD n2 rcd, .slice rE rv rce] 99)
                have hownA := hown.alloc (.cells #[.bool s1, .slice rN n1 rcn, .bool false, .slice rD n2 rcd, .slice rE rv rce] 99)
                have HNX : Hid (MgSt w2 w5 xs ys (i) (k + 1) A2 cs2 (out ++ [t])) := Lib.hid (by
                  refine MgSt.right HST.out HOK.out HMG.out (by rw [HCE.out]; exact hown') ?_
                  exact Below.grown (below_all HBZ.out hal) hgrow (by have := (below_all HBZ.out hal).size; exact this) (fun j hj => (hownA.lt j hj).1))
                go_roundw
                case rel => exact ⟨i, k + 1, A2, cs2, _, by rw [show i + (k + 1) = i + k + 1 by omega], by go_num, by go_num, by omega, by omega, HNX⟩
                case measure => simp [intOf]; omega
              · skip
                obtain ⟨hj, hmg⟩ := pick_true HTK.out
                have hlt : i < h := by rw [← HXL.out]; exact hj
                have hok := HX.out.1.ok xs[i] (List.getElem_mem _)
                obtain ⟨ax, hAX, c0, c1, c2, c3, c4⟩ := (HX.out.1.keep (below_all HST.out.below BZ)).at hj
                injection hAX with hAX
                subst hAX
                obtain ⟨t, ht⟩ : ∃ t, xs[i] = t := ⟨_, rfl⟩
                rw [ht] at c0 c1 c3 c4 hok hmg
                have HMG := Lib.hid hmg
                have HOK := Lib.hid hok
                have HCE : Hid (t.cells = [.bool (decide (t.r.q.num < 0)), .slice t.r.N (dg t.r.q.num.natAbs).length t.r.cn, .bool false, .slice t.r.D (dg (dnz t.r.q.den)).length t.r.cd, .slice t.E t.el.length t.ce]) := Lib.hid rfl
                have HNC := Lib.hid (cells_new wq 99 t.cells)
                rw [HCE.out] at HNC
                obtain ⟨i0, hi0, hz0, hz1, hz2⟩ := info_parts Sx.rt5_info
                have hown := own_below HST.out.own BZ (Nat.le_refl _)
                have hsz : w2.heap.size ≤ wq.heap.size := Nat.le_trans HST.out.below.size BZ.size
                have p5 : (0 : Int) ≤ (i : Int) := by omega
                have p6 : (i : Int) < (h : Int) := by omega
                have HBZ := Lib.hid (below_all HST.out.below BZ)
                clear ht hok hmg hj BZ
                generalize decide (t.r.q.num < 0) = s1 at *
                generalize (dg t.r.q.num.natAbs).length = n1 at *
                generalize (dg (dnz t.r.q.den)).length = n2 at *
                generalize t.r.N = rN at *
                generalize t.r.D = rD at *
                generalize t.r.cn = rcn at *
                generalize t.r.cd = rcd at *
                generalize t.E = rE at *
                generalize t.el.length = rv at *
                generalize t.ce = rce at *
                go_wp2_with (first
                  | (at_builtin; refine wpList_append_own_at _ rfl _ _ 63 rfl w2.heap.size 99 i0 _ 5 88 Tryz.underlying63 hi0 hz0 hz1 hz2 rfl (by decide) (.slice R (i + k) cr) (i + k) _ rfl (hown.alloc _) ⟨wq.heap.size, 0, none⟩ 1 1 [.bool s1, .slice rN n1 rcn, .bool false, .slice rD n2 rcd, .slice rE rv rce] rfl rfl ?c1 ?c2 ?c3 ?c4 ?c5 ?_
                     case c1 => exact HNC.out
                     case c2 => simp [Value.oneCell']
                     case c3 => simp only [maxLen]; omega
                     case c4 => omega
                     case c5 => simp; omega
                     intro v' w5 hown' hgrow _ hat))
                obtain ⟨A2, cs2, hv2, _, _⟩ := Sl.of_own hown'
                subst hv2
                have hal := Below.alloc (Below.refl wq.heap.size wq) (Nat.le_refl _) (.cells #[.bool s1, .slice rN n1 rcn, .bool false, .slice rD n2 rcd, .slice rE rv rce] 99)
                have hownA := hown.alloc (.cells #[.bool s1, .slice rN n1 rcn, .bool false, .slice rD n2 rcd, .slice rE rv rce] 99)
                have HNX : Hid (MgSt w2 w5 xs ys (i + 1) (k) A2 cs2 (out ++ [t])) := Lib.hid (by
                  refine MgSt.left HST.out HOK.out HMG.out (by rw [HCE.out]; exact hown') ?_
                  exact Below.grown (below_all HBZ.out hal) hgrow (by have := (below_all HBZ.out hal).size; exact this) (fun j hj => (hownA.lt j hj).1))
                go_roundw
                case rel => exact ⟨i + 1, k, A2, cs2, _, by rw [show i + 1 + k = i + k + 1 by omega], by go_num, by go_num, by omega, by omega, HNX⟩
                case measure => simp [intOf]; omega
          · have e1 : decide ((i : Int) < (h : Int)) = false := decide_eq_false (by omega)
            have e1' : decide (i < h) = false := decide_eq_false hil
            have e2 : decide ((k : Int) < (m : Int)) = true := decide_eq_true (by omega)
            have e2' : decide (k < m) = true := decide_eq_true (by omega)
            clear hce hnd
            have hkl : k < m := of_decide_eq_true e2'
            have e3 : decide ((k : Int) = (m : Int)) = false := decide_eq_false (by omega)
            have e3' : decide (k = m) = false := decide_eq_false (by omega)
            have e4 : ((k : Int) = (m : Int)) = False := eq_false (by omega)
            have e4' : (k = m) = False := eq_false (by omega)
            have htt : tk = false := by
              rw [← HTK.out]
              unfold pickT
              rw [List.getElem?_eq_none (by rw [HXL.out]; omega)]
            subst htt
            obtain ⟨b1, hB1, _, _, _, _, y4⟩ := (HY.out.1.keep HST.out.below).at (k := k) (by rw [HYL.out]; exact hkl)
            subst hB1
            clear y4
            go_upto_region 7 with (fail)
            have BZ : Below wo.heap.size wo wo.drew := (Below.refl _ _).drew
            refine wp_region_held_drew (S := (fun w' => True)) (by kernel_rfl) trivial (fun hHeld => ?_)
            generalize wo.drew = Z at *
            refine wpAnyH_get 0 (some 34) (.int .i64 (k : Nat)) rfl rfl (by kernel_rfl) (by kernel_rfl) (by kernel_rfl) (fun _ _ _ h => h) (by rfl) hHeld ?_ ?_
            · (intro w hSw; (try dsimp only at hSw); go_simp; all_goals (try with_reducible rfl))
            (try simp only [Act.put, List.setIfInBounds_toArray, List.set_cons_zero, List.set_cons_succ])
            refine wpAnyH_get 1 (some 35) (.slice (some b1) m d2) rfl rfl (by kernel_rfl) (by kernel_rfl) (by kernel_rfl) (fun _ _ _ h => h) (by rfl) hHeld ?_ ?_
            · (intro w hSw; (try dsimp only at hSw); go_simp; all_goals (try with_reducible rfl))
            (try simp only [Act.put, List.setIfInBounds_toArray, List.set_cons_zero, List.set_cons_succ])
            refine wpAnyH_get 2 (some 36) (.int .i64 (m : Nat)) rfl rfl (by kernel_rfl) (by kernel_rfl) (by kernel_rfl) (fun _ _ _ h => h) (by rfl) hHeld ?_ ?_
            · (intro w hSw; (try dsimp only at hSw); go_simp; all_goals (try with_reducible rfl))
            (try simp only [Act.put, List.setIfInBounds_toArray, List.set_cons_zero, List.set_cons_succ])
            refine wpAnyH_get 3 (some 37) (.bool false) rfl rfl (by kernel_rfl) (by kernel_rfl) (by kernel_rfl) (fun _ _ _ h => h) (by rfl) hHeld ?_ ?_
            · (intro w hSw; (try dsimp only at hSw); go_simp; all_goals (try with_reducible rfl))
            (try simp only [Act.put, List.setIfInBounds_toArray, List.set_cons_zero, List.set_cons_succ])
            refine wpAnyH_get 4 (some 38) (.bool false) rfl rfl (by kernel_rfl) (by kernel_rfl) (by kernel_rfl) (fun _ _ _ h => h) (by rfl) hHeld ?_ ?_
            · (intro w hSw; (try dsimp only at hSw); go_simp; all_goals (try with_reducible rfl))
            (try simp only [Act.put, List.setIfInBounds_toArray, List.set_cons_zero, List.set_cons_succ])
            refine wpAnyH_get 5 (some 39) (.int .i64 (i : Nat)) rfl rfl (by kernel_rfl) (by kernel_rfl) (by kernel_rfl) (fun _ _ _ h => h) (by rfl) hHeld ?_ ?_
            · (intro w hSw; (try dsimp only at hSw); go_simp; all_goals (try with_reducible rfl))
            (try simp only [Act.put, List.setIfInBounds_toArray, List.set_cons_zero, List.set_cons_succ])
            refine wpAnyH_get 6 (some 40) (.slice B1 h d1) rfl rfl (by kernel_rfl) (by kernel_rfl) (by kernel_rfl) (fun _ _ _ h => h) (by rfl) hHeld ?_ ?_
            · (intro w hSw; (try dsimp only at hSw); go_simp; all_goals (try with_reducible rfl))
            (try simp only [Act.put, List.setIfInBounds_toArray, List.set_cons_zero, List.set_cons_succ])
            refine wpAnyH_get 7 (some 41) (.int .i64 (h : Nat)) rfl rfl (by kernel_rfl) (by kernel_rfl) (by kernel_rfl) (fun _ _ _ h => h) (by rfl) hHeld ?_ ?_
            · (intro w hSw; (try dsimp only at hSw); go_simp; all_goals (try with_reducible rfl))
            (try simp only [Act.put, List.setIfInBounds_toArray, List.set_cons_zero, List.set_cons_succ])
            refine wpAnyH_get 8 (some 42) (.bool false) rfl rfl (by kernel_rfl) (by kernel_rfl) (by kernel_rfl) (fun _ _ _ h => h) (by rfl) hHeld ?_ ?_
            · (intro w hSw; (try dsimp only at hSw); go_simp; all_goals (try with_reducible rfl))
            (try simp only [Act.put, List.setIfInBounds_toArray, List.set_cons_zero, List.set_cons_succ])
            refine wpAnyH_get 9 (some 43) (.bool false) rfl rfl (by kernel_rfl) (by kernel_rfl) (by kernel_rfl) (fun _ _ _ h => h) (by rfl) hHeld ?_ ?_
            · (intro w hSw; (try dsimp only at hSw); go_simp; all_goals (try with_reducible rfl))
            (try simp only [Act.put, List.setIfInBounds_toArray, List.set_cons_zero, List.set_cons_succ])
            refine wpAnyH_pass 10 (some 44) rfl rfl (by kernel_rfl) (by kernel_rfl) (by kernel_rfl) (fun _ _ _ h => h) (by rfl) hHeld ?_
            (try simp only [Act.put, List.setIfInBounds_toArray, List.set_cons_zero, List.set_cons_succ])
            refine wpAnyH_pass 11 (some 45) rfl rfl (by kernel_rfl) (by kernel_rfl) (by kernel_rfl) (fun _ _ _ h => h) (by rfl) hHeld ?_
            (try simp only [Act.put, List.setIfInBounds_toArray, List.set_cons_zero, List.set_cons_succ])
            refine wpAnyH_pass 12 (some 46) rfl rfl (by kernel_rfl) (by kernel_rfl) (by kernel_rfl) (fun _ _ _ h => h) (by rfl) hHeld ?_
            (try simp only [Act.put, List.setIfInBounds_toArray, List.set_cons_zero, List.set_cons_succ])
            refine wpAnyH_pass 13 (some 47) rfl rfl (by kernel_rfl) (by kernel_rfl) (by kernel_rfl) (fun _ _ _ h => h) (by rfl) hHeld ?_
            (try simp only [Act.put, List.setIfInBounds_toArray, List.set_cons_zero, List.set_cons_succ])
            refine wpAnyH_pass 14 (some 48) rfl rfl (by kernel_rfl) (by kernel_rfl) (by kernel_rfl) (fun _ _ _ h => h) (by rfl) hHeld ?_
            (try simp only [Act.put, List.setIfInBounds_toArray, List.set_cons_zero, List.set_cons_succ])
            refine wpAnyH_pass 15 (some 49) rfl rfl (by kernel_rfl) (by kernel_rfl) (by kernel_rfl) (fun _ _ _ h => h) (by rfl) hHeld ?_
            (try simp only [Act.put, List.setIfInBounds_toArray, List.set_cons_zero, List.set_cons_succ])
            refine wpAnyH_pass 16 (some 50) rfl rfl (by kernel_rfl) (by kernel_rfl) (by kernel_rfl) (fun _ _ _ h => h) (by rfl) hHeld ?_
            (try simp only [Act.put, List.setIfInBounds_toArray, List.set_cons_zero, List.set_cons_succ])
            refine wpAnyH_pass 17 (some 51) rfl rfl (by kernel_rfl) (by kernel_rfl) (by kernel_rfl) (fun _ _ _ h => h) (by rfl) hHeld ?_
            (try simp only [Act.put, List.setIfInBounds_toArray, List.set_cons_zero, List.set_cons_succ])
            refine wpAnyH_pass 18 (some 52) rfl rfl (by kernel_rfl) (by kernel_rfl) (by kernel_rfl) (fun _ _ _ h => h) (by rfl) hHeld ?_
            (try simp only [Act.put, List.setIfInBounds_toArray, List.set_cons_zero, List.set_cons_succ])
            refine wpAnyH_pass 19 (some 53) rfl rfl (by kernel_rfl) (by kernel_rfl) (by kernel_rfl) (fun _ _ _ h => h) (by rfl) hHeld ?_
            (try simp only [Act.put, List.setIfInBounds_toArray, List.set_cons_zero, List.set_cons_succ])
            refine wpAnyH_pass 20 (some 54) rfl rfl (by kernel_rfl) (by kernel_rfl) (by kernel_rfl) (fun _ _ _ h => h) (by rfl) hHeld ?_
            (try simp only [Act.put, List.setIfInBounds_toArray, List.set_cons_zero, List.set_cons_succ])
            refine wpAnyH_pass 21 (some 55) rfl rfl (by kernel_rfl) (by kernel_rfl) (by kernel_rfl) (fun _ _ _ h => h) (by rfl) hHeld ?_
            (try simp only [Act.put, List.setIfInBounds_toArray, List.set_cons_zero, List.set_cons_succ])
            refine wpAnyH_get 22 (some 56) (.bool false) rfl rfl (by kernel_rfl) (by kernel_rfl) (by kernel_rfl) (fun _ _ _ h => h) (by rfl) hHeld ?_ ?_
            · (intro w hSw; (try dsimp only at hSw); go_simp; all_goals (try with_reducible rfl))
            (try simp only [Act.put, List.setIfInBounds_toArray, List.set_cons_zero, List.set_cons_succ])
            refine wpAnyH_get 23 (some 57) (.bool false) rfl rfl (by kernel_rfl) (by kernel_rfl) (by kernel_rfl) (fun _ _ _ h => h) (by rfl) hHeld ?_ ?_
            · (intro w hSw; (try dsimp only at hSw); go_simp; all_goals (try with_reducible rfl))
            (try simp only [Act.put, List.setIfInBounds_toArray, List.set_cons_zero, List.set_cons_succ])
            refine wpAnyH_done (by kernel_rfl) ?_ _
            obtain ⟨wq, rfl⟩ : ∃ x : World, x = Z := ⟨_, rfl⟩
            clear hHeld

            obtain ⟨hj, hmg⟩ := pick_false HTK.out (by rw [HXL.out, HYL.out]; exact HND.out)
            have hlt : k < m := by rw [← HYL.out]; exact hj
            have hok := HY.out.1.ok ys[k] (List.getElem_mem _)
            obtain ⟨ax, hAX, c0, c1, c2, c3, c4⟩ := (HY.out.1.keep (below_all HST.out.below BZ)).at hj
            injection hAX with hAX
            subst hAX
            obtain ⟨t, ht⟩ : ∃ t, ys[k] = t := ⟨_, rfl⟩
            rw [ht] at c0 c1 c3 c4 hok hmg
            have HMG := Lib.hid hmg
            have HOK := Lib.hid hok
            have HCE : Hid (t.cells = [.bool (decide (t.r.q.num < 0)), .slice t.r.N (dg t.r.q.num.natAbs).length t.r.cn, .bool false, .slice t.r.D (dg (dnz t.r.q.den)).length t.r.cd, .slice t.E t.el.length t.ce]) := Lib.hid rfl
            have HNC := Lib.hid (cells_new wq 99 t.cells)
            rw [HCE.out] at HNC
            obtain ⟨i0, hi0, hz0, hz1, hz2⟩ := info_parts Sx.rt5_info
            have hown := own_below HST.out.own BZ (Nat.le_refl _)
            have hsz : w2.heap.size ≤ wq.heap.size := Nat.le_trans HST.out.below.size BZ.size
            have p5 : (0 : Int) ≤ (k : Int) := by omega
            have p6 : (k : Int) < (m : Int) := by omega
            have HBZ := Lib.hid (below_all HST.out.below BZ)
            clear ht hok hmg hj BZ
            generalize decide (t.r.q.num < 0) = s1 at *
            generalize (dg t.r.q.num.natAbs).length = n1 at *
            generalize (dg (dnz t.r.q.den)).length = n2 at *
            generalize t.r.N = rN at *
            generalize t.r.D = rD at *
            generalize t.r.cn = rcn at *
            generalize t.r.cd = rcd at *
            generalize t.E = rE at *
            generalize t.el.length = rv at *
            generalize t.ce = rce at *
            go_wp2_with (first
              | (at_builtin; refine wpList_append_own_at _ rfl _ _ 63 rfl w2.heap.size 99 i0 _ 5 88 Tryz.underlying63 hi0 hz0 hz1 hz2 rfl (by decide) (.slice R (i + k) cr) (i + k) _ rfl (hown.alloc _) ⟨wq.heap.size, 0, none⟩ 1 1 [.bool s1, .slice rN n1 rcn, .bool false, .slice rD n2 rcd, .slice rE rv rce] rfl rfl ?c1 ?c2 ?c3 ?c4 ?c5 ?_
                 case c1 => exact HNC.out
                 case c2 => simp [Value.oneCell']
                 case c3 => simp only [maxLen]; omega
                 case c4 => omega
                 case c5 => simp; omega
                 intro v' w5 hown' hgrow _ hat))
            obtain ⟨A2, cs2, hv2, _, _⟩ := Sl.of_own hown'
            subst hv2
            have hal := Below.alloc (Below.refl wq.heap.size wq) (Nat.le_refl _) (.cells #[.bool s1, .slice rN n1 rcn, .bool false, .slice rD n2 rcd, .slice rE rv rce] 99)
            have hownA := hown.alloc (.cells #[.bool s1, .slice rN n1 rcn, .bool false, .slice rD n2 rcd, .slice rE rv rce] 99)
            have HNX : Hid (MgSt w2 w5 xs ys (i) (k + 1) A2 cs2 (out ++ [t])) := Lib.hid (by
              refine MgSt.right HST.out HOK.out HMG.out (by rw [HCE.out]; exact hown') ?_
              exact Below.grown (below_all HBZ.out hal) hgrow (by have := (below_all HBZ.out hal).size; exact this) (fun j hj => (hownA.lt j hj).1))
            go_roundw
            case rel => exact ⟨i, k + 1, A2, cs2, _, by rw [show i + (k + 1) = i + k + 1 by omega], by go_num, by go_num, by omega, by omega, HNX⟩
            case measure => simp [intOf]; omega
end Go.Proofs.Tg
end
