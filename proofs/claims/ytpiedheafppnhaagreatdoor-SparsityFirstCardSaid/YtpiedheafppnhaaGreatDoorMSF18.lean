/- Parts of the proof: XD2, XD3, RS1, XK3, XK4, E5, XK6, XR3, WK4, WK5. -/
import Derived.Deep.RegionHeld3
import Derived.Test.YtpiedheafppnhaaGreatDoorMSF2
import Derived.Test.YtpiedheafppnhaaGreatDoorMSF4
import Derived.Test.YtpiedheafppnhaaGreatDoorMSF12
import Derived.Test.YtpiedheafppnhaaGreatDoorMSF14
import Derived.Test.YtpiedheafppnhaaGreatDoorMSF17
section
/- Memory of the reference's classes: keys that stay and classes that grow, all apart. -/
namespace Go.Proofs.Tg
open Go.RowKit
structure KInv (base : Nat) (KA : Option Addr) (kc : Nat) (K : List (List Int)) (kval : Nat → Value) (C : Option Addr) (cc : Nat) (Cl : List (List Nat)) (val : Nat → Value) (w : World) : Prop where
  fam : Fam base C cc Cl val w
  krow : w.ownsRow base 50 1 (.slice KA K.length kc) K.length ((List.range K.length).map kval)
  kown : ∀ j, j < K.length → w.ownsRow base 3 1 (kval j) (K.getD j []).length ((K.getD j []).map vi)
  ksep : ∀ i j, i < K.length → j < Cl.length → (kval i).ownBlock = none ∨ (kval i).ownBlock ≠ (val j).ownBlock
  rsep : (Value.slice KA K.length kc).ownBlock = none ∨ (Value.slice KA K.length kc).ownBlock ≠ (Value.slice C Cl.length cc).ownBlock
theorem KInv.nil (base : Nat) (w : World) : KInv base none 0 [] (fun _ => .slice none 0 0) none 0 [] (fun _ => .slice none 0 0) w :=
  ⟨Fam.nil _ _, World.ownsRow_nil _ _ _ _, fun j h => absurd h (by simp), fun i j h => absurd h (by simp), .inl rfl⟩
theorem KInv.keep {base : Nat} {KA : Option Addr} {kc : Nat} {K : List (List Int)} {kval : Nat → Value} {C : Option Addr} {cc : Nat} {Cl : List (List Nat)} {val : Nat → Value} {w w' : World} (h : KInv base KA kc K kval C cc Cl val w) (hb : Below w.heap.size w w') : KInv base KA kc K kval C cc Cl val w' :=
  ⟨h.fam.keep hb, own_below h.krow hb (Nat.le_refl _), fun j hj => own_below (h.kown j hj) hb (Nat.le_refl _), h.ksep, h.rsep⟩
theorem KInv.alloc {base : Nat} {KA : Option Addr} {kc : Nat} {K : List (List Int)} {kval : Nat → Value} {C : Option Addr} {cc : Nat} {Cl : List (List Nat)} {val : Nat → Value} {w : World} (h : KInv base KA kc K kval C cc Cl val w) (o : Obj) : KInv base KA kc K kval C cc Cl val (w.alloc o) :=
  h.keep ((Below.refl _ _).alloc (Nat.le_refl _) o)
theorem ne_symm' {a b : Option Nat} (h : a = none ∨ a ≠ b) : b = none ∨ b ≠ a := by
  cases b with
  | none => exact .inl rfl
  | some x =>
    right
    rcases h with h | h
    · rw [h]; simp
    · exact fun e => h e.symm
theorem KInv.pushKey {base : Nat} {KA KA' : Option Addr} {kc kc' : Nat} {K : List (List Int)} {kval : Nat → Value} {C : Option Addr} {cc : Nat} {Cl : List (List Nat)} {val : Nat → Value} {w w' : World} {q : List Int} {kv : Value} (h : KInv base KA kc K kval C cc Cl val w)
    (hq : w.ownsRow base 3 1 kv q.length (q.map vi)) (hqs : ∀ j, j < Cl.length → kv.ownBlock = none ∨ kv.ownBlock ≠ (val j).ownBlock)
    (hr : w'.ownsRow base 50 1 (.slice KA' (K.length + 1) kc') (K.length + 1) ((List.range K.length).map kval ++ [kv])) (hg : w.grownBy w' (Value.slice KA K.length kc).ownBlock)
    (hat : (Value.slice KA' (K.length + 1) kc').ownBlock = (Value.slice KA K.length kc).ownBlock ∨ (Value.slice KA' (K.length + 1) kc').ownBlock = some w.heap.size) :
    KInv base KA' kc' (K ++ [q]) (fun j => if j = K.length then kv else kval j) C cc Cl val w' := by
  have hlen : (K ++ [q]).length = K.length + 1 := by simp
  have hgd : ∀ j, j < K.length + 1 → (K ++ [q]).getD j [] = if j = K.length then q else K.getD j [] := by
    intro j hj
    by_cases e : j = K.length
    · subst e; simp
    · rw [if_neg e]
      simp only [List.getD_eq_getElem?_getD, List.getElem?_append_left (show j < K.length by omega)]
  refine ⟨h.fam.other hg (ne_symm' h.rsep) (fun j hj => own_ne (h.fam.own j hj) h.krow (by decide)), ?_, fun j hj => ?_, fun i j hi hj => ?_, ?_⟩
  · rw [hlen]
    have e : (List.range (K.length + 1)).map (fun j => if j = K.length then kv else kval j) = (List.range K.length).map kval ++ [kv] := by
      rw [List.range_succ, List.map_append]
      congr 1
      · refine List.map_congr_left fun j hj => ?_
        have := List.mem_range.1 hj
        rw [if_neg (by omega)]
      · simp
    rw [e]; exact hr
  · rw [hlen] at hj
    rw [hgd j hj]
    by_cases e : j = K.length
    · rw [if_pos e, if_pos e]
      exact hq.kept hg (own_ne hq h.krow (by decide))
    · rw [if_neg e, if_neg e]
      exact (h.kown j (by omega)).kept hg (own_ne (h.kown j (by omega)) h.krow (by decide))
  · rw [hlen] at hi
    by_cases e : i = K.length
    · rw [if_pos e]; exact hqs j hj
    · rw [if_neg e]; exact h.ksep i j (by omega) hj
  · rw [hlen]
    rcases hat with hx | hx
    · rw [hx]; exact h.rsep
    · right
      rw [hx]
      intro e
      have := (h.fam.row.lt _ e.symm).2
      omega
theorem KInv.pushCls {base : Nat} {KA : Option Addr} {kc : Nat} {K : List (List Int)} {kval : Nat → Value} {C C' : Option Addr} {cc cc' : Nat} {Cl : List (List Nat)} {val : Nat → Value} {w w' : World} (h : KInv base KA kc K kval C cc Cl val w)
    (hr : w'.ownsRow base 50 1 (.slice C' (Cl.length + 1) cc') (Cl.length + 1) ((List.range Cl.length).map val ++ [.slice none 0 0])) (hg : w.grownBy w' (Value.slice C Cl.length cc).ownBlock)
    (hat : (Value.slice C' (Cl.length + 1) cc').ownBlock = (Value.slice C Cl.length cc).ownBlock ∨ (Value.slice C' (Cl.length + 1) cc').ownBlock = some w.heap.size) :
    KInv base KA kc K kval C' cc' (Cl ++ [[]]) (fun j => if j = Cl.length then .slice none 0 0 else val j) w' := by
  have hlen : (Cl ++ [([] : List Nat)]).length = Cl.length + 1 := by simp
  refine ⟨h.fam.push hr hg, h.krow.kept hg h.rsep, fun j hj => (h.kown j hj).kept hg (own_ne (h.kown j hj) h.fam.row (by decide)), fun i j hi hj => ?_, ?_⟩
  · rw [hlen] at hj
    by_cases e : j = Cl.length
    · rw [if_pos e]
      cases hb : (kval i).ownBlock with
      | none => exact .inl rfl
      | some g => exact .inr (by simp [Value.ownBlock])
    · rw [if_neg e]; exact h.ksep i j hi (by omega)
  · rw [hlen]
    rcases hat with hx | hx
    · rw [hx]; exact h.rsep
    · cases hb : (Value.slice KA K.length kc).ownBlock with
      | none => exact .inl rfl
      | some z =>
        right
        rw [hx]
        intro e
        injection e with e
        have := (h.krow.lt z hb).2
        omega
theorem KInv.add {base : Nat} {KA : Option Addr} {kc : Nat} {K : List (List Int)} {kval : Nat → Value} {g : Nat} {cc : Nat} {Cl : List (List Nat)} {val : Nat → Value} {w w' : World} {k i : Nat} {v' : Value} (h : KInv base KA kc K kval (some ⟨g, 0, none⟩) cc Cl val w) (hk : k < Cl.length)
    (hr : w'.ownsRow base 3 1 v' ((Cl.getD k []).length + 1) ((Cl.getD k []).map vn ++ [vn i])) (hg : w.grownBy w' (val k).ownBlock) (hat : v'.ownBlock = (val k).ownBlock ∨ v'.ownBlock = some w.heap.size) :
    KInv base KA kc K kval (some ⟨g, 0, none⟩) cc (Cl.set k (Cl.getD k [] ++ [i])) (fun j => if j = k then v' else val j) (w'.setCell ⟨g, k, none⟩ v') := by
  have hlen : (Cl.set k (Cl.getD k [] ++ [i])).length = Cl.length := by simp
  have hrow' := h.fam.row.kept hg (own_ne h.fam.row (h.fam.own k hk) (by decide))
  have hst := hrow'.stored k v'
  have hkr := h.krow.kept hg (own_ne h.krow (h.fam.own k hk) (by decide))
  refine ⟨h.fam.add hk hr hg hat, ?_, fun j hj => ?_, fun a b ha hb => ?_, ?_⟩
  · exact hkr.kept hst.2 (by
      rcases h.rsep with e | e
      · exact .inl e
      · exact .inr (by simpa [Value.ownBlock] using e))
  · have h1 := (h.kown j hj).kept hg (h.ksep j k hj hk)
    exact h1.kept hst.2 (own_ne h1 hrow' (by decide))
  · rw [hlen] at hb
    by_cases e : b = k
    · rw [if_pos e]
      rcases hat with hx | hx
      · rw [hx]; exact h.ksep a k ha hk
      · cases hbk : (kval a).ownBlock with
        | none => exact .inl rfl
        | some z =>
          right
          rw [hx]
          intro e2
          injection e2 with e2
          have := ((h.kown a ha).lt z hbk).2
          omega
    · rw [if_neg e]; exact h.ksep a b ha hb
  · rw [hlen]; exact h.rsep
end Go.Proofs.Tg
end
section
/- Walks of the reference: values, sets, classes. -/
namespace Go.Proofs.Tg
open Go.RowKit Go.Gr Go.Ev Go.Mo
set_option maxHeartbeats 4000000
set_option maxRecDepth 100000
def RetRow (l : List Int) (w : World) (e : Ending) (w' : World) : Prop :=
  ∃ A c, e = .returned (.slice A l.length c) ∧ w'.ownsRow w.heap.size 3 1 (.slice A l.length c) l.length (l.map vi) ∧ Below w.heap.size w w'
theorem seq_any (A B : Option Addr) (xs ys : List Int) (c d : Nat) (w : World) (hx : Ints w A xs) (hy : Ints w B ys) (hn : xs.length ≤ 1000000) (b : Bool) (hbb : decide (xs = ys) = b) :
    Calls Tryz.prog 63 #[.slice A xs.length c, .slice B ys.length d] w fun e w' => e = .returned (.bool b) ∧ Dr w w' := by
  rw [← hbb]
  clear hbb
  by_cases hl : xs.length = ys.length
  · have hb : ((xs.length : Int) != (ys.length : Int)) = false := by simp [hl]
    have HL := Lib.hid hl; clear hl
    go_enter Tryz.func63, Tryz.ntmps63
    go_wp2
    go_loopw [13] (fun i wr => ∃ k : Nat, k ≤ xs.length ∧ i = .int .i64 k ∧ Hid (xs.take k = ys.take k) ∧ Dr w wr) (fun i _ => xs.length - (intOf i).toNat)
    case atStart => exact ⟨0, Nat.zero_le _, rfl, Lib.hid (by simp), Dr.refl _⟩
    case round =>
      obtain ⟨k, hk, rfl, HT, hbw⟩ := hrel
      by_cases hlt : k < xs.length
      · have hky : k < ys.length := by have := HL.out; omega
        obtain ⟨ad, rfl, hc⟩ := Ints.at (hx.keep hbw.below) hlt
        obtain ⟨bd, rfl, hd⟩ := Ints.at (hy.keep hbw.below) hky
        have HX : Hid (xs.take (k + 1) = xs.take k ++ [xs[k]]) := Lib.hid (List.take_succ_eq_append_getElem hlt)
        have HY : Hid (ys.take (k + 1) = ys.take k ++ [ys[k]]) := Lib.hid (List.take_succ_eq_append_getElem hky)
        have HNE : Hid (xs = ys → xs[k] = ys[k]) := Lib.hid (fun e => by subst e; rfl)
        have i1 : (0 : Int) ≤ (k : Int) := by omega
        have i2 : (k : Int) < (xs.length : Int) := by omega
        have i3 : (k : Int) < (ys.length : Int) := by omega
        have i4 : ((k : Int)).toNat = k := by omega
        clear hx hy
        generalize xs[k] = x at hc HX HNE
        generalize ys[k] = y at hd HY HNE
        by_cases heq : x = y
        · have hbb : (x != y) = false := by simp [heq]
          have HE := Lib.hid heq; clear heq
          go_wp2
          go_quiet (fail)
          go_wp2
          go_roundw
          case rel => exact ⟨k + 1, by omega, by go_num, Lib.hid (by rw [HX.out, HY.out, HT.out, HE.out]), hbw.drewN _⟩
          case measure => simp [intOf]; omega
        · have hbb : (x != y) = true := by simp [heq]
          have HF : Hid (decide (xs = ys) = false) := Lib.hid (decide_eq_false (fun e => heq (HNE.out e)))
          clear heq
          go_wp2
          go_quiet (fail)
          go_wp2
          go_ret
          exact ⟨by rw [HF.out]; rfl, hbw.drewN _⟩
      · have HF : Hid (decide (xs = ys) = true) := Lib.hid (decide_eq_true (by
          have := HT.out
          rwa [List.take_of_length_le (by omega), List.take_of_length_le (by have := HL.out; omega)] at this))
        go_wp2
        go_ret
        exact ⟨by rw [HF.out]; rfl, hbw⟩
  · have hb : ((xs.length : Int) != (ys.length : Int)) = true := by simp; omega
    have HF : Hid (decide (xs = ys) = false) := Lib.hid (decide_eq_false (fun e => hl (by rw [e])))
    clear hl
    go_enter Tryz.func63, Tryz.ntmps63
    go_wp2
    go_ret
    exact ⟨by rw [HF.out]; rfl, Dr.refl _⟩
end Go.Proofs.Tg
end
section
/- The reference of sparsity: products of monomials, whether a list has a monomial. -/
namespace Go.Proofs.Tg.Sx
open Go.RowKit Go.Gr Go.Sp Go.Ev Go.Mo Go.Qn
set_option maxHeartbeats 4000000
set_option maxRecDepth 100000
theorem rprod_any (A B : Option Addr) (c d n : Nat) (a b : List Int) (w : World) (hA : Ints w A a) (hB : Ints w B b) (ha : domK n 24 a) (hb : domK n 24 b) (hn : n ≤ 6) :
    Calls Tryz.prog 45 #[.slice A a.length c, .slice B b.length d] w fun e w' => e = .returned (.slice (some ⟨w.heap.size, 0, none⟩) n n) ∧ Blk w' w.heap.size 3 (iarr (addL a b)) ∧ Below w.heap.size w w' := by
  have HA := Lib.hid ha
  have HB := Lib.hid hb
  have HSL : Hid ((addL a b).length = n) := Lib.hid (addL_dom ha hb).1
  have HSA : Hid (∀ k (h1 : k < a.length) (h2 : k < b.length) (h3 : k < (addL a b).length), (addL a b)[k] = a[k] + b[k]) := Lib.hid (fun k h1 h2 h3 => by simp [addL])
  have hal : a.length = n := ha.1
  have hbl : b.length = n := hb.1
  have hmk := fun W => make_ints n n (Nat.le_refl _) (by omega) W
  have HAW := Lib.hid hA
  have HBW := Lib.hid hB
  clear ha hb hA hB
  generalize addL a b = s at *
  rw [hal, hbl]
  go_enter Tryz.func45, Tryz.ntmps45
  go_wp2
  clear hmk
  go_loopw [6] (fun i wr => ∃ k : Nat, k ≤ n ∧ i = .int .i64 k ∧ Blk wr w.heap.size 3 (iarr (s.take k ++ List.replicate (n - k) 0)) ∧ Below w.heap.size w wr) (fun i _ => n - (intOf i).toNat)
  case atStart =>
    refine ⟨0, Nat.zero_le _, rfl, ?_, (Below.refl _ _).alloc (Nat.le_refl _) _⟩
    have e : iarr (s.take 0 ++ List.replicate (n - 0) 0) = madeCells #[.int .i64 0] n := (iarr_made n).symm
    rw [e]
    exact Blk.new w 3 _
  case round =>
    obtain ⟨wo, rfl⟩ : ∃ wo : World, wo = wr := ⟨_, rfl⟩
    obtain ⟨k, hk, rfl, B0, hbw⟩ := hrel
    by_cases hlt : k < n
    · obtain ⟨ad, rfl, hca⟩ := Ints.at (HAW.out.keep hbw) (show k < a.length by omega)
      obtain ⟨bd, rfl, hcb⟩ := Ints.at (HBW.out.keep hbw) (show k < b.length by omega)
      have hx := HA.out.2 (a[k]'(by omega)) (List.getElem_mem _)
      have hy := HB.out.2 (b[k]'(by omega)) (List.getElem_mem _)
      have hl2 : (s.take k ++ List.replicate (n - k) 0).length = n := by
        have := HSL.out
        rw [List.length_append, List.length_take, List.length_replicate]; omega
      have HST : Hid ((s.take k ++ List.replicate (n - k) 0).set k (a[k]'(by omega) + b[k]'(by omega)) = s.take (k + 1) ++ List.replicate (n - (k + 1)) 0) := Lib.hid (fill_set _ k _ _ HSL.out hlt (HSA.out k (by omega) (by omega) (by rw [HSL.out]; exact hlt)))
      have c0 := B0.cell k
      have f0 := B0.frozen k
      rw [iarr_at _ (by rw [hl2]; exact hlt)] at c0
      generalize (s.take k ++ List.replicate (n - k) 0)[k]'(by rw [hl2]; exact hlt) = old at c0
      have HB0 := Lib.hid B0
      generalize b[k]'(by omega) = y at *
      generalize a[k]'(by omega) = x at *
      have w1 : IntKind.i64.wrap (x + y) = x + y := IntWalk.i64_in _ (by omega)
      have q0 : (0 : Int) ≤ (k : Int) := by omega
      have q1 : (k : Int) < (n : Int) := by omega
      have q3 : ((k : Int)).toNat = k := by omega
      have HAL := Lib.hid hal
      have HBL := Lib.hid hbl
      clear B0 hl2 hx hy hal hbl
      go_wp2
      go_region
      go_wp2
      go_roundw
      case rel =>
        refine ⟨k + 1, by omega, by go_num, ?_, (below_far hbw (Nat.le_refl _) _ _).drew⟩
        have := HB0.out.set k (.int .i64 (x + y))
        rw [iarr_set, HST.out] at this
        exact this.drew
      case measure => simp [intOf]; omega
    · obtain rfl : k = n := by omega
      rw [Nat.sub_self, List.replicate_zero, List.append_nil, List.take_of_length_le (by rw [HSL.out]; omega)] at B0
      have dk : decide ((k : Int) < (k : Int)) = false := by simp
      go_wp2
      go_ret
      exact ⟨rfl, B0, hbw⟩
theorem rhas_any (A M : Option Addr) (ca cm : Nat) (s : List (List Int)) (m : List Int) (q : Bool) (w : World) (hA : Lists w A s) (hM : Ints w M m) (hl : s.length ≤ 1000000000) (hll : ∀ v ∈ s, v.length ≤ 1000000) (hq : decide (m ∈ s) = q) :
    Calls Tryz.prog 44 #[.slice A s.length ca, .slice M m.length cm] w fun e w' => e = .returned (.bool q) ∧ Dr w w' := by
  have HQ := Lib.hid hq
  have HLL := Lib.hid hll
  clear hq hll
  go_enter Tryz.func44, Tryz.ntmps44
  go_wp2
  go_loopw [5] (fun s5 wr => ∃ i : Nat, s5 = .int .i64 i ∧ i ≤ s.length ∧ Hid (m ∉ s.take i) ∧ Dr w wr) (fun s5 _ => s.length - (intOf s5).toNat)
  case atStart => exact ⟨0, rfl, Nat.zero_le _, Lib.hid (by simp), Dr.refl _⟩
  case round =>
    obtain ⟨wo, rfl⟩ : ∃ wo : World, wo = wr := ⟨_, rfl⟩
    obtain ⟨i, rfl, hi, HG, hdr⟩ := hrel
    by_cases hlt : i < s.length
    · obtain ⟨ad, E, c, rfl, hc, hE⟩ := (hA.keep hdr.below).at hlt
      have hel := HLL.out s[i] (List.getElem_mem _)
      have HN : Hid (s[i] ≠ m → m ∉ s.take (i + 1)) := Lib.hid (fun h hm => by
        rcases List.mem_cons.1 ((take_mem_succ hlt m).2 hm) with e | e
        · exact h e.symm
        · exact HG.out e)
      have HY : Hid (s[i] = m → q = true) := Lib.hid (fun h => by rw [← HQ.out]; exact decide_eq_true (h ▸ List.getElem_mem _))
      generalize s[i] = v at *
      have hMo := hM.keep hdr.below
      by_cases hvm : v = m
      · obtain rfl := HY.out hvm
        have HS := Lib.hid (seq_any E M v m c cm wo hE hMo hel true (decide_eq_true hvm))
        clear hvm
        go_wp2_with (go_at_call 63; refine HS.out.mono ?_; rintro e w2 ⟨rfl, hd2⟩)
        go_ret
        obtain ⟨x, rfl⟩ := hdr
        obtain ⟨y, rfl⟩ := hd2
        exact ⟨rfl, by rw [World.drewN_drewN]; exact ⟨_, rfl⟩⟩
      · have HN2 := Lib.hid (HN.out hvm)
        have HS := Lib.hid (seq_any E M v m c cm wo hE hMo hel false (decide_eq_false hvm))
        clear hvm
        go_wp2_with (go_at_call 63; refine HS.out.mono ?_; rintro e w2 ⟨rfl, hd2⟩)
        go_roundw
        case rel =>
          refine ⟨i + 1, by go_num, by omega, HN2, ?_⟩
          obtain ⟨x, rfl⟩ := hdr
          obtain ⟨y, rfl⟩ := hd2
          rw [World.drewN_drewN]; exact ⟨_, rfl⟩
        case measure => simp [intOf]; omega
    · obtain rfl : i = s.length := by omega
      obtain rfl : q = false := by
        rw [← HQ.out]; exact decide_eq_false (by have := HG.out; rwa [List.take_length] at this)
      have dk : decide ((s.length : Int) < (s.length : Int)) = false := by simp
      go_wp2
      go_ret
      exact ⟨rfl, hdr⟩
end Go.Proofs.Tg.Sx
end
section
/- The reference's reducedWith. -/
namespace Go.Ev
/-- The vector of a number, the greatest bit first. -/
def ov (n t : Nat) : List Int := unp (rev n t) n
theorem ov_len (n t : Nat) : (ov n t).length = n := unp_len _ _
def badT (rs : List (List Int)) (n : Nat) (v : List Int) (t : Nat) : Bool := decide (v.findIdx (· == 1) < (ov n t).findIdx (· == 1)) && (v.getD ((ov n t).findIdx (· == 1)) 0 == 1) && orth rs (ov n t)
def redR (rs : List (List Int)) (n : Nat) (v : List Int) : Bool := (List.range (2 ^ n)).all fun t => t == 0 || !badT rs n v t
theorem ov_hit {n t : Nat} (h0 : 0 < t) (hn : t < 2 ^ n) : (ov n t).findIdx (· == 1) < n := by
  have hr : rev n t ≠ 0 := fun h => by have := (rev_zero hn).1 h; omega
  obtain ⟨k, hk⟩ := lead_exists hr
  have hkn := lead_lt (rev_lt n t) hk
  have : (ov n t).findIdx (· == 1) < (ov n t).length := by
    rw [List.findIdx_lt_length]
    refine ⟨(ov n t)[k]'(by rw [ov_len]; exact hkn), List.getElem_mem _, ?_⟩
    have e := unp_getD (rev n t) n k hkn
    rw [if_pos hk.1] at e
    have e2 : (ov n t).getD k 0 = (ov n t)[k]'(by rw [ov_len]; exact hkn) := by simp [ov_len, hkn]
    rw [← e2]
    unfold ov
    rw [e]; rfl
  rwa [ov_len] at this
end Go.Ev
namespace Go.Proofs.Tg
open Go.RowKit Go.Gr Go.Ev Go.Mo
set_option maxHeartbeats 4000000
set_option maxRecDepth 100000
end Go.Proofs.Tg
end
section
/- The reference's Kernel. -/
namespace Go.Ev
def keepR (rs : List (List Int)) (n x : Nat) : Bool := orth rs (unp x n) && redR rs n (unp x n)
theorem kern_len (keep : Nat → Bool) (n k : Nat) : (kern keep n k).length ≤ k := by
  unfold kern
  exact Nat.le_trans (List.length_filter_le _ _) (by simp)
end Go.Ev
namespace Go.Proofs.Tg
open Go.RowKit Go.Gr Go.Ev Go.Mo
set_option maxHeartbeats 4000000
set_option maxRecDepth 100000
end Go.Proofs.Tg
end
section
/- What the reference's search keeps is what the plain search keeps. Plain numbers. -/
namespace Go.Ev
theorem orth_Vb {rs : List (List Int)} {n x : Nat} (hx : x < 2 ^ n) (ha : ∀ r ∈ rs, ∀ y ∈ r, 0 ≤ y) : orth rs (unp x n) = Vb rs n x := by
  unfold orth Vb
  rw [decide_eq_true hx, Bool.true_and]
  rw [Bool.eq_iff_iff, List.all_eq_true, List.all_eq_true]
  have key : ∀ r ∈ rs, dotN r (unp x n) (unp x n).length = (pr r x n : Nat) := by
    intro r hr
    have := dotN_pr r (unp x n) n (unp_bit x n) (unp_len x n).symm (ha r hr) n (Nat.le_refl _)
    rw [pk_unp hx] at this
    rw [unp_len]; exact this
  constructor
  · intro h r hr
    have := h r hr
    rw [key r hr, beq_iff_eq] at this
    rw [beq_iff_eq]; omega
  · intro h r hr
    have := h r hr
    rw [beq_iff_eq] at this
    rw [key r hr, beq_iff_eq]; omega
theorem fidx_lead {x n l : Nat} (hx : x < 2 ^ n) (h : Lead x l) : (unp x n).findIdx (· == 1) = l := by
  have hl := lead_lt hx h
  have hlen := unp_len x n
  have hg : ∀ i (hi : i < n), (unp x n)[i]'(by rw [hlen]; exact hi) = if x.testBit i = true then 1 else 0 := by
    intro i hi
    have := unp_getD x n i hi
    rw [← this]; simp [hlen, hi]
  have h1 : ¬ l < (unp x n).findIdx (· == 1) := by
    intro hlt
    have := List.not_of_lt_findIdx hlt
    rw [hg l hl, if_pos h.1] at this
    cases this
  by_cases e : (unp x n).findIdx (· == 1) = l
  · exact e
  · exfalso
    have hlt : (unp x n).findIdx (· == 1) < l := by omega
    have hin : (unp x n).findIdx (· == 1) < (unp x n).length := by omega
    have := List.findIdx_getElem (w := hin)
    rw [hg _ (by omega), h.2 _ hlt] at this
    cases this
theorem fidx_zero (n : Nat) : (unp 0 n).findIdx (· == 1) = n := by
  have hlen := unp_len 0 n
  by_cases e : (unp 0 n).findIdx (· == 1) < (unp 0 n).length
  · exfalso
    have h := List.findIdx_getElem (w := e)
    have hg : ∀ i (hi : i < n), (unp 0 n)[i]'(by rw [hlen]; exact hi) = 0 := by
      intro i hi
      have := unp_getD 0 n i hi
      simp at this
      simp [unp]
    rw [hg _ (by omega)] at h
    cases h
  · have := List.findIdx_le_length (xs := unp 0 n) (p := (· == 1))
    omega
theorem redR_redB {rs : List (List Int)} {n x : Nat} (hx : x < 2 ^ n) (ha : ∀ r ∈ rs, ∀ y ∈ r, 0 ≤ y) : redR rs n (unp x n) = redB rs n x := by
  rw [Bool.eq_iff_iff, redB_iff hx]
  unfold redR
  rw [List.all_eq_true]
  constructor
  · intro h t k l ht hk hl hlk
    have htn : t < 2 ^ n := ht.1
    have ht0 : t ≠ 0 := by
      intro e
      subst e
      have := hk.1
      simp at this
    have hkn := lead_lt htn hk
    have h0 := h (rev n t) (List.mem_range.2 (rev_lt n t))
    have hr0 : rev n t ≠ 0 := fun e => ht0 ((rev_zero htn).1 e)
    have e1 : ov n (rev n t) = unp t n := by unfold ov; rw [rev_rev htn]
    unfold badT at h0
    rw [e1, fidx_lead htn hk, fidx_lead hx hl, orth_Vb htn ha, Vb_iff.2 ht, unp_getD x n k hkn] at h0
    cases hb : x.testBit k with
    | false => rfl
    | true => rw [hb] at h0; simp [hr0, hlk] at h0
  · intro h t htm
    have htn := List.mem_range.1 htm
    by_cases ht0 : t = 0
    · simp [ht0]
    · have hr0 : rev n t ≠ 0 := fun e => ht0 ((rev_zero htn).1 e)
      obtain ⟨k, hk⟩ := lead_exists hr0
      have hkn := lead_lt (rev_lt n t) hk
      unfold badT
      have e1 : ov n t = unp (rev n t) n := rfl
      rw [e1, fidx_lead (rev_lt n t) hk, orth_Vb (rev_lt n t) ha, unp_getD x n k hkn]
      by_cases hx0 : x = 0
      · subst hx0
        rw [fidx_zero, decide_eq_false (by omega)]; simp
      · obtain ⟨l, hl⟩ := lead_exists hx0
        rw [fidx_lead hx hl]
        by_cases hlk : l < k
        · by_cases hV : V rs n (rev n t)
          · rw [h (rev n t) k l hV hk hl hlk]; simp
          · have : Vb rs n (rev n t) = false := by
              cases hv : Vb rs n (rev n t) with
              | false => rfl
              | true => exact absurd (Vb_iff.1 hv) hV
            rw [this]; simp
        · rw [decide_eq_false hlk]; simp
/-- The reference's kernel is the plain one. -/
theorem kern_same {rs : List (List Int)} {n k : Nat} (ha : ∀ r ∈ rs, ∀ y ∈ r, 0 ≤ y) : kern (keepR rs n) n k = kern (keepB rs n) n k := by
  unfold kern
  apply List.filter_congr
  intro x hx
  obtain ⟨t, _, rfl⟩ := List.mem_map.1 hx
  unfold keepR keepB
  rw [orth_Vb (rev_lt _ _) ha, redR_redB (rev_lt _ _) ha]
end Go.Ev
end
section
/- The reference's Signs, over what its ReadAll gives. -/
namespace Go.Proofs.Tg
open Go.RowKit Go.Gr Go.Ev Go.Mo
set_option maxHeartbeats 4000000
set_option maxRecDepth 100000
def PVal.key (p : PVal) : Int × List (List Int) := (p.vars, p.tv.map TV.exps)
def RP.key (p : RP) : Int × List (List Int) := (p.vars, p.ts.map RT.exps)
/-- What the reference's reading of all polynomials returns. -/
def RetAll (ps : List PVal) (w : World) (e : Ending) (w' : World) : Prop :=
  Below w.heap.size w w' ∧ ((¬ (∀ p ∈ ps, p.ok) ∧ e = .returned (.tuple #[.slice none 0 0, .bool false])) ∨
    ((∀ p ∈ ps, p.ok) ∧ ∃ L c rp, e = .returned (.tuple #[.slice L rp.length c, .bool true]) ∧ RPolysAt w' L rp ∧ rp.map RP.key = ps.map PVal.key))
/-- What the reference's search returns. -/
def RetRSigns (ps : List PVal) (w : World) (e : Ending) (w' : World) : Prop :=
  Below w.heap.size w w' ∧
  ((¬ (∀ p ∈ ps, p.ok) ∧ e = .returned (.tuple #[.slice none 0 0, .int .i64 1])) ∨
   ((∀ p ∈ ps, p.ok) ∧ (ps = [] ∨ ∃ p ∈ ps, p.vars ≠ (ps.getD 0 ⟨0, none, 0, []⟩).vars) ∧ e = .returned (.tuple #[.slice none 0 0, .int .i64 4])) ∨
   ((∀ p ∈ ps, p.ok) ∧ ∃ n : Nat, n ≤ 6 ∧ ps ≠ [] ∧ (∀ p ∈ ps, p.vars = n) ∧ ∃ A c, e = .returned (.tuple #[.slice A ((kern (keepB (rowsOf ps) n) n (2 ^ n - 1)).map (unp · n)).length c, .int .i64 0]) ∧ Lists w' A ((kern (keepB (rowsOf ps) n) n (2 ^ n - 1)).map (unp · n))))
theorem rows_key {rp : List RP} {ps : List PVal} (h : rp.map RP.key = ps.map PVal.key) : (rterms rp).map RT.exps = rowsOf ps := by
  have e1 : (rterms rp).map RT.exps = (rp.map RP.key).flatMap Prod.snd := by
    unfold rterms
    rw [List.map_flatMap, List.flatMap_map]; rfl
  have e2 : rowsOf ps = (ps.map PVal.key).flatMap Prod.snd := by
    unfold rowsOf
    rw [List.flatMap_map]; rfl
  rw [e1, e2, h]
theorem vars_key {rp : List RP} {ps : List PVal} (h : rp.map RP.key = ps.map PVal.key) {i : Nat} (hi : i < rp.length) (hj : i < ps.length) : rp[i].vars = ps[i].vars := by
  have h1 : (rp.map RP.key)[i]? = (ps.map PVal.key)[i]? := by rw [h]
  rw [List.getElem?_map, List.getElem?_map, List.getElem?_eq_getElem hi, List.getElem?_eq_getElem hj] at h1
  simp only [Option.map_some] at h1
  injection h1 with h1
  exact congrArg Prod.fst h1
theorem len_key {rp : List RP} {ps : List PVal} (h : rp.map RP.key = ps.map PVal.key) : rp.length = ps.length := by
  have := congrArg List.length h
  simpa using this
end Go.Proofs.Tg
end
section
/- The reference's reading of one polynomial and of all. -/
namespace Go.Proofs.Tg
open Go.RowKit Go.Gr Go.Mo Go.Qn
set_option maxHeartbeats 4000000
set_option maxRecDepth 100000
def RetReadP (v : Int) (tv : List TV) (w : World) (e : Ending) (w' : World) : Prop :=
  Below w.heap.size w w' ∧ ((¬ VldP v (tv.map TV.pl) ∧ e = .returned (.tuple #[.agg #[.int .i64 0, .slice none 0 0], .bool false])) ∨
    (VldP v (tv.map TV.pl) ∧ ∃ (O : Option Addr) (co : Nat) (ts : List RT), e = .returned (.tuple #[.agg #[.int .i64 v, .slice O ts.length co], .bool true]) ∧ w'.ownsRow w.heap.size 52 5 (.slice O ts.length co) ts.length (ts.flatMap RT.cells) ∧ ts.map RT.core = tv.map TV.core ∧ ∀ (j : Nat) (h1 : j < ts.length) (h2 : j < tv.length), RCo w' ts[j] tv[j].coef))
theorem core_get {ts : List RT} {tv : List TV} (h : ts.map RT.core = tv.map TV.core) {i : Nat} (hi : i < ts.length) (hj : i < tv.length) : ts[i].adr = tv[i].adr ∧ ts[i].cap = tv[i].cap ∧ ts[i].exps = tv[i].exps := by
  have h1 : (ts.map RT.core)[i]? = (tv.map TV.core)[i]? := by rw [h]
  rw [List.getElem?_map, List.getElem?_map, List.getElem?_eq_getElem hi, List.getElem?_eq_getElem hj] at h1
  simp only [Option.map_some, RT.core, TV.core, Option.some.injEq, Prod.mk.injEq] at h1
  exact h1
theorem core_len {ts : List RT} {tv : List TV} (h : ts.map RT.core = tv.map TV.core) : ts.length = tv.length := by
  have := congrArg List.length h
  simpa using this
theorem core_ints {w : World} {ts : List RT} {tv : List TV} (h : ts.map RT.core = tv.map TV.core) (hA : ∀ t ∈ tv, Ints w t.adr t.exps) : ∀ t ∈ ts, Ints w t.adr t.exps := by
  intro t ht
  obtain ⟨i, hi, rfl⟩ := List.getElem_of_mem ht
  have hj : i < tv.length := by rw [← core_len h]; exact hi
  obtain ⟨h1, _, h2⟩ := core_get h hi hj
  rw [h1, h2]
  exact hA _ (List.getElem_mem _)
theorem readP_any (v : Int) (T : Option Addr) (cT : Nat) (tv : List TV) (w : World) (hA : TermsAt w T tv) (hn : tv.length ≤ 4096) (hs : ∀ t ∈ tv, t.coef.size ≤ 8 ∧ t.exps.length ≤ 64) :
    Calls Tryz.prog 10 #[.agg #[.int .i64 v, .slice T tv.length cT]] w (RetReadP v tv w) := by
  have HR : Hid (∀ W, Below w.heap.size w W → Calls Tryz.prog 31 #[.agg #[.int .i64 v, .slice T tv.length cT]] W (RetRead6 v tv W)) := Lib.hid (fun W h => read6_any v T cT tv W (hA.keep h) hn hs)
  have HS := Lib.hid hs
  have HA := Lib.hid hA
  clear hs hA
  obtain ⟨W, hW⟩ : ∃ W, (w.alloc (.cells #[.int .i64 v, .slice T tv.length cT] 24)).alloc (.cells #[.int .i64 0, .slice none 0 0] 39) = W := ⟨_, rfl⟩
  have B1 : Blk W w.heap.size 24 #[.int .i64 v, .slice T tv.length cT] := by rw [← hW]; exact (Blk.new _ _ _).alloc _
  have B2 : Blk W (w.heap.size + 1) 39 #[.int .i64 0, .slice none 0 0] := by
    rw [← hW]; have := Blk.new (w.alloc (.cells #[.int .i64 v, .slice T tv.length cT] 24)) 39 #[.int .i64 0, .slice none 0 0]
    simpa using this
  have hbW : Below w.heap.size w W := by rw [← hW]; exact ((Below.refl _ _).alloc (Nat.le_refl _) _).alloc (by simp) _
  have hWs : W.heap.size = w.heap.size + 2 := by rw [← hW]; simp
  have HWW := Lib.hid hW
  clear hW
  obtain ⟨a0, a1, _, _⟩ := B1.two
  have hd : decide ((4096 : Int) < (tv.length : Int)) = false := decide_eq_false (by omega)
  go_enter Tryz.func10, Tryz.ntmps10
  go_upto_region 1 with (fail)
  rw [HWW.out]
  go_wp2_with (fail)
  refine (HR.out _ hbW).mono ?_
  rintro e w1 ⟨hb1, ⟨hno, rfl⟩ | ⟨hwf, O, co, ts, rfl, hown, hcore, hnum⟩⟩
  · have HNO : Hid (¬ VldP v (tv.map TV.pl)) := Lib.hid (fun h => hno h.2.1)
    clear hno
    have C2 := B2.keep hb1 B2.lt
    have hz := hb1.size
    go_upto_region 4 with (fail)
    obtain ⟨W1, hW1⟩ : ∃ W1, w1.alloc (.cells #[.int .i64 0, .slice none 0 0] 39) = W1 := ⟨_, rfl⟩
    have D2 : Blk W1 (w.heap.size + 1) 39 #[.int .i64 0, .slice none 0 0] := by rw [← hW1]; exact C2.alloc _
    have hbD : Below w.heap.size w W1 := by rw [← hW1]; exact (below_all hbW hb1).alloc (by omega) _
    try rw [hW1]
    clear hW1 C2
    obtain ⟨d0, d1, d2, d3⟩ := D2.two
    go_wp2
    refine bodyPost_ret (v := .tuple #[.agg #[.int .i64 0, .slice none 0 0], .bool false]) (by simp [results, Tryz.results10, go_sem, d0, d1]) rfl ⟨?_, .inl ⟨HNO.out, rfl⟩⟩
    exact below_far (below_far hbD (by omega) _ _) (by omega) _ _
  · have HWF := Lib.hid hwf
    have HC := Lib.hid hcore
    have htl : ts.length ≤ 4096 := by rw [core_len hcore]; exact hn
    clear hwf hcore
    have C2 := B2.keep hb1 B2.lt
    have hz := hb1.size
    go_upto_region 4 with (fail)
    obtain ⟨W1, hW1⟩ : ∃ W1, w1.alloc (.cells #[.int .i64 v, .slice O ts.length co] 39) = W1 := ⟨_, rfl⟩
    have D2 : Blk W1 (w.heap.size + 1) 39 #[.int .i64 0, .slice none 0 0] := by rw [← hW1]; exact C2.alloc _
    have D4 : Blk W1 w1.heap.size 39 #[.int .i64 v, .slice O ts.length co] := by rw [← hW1]; exact Blk.new _ _ _
    have hownD : W1.ownsRow w.heap.size 52 5 (.slice O ts.length co) ts.length (ts.flatMap RT.cells) := by rw [← hW1]; exact own_base (hown.alloc _) (by omega)
    have hbD : Below w.heap.size w W1 := by rw [← hW1]; exact (below_all hbW hb1).alloc (by omega) _
    have HN : Hid (∀ (j : Nat) (h1 : j < ts.length) (h2 : j < tv.length), RCo W1 ts[j] tv[j].coef) := Lib.hid (fun j h1 h2 => by rw [← hW1]; exact (hnum j h1 h2).keep ((Below.refl _ _).alloc (Nat.le_refl _) _))
    try rw [hW1]
    clear hW1 C2 hown hnum
    obtain ⟨d0, d1, d2, d3⟩ := D2.two
    obtain ⟨b0, b1, b2, b3⟩ := D4.two
    have o2 : some (w.heap.size + 1) ≠ (Value.slice O ts.length co).ownBlock := own_blk_ne hownD D2 (by decide)
    by_cases h0 : ts.length = 0
    · have hd0 : decide ((0 : Int) < (ts.length : Int)) = false := by simp [h0]
      have hd0' : decide (0 < ts.length) = false := by simp [h0]
      have HOK : Hid (VldP v (tv.map TV.pl)) := Lib.hid ⟨by simpa using hn, HWF.out, fun h => by
        rw [List.length_map, ← core_len HC.out] at h
        omega⟩
      clear h0
      go_wp2
      refine bodyPost_ret (v := .tuple #[.agg #[.int .i64 v, .slice O ts.length co], .bool true]) (by simp [results, Tryz.results10, go_sem, d0, d1]) rfl ⟨?_, .inr ⟨HOK.out, O, co, ts, rfl, ?_, HC.out, fun j h1 h2 => RCo.far (RCo.far (HN.out j h1 h2) D2 (by decide) _ _) (D2.set 0 _) (by decide) _ _⟩⟩
      · exact below_far (below_far hbD (by omega) _ _) (by omega) _ _
      · exact own_far (own_far hownD o2 _) o2 _
    · have hd0 : decide ((0 : Int) < (ts.length : Int)) = true := by simp; omega
      have hd0' : decide (0 < ts.length) = true := by simp; omega
      have hp : 0 < ts.length := by omega
      have hq : 0 < tv.length := by rw [← core_len HC.out]; exact hp
      have hRT : RTermsAt W1 O ts := ⟨Sl.own hownD, core_ints HC.out (HA.out.keep hbD).ints⟩
      obtain ⟨ad, rfl, hc4, hI⟩ := RTermsAt.at hRT hp
      have hex := (core_get HC.out hp hq).2.2
      have hl64 : ts[0].exps.length ≤ 64 := by rw [hex]; exact (HS.out _ (List.getElem_mem _)).2
      have HVI : Hid (VldP v (tv.map TV.pl) ↔ vldM ts[0].exps = true) := Lib.hid (by
        rw [hex]
        constructor
        · intro h
          have := h.2.2 (by simpa using hq)
          simpa [TV.pl] using this
        · intro h
          exact ⟨by simpa using hn, HWF.out, fun _ => by simpa [TV.pl] using h⟩)
      have hc4' : W1.cell? ⟨ad.block, ad.off + 4, none⟩ = some (.slice ts[0].adr ts[0].exps.length ts[0].cap) := by simpa [Addr.add] using hc4
      have HV := Lib.hid (fun (V : World) (h : Below W1.heap.size W1 V) => rvalid_any ts[0].adr ts[0].cap ts[0].exps V (hI.keep h) (by omega))
      clear hRT hc4 hI hex h0
      generalize ts[0].exps = el at *
      generalize ts[0].adr = E at *
      generalize ts[0].cap = ce at *
      cases hvm : vldM el with
      | true =>
        have HOK : Hid (VldP v (tv.map TV.pl)) := Lib.hid (HVI.out.2 hvm)
        rw [hvm] at HV
        clear hvm HVI
        go_wp2_with (go_at_call 32; refine (HV.out _ (Below.refl _ _)).mono ?_; rintro e w' ⟨rfl, rfl⟩)
        refine bodyPost_ret (v := .tuple #[.agg #[.int .i64 v, .slice (some ad) ts.length co], .bool true]) (by simp [results, Tryz.results10, go_sem, d0, d1]) rfl ⟨?_, .inr ⟨HOK.out, some ad, co, ts, rfl, ?_, HC.out, fun j h1 h2 => RCo.far (RCo.far (HN.out j h1 h2) D2 (by decide) _ _) (D2.set 0 _) (by decide) _ _⟩⟩
        · exact below_far (below_far hbD (by omega) _ _) (by omega) _ _
        · exact own_far (own_far hownD o2 _) o2 _
      | false =>
        have HNO : Hid (¬ VldP v (tv.map TV.pl)) := Lib.hid (fun h => by have := HVI.out.1 h; rw [hvm] at this; cases this)
        rw [hvm] at HV
        clear hvm HVI
        go_wp2_with (go_at_call 32; refine (HV.out _ (Below.refl _ _)).mono ?_; rintro e w' ⟨rfl, rfl⟩)
        refine bodyPost_ret (v := .tuple #[.agg #[.int .i64 0, .slice none 0 0], .bool false]) (by simp [results, Tryz.results10, go_sem, d0, d1]) rfl ⟨?_, .inl ⟨HNO.out, rfl⟩⟩
        exact below_far (below_far hbD (by omega) _ _) (by omega) _ _
end Go.Proofs.Tg
end
section
/- The state of the rounds, made: the known monomials in a map. -/
namespace Go.Proofs.Tg
open Go.RowKit Go.Gr Go.Sp Go.Ev Go.Mo
set_option maxHeartbeats 4000000
set_option maxRecDepth 100000
/-- The state of the rounds: block g leads to the basis and to the map in block mb, which holds the monomials of S. -/
structure ItAt (w : World) (g mb : Nat) (B : Option Addr) (cb : Nat) (b : List (List Int)) (n cnt : Nat) (S : List (List Int)) : Prop where
  blk : Blk w g 92 #[.slice B b.length cb, .map (some mb)]
  lists : Lists w B b
  set : SetM w mb cnt n S
def exsOf (tv : List TV) : List (List Int) := tv.map TV.exps
def RetStart (B : Option Addr) (cb : Nat) (b : List (List Int)) (n : Nat) (tv : List TV) (w : World) (e : Ending) (w' : World) : Prop :=
  ∃ g mb, e = .returned (.pointer (some ⟨g, 0, none⟩)) ∧ w.heap.size ≤ g ∧ w.heap.size ≤ mb ∧ ItAt w' g mb B cb b n (tv.length + b.length) (S0 (exsOf tv) b) ∧ Below w.heap.size w w'
theorem below_turn {w w1 w2 : World} {B mb : Nat} (h : Below B w w1) (hm : MapB w1 mb) (hg : w1.grownBy w2 (some mb)) (hB : B ≤ mb) : Below B w w2 :=
  h.grown hg (by have := hm.lt; omega) (fun q hq => by injection hq with hq; omega)
theorem start_any (V : Int) (T : Option Addr) (cT : Nat) (tv : List TV) (B : Option Addr) (cb : Nat) (b : List (List Int)) (n : Nat) (w : World) (hP : TermsAt w T tv) (hB : Lists w B b) (hn : n ≤ 6) (hl : tv.length ≤ 4096) (hbl : b.length ≤ 64)
    (hd : ∀ t ∈ tv, domK n 24 t.exps) (hdb : ∀ m ∈ b, domK n 24 m) :
    Calls Tryz.prog 20 #[.agg #[.int .i64 V, .slice T tv.length cT], .slice B b.length cb] w (RetStart B cb b n tv w) := by
  have HD := Lib.hid hd
  have HDB := Lib.hid hdb
  obtain ⟨W, hW⟩ : ∃ W, ((w.alloc (.cells #[.int .i64 V, .slice T tv.length cT] 24)).alloc (.map #[] 0)).alloc (.cells #[.slice B b.length cb, .map (some (w.heap.size + 1))] 92) = W := ⟨_, rfl⟩
  have hbW : Below w.heap.size w W := by rw [← hW]; exact (((Below.refl _ _).alloc (Nat.le_refl _) _).alloc (by simp) _).alloc (by simp; omega) _
  have B0 : Blk W w.heap.size 24 #[.int .i64 V, .slice T tv.length cT] := by rw [← hW]; exact ((Blk.new _ _ _).alloc _).alloc _
  have B1 : Blk W (w.heap.size + 1 + 1) 92 #[.slice B b.length cb, .map (some (w.heap.size + 1))] := by
    rw [← hW]; have := Blk.new ((w.alloc (.cells #[.int .i64 V, .slice T tv.length cT] 24)).alloc (.map #[] 0)) 92 #[.slice B b.length cb, .map (some (w.heap.size + 1))]
    simpa using this
  have M1 : SetM W (w.heap.size + 1) 0 n [] := by
    rw [← hW]
    have := SetM.made (w.alloc (.cells #[.int .i64 V, .slice T tv.length cT] 24)) n
    have h2 := this.below ((Below.refl _ _).alloc (Nat.le_refl _) (.cells #[.slice B b.length cb, .map (some (w.heap.size + 1))] 92)) (by simp)
    simpa using h2
  have hPW := hP.keep hbW
  have hBW := hB.keep hbW
  have HWW := Lib.hid hW
  have hmm := @run_makeMap Tryz.prog
  clear hd hdb hW hP hB
  obtain ⟨c0, c1, _, _⟩ := B0.two
  go_enter Tryz.func20, Tryz.ntmps20
  go_upto_region 2 with (fail)
  rw [HWW.out]
  clear HWW hmm
  go_wp2
  clear c0 c1 B0
  go_loopw [17] (fun i wr => ∃ k : Nat, i = .int .i64 k ∧ k ≤ tv.length ∧ Blk wr (w.heap.size + 1 + 1) 92 #[.slice B b.length cb, .map (some (w.heap.size + 1))] ∧ SetM wr (w.heap.size + 1) k n (exsOf (tv.take k)) ∧ Below w.heap.size w wr ∧ TermsAt wr T tv ∧ Lists wr B b) (fun i _ => tv.length - (intOf i).toNat)
  case atStart => exact ⟨0, rfl, Nat.zero_le _, B1, M1, hbW, hPW, hBW⟩
  case round =>
    clear B1 M1 hbW hPW hBW
    obtain ⟨wo, rfl⟩ : ∃ wo : World, wo = wr := ⟨_, rfl⟩
    obtain ⟨k, rfl, hk, D1, hS, hbr, hPr, hLr⟩ := hrel
    by_cases hlt : k < tv.length
    · obtain ⟨ad, rfl, e0, e1, hI⟩ := hPr.at hlt
      have hdm := HD.out tv[k] (List.getElem_mem _)
      have HTM : Hid (∀ v, v ∈ tv[k].exps :: exsOf (tv.take k) ↔ v ∈ exsOf (tv.take (k + 1))) := Lib.hid (fun v => by
        unfold exsOf
        rw [List.take_succ_eq_append_getElem hlt, List.map_append, List.mem_append, List.map_singleton, List.mem_singleton, List.mem_cons]
        exact Or.comm)
      have HPr := Lib.hid hPr
      generalize tv[k] = t at *
      obtain ⟨s, A, c, el⟩ := t
      simp only at e0 e1 hI hdm HTM
      clear hPr
      go_upto_region 5 with (fail)
      have q0 := cell_alloc (D1.cell 1) (.cells #[.string s, .slice A el.length c] 58)
      have q1 := (Blk.new wo 58 #[.string s, .slice A el.length c]).cell 1
      have hal : Below wo.heap.size wo (wo.alloc (.cells #[.string s, .slice A el.length c] 58)) := (Below.refl _ _).alloc (Nat.le_refl _) _
      have hX1 := D1.alloc (.cells #[.string s, .slice A el.length c] 58)
      have hXS := hS.below hal hS.mapB.lt
      have hXb := hbr.alloc hbr.size (.cells #[.string s, .slice A el.length c] 58)
      have hXP := HPr.out.keep hal
      have hXL := hLr.keep hal
      have hXI := hI.keep hal
      have hgl : w.heap.size + 1 < wo.heap.size := hS.mapB.lt
      have hGX : wo.heap.size < (wo.alloc (.cells #[.string s, .slice A el.length c] 58)).heap.size := by simp
      generalize wo.alloc (.cells #[.string s, .slice A el.length c] 58) = X at *
      clear D1 hS hbr HPr hLr hI e0 e1
      have q0 : X.cell? ⟨w.heap.size + 1 + 1, 1, none⟩ = some (.map (some (w.heap.size + 1))) := q0
      have q1 : X.cell? ⟨wo.heap.size, 1, none⟩ = some (.slice A el.length c) := q1
      have hbe : Below X.heap.size X X.drew := (Below.refl _ _).drew
      have hmx : w.heap.size + 1 < X.heap.size := by omega
      have HKO : Hid (∀ W, Below X.heap.size X W → Calls Tryz.prog 38 #[.slice A el.length c] W fun e w' => e = .returned (keyV el) ∧ Below X.heap.size X w') := Lib.hid (fun W h => (keyOf_any A c el W (hXI.keep h) (by rw [hdm.1]; exact hn)).mono fun e w' h2 => ⟨h2.1, below_all h h2.2⟩)
      have hdm' : domK n 48 el := hdm.mono (by omega)
      go_region_held3 (fun w' => w'.cell? ⟨w.heap.size + 1 + 1, 1, none⟩ = some (.map (some (w.heap.size + 1))) ∧ w'.cell? ⟨wo.heap.size, 1, none⟩ = some (.slice A el.length c))
        (first | exact ⟨r0, r1⟩ | exact ⟨keep_cell hbe q0, keep_cell hbe q1⟩)
        (first
          | (go_at_call 38; with_reducible refine Calls.mono (HKO.out _ (by assumption)) ?_; rintro e w2 ⟨rfl, hb2⟩
             have hbe := hb2
             have hm2 := (hXS.below hb2 hmx).mapB
             obtain ⟨w3, hrun, hS3, hg3⟩ := (hXS.below hb2 hmx).put hn (by omega) hdm'
             have r0 := cell_turn hm2 hg3 (keep_cell hb2 q0)
             have r1 := cell_turn hm2 hg3 (keep_cell hb2 q1)))
      all_goals
        go_wp2_with (fail)
        go_roundw
        case rel =>
          exact ⟨k + 1, by go_num, by omega, (hX1.keep hb2 hX1.lt).turn hm2 hg3, hS3.congr HTM.out, below_turn (below_all hXb hb2) hm2 hg3 (by omega), (hXP.keep hb2).turn hm2 hg3, (hXL.keep hb2).turn hm2 hg3⟩
        case measure => simp [intOf]; omega
    · obtain rfl : k = tv.length := by omega
      rw [List.take_length] at hS
      have dk : decide ((tv.length : Int) < (tv.length : Int)) = false := by simp
      have hS : SetM wo (w.heap.size + 1) (tv.length + 0) n (S0 (exsOf tv) (b.take 0)) := hS.congr (fun v => by unfold S0; simp)
      clear hPr
      go_wp2
      go_loopw [31] (fun i wr => ∃ j : Nat, i = .int .i64 j ∧ j ≤ b.length ∧ Blk wr (w.heap.size + 1 + 1) 92 #[.slice B b.length cb, .map (some (w.heap.size + 1))] ∧ SetM wr (w.heap.size + 1) (tv.length + j) n (S0 (exsOf tv) (b.take j)) ∧ Below w.heap.size w wr ∧ Lists wr B b) (fun i _ => b.length - (intOf i).toNat)
      case atStart => exact ⟨0, rfl, Nat.zero_le _, D1, hS, hbr, hLr⟩
      case round =>
        clear D1 hS hbr hLr
        obtain ⟨wp, rfl⟩ : ∃ wp : World, wp = wr := ⟨_, rfl⟩
        obtain ⟨j, rfl, hj, D1, hS, hbr, hLr⟩ := hrel
        by_cases hlt : j < b.length
        · obtain ⟨ad, A, c, rfl, hc, hI⟩ := hLr.at hlt
          have hdm := HDB.out b[j] (List.getElem_mem _)
          have HTM : Hid (∀ v, v ∈ addL b[j] b[j] :: S0 (exsOf tv) (b.take j) ↔ v ∈ S0 (exsOf tv) (b.take (j + 1))) := Lib.hid (fun v => by
            unfold S0
            rw [List.take_succ_eq_append_getElem hlt, List.map_append, List.map_singleton]
            simp only [List.mem_cons, List.mem_append, List.not_mem_nil, or_false]
            constructor
            · rintro (h | h | h)
              · exact .inr (.inr h)
              · exact .inl h
              · exact .inr (.inl h)
            · rintro (h | h | h)
              · exact .inr (.inl h)
              · exact .inr (.inr h)
              · exact .inl h)
          have HLr := Lib.hid hLr
          generalize b[j] = m at *
          clear hLr
          have q0 : wp.cell? ⟨w.heap.size + 1 + 1, 1, none⟩ = some (.map (some (w.heap.size + 1))) := D1.cell 1
          have hmx : w.heap.size + 1 < wp.heap.size := hS.mapB.lt
          have hbe : Below wp.heap.size wp wp.drew := (Below.refl _ _).drew
          have HKO : Hid (∀ W, Below wp.heap.size wp W → Calls Tryz.prog 39 #[.slice A m.length c, .slice A m.length c] W fun e w' => e = .returned (keyV (addL m m)) ∧ Below wp.heap.size wp w') := Lib.hid (fun W h => (product_any A A c c n m m W (hI.keep h) (hI.keep h) hdm hdm hn).mono fun e w' h2 => ⟨h2.1, below_all h h2.2⟩)
          have hdm' : domK n 48 (addL m m) := addL_dom hdm hdm
          generalize addL m m = mm at *
          go_upto_region 10 with (fail)
          go_region_held3 (fun w' => w'.cell? ⟨w.heap.size + 1 + 1, 1, none⟩ = some (.map (some (w.heap.size + 1))))
            (first | exact r0 | exact keep_cell hbe q0)
            (first
              | (go_at_call 39; with_reducible refine Calls.mono (HKO.out _ (by assumption)) ?_; rintro e w2 ⟨rfl, hb2⟩
                 have hbe := hb2
                 have hm2 := (hS.below hb2 hmx).mapB
                 obtain ⟨w3, hrun, hS3, hg3⟩ := (hS.below hb2 hmx).put hn (by omega) hdm'
                 have r0 := cell_turn hm2 hg3 (keep_cell hb2 q0)))
          all_goals
            go_wp2_with (fail)
            go_roundw
            case rel =>
              exact ⟨j + 1, by go_num, by omega, (D1.keep hb2 D1.lt).turn hm2 hg3, hS3.congr HTM.out, below_turn (below_all hbr hb2) hm2 hg3 (by omega), ((HLr.out).keep hb2).turn hm2 hg3⟩
            case measure => simp [intOf]; omega
        · obtain rfl : j = b.length := by omega
          rw [List.take_length] at hS
          have dj : decide ((b.length : Int) < (b.length : Int)) = false := by simp
          go_wp2
          go_ret
          exact ⟨w.heap.size + 1 + 1, w.heap.size + 1, rfl, by omega, by omega, ⟨D1, hLr, hS⟩, hbr⟩
end Go.Proofs.Tg
end
section
/- The graph of the next round. -/
namespace Go.Proofs.Tg
open Go.RowKit Go.Gr Go.Sp Go.Ev Go.Mo
set_option maxHeartbeats 4000000
set_option maxRecDepth 100000
theorem ItAt.keep {w w' : World} {g mb cb n cnt : Nat} {B : Option Addr} {b S : List (List Int)} (h : ItAt w g mb B cb b n cnt S) (hb : Below w.heap.size w w') : ItAt w' g mb B cb b n cnt S :=
  ⟨h.blk.keep hb h.blk.lt, h.lists.keep hb, h.set.below hb h.set.mapB.lt⟩
def RetEd (b S : List (List Int)) (w : World) (e : Ending) (w' : World) : Prop :=
  ∃ F d, e = .returned (.tuple #[.agg #[.int .i64 b.length, .slice F (edTo b S b.length).length d], .int .i64 0]) ∧ w'.ownsRow w.heap.size 94 2 (.slice F (edTo b S b.length).length d) (edTo b S b.length).length (Gx.ecells (edTo b S b.length)) ∧ Below w.heap.size w w'
theorem igraph_any (g mb : Nat) (B : Option Addr) (cb n cnt : Nat) (b S : List (List Int)) (w : World) (hI : ItAt w g mb B cb b n cnt S) (hn : n ≤ 6) (hbl : b.length ≤ 64) (hdb : ∀ m ∈ b, domK n 24 m) (hT : Tab w) :
    Calls Tryz.prog 21 #[.pointer (some ⟨g, 0, none⟩)] w (RetEd b S w) := by
  have HDB := Lib.hid hdb
  have HI := Lib.hid hI
  have HMC : Hid (∀ W E c, Gx.EdgesAt W E (edTo b S b.length) → Tab W → Calls Tryz.prog 40 #[.int .i64 b.length, .slice E (edTo b S b.length).length c] W (RetEd b S W)) := Lib.hid (fun W E c hE hTW => by
    have hr := ed_range (S := S) hbl
    have hm := ed_make (S := S) hbl
    have hlen := edTo_len b S b.length
    have : b.length * b.length ≤ 64 * 64 := Nat.mul_le_mul hbl hbl
    refine (Gx.make_any b.length E c _ W hE (by omega) hTW).mono ?_
    rintro e w' (⟨h, _⟩ | ⟨_, ⟨x, hx, h⟩, _⟩ | ⟨_, _, F, d, h1, h2, h3⟩)
    · exact absurd hr.1 h
    · exact absurd h (hr.2 x hx)
    · rw [Int.toNat_natCast, hm] at h1 h2
      exact ⟨F, d, h1, h2, h3⟩)
  have HEL := Lib.hid (fun k => edTo_len b S k)
  have HPL := Lib.hid (fun i m => edPart_len b S i m)
  obtain ⟨i0, hi, hz0, hz1, hz2⟩ := info_parts Gx.pair_info
  have c0 := hI.blk.cell 0
  have c1 := hI.blk.cell 1
  simp at c0 c1
  have hgl := hI.blk.lt
  have hmbl := hI.set.mapB.lt
  clear hdb hI
  have a0 := cell_alloc c0 (.cells #[.int .i64 0, .slice none 0 0] 30)
  go_enter Tryz.func21, Tryz.ntmps21
  go_wp2
  go_loopw [13, 4] (fun s13 s4 wr => ∃ (k : Nat) (E : Option Addr) (c : Nat) (fs : List (Int × Int)), s13 = .int .i64 k ∧ k ≤ b.length ∧ s4 = .slice E fs.length c ∧ Hid (fs = edTo b S k) ∧
    wr.ownsRow w.heap.size 94 2 (.slice E fs.length c) fs.length (Gx.ecells fs) ∧ Blk wr w.heap.size 30 #[.int .i64 0, .slice none 0 0] ∧ Below w.heap.size w wr) (fun s13 _ _ => b.length - (intOf s13).toNat)
  case atStart => exact ⟨0, none, 0, [], rfl, Nat.zero_le _, rfl, Lib.hid rfl, World.ownsRow_nil _ _ _ _, Blk.new _ _ _, (Below.refl _ _).alloc (Nat.le_refl _) _⟩
  case round =>
    clear a0
    obtain ⟨wo, rfl⟩ : ∃ wo : World, wo = wr := ⟨_, rfl⟩
    obtain ⟨k, E, c, fs, rfl, hk, rfl, HF, hown, hG, hbr⟩ := hrel
    by_cases hlt : k < b.length
    · obtain ⟨bd, A, ca, rfl, hcw, hAw⟩ := HI.out.lists.at hlt
      have hc := keep_cell hbr hcw
      have w1 : IntKind.i64.wrap ((k : Int) + 1) = (k : Int) + 1 := IntWalk.i64_in _ (by omega)
      have HGK : Hid (b.getD k [] = b[k]) := Lib.hid (by simp [hlt])
      have hdk := HDB.out b[k] (List.getElem_mem _)
      go_wp2
      go_loopw [7, 4] (fun s7 s4 wr => ∃ (m : Nat) (E2 : Option Addr) (c2 : Nat) (fs2 : List (Int × Int)), s7 = .int .i64 m ∧ k < m ∧ m ≤ b.length ∧ s4 = .slice E2 fs2.length c2 ∧ Hid (fs2 = edTo b S k ++ edPart b S k m) ∧
        wr.ownsRow w.heap.size 94 2 (.slice E2 fs2.length c2) fs2.length (Gx.ecells fs2) ∧ Blk wr w.heap.size 30 #[.int .i64 0, .slice none 0 0] ∧ Below w.heap.size w wr) (fun s7 _ _ => b.length - (intOf s7).toNat)
      case atStart => exact ⟨k + 1, E, c, fs, by go_num, by omega, by omega, rfl, Lib.hid (by rw [HF.out, edPart_low, List.append_nil]), hown, hG, hbr⟩
      case round =>
        clear hown hG hbr HF w1 hc
        obtain ⟨wp, rfl⟩ : ∃ wp : World, wp = wr := ⟨_, rfl⟩
        obtain ⟨m, E2, c2, fs2, rfl, hkm, hm, rfl, HF, hown, hG, hbr⟩ := hrel
        have d0 := keep_cell hbr c0
        have d1 := keep_cell hbr c1
        by_cases hmt : m < b.length
        · obtain ⟨bd2, A2, ca2, hbd, hcm, hAm⟩ := HI.out.lists.at hmt
          injection hbd with hbd
          subst hbd
          have d2 := keep_cell hbr hcm
          have hdm := HDB.out b[m] (List.getElem_mem _)
          have HES : Hid (edPart b S k (m + 1) = edPart b S k m ++ if addL b[k] b[m] ∈ S then [((k : Int), (m : Int))] else []) := Lib.hid (by
            have e := edPart_succ b S hkm
            rw [HGK.out, show b.getD m [] = b[m] by simp [hmt]] at e
            exact e)
          have hfl : fs2.length ≤ 64 * 64 + 64 := by
            have h1 := HEL.out k
            have h2 := HPL.out k m
            have h3 : k * b.length ≤ 64 * 64 := Nat.mul_le_mul (by omega) hbl
            rw [HF.out, List.length_append]; omega
          have hmx : mb < wp.heap.size := Nat.lt_of_lt_of_le hmbl hbr.size
          have hSp := HI.out.set.below hbr hmbl
          have hdom' : domK n 48 (addL b[k] b[m]) := addL_dom hdk hdm
          have HKO : Hid (∀ W, Below wp.heap.size wp W → Calls Tryz.prog 39 #[.slice A b[k].length ca, .slice A2 b[m].length ca2] W fun e w' => e = .returned (keyV (addL b[k] b[m])) ∧ Below wp.heap.size wp w') := Lib.hid (fun W h =>
            (product_any A A2 ca ca2 n b[k] b[m] W (hAw.keep (below_all hbr h)) (hAm.keep (below_all hbr h)) hdk hdm hn).mono fun e w' h2 => ⟨h2.1, below_all h h2.2⟩)
          have hbe : Below wp.heap.size wp wp.drew := (Below.refl _ _).drew
          have p0 : (0 : Int) ≤ (m : Int) := by omega
          have p1 : (m : Int) < (b.length : Int) := by omega
          have p3 : ((m : Int)).toNat = m := by omega
          have w1 : IntKind.i64.wrap ((m : Int) + 1) = (m : Int) + 1 := IntWalk.i64_in _ (by omega)
          clear hcw
          generalize b[m] = y at *
          generalize b[k] = x at *
          generalize addL x y = xy at *
          by_cases hin : xy ∈ S
          all_goals
            obtain ⟨q, hdec⟩ : ∃ q : Bool, decide (xy ∈ S) = q := ⟨_, rfl⟩
            have HQ := Lib.hid hdec
          · obtain rfl : q = true := by rw [← hdec]; exact decide_eq_true hin
            rw [if_pos hin] at HES
            clear hin
            go_upto_region 8 with (fail)
            go_region_held3 (fun w' => w'.cell? ⟨g, 1, none⟩ = some (.map (some mb)) ∧ w'.cell? ⟨g, 0, none⟩ = some (.slice (some bd) b.length cb) ∧ w'.cell? (bd.add m) = some (.slice A2 y.length ca2))
              (first | exact ⟨keep_cell hbe d1, keep_cell hbe d0, keep_cell hbe d2⟩)
              (first
                | (go_at_call 39; with_reducible refine Calls.mono (HKO.out _ (by assumption)) ?_; rintro e w2 ⟨rfl, hb2⟩
                   have hbe := hb2
                   have hrun := (hSp.below hb2 hmx).look hdom' hdec))
            all_goals
              have hown2 := own_below hown hb2 (Nat.le_refl _)
              have hG2 := hG.keep hb2 hG.lt
              have hb3 := below_all hbr hb2
              have hne := own_blk_ne hown2 hG2 (by decide)
              have hsz3 := hb3.size
              clear hown hG hrun hSp
              go_wp2_with (at_builtin; go_must (refine wpList_append_own_at _ rfl _ _ 28 rfl w.heap.size 94 i0 (.agg #[.int .i64 0, .int .i64 0]) 2 16 Tryz.underlying28 hi hz0 hz1 hz2 rfl (by decide) (.slice E2 fs2.length c2) _ _ rfl (hown2.alloc _) ⟨w2.heap.size, 0, none⟩ 1 1 [.int .i64 k, .int .i64 m] rfl rfl ?c1 ?c2 ?c3 ?c4 ?c5 ?_)
                           case c1 => exact Gx.cell_two_new' _ _ _ _
                           case c2 => simp [Value.oneCell']
                           case c3 => simp only [maxLen]; omega
                           case c4 => omega
                           case c5 => simp; omega
                           intro v' w4 hown4 hg4 _ _
                           obtain ⟨E3, c3, hv, hle3, _⟩ := Sl.of_own hown4
                           subst hv)
              have hlen : (fs2 ++ [((k : Int), (m : Int))]).length = fs2.length + 1 := by simp
              go_roundw
              case rel =>
                refine ⟨m + 1, E3, c3, fs2 ++ [((k : Int), (m : Int))], by go_num, by omega, by omega, by rw [hlen], Lib.hid (by rw [HES.out, HF.out, List.append_assoc]), ?_, ?_, ?_⟩
                · rw [hlen, Gx.ecells_app]; exact hown4
                · exact (hG2.alloc _).grown hg4 hne
                · exact (hb3.alloc hsz3 _).grown hg4 (by simp; omega) (fun j hj => by have := (hown2.lt j hj).1; omega)
              case measure => simp [intOf]; omega
          · obtain rfl : q = false := by rw [← hdec]; exact decide_eq_false hin
            rw [if_neg hin, List.append_nil] at HES
            clear hin
            go_upto_region 8 with (fail)
            go_region_held3 (fun w' => w'.cell? ⟨g, 1, none⟩ = some (.map (some mb)) ∧ w'.cell? ⟨g, 0, none⟩ = some (.slice (some bd) b.length cb) ∧ w'.cell? (bd.add m) = some (.slice A2 y.length ca2))
              (first | exact ⟨keep_cell hbe d1, keep_cell hbe d0, keep_cell hbe d2⟩)
              (first
                | (go_at_call 39; with_reducible refine Calls.mono (HKO.out _ (by assumption)) ?_; rintro e w2 ⟨rfl, hb2⟩
                   have hbe := hb2
                   have hrun := (hSp.below hb2 hmx).look hdom' hdec))
            all_goals
              go_wp2_with (fail)
              go_roundw
              case rel => exact ⟨m + 1, E2, c2, fs2, by go_num, by omega, by omega, rfl, Lib.hid (by rw [HES.out, HF.out]), own_below hown hb2 (Nat.le_refl _), hG.keep hb2 hG.lt, below_all hbr hb2⟩
              case measure => simp [intOf]; omega
        · obtain rfl : m = b.length := by omega
          have HF2 : Hid (fs2 = edTo b S (k + 1)) := Lib.hid (by rw [HF.out, edTo_succ, edPart_full])
          have w2 : IntKind.i64.wrap ((k : Int) + 1) = (k : Int) + 1 := IntWalk.i64_in _ (by omega)
          have dm : decide ((b.length : Int) < (b.length : Int)) = false := by simp
          go_wp2
          go_roundw
          case rel => exact ⟨k + 1, E2, c2, fs2, by go_num, by omega, rfl, HF2, hown, hG, hbr⟩
          case measure => simp [intOf]; omega
    · obtain rfl : k = b.length := by omega
      have d0 := keep_cell hbr c0
      have dk : decide ((b.length : Int) < (b.length : Int)) = false := by simp
      have hE := Sl.own hown
      obtain rfl := HF.out
      have HM2 := Lib.hid (HMC.out wo E c hE (hT.below hbr hT.1))
      have hglo := hG.lt
      clear HMC hown hE
      go_wp2_with (go_at_call 40; refine HM2.out.mono ?_; rintro e w2 ⟨F, d, rfl, hF, hb2⟩
                   have B2 := hG.keep hb2 hglo
                   have z0 := B2.cell 0
                   have z1 := B2.cell 1
                   have y0 := B2.frozen 0
                   have y1 := B2.frozen 1
                   simp at z0 z1
                   have hgl2 := B2.lt)
      refine bodyPost_ret (v := _) (Gx.results_g (p := 2) (q := 3) rfl _ _ w.heap.size _ _ rfl (Gx.blk_two B2)) rfl ?_
      have hne := own_blk_ne hF B2 (by decide)
      exact ⟨F, d, rfl, own_base (own_far (own_far hF hne _) hne _) hbr.size, below_far (below_far (below_all hbr hb2) (Nat.le_refl _) _ _) (Nat.le_refl _) _ _⟩
end Go.Proofs.Tg
end
