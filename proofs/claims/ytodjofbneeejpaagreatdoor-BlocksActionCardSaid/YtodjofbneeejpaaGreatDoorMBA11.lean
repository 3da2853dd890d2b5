/- Parts of the proof: AC3, WK1, WK2, WS2, WI1, WI3. -/
import Derived.Deep.CutBlock
import Derived.Maps.OwnOps
import Derived.DeepKeys4
import Derived.RegionTactic
import Derived.ChangeAlike
import Derived.OwnWalk
import Derived.Lib.TrailingZeros
import Derived.StillTailTactics
import Derived.Deep.RegionHeld3
import Derived.Test.YtodjofbneeejpaaGreatDoorMBA1
import Derived.Test.YtodjofbneeejpaaGreatDoorMBA2
import Derived.Test.YtodjofbneeejpaaGreatDoorMBA3
import Derived.Test.YtodjofbneeejpaaGreatDoorMBA5
import Derived.Test.YtodjofbneeejpaaGreatDoorMBA6
import Derived.Test.YtodjofbneeejpaaGreatDoorMBA8
import Derived.Test.YtodjofbneeejpaaGreatDoorMBA10
section
/- The package blocks: what a permutation of the variables does to the places of a basis. -/
namespace Go.Proofs.Tg.Bk
open Go.RowKit Go.Gr Go.Sp Go.Ev Go.Maps Go.WideShapes Go.Pm
set_option maxHeartbeats 4000000
set_option maxRecDepth 100000
theorem img_len (n : Nat) (a : List Int) (l : List (List Int)) : (img n a l).length = l.length := by simp [img]
theorem img_at (n : Nat) (a : List Int) (l : List (List Int)) {k : Nat} (h : k < (img n a l).length) : (img n a l)[k] = ((l.idxOf (mv n a (l[k]'(by rw [← img_len n a l]; exact h))) : Nat) : Int) := by simp [img]
theorem iarr_six (el : List Int) (h : el.length = 6) : iarr el = #[.int .i64 (el.getD 0 0), .int .i64 (el.getD 1 0), .int .i64 (el.getD 2 0), .int .i64 (el.getD 3 0), .int .i64 (el.getD 4 0), .int .i64 (el.getD 5 0)] := by
  match el, h with
  | [a, b, c, d, e, f], _ => rfl
/-- What star returns. -/
def RetStar (n : Nat) (a : List Int) (l : List (List Int)) (w : World) (e : Ending) (w' : World) : Prop := Below w.heap.size w w' ∧
  ((¬ ActsOn n a l ∧ e = .returned (.tuple #[.slice none 0 0, .bool false])) ∨ (ActsOn n a l ∧ e = .returned (.tuple #[.slice (some ⟨w.heap.size, 0, none⟩) l.length l.length, .bool true]) ∧ Blk w' w.heap.size 3 (iarr (img n a l))))
theorem star_any (A L : Option Addr) (cA cL n mb cnt : Nat) (a : List Int) (l : List (List Int)) (w : World) (hA : Ints w A a) (ha : Perm n a) (hL : Lists w L l) (hd : ∀ m ∈ l, domK n 48 m) (hn : n ≤ 6) (hl : l.length ≤ 1000) (hnd : l.Nodup) (hM : IdxM w mb cnt n l) :
    Calls Tryz.prog 34 #[.slice A n cA, .slice L l.length cL, .map (some mb)] w (RetStar n a l w) := by
  have HL := Lib.hid hL
  have HD := Lib.hid hd
  have HA := Lib.hid hA
  have HPA := Lib.hid ha
  have HND := Lib.hid hnd
  have HM := Lib.hid hM
  have hmlt := hM.lt
  have HSL : Hid ((img n a l).length = l.length) := Lib.hid (img_len n a l)
  have HSA : Hid (∀ k (h : k < (img n a l).length) (h2 : k < l.length), (img n a l)[k] = ((l.idxOf (mv n a l[k]) : Nat) : Int)) := Lib.hid (fun k h h2 => img_at n a l h)
  have HIM : Hid (img n a l = img n a l) := Lib.hid rfl
  obtain ⟨s, hs⟩ : ∃ s, img n a l = s := ⟨_, rfl⟩
  rw [hs] at HSL HSA
  have HS := Lib.hid hs
  clear hL hd hA ha hnd hM hs HIM
  have hmk := fun W => make_ints l.length l.length (Nat.le_refl _) (by omega) W
  go_enter Tryz.func34, Tryz.ntmps34
  go_wp2
  clear hmk
  go_loopw [21] (fun s21 wr => ∃ k : Nat, s21 = .int .i64 k ∧ k ≤ l.length ∧ Hid (∀ j (h : j < l.length), j < k → mv n a l[j] ∈ l) ∧ Hid (Blk wr w.heap.size 3 (iarr (s.take k ++ List.replicate (l.length - k) 0))) ∧ Below w.heap.size w wr) (fun s21 _ => l.length - (intOf s21).toNat)
  case atStart =>
    refine ⟨0, rfl, Nat.zero_le _, Lib.hid (fun j _ h => absurd h (by omega)), Lib.hid ?_, (Below.refl _ _).alloc (Nat.le_refl _) _⟩
    have e : iarr (s.take 0 ++ List.replicate (l.length - 0) 0) = madeCells #[.int .i64 0] l.length := (iarr_made l.length).symm
    rw [e]
    exact Blk.new w 3 _
  case round =>
    obtain ⟨wo, rfl⟩ : ∃ wo : World, wo = wr := ⟨_, rfl⟩
    obtain ⟨k, rfl, hk, HIN, HB, hbo⟩ := hrel
    by_cases hkl : k < l.length
    · obtain ⟨ad, E, ce, rfl, hc0, hE⟩ := HL.out.at hkl
      have hc := keep_cell hbo hc0
      have q0 : (0 : Int) ≤ (k : Int) := by omega
      have q1 : (k : Int) < (l.length : Int) := by omega
      have q3 : ((k : Int)).toNat = k := by omega
      have hdk := HD.out l[k] (List.getElem_mem _)
      have hlen := hdk.1
      rw [hlen] at hc
      have HDK := Lib.hid hdk
      have HLEN := Lib.hid hlen
      have HE := Lib.hid (Sl.keep hE hbo)
      have HBK : Hid (Blk (wo.alloc (.cells z6 97)) wo.heap.size 97 (iarr (mvF 6 a l[k] 0))) := Lib.hid (Blk.new _ _ _)
      have HSK : Hid (∀ h : k < s.length, s[k] = ((l.idxOf (mv n a l[k]) : Nat) : Int)) := Lib.hid (fun h => HSA.out k h hkl)
      have HSUC : Hid (mv n a l[k] ∈ l → ∀ j (h : j < l.length), j < k + 1 → mv n a l[j] ∈ l) := Lib.hid (fun hx j h hj => by
        by_cases he : j = k
        · subst he; exact hx
        · exact HIN.out j h (by omega))
      have HBAD : Hid (mv n a l[k] ∉ l → ¬ ActsOn n a l) := Lib.hid (fun hx h => hx (h _ (List.getElem_mem _)))
      have hsz : w.heap.size ≤ wo.heap.size := hbo.size
      clear hdk hlen hE hc0
      generalize l[k] = m at *
      go_upto_region 6 with (fail)
      have hh : (wo.alloc (.cells #[.int .i64 0, .int .i64 0, .int .i64 0, .int .i64 0, .int .i64 0, .int .i64 0] 97)) = wo.alloc (.cells z6 97) := rfl
      rw [hh]
      clear hh
      have hbal := Below.alloc (Below.refl wo.heap.size wo) (Nat.le_refl _) (.cells z6 97)
      generalize wo.alloc (.cells z6 97) = wz at *
      go_wp2
      go_loopw [28] (fun s28 wi => ∃ j : Nat, s28 = .int .i64 j ∧ j ≤ n ∧ Hid (Blk wi wo.heap.size 97 (iarr (mvF 6 a m j))) ∧ Below wo.heap.size wo wi) (fun s28 _ => n - (intOf s28).toNat)
      case atStart => exact ⟨0, rfl, Nat.zero_le _, HBK, hbal⟩
      case round =>
        clear HBK hbal
        obtain ⟨wi, rfl⟩ : ∃ wi : World, wi = wr := ⟨_, rfl⟩
        obtain ⟨j, rfl, hj, HBI, hbi⟩ := hrel
        by_cases hjn : j < n
        · have hja : j < a.length := by rw [HPA.out.1]; exact hjn
          have hjm : j < m.length := by rw [HLEN.out]; exact hjn
          obtain ⟨aa, rfl, hca⟩ := Ints.at (Sl.keep (HA.out.keep hbo) hbi) hja
          obtain ⟨ee, rfl, hce⟩ := Ints.at (Sl.keep HE.out hbi) hjm
          obtain ⟨x, hx⟩ : ∃ x : Nat, a[j] = (x : Int) := ⟨(a[j]).toNat, by have := HPA.out.2.1 a[j] (List.getElem_mem _); omega⟩
          have hxn : x < n := by have := HPA.out.2.1 a[j] (List.getElem_mem _); omega
          have HST : Hid ((mvF 6 a m j).set x m[j] = mvF 6 a m (j + 1)) := Lib.hid (by
            rw [mvF_succ, show a.getD j 0 = (x : Int) by simp [hja, hx], show m.getD j 0 = m[j] by simp [hjm]]
            rfl)
          rw [hx] at hca
          have c0 := HBI.out.cell x
          have f0 := HBI.out.frozen x
          rw [iarr_at _ (by rw [mvF_len]; omega)] at c0
          generalize (mvF 6 a m j)[x]'(by rw [mvF_len]; omega) = old at c0
          generalize m[j] = y at *
          have r0 : (0 : Int) ≤ (j : Int) := by omega
          have r1 : (j : Int) < (n : Int) := by omega
          have r3 : ((j : Int)).toNat = j := by omega
          have x0 : (0 : Int) ≤ (x : Int) := by omega
          have x1 : (x : Int) < 6 := by omega
          have x3 : ((x : Int)).toNat = x := by omega
          clear hx
          go_wp2
          go_roundw
          case rel =>
            refine ⟨j + 1, by go_num, by omega, Lib.hid ?_, below_far hbi (Nat.le_refl _) _ _⟩
            have := HBI.out.set x (.int .i64 y)
            rw [iarr_set, HST.out] at this
            exact this
          case measure => simp [intOf]; omega
        · obtain rfl : j = n := by omega
          have hbw := hbo.trans (hbi.mono hsz)
          have hmapi := HM.out.below hbw hmlt
          have HKV : Hid (mvF 6 a m j = kv (mv j a m)) := Lib.hid (kv_mvF hn HPA.out j (Nat.le_refl _)).symm
          have hmd : domK j 48 (mv j a m) := mvF_dom (by omega) HDK.out j
          obtain ⟨c, hcc⟩ : ∃ c : Bool, decide (mv j a m ∈ l) = c := ⟨_, rfl⟩
          obtain ⟨z, hlook, hz⟩ := hmapi.look hmd hcc
          have HZ := Lib.hid hz
          rw [keyV_eq] at hlook
          have hB6 := HBI.out
          rw [iarr_six _ (mvF_len _ _ _ _)] at hB6
          have hq : ∀ i, i < 6 → (mv j a m).getD i 0 = (mvF 6 a m j).getD i 0 := fun i hi => by rw [HKV.out, kv_getD _ hi]
          rw [hq 0 (by omega), hq 1 (by omega), hq 2 (by omega), hq 3 (by omega), hq 4 (by omega), hq 5 (by omega)] at hlook
          obtain ⟨⟨a0, a1, a2, a3, a4, a5⟩, _⟩ := six hB6
          have HCC := Lib.hid hcc
          have hBo := HB.out.keep hbi (by have := HB.out.lt; exact this)
          have dj : decide ((j : Int) < (j : Int)) = false := by simp
          have HL0 := Lib.hid hB6
          clear hB6 hq hz hcc hmapi
          generalize (mvF 6 a m j).getD 0 0 = v0 at *
          generalize (mvF 6 a m j).getD 1 0 = v1 at *
          generalize (mvF 6 a m j).getD 2 0 = v2 at *
          generalize (mvF 6 a m j).getD 3 0 = v3 at *
          generalize (mvF 6 a m j).getD 4 0 = v4 at *
          generalize (mvF 6 a m j).getD 5 0 = v5 at *
          cases c with
          | false =>
            go_wp2
            go_ret2
            exact ⟨hbw, .inl ⟨HBAD.out (of_decide_eq_false HCC.out), rfl⟩⟩
          | true =>
            have hin := of_decide_eq_true HCC.out
            have hzz := HZ.out rfl HND.out
            have HIN2 := Lib.hid (HSUC.out hin)
            have hks : k < s.length := by rw [HSL.out]; exact hkl
            have hsk := HSK.out hks
            rw [← hzz] at hsk
            have hl2 : (s.take k ++ List.replicate (l.length - k) 0).length = l.length := by
              have := HSL.out
              rw [List.length_append, List.length_take, List.length_replicate]; omega
            have HST : Hid ((s.take k ++ List.replicate (l.length - k) 0).set k z = s.take (k + 1) ++ List.replicate (l.length - (k + 1)) 0) := Lib.hid (fill_set _ k _ _ HSL.out hkl hsk)
            have c0 := hBo.cell k
            have f0 := hBo.frozen k
            rw [iarr_at _ (by rw [hl2]; exact hkl)] at c0
            generalize (s.take k ++ List.replicate (l.length - k) 0)[k]'(by rw [hl2]; exact hkl) = old at c0
            have HBO := Lib.hid hBo
            clear hBo hl2 hsk hks hzz hin HZ HSK HSUC HBAD
            go_wp2
            go_roundw
            case rel =>
              refine ⟨k + 1, by go_num, by omega, HIN2, Lib.hid ?_, below_far hbw (Nat.le_refl _) _ _⟩
              have := HBO.out.set k (.int .i64 z)
              rw [iarr_set, HST.out] at this
              exact this
            case measure => simp [intOf]; omega
    · obtain rfl : k = l.length := by omega
      have hB := HB.out
      have hsl := HSL.out
      rw [Nat.sub_self, List.replicate_zero, List.append_nil, List.take_of_length_le (by omega), ← HS.out] at hB
      have HBF := Lib.hid hB
      have HAC : Hid (ActsOn n a l) := Lib.hid (fun m hm => by
        obtain ⟨j, hj, rfl⟩ := List.getElem_of_mem hm
        exact HIN.out j hj hj)
      have dk : decide ((l.length : Int) < (l.length : Int)) = false := by simp
      clear hB hsl
      go_wp2
      go_ret2
      exact ⟨hbo, .inr ⟨HAC.out, rfl, HBF.out⟩⟩
theorem RetStar.yes {n : Nat} {a : List Int} {l : List (List Int)} {w w' : World} {e : Ending} (h : RetStar n a l w e w') (ha : ActsOn n a l) : Below w.heap.size w w' ∧ e = .returned (.tuple #[.slice (some ⟨w.heap.size, 0, none⟩) l.length l.length, .bool true]) ∧ Blk w' w.heap.size 3 (iarr (img n a l)) := by
  rcases h with ⟨hb, ⟨h, _⟩ | ⟨_, h⟩⟩
  · exact absurd ha h
  · exact ⟨hb, h⟩
theorem RetStar.no {n : Nat} {a : List Int} {l : List (List Int)} {w w' : World} {e : Ending} (h : RetStar n a l w e w') (ha : ¬ ActsOn n a l) : Below w.heap.size w w' ∧ e = .returned (.tuple #[.slice none 0 0, .bool false]) := by
  rcases h with ⟨hb, ⟨_, h⟩ | ⟨h, _⟩⟩
  · exact ⟨hb, h⟩
  · exact absurd h ha
end Go.Proofs.Tg.Bk
end
section
/- The keys of monomials: the program's keyOf and product. -/
namespace Go.Proofs.Tg
open Go.RowKit Go.Gr Go.Sp Go.Ev
set_option maxHeartbeats 4000000
set_option maxRecDepth 100000
theorem Blk.six {w : World} {g : Nat} {t : TypeId} {a0 a1 a2 a3 a4 a5 : Value} (h : Blk w g t #[a0, a1, a2, a3, a4, a5]) :
    (w.cell? ⟨g, 0, none⟩ = some a0 ∧ w.cell? ⟨g, 1, none⟩ = some a1 ∧ w.cell? ⟨g, 2, none⟩ = some a2 ∧ w.cell? ⟨g, 3, none⟩ = some a3 ∧ w.cell? ⟨g, 4, none⟩ = some a4 ∧ w.cell? ⟨g, 5, none⟩ = some a5) ∧
    (w.frozen? ⟨g, 0, none⟩ = false ∧ w.frozen? ⟨g, 1, none⟩ = false ∧ w.frozen? ⟨g, 2, none⟩ = false ∧ w.frozen? ⟨g, 3, none⟩ = false ∧ w.frozen? ⟨g, 4, none⟩ = false ∧ w.frozen? ⟨g, 5, none⟩ = false) :=
  ⟨⟨h.cell 0, h.cell 1, h.cell 2, h.cell 3, h.cell 4, h.cell 5⟩, h.frozen 0, h.frozen 1, h.frozen 2, h.frozen 3, h.frozen 4, h.frozen 5⟩
/-- The value of a key. -/
def keyV (el : List Int) : Value := .agg ((kv el).map vi).toArray
def z6 : Array Value := #[.int .i64 0, .int .i64 0, .int .i64 0, .int .i64 0, .int .i64 0, .int .i64 0]
theorem keyV_eq (el : List Int) : keyV el = .agg #[.int .i64 (el.getD 0 0), .int .i64 (el.getD 1 0), .int .i64 (el.getD 2 0), .int .i64 (el.getD 3 0), .int .i64 (el.getD 4 0), .int .i64 (el.getD 5 0)] := rfl
end Go.Proofs.Tg
end
section
/- The program's maps from keys to bools, as sets of monomials. -/
namespace Go.Proofs.Tg
open Go.RowKit Go.Gr Go.Sp Go.Ev Go.Maps Go.WideShapes
set_option maxHeartbeats 4000000
set_option maxRecDepth 100000
theorem zeroB (w : World) : (zeroValue 4).run Tryz.prog w = .ok (.bool false) w := by kernel_rfl
end Go.Proofs.Tg
end
section
/- Walks: the parts of a number's text. -/
namespace Go.Proofs.Tg
open Go.RowKit Go.Qn
set_option maxHeartbeats 1000000
set_option maxRecDepth 100000
/-- The parts that a call returns. -/
def RetSplit (l : List UInt8) (w : World) (e : Ending) (w' : World) : Prop :=
  ∃ b num den ok, e = .returned (.tuple #[.agg #[.bool b, .string (bs num), .string (bs den)], .bool ok]) ∧ SplitIs l b num den ok ∧ Below w.heap.size w w'
theorem bs_toList (l : List UInt8) : (bs l).toList = l := by rw [Lib.toList_data, bs_data]
theorem bs_pos {l : List UInt8} (h : l ≠ []) : 0 < (bs l).size := by rw [bs_size]; exact List.length_pos_iff.2 h
theorem split_fin {l num den : List UInt8} {b ok : Bool} {N D : ByteArray} {w w' : World} (hN : bs num = N) (hD : bs den = D) (h : SplitIs l b num den ok) (hb : Below w.heap.size w w') :
    RetSplit l w (.returned (.tuple #[.agg #[.bool b, .string N, .string D], .bool ok])) w' := by
  subst hN hD
  exact ⟨b, num, den, ok, rfl, h, hb⟩
theorem bs_nil : bs [] = ByteArray.empty := rfl
theorem of_head {l : List UInt8} {N : ByteArray} (hN : bs l = N) {h : 0 < N.size} {c : UInt8} (k : (((N[0]).toNat : Int) == (c.toNat : Int)) = true) : l.head? = some c := by
  subst hN
  cases l with
  | nil => exact absurd h (by decide)
  | cons x t =>
    have e : (x.toNat : Int) = (c.toNat : Int) := eq_of_beq k
    have : x = c := UInt8.toNat_inj.1 (by omega)
    rw [this]; rfl
theorem of_not_head {l : List UInt8} {N : ByteArray} (hN : bs l = N) {h : 0 < N.size} {c : UInt8} (k : (((N[0]).toNat : Int) == (c.toNat : Int)) = false) : l.head? ≠ some c := by
  subst hN
  cases l with
  | nil => simp
  | cons x t =>
    have e : ¬ (x.toNat : Int) = (c.toNat : Int) := ne_of_beq_false k
    simp only [List.head?_cons, ne_eq, Option.some.injEq]
    rintro rfl
    exact e rfl
set_option maxHeartbeats 4000000 in
theorem split_any (s : ByteArray) (w : World) (hs : s.size ≤ 64) :
    Calls Tryz.prog 114 #[.string s] w (RetSplit s.data.toList w) := by
  obtain ⟨b, r, hc⟩ : ∃ b r, cut s.data.toList = (b, r) := ⟨_, _, rfl⟩
  have HC : Hid (∀ W, Calls Tryz.prog 140 #[.string s, .string ⟨#[45]⟩] W fun e w' => e = .returned (.tuple #[.string (bs r), .bool b]) ∧ W = w') := Lib.hid (fun W => by
    have := cutp_any s W hs
    rwa [hc] at this)
  have hrl : r.length ≤ 64 := by
    have := (spl_len hc).2
    rw [len_size] at this; omega
  obtain ⟨N, hN⟩ : ∃ N, bs (r.takeWhile isD) = N := ⟨_, rfl⟩
  obtain ⟨R, hR⟩ : ∃ R, bs (r.dropWhile isD) = R := ⟨_, rfl⟩
  have HD : Hid (∀ W, Calls Tryz.prog 141 #[.string (bs r)] W fun e w' => e = .returned (.tuple #[.string N, .string R]) ∧ Below W.heap.size W w') := Lib.hid (fun W => by
    have := digits_any (bs r) W (by rw [bs_size]; exact hrl)
    rwa [bs_data, hN, hR] at this)
  have HN := Lib.hid hN
  have HR := Lib.hid hR
  have Hc := Lib.hid hc
  clear hN hR hc
  go_enter Tryz.func114, Tryz.ntmps114
  go_wp2_with (go_at_call 140; refine (HC.out _).mono ?_; rintro e w' ⟨rfl, rfl⟩)
  with_reducible refine (HD.out _).mono ?_
  rintro e w1 ⟨rfl, hb1⟩
  have B4 : Blk w1 (w.heap.size + 1) 150 #[.bool b, .string ByteArray.empty, .string ByteArray.empty] := by
    have := (Blk.new (w.alloc (.cells #[.bool false, .string ByteArray.empty, .string ByteArray.empty] 150)) 150 #[.bool b, .string ByteArray.empty, .string ByteArray.empty]).keep hb1 (by simp)
    simpa using this
  have B2 : Blk w1 w.heap.size 150 #[.bool false, .string ByteArray.empty, .string ByteArray.empty] :=
    ((Blk.new w 150 #[.bool false, .string ByteArray.empty, .string ByteArray.empty]).alloc _).keep hb1 (by simp; omega)
  have hbw : Below w.heap.size w w1 := (((Below.refl _ _).alloc (Nat.le_refl _) _).alloc (by simp) _).trans (hb1.mono (by simp; omega))
  have hz : w.heap.size + 1 < w1.heap.size := B4.lt
  have HB4 := Lib.hid B4
  have HB2 := Lib.hid B2
  have c0 := B4.cell 0
  have c1 := B4.cell 1
  have c2 := B4.cell 2
  have f0 := B4.frozen 0
  have f1 := B4.frozen 1
  have f2 := B4.frozen 2
  have d0 := B2.cell 0
  have d1 := B2.cell 1
  have d2 := B2.cell 2
  have e0 := B2.frozen 0
  have e1 := B2.frozen 1
  have e2 := B2.frozen 2
  clear hb1 B4 B2
  simp at c0 c1 c2 d0 d1 d2
  go_wp2_with (fail)
  · have t1 : (N.toList == [48]) = true := by assumption
    have t2 : b = true := by assumption
    subst t2
    refine bodyPost_ret (v := .tuple #[.agg #[.bool true, .string N, .string ByteArray.empty], .bool false]) (by simp [results, Tryz.results114, go_sem, d0, d1, d2]) rfl (split_fin HN.out bs_nil (spl_zero Hc.out ?_) ?_)
    · rw [← bs_toList (r.takeWhile isD), HN.out]; simpa using t1
    · exact (((hbw.setCell (by simp) _).setCell (by simp) _).setCell (by simp) _).setCell (by simp) _
  · have t1 : (N.toList == [48]) = true := by assumption
    have t2 : ¬ b = true := by assumption
    obtain rfl : b = false := eq_false_of_ne_true t2
    refine bodyPost_ret (v := .tuple #[.agg #[.bool false, .string N, .string ByteArray.empty], .bool R.toList.isEmpty]) (by simp [results, Tryz.results114, go_sem, d0, d1, d2]) rfl (split_fin HN.out bs_nil ?_ ?_)
    · have := spl_zero Hc.out (by rw [← bs_toList (r.takeWhile isD), HN.out]; simpa using t1)
      rw [← HR.out, bs_toList]
      simpa using this
    · exact (((hbw.setCell (by simp) _).setCell (by simp) _).setCell (by simp) _).setCell (by simp) _
  · have t1 : (N.toList == [48]) = false := by assumption
    have t2 : N.toList = [] := by assumption
    refine bodyPost_ret (v := .tuple #[.agg #[.bool b, .string N, .string ByteArray.empty], .bool false]) (by simp [results, Tryz.results114, go_sem, d0, d1, d2]) rfl (split_fin HN.out bs_nil (spl_bad Hc.out ?_ (.inl ?_)) ?_)
    · rw [← bs_toList (r.takeWhile isD), HN.out]; simpa using t1
    · rw [← bs_toList (r.takeWhile isD), HN.out]; exact t2
    · exact (((hbw.setCell (by simp) _).setCell (by simp) _).setCell (by simp) _).setCell (by simp) _
  · have t1 : (N.toList == [48]) = false := by assumption
    have t3 : ¬ N.toList = [] := by assumption
    have t4 : 0 < N.size := by assumption
    have t2 : N.toList.isEmpty = true ∨ ((N[0].toNat : Int) == 48) = true := by assumption
    refine bodyPost_ret (v := .tuple #[.agg #[.bool b, .string N, .string ByteArray.empty], .bool false]) (by simp [results, Tryz.results114, go_sem, d0, d1, d2]) rfl (split_fin HN.out bs_nil (spl_bad Hc.out ?_ (.inr ?_)) ?_)
    · rw [← bs_toList (r.takeWhile isD), HN.out]; simpa using t1
    · rcases t2 with t2 | t2
      · exact absurd (List.isEmpty_iff.1 t2) t3
      · exact of_head HN.out (c := 48) t2
    · exact (((hbw.setCell (by simp) _).setCell (by simp) _).setCell (by simp) _).setCell (by simp) _
  · have t1 : (N.toList == [48]) = false := by assumption
    have t3 : ¬ N.toList = [] := by assumption
    have t4 : 0 < N.size := by assumption
    have t2 : N.toList.isEmpty = false ∧ ((N[0].toNat : Int) == 48) = false := by assumption
    have t5 : R.toList.isEmpty = true := by assumption
    refine bodyPost_ret (v := .tuple #[.agg #[.bool b, .string N, .string ByteArray.empty], .bool true]) (by simp [results, Tryz.results114, go_sem, d0, d1, d2]) rfl (split_fin HN.out bs_nil (spl_whole Hc.out ?_ ?_ ?_) ?_)
    · rw [← bs_toList (r.takeWhile isD), HN.out]; simpa using t1
    · rintro (h | h)
      · exact t3 (by rw [← HN.out, bs_toList]; exact h)
      · exact of_not_head HN.out (c := 48) t2.2 h
    · rw [← bs_toList (r.dropWhile isD), HR.out]; exact List.isEmpty_iff.1 t5
    · exact (((hbw.setCell (by simp) _).setCell (by simp) _).setCell (by simp) _).setCell (by simp) _
  · have t1 : (N.toList == [48]) = false := by assumption
    have t3 : ¬ N.toList = [] := by assumption
    have t4 : 0 < N.size := by assumption
    have t2 : N.toList.isEmpty = false ∧ ((N[0].toNat : Int) == 48) = false := by assumption
    have t5 : R.toList.isEmpty = false := by assumption
    have t6 : 0 < R.size := by assumption
    have t7 : ((R[0].toNat : Int) != 47) = true := by assumption
    have hR : r.dropWhile isD = R.toList := by rw [← HR.out, bs_toList]
    obtain ⟨c, t, hct⟩ : ∃ c t, r.dropWhile isD = c :: t := by
      cases hh : r.dropWhile isD with
      | nil => rw [hh] at hR; rw [← hR] at t5; cases t5
      | cons c t => exact ⟨c, t, rfl⟩
    refine bodyPost_ret (v := .tuple #[.agg #[.bool b, .string N, .string ByteArray.empty], .bool false]) (by simp [results, Tryz.results114, go_sem, d0, d1, d2]) rfl (split_fin HN.out bs_nil (spl_slash Hc.out ?_ ?_ hct ?_) ?_)
    · rw [← bs_toList (r.takeWhile isD), HN.out]; simpa using t1
    · rintro (h | h)
      · exact t3 (by rw [← HN.out, bs_toList]; exact h)
      · exact of_not_head HN.out (c := 48) t2.2 h
    · have := of_not_head HR.out (c := 47) (h := t6) (by simpa using t7)
      rw [hct] at this
      simpa using this
    · exact (((hbw.setCell (by simp) _).setCell (by simp) _).setCell (by simp) _).setCell (by simp) _
  · have t1 : (N.toList == [48]) = false := by assumption
    have t3 : ¬ N.toList = [] := by assumption
    have t4 : 0 < N.size := by assumption
    have t2 : N.toList.isEmpty = false ∧ ((N[0].toNat : Int) == 48) = false := by assumption
    have t5 : R.toList.isEmpty = false := by assumption
    have t6 : 0 < R.size := by assumption
    have t7 : ((R[0].toNat : Int) != 47) = false := by assumption
    have hR : r.dropWhile isD = R.toList := by rw [← HR.out, bs_toList]
    obtain ⟨t, hct⟩ : ∃ t, r.dropWhile isD = 47 :: t := by
      have := of_head HR.out (c := 47) (h := t6) (by simpa using t7)
      cases hh : r.dropWhile isD with
      | nil => rw [hh] at this; cases this
      | cons c t => rw [hh] at this; injection this with this; subst this; exact ⟨t, rfl⟩
    have hext : R.extract 1 R.size = bs t := by rw [ext_end, ← HR.out, bs_data, hct]; rfl
    have htl : t.length ≤ 64 := by
      have a2 := dw_len isD r
      rw [hct, List.length_cons] at a2
      omega
    obtain ⟨D, hD⟩ : ∃ D, bs (t.takeWhile isD) = D := ⟨_, rfl⟩
    obtain ⟨R2, hR2⟩ : ∃ R, bs (t.dropWhile isD) = R := ⟨_, rfl⟩
    have HD2 : Hid (∀ W, Calls Tryz.prog 141 #[.string (R.extract 1 R.size)] W fun e w' => e = .returned (.tuple #[.string D, .string R2]) ∧ Below W.heap.size W w') := Lib.hid (fun W => by
      have := digits_any (bs t) W (by rw [bs_size]; exact htl)
      rwa [bs_data, hD, hR2, ← hext] at this)
    have HDD := Lib.hid hD
    have HR2 := Lib.hid hR2
    have Hct := Lib.hid hct
    have T1 := Lib.hid t1
    have T2 := Lib.hid t2
    clear hD hR2 hct hR hext t1 t2 t7
    with_reducible refine (HD2.out _).mono ?_
    rintro e w2 ⟨rfl, hb2⟩
    have B4 : Blk w2 (w.heap.size + 1) 150 #[.bool b, .string N, .string ByteArray.empty] := (HB4.out.set 1 (.string N)).keep hb2 (by simp; omega)
    have B2 : Blk w2 w.heap.size 150 #[.bool false, .string ByteArray.empty, .string ByteArray.empty] := (HB2.out.far (p := ⟨w.heap.size + 1, 1, none⟩) (by simp) (.string N)).keep hb2 (by simp; omega)
    have hbw2 : Below w.heap.size w w2 := (hbw.setCell (p := ⟨w.heap.size + 1, 1, none⟩) (by simp) (.string N)).trans (hb2.mono (by simp; omega))
    have hz2 : w.heap.size + 1 < w2.heap.size := B4.lt
    clear c0 c1 c2 d0 d1 d2 e0 e1 e2 f0 f1 f2 hb2 hz HB4 HB2 hbw
    have c0 := B4.cell 0
    have c1 := B4.cell 1
    have c2 := B4.cell 2
    have f0 := B4.frozen 0
    have f1 := B4.frozen 1
    have f2 := B4.frozen 2
    have d0 := B2.cell 0
    have d1 := B2.cell 1
    have d2 := B2.cell 2
    have e0 := B2.frozen 0
    have e1 := B2.frozen 1
    have e2 := B2.frozen 2
    clear B4 B2
    simp at c0 c1 c2 d0 d1 d2
    have fin : ∀ (ok : Bool) (w' : World), (ok = true ↔ t.dropWhile isD = [] ∧ t.takeWhile isD ≠ [] ∧ (t.takeWhile isD).head? ≠ some 48 ∧ t.takeWhile isD ≠ [49]) → Below w.heap.size w w' →
        RetSplit s.data.toList w (.returned (.tuple #[.agg #[.bool b, .string N, .string D], .bool ok])) w' := by
      intro ok w' hok hb
      refine split_fin HN.out HDD.out (spl_den Hc.out ?_ ?_ Hct.out hok) hb
      · rw [← bs_toList (r.takeWhile isD), HN.out]; simpa using T1.out
      · rintro (h | h)
        · exact t3 (by rw [← HN.out, bs_toList]; exact h)
        · exact of_not_head HN.out (c := 48) T2.out.2 h
    have FIN := Lib.hid fin
    clear fin
    have hRl : R2.toList = t.dropWhile isD := by rw [← HR2.out, bs_toList]
    have hDl : D.toList = t.takeWhile isD := by rw [← HDD.out, bs_toList]
    have HRl := Lib.hid hRl
    have HDl := Lib.hid hDl
    clear hRl hDl
    go_wp2
    by_cases r2 : R2.toList.isEmpty = true
    · have r2' : R2.toList = [] := List.isEmpty_iff.1 r2
      by_cases r3 : D.toList.isEmpty = true
      · have r3' : D.toList = [] := List.isEmpty_iff.1 r3
        go_region
        all_goals
          try go_wp2
          refine bodyPost_ret (v := .tuple #[.agg #[.bool b, .string N, .string D], .bool false]) (by simp [results, Tryz.results114, go_sem, d0, d1, d2]) rfl (FIN.out _ _ ?_ ?_)
          · rw [← HRl.out, ← HDl.out, r3']; simp
          · exact below_drewN ((((hbw2.setCell (by simp) _).setCell (by simp) _).setCell (by simp) _).setCell (by simp) _) 1
      · have r3 : D.toList.isEmpty = false := eq_false_of_ne_true r3
        have r3' : ¬ D.toList = [] := fun e => by rw [e] at r3; cases r3
        have r4 : 0 < D.size := by
          rw [← HDD.out]; exact bs_pos (fun e => r3' (by rw [HDl.out]; exact e))
        by_cases r5 : ((D[0].toNat : Int) != 48) = true
        · have r5' : (t.takeWhile isD).head? ≠ some 48 := of_not_head HDD.out (c := 48) (h := r4) (by simpa using r5)
          have R5 := Lib.hid r5'
          clear r5'
          by_cases r6 : (D.toList != [49]) = true
          · skip
            go_region
            all_goals
              try go_wp2
              refine bodyPost_ret (v := .tuple #[.agg #[.bool b, .string N, .string D], .bool true]) (by simp [results, Tryz.results114, go_sem, d0, d1, d2]; simpa using r6) rfl (FIN.out _ _ ?_ ?_)
              · rw [← HRl.out, ← HDl.out]; exact iff_of_true rfl ⟨r2', r3', by rw [HDl.out]; exact R5.out, by simpa using r6⟩
              · exact below_drewN ((((hbw2.setCell (by simp) _).setCell (by simp) _).setCell (by simp) _).setCell (by simp) _) 1
          · have r6 : (D.toList != [49]) = false := eq_false_of_ne_true r6
            go_region
            all_goals
              try go_wp2
              refine bodyPost_ret (v := .tuple #[.agg #[.bool b, .string N, .string D], .bool false]) (by simp [results, Tryz.results114, go_sem, d0, d1, d2]; simpa using r6) rfl (FIN.out _ _ ?_ ?_)
              · rw [← HRl.out, ← HDl.out]; exact iff_of_false (by decide) (fun h => h.2.2.2 (by simpa using r6))
              · exact below_drewN ((((hbw2.setCell (by simp) _).setCell (by simp) _).setCell (by simp) _).setCell (by simp) _) 1
        · have r5 : ((D[0].toNat : Int) != 48) = false := eq_false_of_ne_true r5
          have r5' : (t.takeWhile isD).head? = some 48 := of_head HDD.out (c := 48) (h := r4) (by simpa using r5)
          have R5 := Lib.hid r5'
          clear r5'
          go_region
          all_goals
            try go_wp2
            refine bodyPost_ret (v := .tuple #[.agg #[.bool b, .string N, .string D], .bool false]) (by simp [results, Tryz.results114, go_sem, d0, d1, d2]) rfl (FIN.out _ _ ?_ ?_)
            · rw [← HRl.out, ← HDl.out]; exact iff_of_false (by decide) (fun h => h.2.2.1 (by rw [HDl.out]; exact R5.out))
            · exact below_drewN ((((hbw2.setCell (by simp) _).setCell (by simp) _).setCell (by simp) _).setCell (by simp) _) 1
    · have r2 : R2.toList.isEmpty = false := eq_false_of_ne_true r2
      have r2' : ¬ R2.toList = [] := fun e => by rw [e] at r2; cases r2
      go_region
      all_goals
        try go_wp2
        refine bodyPost_ret (v := .tuple #[.agg #[.bool b, .string N, .string D], .bool false]) (by simp [results, Tryz.results114, go_sem, d0, d1, d2]) rfl (FIN.out _ _ ?_ ?_)
        · rw [← HRl.out]; simp [r2']
        · exact below_drewN ((((hbw2.setCell (by simp) _).setCell (by simp) _).setCell (by simp) _).setCell (by simp) _) 1
  · have t5 : R.toList.isEmpty = false := by assumption
    have t6 : ¬ 0 < R.size := by assumption
    have hR : r.dropWhile isD = R.toList := by rw [← HR.out, bs_toList]
    have : R.size = (r.dropWhile isD).length := by rw [← HR.out, bs_size]
    have h0 : r.dropWhile isD = [] := List.eq_nil_of_length_eq_zero (by omega)
    rw [← hR, h0] at t5; cases t5
  · have t5 : ¬ N.toList = [] := by assumption
    have t6 : ¬ 0 < N.size := by assumption
    have hR : r.takeWhile isD = N.toList := by rw [← HN.out, bs_toList]
    have : N.size = (r.takeWhile isD).length := by rw [← HN.out, bs_size]
    have h0 : r.takeWhile isD = [] := List.eq_nil_of_length_eq_zero (by omega)
    exact absurd (hR.symm.trans h0) t5
end Go.Proofs.Tg
end
section
/- Walks: digits as one word. -/
namespace Go.Proofs.Tg
open Go.RowKit Go.Qn
set_option maxHeartbeats 1000000
set_option maxRecDepth 100000
theorem val_take (l : List UInt8) (k : Nat) (hk : k < l.length) : val (l.take (k + 1)) = 10 * val (l.take k) + (l[k].toNat - 48) := by
  rw [List.take_succ_eq_append_getElem hk, val_snoc]
end Go.Proofs.Tg
end
section
/- Walks: the greatest common divisor of two integers of one word; signs. -/
namespace Go.Proofs.Tg
open Go.RowKit Go.Qn Go.Gr
set_option maxHeartbeats 1000000
set_option maxRecDepth 100000
theorem Sets.one {w : World} {A : Option Addr} {a : Nat} (h : Sets w A [a]) : ∃ ad, A = some ad ∧ w.cell? ad = some (.int .u64 (a : Nat)) ∧ ad.block < w.heap.size := by
  obtain ⟨ad, rfl, hc⟩ := Sets.at h (k := 0) (by simp)
  have hc0 : w.cell? ad = some (.int .u64 (a : Nat)) := by simpa [Addr.add] using hc
  exact ⟨ad, rfl, hc0, World.block_lt_of_cell? w ad hc0⟩
end Go.Proofs.Tg
end
