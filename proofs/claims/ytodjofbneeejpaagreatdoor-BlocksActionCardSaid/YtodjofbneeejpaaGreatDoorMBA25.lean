/- Parts of the proof: RF1, RF2, RF3. -/
import Derived.Test.YtodjofbneeejpaaGreatDoorMBA1
import Derived.Test.YtodjofbneeejpaaGreatDoorMBA3
import Derived.Test.YtodjofbneeejpaaGreatDoorMBA11
import Derived.Test.YtodjofbneeejpaaGreatDoorMBA12
import Derived.Test.YtodjofbneeejpaaGreatDoorMBA13
import Derived.Test.YtodjofbneeejpaaGreatDoorMBA16
import Derived.Test.YtodjofbneeejpaaGreatDoorMBA17
section
/- The reference 19: monomials, Moved, image. -/
namespace Go.Proofs.Tg.Rf
open Go.RowKit Go.Gr Go.Sp Go.Ev Go.Pm Go.Mo
open Go.Proofs.Tg.Gp (findI find_any)
open Go.Proofs.Tg.Bk (img_len img_at)
set_option maxHeartbeats 4000000
set_option maxRecDepth 100000
theorem rmons_any (L : Option Addr) (cL : Nat) (l : List (List Int)) (q : Bool) (w : World) (hL : Lists w L l) (hl : l.length ≤ 1000000) (hll : ∀ x ∈ l, x.length ≤ 1000) (hq : q = true ↔ ∀ x ∈ l, vldM x = true) :
    Calls Tryz.prog 37 #[.slice L l.length cL] w fun e w' => e = .returned (.bool q) ∧ w = w' := by
  have HL := Lib.hid hL
  have HQ := Lib.hid hq
  have HLL := Lib.hid hll
  clear hL hq hll
  go_enter Tryz.func37, Tryz.ntmps37
  go_wp2
  go_loopw [3] (fun s3 wr => ∃ k : Nat, s3 = .int .i64 k ∧ k ≤ l.length ∧ Hid (∀ j (h : j < l.length), j < k → vldM l[j] = true) ∧ w = wr) (fun s3 _ => l.length - (intOf s3).toNat)
  case atStart => exact ⟨0, rfl, Nat.zero_le _, Lib.hid (fun j _ h => absurd h (by omega)), rfl⟩
  case round =>
    obtain ⟨k, rfl, hk, HN, rfl⟩ := hrel
    by_cases hkl : k < l.length
    · obtain ⟨ad, E, ce, rfl, hc, hE⟩ := HL.out.at hkl
      have q0 : (0 : Int) ≤ (k : Int) := by omega
      have q1 : (k : Int) < (l.length : Int) := by omega
      have q3 : ((k : Int)).toNat = k := by omega
      obtain ⟨b, hb⟩ : ∃ b, vldM l[k] = b := ⟨_, rfl⟩
      have HV := Lib.hid (rvalid_any E ce l[k] w hE (HLL.out _ (List.getElem_mem _)))
      rw [hb] at HV
      have HB := Lib.hid hb
      clear hE hb
      cases b with
      | true =>
        have HN2 : Hid (∀ j (h : j < l.length), j < k + 1 → vldM l[j] = true) := Lib.hid (fun j h hj => by
          by_cases he : j = k
          · subst he; exact HB.out
          · exact HN.out j h (by omega))
        clear HB
        generalize l[k] = x at *
        go_wp2_with (go_at_call 67; refine HV.out.mono ?_; rintro e w2 ⟨rfl, rfl⟩)
        go_roundw
        case rel => exact ⟨k + 1, by go_num, by omega, HN2, trivial⟩
        case measure => simp [intOf]; omega
      | false =>
        obtain rfl : q = false := eq_false_of_ne_true (fun h => by
          have := HQ.out.1 h _ (List.getElem_mem hkl)
          rw [HB.out] at this
          cases this)
        clear HB
        generalize l[k] = x at *
        go_wp2_with (go_at_call 67; refine HV.out.mono ?_; rintro e w2 ⟨rfl, rfl⟩)
        go_ret
        exact ⟨rfl, rfl⟩
    · obtain rfl : k = l.length := by omega
      obtain rfl : q = true := HQ.out.2 (fun x hx => by
        obtain ⟨j, hj, rfl⟩ := List.getElem_of_mem hx
        exact HN.out j hj hj)
      have dk : decide ((l.length : Int) < (l.length : Int)) = false := by simp
      go_wp2
      go_ret
      exact ⟨rfl, rfl⟩
theorem moved_any (A E : Option Addr) (cA cE n : Nat) (a m : List Int) (w : World) (hA : Ints w A a) (ha : Perm n a) (hE : Ints w E m) (hm : m.length = n) (hn : n ≤ 6) :
    Calls Tryz.prog 100 #[.slice A n cA, .slice E n cE] w fun e w' => e = .returned (.slice (some ⟨w.heap.size, 0, none⟩) n n) ∧ Blk w' w.heap.size 3 (iarr (mv n a m)) ∧ Below w.heap.size w w' := by
  have HA := Lib.hid hA
  have HE := Lib.hid hE
  have HPA := Lib.hid ha
  have HLM := Lib.hid hm
  have hmk := make_ints n n (Nat.le_refl _) (by omega) w
  have hal := Below.alloc (Below.refl w.heap.size w) (Nat.le_refl _) (.cells (madeCells #[.int .i64 0] n) 3)
  rw [iarr_made n] at hmk hal
  have e0 : Blk (w.alloc (.cells (iarr (List.replicate n 0)) 3)) w.heap.size 3 (iarr (mvF n a m 0)) := by rw [mvF_zero]; exact Blk.new _ _ _
  generalize hW : w.alloc (.cells (iarr (List.replicate n 0)) 3) = W at *
  have HB0 := Lib.hid e0
  clear hA hE ha hm hW e0
  go_enter Tryz.func100, Tryz.ntmps100
  go_wp2
  clear hmk
  go_loopw [6] (fun s6 wr => ∃ j : Nat, s6 = .int .i64 j ∧ j ≤ n ∧ Hid (Blk wr w.heap.size 3 (iarr (mvF n a m j))) ∧ Below w.heap.size w wr) (fun s6 _ => n - (intOf s6).toNat)
  case atStart => exact ⟨0, rfl, Nat.zero_le _, HB0, hal⟩
  case round =>
    clear HB0 hal
    obtain ⟨wi, rfl⟩ : ∃ wi : World, wi = wr := ⟨_, rfl⟩
    obtain ⟨j, rfl, hj, HBI, hbi⟩ := hrel
    by_cases hjn : j < n
    · have hja : j < a.length := by rw [HPA.out.1]; exact hjn
      have hjm : j < m.length := by rw [HLM.out]; exact hjn
      obtain ⟨aa, rfl, hca⟩ := Ints.at (HA.out.keep hbi) hja
      obtain ⟨ee, rfl, hce⟩ := Ints.at (HE.out.keep hbi) hjm
      obtain ⟨x, hx⟩ : ∃ x : Nat, a[j] = (x : Int) := ⟨(a[j]).toNat, by have := HPA.out.2.1 a[j] (List.getElem_mem _); omega⟩
      have hxn : x < n := by have := HPA.out.2.1 a[j] (List.getElem_mem _); omega
      have HST : Hid ((mvF n a m j).set x m[j] = mvF n a m (j + 1)) := Lib.hid (by
        rw [mvF_succ, show a.getD j 0 = (x : Int) by simp [hja, hx], show m.getD j 0 = m[j] by simp [hjm]]
        rfl)
      rw [hx] at hca
      have c0 := HBI.out.cell x
      have f0 := HBI.out.frozen x
      rw [iarr_at _ (by rw [mvF_len]; omega)] at c0
      generalize (mvF n a m j)[x]'(by rw [mvF_len]; omega) = old at c0
      generalize m[j] = y at *
      have r0 : (0 : Int) ≤ (j : Int) := by omega
      have r1 : (j : Int) < (n : Int) := by omega
      have r3 : ((j : Int)).toNat = j := by omega
      have x0 : (0 : Int) ≤ (x : Int) := by omega
      have x1 : (x : Int) < (n : Int) := by omega
      have x3 : ((x : Int)).toNat = x := by omega
      clear hx
      go_wp2
      go_region
      go_wp2
      go_roundw
      case rel =>
        refine ⟨j + 1, by go_num, by omega, Lib.hid ?_, (below_far hbi (Nat.le_refl _) _ _).drew⟩
        have := HBI.out.set x (.int .i64 y)
        rw [iarr_set, HST.out] at this
        exact this.drew
      case measure => simp [intOf]; omega
    · obtain rfl : j = n := by omega
      have dj : decide ((j : Int) < (j : Int)) = false := by simp
      go_wp2
      go_ret
      exact ⟨rfl, HBI.out, hbi⟩
end Go.Proofs.Tg.Rf
end
section
/- The reference 19: image, acts, Action. -/
namespace Go.Proofs.Tg.Rf
open Go.RowKit Go.Gr Go.Sp Go.Ev Go.Pm Go.Mo
open Go.Proofs.Tg.Gp (findI find_any prow_info gp_risgroup)
open Go.Proofs.Tg.Bk (img_len img_at ints_new actE szE szE_ok isg_len)
open Go.Proofs.Tg.Sx (Rw cellR RowsK rows_lists)
set_option maxHeartbeats 4000000
set_option maxRecDepth 100000
def RetImage (n : Nat) (a : List Int) (l : List (List Int)) (w : World) (e : Ending) (w' : World) : Prop := Below w.heap.size w w' ∧
  ((¬ ActsOn n a l ∧ e = .returned (.tuple #[.slice none 0 0, .bool false])) ∨ (ActsOn n a l ∧ ∃ E c, e = .returned (.tuple #[.slice E l.length c, .bool true]) ∧ w'.ownsRow w.heap.size 3 1 (.slice E l.length c) l.length ((img n a l).map vi)))
theorem img_take {n : Nat} {a : List Int} {l : List (List Int)} {k : Nat} (h : k < l.length) : ((img n a l).take (k + 1)).map vi = ((img n a l).take k).map vi ++ [.int .i64 ((l.idxOf (mv n a l[k]) : Nat) : Int)] := by
  rw [List.take_succ_eq_append_getElem (by rw [img_len]; exact h), List.map_append, img_at]
  rfl
theorem image_any (A L : Option Addr) (cA cL n : Nat) (a : List Int) (l : List (List Int)) (w : World) (hA : Ints w A a) (ha : Perm n a) (hL : Lists w L l) (hd : ∀ m ∈ l, m.length = n) (hn : n ≤ 6) (hl : l.length ≤ 1000) :
    Calls Tryz.prog 79 #[.slice A n cA, .slice L l.length cL] w (RetImage n a l w) := by
  have HA := Lib.hid hA
  have HL := Lib.hid hL
  have HPA := Lib.hid ha
  have HD := Lib.hid hd
  obtain ⟨j0, hj0, hjz0, hjz1, hjz2⟩ := info_parts int_info
  clear hA hL ha hd
  go_enter Tryz.func79, Tryz.ntmps79
  go_wp2
  go_loopw [6, 7] (fun s6 s7 wr => ∃ (k : Nat) (E : Option Addr) (c : Nat), s7 = .int .i64 k ∧ k ≤ l.length ∧ s6 = .slice E k c ∧ Hid (∀ j (h : j < l.length), j < k → mv n a l[j] ∈ l) ∧ Hid (wr.ownsRow w.heap.size 3 1 (.slice E k c) k (((img n a l).take k).map vi)) ∧ Below w.heap.size w wr) (fun _ s7 _ => l.length - (intOf s7).toNat)
  case atStart => exact ⟨0, none, 0, rfl, Nat.zero_le _, rfl, Lib.hid (fun j _ h => absurd h (by omega)), Lib.hid (by simpa using World.ownsRow_nil _ _ _ _), Below.refl _ _⟩
  case round =>
    obtain ⟨wo, rfl⟩ : ∃ wo : World, wo = wr := ⟨_, rfl⟩
    obtain ⟨k, E, c, rfl, hk, rfl, HIN, HOW, hbo⟩ := hrel
    by_cases hkl : k < l.length
    · obtain ⟨ad, Em, cm, rfl, hc0, hE⟩ := HL.out.at hkl
      have hml := HD.out l[k] (List.getElem_mem _)
      rw [hml] at hc0
      have hc := keep_cell hbo hc0
      have q0 : (0 : Int) ≤ (k : Int) := by omega
      have q1 : (k : Int) < (l.length : Int) := by omega
      have q3 : ((k : Int)).toNat = k := by omega
      have HMV := Lib.hid (moved_any A Em cA cm n a l[k] wo (HA.out.keep hbo) HPA.out (hE.keep hbo) hml hn)
      have hvl : (mv n a l[k]).length = n := mvF_len _ _ _ _
      have HFD : Hid (∀ V, Below wo.heap.size wo V → Blk V wo.heap.size 3 (iarr (mv n a l[k])) → Calls Tryz.prog 38 #[.slice (some ad) l.length cL, .slice (some ⟨wo.heap.size, 0, none⟩) n n] V fun e w' => e = .returned (.int .i64 (findI l (mv n a l[k]))) ∧ Below V.heap.size V w') := Lib.hid (fun V h hB => by
        have := find_any (some ad) cL l (some ⟨wo.heap.size, 0, none⟩) n (mv n a l[k]) V ((HL.out.keep hbo).keep h) (ints_new hB) (by omega) (fun x hx => by rw [HD.out x hx]; omega)
        rwa [hvl] at this)
      have HTK := Lib.hid (img_take (n := n) (a := a) hkl)
      have HSUC : Hid (mv n a l[k] ∈ l → ∀ j (h : j < l.length), j < k + 1 → mv n a l[j] ∈ l) := Lib.hid (fun hx j h hj => by
        by_cases he : j = k
        · subst he; exact hx
        · exact HIN.out j h (by omega))
      have HBAD : Hid (mv n a l[k] ∉ l → ¬ ActsOn n a l) := Lib.hid (fun hx h => hx (h _ (List.getElem_mem _)))
      clear hml hE hc0 hvl
      generalize mv n a l[k] = x at *
      by_cases hin : x ∈ l
      · have hfi : findI l x = ((l.idxOf x : Nat) : Int) := by unfold findI; rw [if_pos hin]
        rw [hfi] at HFD
        have HIN2 := Lib.hid (HSUC.out hin)
        clear hfi hin HSUC HBAD
        generalize l.idxOf x = p at *
        have d0 : decide ((p : Int) < 0) = false := decide_eq_false (by omega)
        have hown := HOW.out
        go_wp2_with (first
          | (go_at_call 100; refine HMV.out.mono ?_; rintro e w2 ⟨rfl, hB2, hb2⟩)
          | (go_at_call 38; refine (HFD.out _ hb2 hB2).mono ?_; rintro e w3 ⟨rfl, hb3⟩
             have hown3 := own_below (own_below hown hb2 (Nat.le_refl _)) hb3 (Nat.le_refl _)
             have hbw3 := below_all (below_all hbo hb2) hb3)
          | (at_builtin
             refine wpList_append_own_at _ rfl _ _ 22 rfl w.heap.size 3 j0 (.int .i64 0) 1 8 Tryz.underlying22 hj0 hjz0 hjz1 hjz2 rfl (by decide) (.slice E k c) k (((img n a l).take k).map vi) rfl (hown3.alloc _) ⟨w3.heap.size, 0, none⟩ 1 1 [.int .i64 (p : Int)] rfl rfl (cell_one_new _ _ _) (by simp [Value.oneCell']) (by simp only [maxLen]; omega) (by omega) (by have := hbw3.size; simp; omega) ?_
             intro v7 w7 hown7 hg7 _ _
             obtain ⟨A7, c7, hv7, _, _⟩ := Sl.of_own hown7
             subst hv7))
        go_roundw
        case rel =>
          exact ⟨k + 1, A7, c7, by go_num, by omega, rfl, HIN2, Lib.hid (by rw [HTK.out]; exact hown7), (hbw3.alloc hbw3.size _).grown hg7 (by have := hbw3.size; simp; omega) (fun q hq => (hown3.lt q hq).1)⟩
        case measure => simp [intOf]; omega
      · have hfi : findI l x = -1 := by unfold findI; rw [if_neg hin]
        rw [hfi] at HFD
        have HNO := Lib.hid (HBAD.out hin)
        clear hfi hin HSUC HBAD
        go_wp2_with (first
          | (go_at_call 100; refine HMV.out.mono ?_; rintro e w2 ⟨rfl, hB2, hb2⟩)
          | (go_at_call 38; refine (HFD.out _ hb2 hB2).mono ?_; rintro e w3 ⟨rfl, hb3⟩))
        go_ret2
        exact ⟨below_all (below_all hbo hb2) hb3, .inl ⟨HNO.out, rfl⟩⟩
    · obtain rfl : k = l.length := by omega
      have hown := HOW.out
      rw [List.take_of_length_le (by rw [img_len]; exact Nat.le_refl _)] at hown
      have HOF := Lib.hid hown
      have HAC : Hid (ActsOn n a l) := Lib.hid (fun m hm => by
        obtain ⟨j, hj, rfl⟩ := List.getElem_of_mem hm
        exact HIN.out j hj hj)
      have dk : decide ((l.length : Int) < (l.length : Int)) = false := by simp
      clear hown
      go_wp2
      go_ret2
      exact ⟨hbo, .inr ⟨HAC.out, E, c, rfl, HOF.out⟩⟩
theorem RetImage.yes {n : Nat} {a : List Int} {l : List (List Int)} {w w' : World} {e : Ending} (h : RetImage n a l w e w') (ha : ActsOn n a l) : Below w.heap.size w w' ∧ ∃ E c, e = .returned (.tuple #[.slice E l.length c, .bool true]) ∧ w'.ownsRow w.heap.size 3 1 (.slice E l.length c) l.length ((img n a l).map vi) := by
  rcases h with ⟨hb, ⟨h, _⟩ | ⟨_, h⟩⟩
  · exact absurd ha h
  · exact ⟨hb, h⟩
theorem RetImage.no {n : Nat} {a : List Int} {l : List (List Int)} {w w' : World} {e : Ending} (h : RetImage n a l w e w') (ha : ¬ ActsOn n a l) : Below w.heap.size w w' ∧ e = .returned (.tuple #[.slice none 0 0, .bool false]) := by
  rcases h with ⟨hb, ⟨_, h⟩ | ⟨h, _⟩⟩
  · exact ⟨hb, h⟩
  · exact absurd h ha
/-- What the loop of acts holds. -/
structure RaSt (w : World) (n : Nat) (g l : List (List Int)) (wr : World) (k : Nat) (A : Option Addr) (c : Nat) (rs : List Rw) : Prop where
  below : Below w.heap.size w wr
  own : wr.ownsRow w.heap.size 22 1 (.slice A rs.length c) rs.length (rs.map cellR)
  rows : RowsK w wr w.heap.size rs
  eq : rs.map (fun r => r.2.2) = (g.take k).map fun a => img n a l
  acts : ∀ j (h : j < g.length), j < k → ActsOn n g[j] l
def RetActs (n : Nat) (g l : List (List Int)) (w : World) (e : Ending) (w' : World) : Prop := Below w.heap.size w w' ∧
  ((actE n g l ≠ 0 ∧ e = .returned (.tuple #[.slice none 0 0, .int .i64 (actE n g l)])) ∨ (actE n g l = 0 ∧ ∃ A c, e = .returned (.tuple #[.slice A g.length c, .int .i64 0]) ∧ Lists w' A (g.map fun a => img n a l)))
theorem nodup_idx {l : List (List Int)} : l.Nodup ↔ ∀ i (h : i < l.length), l.idxOf l[i] = i := by
  constructor
  · intro hn i h
    exact Bk.idxL_at hn h
  · intro h
    refine List.pairwise_iff_getElem.2 (fun i j hi hj hij e => ?_)
    have h1 := h i hi
    have h2 := h j hj
    rw [e] at h1
    omega
theorem racts_any (G L : Option Addr) (cG cL n : Nat) (g l : List (List Int)) (w : World) (hG : Lists w G g) (hg : ∀ a ∈ g, Perm n a) (hgl : g.length ≤ 1000) (hL : Lists w L l) (hll : ∀ x ∈ l, x.length ≤ 1000) (hn : n ≤ 6) (hl : l.length ≤ 1000) :
    Calls Tryz.prog 48 #[.slice G g.length cG, .int .i64 n, .slice L l.length cL] w (RetActs n g l w) := by
  have HG := Lib.hid hG
  have HP := Lib.hid hg
  have HL := Lib.hid hL
  have HLL := Lib.hid hll
  obtain ⟨j0, hj0, hjz0, hjz1, hjz2⟩ := info_parts prow_info
  clear hG hg hL hll
  go_enter Tryz.func48, Tryz.ntmps48
  go_wp2
  go_loopw [8] (fun s8 wr => ∃ k : Nat, s8 = .int .i64 k ∧ k ≤ l.length ∧ Hid (∀ j (h : j < l.length), j < k → l[j].length = n) ∧ w = wr) (fun s8 _ => l.length - (intOf s8).toNat)
  case atStart => exact ⟨0, rfl, Nat.zero_le _, Lib.hid (fun j _ h => absurd h (by omega)), rfl⟩
  case round =>
    obtain ⟨k, rfl, hk, HN, rfl⟩ := hrel
    by_cases hkl : k < l.length
    · obtain ⟨ad, E, ce, rfl, hc, _⟩ := HL.out.at hkl
      have q0 : (0 : Int) ≤ (k : Int) := by omega
      have q1 : (k : Int) < (l.length : Int) := by omega
      have q3 : ((k : Int)).toNat = k := by omega
      by_cases he : l[k].length = n
      · have d1 : decide ((l[k].length : Int) = (n : Int)) = true := decide_eq_true (by omega)
        have d2 : decide (l[k].length = n) = true := decide_eq_true he
        have d3 : (((l[k].length : Nat) : Int) == (n : Int)) = true := beq_iff_eq.2 (by omega)
        have HN2 : Hid (∀ j (h : j < l.length), j < k + 1 → l[j].length = n) := Lib.hid (fun j h hj => by
          by_cases h2 : j = k
          · subst h2; exact he
          · exact HN.out j h (by omega))
        clear he
        generalize l[k] = x at hc d1 d2 d3
        go_wp2
        go_roundw
        case rel => exact ⟨k + 1, by go_num, by omega, HN2, trivial⟩
        case measure => simp [intOf]; omega
      · have d1 : decide ((l[k].length : Int) = (n : Int)) = false := decide_eq_false (by omega)
        have d2 : decide (l[k].length = n) = false := decide_eq_false he
        have d3 : (((l[k].length : Nat) : Int) == (n : Int)) = false := beq_eq_false_iff_ne.2 (by omega)
        have HE4 : Hid (actE n g l = 4) := Lib.hid (by
          have : szE n l = 4 := by unfold szE; rw [if_pos ⟨_, List.getElem_mem hkl, he⟩]
          unfold actE
          rw [if_pos (by rw [this]; decide), this])
        clear he
        generalize l[k] = x at hc d1 d2 d3
        go_wp2
        go_ret2
        exact ⟨Below.refl _ _, .inl ⟨by rw [HE4.out]; decide, by rw [HE4.out]; rfl⟩⟩
    · obtain rfl : k = l.length := by omega
      have dk : decide ((l.length : Int) < (l.length : Int)) = false := by simp
      have HLN : Hid (∀ m ∈ l, m.length = n) := Lib.hid (fun m hm => by
        obtain ⟨j, hj, rfl⟩ := List.getElem_of_mem hm
        exact HN.out j hj hj)
      have HSZ : Hid (szE n l = if l.length = 0 ∨ 64 < l.length then 2 else 0) := Lib.hid (by
        unfold szE
        rw [if_neg (by rintro ⟨m, hm, hne⟩; exact hne (HLN.out m hm))])
      clear HN
      by_cases h0 : l.length = 0
      · have HE2 : Hid (actE n g l = 2) := Lib.hid (by
          have : szE n l = 2 := by rw [HSZ.out, if_pos (.inl h0)]
          unfold actE
          rw [if_pos (by rw [this]; decide), this])
        have d1 : decide ((l.length : Int) = 0) = true := decide_eq_true (by omega)
        have d2 : decide (l.length = 0) = true := decide_eq_true h0
        have d3 : (((l.length : Nat) : Int) == 0) = true := beq_iff_eq.2 (by omega)
        clear h0
        go_wp2
        go_ret2
        exact ⟨Below.refl _ _, .inl ⟨by rw [HE2.out]; decide, by rw [HE2.out]; rfl⟩⟩
      · have d1 : decide ((l.length : Int) = 0) = false := decide_eq_false (by omega)
        have d2 : decide (l.length = 0) = false := decide_eq_false h0
        have d3 : (((l.length : Nat) : Int) == 0) = false := beq_eq_false_iff_ne.2 (by omega)
        by_cases h6 : 64 < l.length
        · have HE2 : Hid (actE n g l = 2) := Lib.hid (by
            have : szE n l = 2 := by rw [HSZ.out, if_pos (.inr h6)]
            unfold actE
            rw [if_pos (by rw [this]; decide), this])
          have e1 : decide ((64 : Int) < (l.length : Int)) = true := decide_eq_true (by omega)
          have e2 : decide (64 < l.length) = true := decide_eq_true h6
          clear h0 h6
          go_wp2
          go_ret2
          exact ⟨Below.refl _ _, .inl ⟨by rw [HE2.out]; decide, by rw [HE2.out]; rfl⟩⟩
        · have HZ : Hid (szE n l = 0) := Lib.hid (by rw [HSZ.out, if_neg (by rintro (h | h) <;> contradiction)])
          have e1 : decide ((64 : Int) < (l.length : Int)) = false := decide_eq_false (by omega)
          have e2 : decide (64 < l.length) = false := decide_eq_false h6
          have hl64 : l.length ≤ 64 := by omega
          have HL0 : Hid (0 < l.length) := Lib.hid (by omega)
          clear h0 h6 HSZ
          go_wp2
          clear d1 d2 d3 e1 e2
          go_loopw [9] (fun s9 wr => ∃ k : Nat, s9 = .int .i64 k ∧ k ≤ l.length ∧ Hid (∀ j (h : j < l.length), j < k → l.idxOf l[j] = j) ∧ Below w.heap.size w wr) (fun s9 _ => l.length - (intOf s9).toNat)
          case atStart => exact ⟨0, rfl, Nat.zero_le _, Lib.hid (fun j _ h => absurd h (by omega)), Below.refl _ _⟩
          case round =>
            obtain ⟨wo, rfl⟩ : ∃ wo : World, wo = wr := ⟨_, rfl⟩
            obtain ⟨k, rfl, hk, HIX, hbo⟩ := hrel
            by_cases hkl : k < l.length
            · obtain ⟨ad, E, ce, rfl, hc0, hE⟩ := HL.out.at hkl
              have hc := keep_cell hbo hc0
              have hml := HLN.out l[k] (List.getElem_mem _)
              have HFD := Lib.hid (find_any (some ad) cL l E ce l[k] wo (HL.out.keep hbo) (hE.keep hbo) (by omega) HLL.out)
              have hfi : findI l l[k] = ((l.idxOf l[k] : Nat) : Int) := by unfold findI; rw [if_pos (List.getElem_mem _)]
              rw [hfi, hml] at HFD
              rw [hml] at hc
              have q0 : (0 : Int) ≤ (k : Int) := by omega
              have q1 : (k : Int) < (l.length : Int) := by omega
              have q3 : ((k : Int)).toNat = k := by omega
              by_cases hix : l.idxOf l[k] = k
              · have HIX2 : Hid (∀ j (h : j < l.length), j < k + 1 → l.idxOf l[j] = j) := Lib.hid (fun j h hj => by
                  by_cases he : j = k
                  · subst he; exact hix
                  · exact HIX.out j h (by omega))
                rw [hix] at HFD
                clear hix hfi hE hc0 hml
                go_wp2_with (go_at_call 38; refine HFD.out.mono ?_; rintro e w3 ⟨rfl, hb3⟩)
                go_roundw
                case rel => exact ⟨k + 1, by go_num, by omega, HIX2, below_all hbo hb3⟩
                case measure => simp [intOf]; omega
              · have HE10 : Hid (actE n g l = 10) := Lib.hid (by
                  unfold actE
                  rw [if_neg (by rw [HZ.out]; simp), if_pos (fun hn => hix (nodup_idx.1 hn k hkl))])
                obtain ⟨p, hp⟩ : ∃ p, l.idxOf l[k] = p := ⟨_, rfl⟩
                rw [hp] at HFD hix
                have d1 : decide ((p : Int) = (k : Int)) = false := decide_eq_false (by omega)
                have d2 : decide (p = k) = false := decide_eq_false hix
                have d3 : ((p : Int) == (k : Int)) = false := beq_eq_false_iff_ne.2 (by omega)
                clear hp hix hfi hE hc0 hml
                go_wp2_with (go_at_call 38; refine HFD.out.mono ?_; rintro e w3 ⟨rfl, hb3⟩)
                go_ret2
                exact ⟨below_all hbo hb3, .inl ⟨by rw [HE10.out]; decide, by rw [HE10.out]; rfl⟩⟩
            · obtain rfl : k = l.length := by omega
              have HND : Hid l.Nodup := Lib.hid (nodup_idx.2 (fun i h => HIX.out i h h))
              clear HIX
              go_wp2
              have H0 : Hid (RaSt w n g l wo 0 none 0 []) := Lib.hid ⟨hbo, World.ownsRow_nil _ _ _ _, fun r hr => absurd hr (by simp), by simp, fun j _ h => absurd h (by omega)⟩
              go_loopw [10, 11] (fun s10 s11 wr => ∃ (j : Nat) (A : Option Addr) (c : Nat) (rs : List Rw), s11 = .int .i64 j ∧ j ≤ g.length ∧ s10 = .slice A rs.length c ∧ Hid (RaSt w n g l wr j A c rs)) (fun _ s11 _ => g.length - (intOf s11).toNat)
              case atStart => exact ⟨0, none, 0, [], rfl, Nat.zero_le _, rfl, H0⟩
              case round =>
                clear H0 hbo
                obtain ⟨wi, rfl⟩ : ∃ wi : World, wi = wr := ⟨_, rfl⟩
                obtain ⟨j, A, c, rs, rfl, hj, rfl, HST⟩ := hrel
                have hbi := HST.out.below
                by_cases hjl : j < g.length
                · obtain ⟨ad, E, ce, rfl, hc0, hE⟩ := HG.out.at hjl
                  have hpk := HP.out g[j] (List.getElem_mem _)
                  rw [hpk.1] at hc0
                  have hc := keep_cell hbi hc0
                  have q0 : (0 : Int) ≤ (j : Int) := by omega
                  have q1 : (j : Int) < (g.length : Int) := by omega
                  have q3 : ((j : Int)).toNat = j := by omega
                  have HIM := Lib.hid (image_any E L ce cL n g[j] l wi (hE.keep hbi) hpk (HL.out.keep hbi) HLN.out hn hl)
                  have HTK : Hid ((g.take (j + 1)).map (fun a => img n a l) = (g.take j).map (fun a => img n a l) ++ [img n g[j] l]) := Lib.hid (by rw [List.take_succ_eq_append_getElem hjl, List.map_append]; rfl)
                  have HLR : Hid (rs.length = j) := Lib.hid (by
                    have := congrArg List.length HST.out.eq
                    rw [List.length_map, List.length_map, List.length_take] at this
                    omega)
                  have hrl : rs.length ≤ 1000 := by rw [HLR.out]; omega
                  by_cases hact : ActsOn n g[j] l
                  · have HIY := Lib.hid (HIM.out.mono fun _ _ h => h.yes hact)
                    have HYES : Hid (∀ i (h : i < g.length), i < j + 1 → ActsOn n g[i] l) := Lib.hid (fun i h hi => by
                      by_cases he : i = j
                      · subst he; exact hact
                      · exact HST.out.acts i h (by omega))
                    clear HIM hact hpk hE hc0
                    generalize g[j] = x at *
                    have hown := HST.out.own
                    go_wp2_with (first
                      | (go_at_call 79; refine HIY.out.mono ?_; rintro e w4 ⟨hb4, E4, c4, rfl, hO4⟩
                         have hown4 := own_below hown hb4 (Nat.le_refl _)
                         have hbw4 := below_all hbi hb4)
                      | (at_builtin
                         refine wpList_append_own_at _ rfl _ _ 23 rfl w.heap.size 22 j0 (.slice none 0 0) 1 24 Tryz.underlying23 hj0 hjz0 hjz1 hjz2 rfl (by decide) (.slice A rs.length c) rs.length (rs.map cellR) rfl (hown4.alloc _) ⟨w4.heap.size, 0, none⟩ 1 1 [.slice E4 l.length c4] rfl rfl (cell_one_new _ _ _) (by simp [Value.oneCell']) (by simp only [maxLen]; omega) (by omega) (by have := hbw4.size; simp; omega) ?_
                         intro v7 w7 hown7 hg7 _ _
                         obtain ⟨A7, c7, hv7, _, _⟩ := Sl.of_own hown7
                         subst hv7))
                    go_roundw
                    case rel =>
                      have hal := Below.alloc (Below.refl w4.heap.size w4) (Nat.le_refl _) (.cells #[.slice E4 l.length c4] 22)
                      have hox := hown4.alloc (.cells #[.slice E4 l.length c4] 22)
                      have hcr : cellR (E4, c4, img n x l) = .slice E4 l.length c4 := by unfold cellR; simp [img_len]
                      have h1 := (((HST.out.rows.below hb4).below hal).kept hox hg7)
                      have h2 := (own_below (own_base hO4 hbi.size) hal (Nat.le_refl _)).kept hg7 (own_ne (own_below (own_base hO4 hbi.size) hal (Nat.le_refl _)) hox (by decide))
                      refine ⟨j + 1, A7, c7, rs ++ [(E4, c4, img n x l)], by go_num, by omega, by simp, Lib.hid ⟨(hbw4.alloc hbw4.size _).grown hg7 (by have := hbw4.size; simp; omega) (fun q hq => (hown4.lt q hq).1), ?_, h1.snoc (.inr ?_), ?_, HYES.out⟩⟩
                      · rw [List.length_append, List.map_append, List.map_singleton, hcr]; exact hown7
                      · rw [hcr, img_len]; exact h2
                      · rw [List.map_append, HST.out.eq, HTK.out]; rfl
                    case measure => simp [intOf]; omega
                  · have HIN := Lib.hid (HIM.out.mono fun _ _ h => h.no hact)
                    have HE8 : Hid (actE n g l = 8) := Lib.hid (by
                      unfold actE
                      rw [if_neg (by rw [HZ.out]; simp), if_neg (fun h2 => h2 HND.out), if_pos ⟨_, List.getElem_mem hjl, hact⟩])
                    clear HIM hact hpk hE hc0
                    generalize g[j] = x at *
                    go_wp2_with (go_at_call 79; refine HIN.out.mono ?_; rintro e w4 ⟨hb4, rfl⟩)
                    go_ret2
                    exact ⟨below_all hbi hb4, .inl ⟨by rw [HE8.out]; decide, by rw [HE8.out]; rfl⟩⟩
                · obtain rfl : j = g.length := by omega
                  have HER : Hid (actE n g l = 0) := Lib.hid (by
                    unfold actE
                    rw [if_neg (by rw [HZ.out]; simp), if_neg (fun h2 => h2 HND.out), if_neg (by
                      rintro ⟨a, ha, hna⟩
                      obtain ⟨i, hi, rfl⟩ := List.getElem_of_mem ha
                      exact hna (HST.out.acts i hi hi))])
                  have hLS := rows_lists (c := c) (Sl.own HST.out.own) HST.out.rows hbi
                  rw [HST.out.eq, List.take_length] at hLS
                  have HLS := Lib.hid hLS
                  have hlen : rs.length = g.length := by
                    have := congrArg List.length HST.out.eq
                    rw [List.length_map, List.length_map, List.length_take, Nat.min_self] at this
                    exact this
                  have HFN : Hid (∃ A' c', Value.slice A rs.length c = .slice A' g.length c' ∧ Lists wi A' (g.map fun a => img n a l)) := Lib.hid ⟨A, c, by rw [hlen], hLS⟩
                  clear hLS hlen HLS
                  go_wp2
                  go_ret2
                  obtain ⟨A', c', h1, h2⟩ := HFN.out
                  exact ⟨hbi, .inr ⟨HER.out, A', c', by rw [← h1]; rfl, h2⟩⟩
end Go.Proofs.Tg.Rf
end
section
/- The reference 19: Action. -/
namespace Go.Proofs.Tg.Rf
open Go.RowKit Go.Gr Go.Sp Go.Ev Go.Pm Go.Mo
open Go.Proofs.Tg.Gp (gp_risgroup)
open Go.Proofs.Tg.Bk (actE isg_len RetAction)
set_option maxHeartbeats 4000000
set_option maxRecDepth 100000
/-- What an action returns, wherever its rows lie. -/
def RetAcn (g l : List (List Int)) (w : World) (e : Ending) (w' : World) : Prop := Below w.heap.size w w' ∧
  ((acnE g l ≠ 0 ∧ e = .returned (.tuple #[.slice none 0 0, .int .i64 (acnE g l)])) ∨ (acnE g l = 0 ∧ ∃ A c, e = .returned (.tuple #[.slice A g.length c, .int .i64 0]) ∧ Lists w' A (g.map fun a => img (g.headD []).length a l)))
theorem RetAcn.of {g l : List (List Int)} {w w' : World} {e : Ending} (h : RetAction g l w e w') : RetAcn g l w e w' := by
  rcases h with ⟨hb, h | ⟨h1, q, h2, h3⟩⟩
  · exact ⟨hb, .inl h⟩
  · exact ⟨hb, .inr ⟨h1, _, _, h2, h3⟩⟩
theorem raction_any (G L : Option Addr) (cG cL : Nat) (g l : List (List Int)) (w : World) (hG : Lists w G g) (hgl : g.length ≤ 720) (hgg : ∀ x ∈ g, x.length ≤ 1000) (hL : Lists w L l) (hll : ∀ x ∈ l, x.length ≤ 1000) (hl : l.length ≤ 1000) :
    Calls Tryz.prog 17 #[.slice G g.length cG, .slice L l.length cL] w (RetAcn g l w) := by
  have HG := Lib.hid hG
  have HL := Lib.hid hL
  have HGG := Lib.hid hgg
  have HLL := Lib.hid hll
  clear hG hL hgg hll
  by_cases hI : IsG g
  · have HIS : Hid (∀ V, Lists V G g → Calls Tryz.prog 27 #[.slice G g.length cG] V fun e w' => e = .returned (.bool true) ∧ Below V.heap.size V w') := Lib.hid (fun V h => gp_risgroup G cG g true V h hgl HGG.out ⟨fun _ => hI, fun _ => rfl⟩)
    have HI := Lib.hid hI
    have hg0 := isg_len hI
    clear hI
    obtain ⟨a0, E0, c0', rfl, g0, _⟩ := HG.out.at hg0
    rw [show a0.add 0 = a0 by simp [Addr.add]] at g0
    have HN : Hid (g[0].length = (g.headD []).length) := Lib.hid (by
      cases g with
      | nil => simp at hg0
      | cons x xs => rfl)
    by_cases hv : ∀ m ∈ l, vldM m = true
    · have HVM : Hid (∀ V, Lists V L l → Calls Tryz.prog 37 #[.slice L l.length cL] V fun e w' => e = .returned (.bool true) ∧ V = w') := Lib.hid (fun V h => rmons_any L cL l true V h (by omega) HLL.out ⟨fun _ => hv, fun _ => rfl⟩)
      have HACT : Hid (∀ V, Lists V (some a0) g → Lists V L l → Calls Tryz.prog 48 #[.slice (some a0) g.length cG, .int .i64 (g.headD []).length, .slice L l.length cL] V (RetActs (g.headD []).length g l V)) := Lib.hid (fun V h h2 =>
        racts_any (some a0) L cG cL (g.headD []).length g l V h HI.out.2.2.1 (by omega) h2 HLL.out HI.out.1 hl)
      have HE : Hid (acnE g l = actE (g.headD []).length g l) := Lib.hid (by unfold acnE; rw [if_pos ⟨HI.out, hv⟩])
      clear hv
      unfold RetAcn
      rw [HN.out] at g0
      clear HN
      generalize (g.headD []).length = n at *
      have i0 : (0 : Int) < (g.length : Int) := by omega
      by_cases hz : actE n g l = 0
      · have HZ := Lib.hid hz
        have HACY : Hid (∀ V, Lists V (some a0) g → Lists V L l → Calls Tryz.prog 48 #[.slice (some a0) g.length cG, .int .i64 n, .slice L l.length cL] V fun e w' => ∃ A c, e = .returned (.tuple #[.slice A g.length c, .int .i64 0]) ∧ Lists w' A (g.map fun a => img n a l) ∧ Below V.heap.size V w') :=
          Lib.hid (fun V h h2 => (HACT.out V h h2).mono (fun e w' hor => by
            obtain ⟨_, A, c, h3, h4⟩ := hor.2.resolve_left (fun h => h.1 HZ.out)
            exact ⟨A, c, h3, h4, hor.1⟩))
        clear hz HACT
        go_enter Tryz.func17, Tryz.ntmps17
        go_wp2_with (first
          | (go_at_call 27; refine (HIS.out _ HG.out).mono ?_; rintro e w1 ⟨rfl, hb1⟩
             have g1 := keep_cell hb1 g0)
          | (go_at_call 37; refine (HVM.out _ (HL.out.keep hb1)).mono ?_; rintro e w2 ⟨rfl, rfl⟩)
          | (go_at_call 48; refine (HACY.out _ (HG.out.keep hb1) (HL.out.keep hb1)).mono ?_; rintro e w3 ⟨A3, c3, rfl, hLS, hb3⟩))
        go_ret2
        exact ⟨below_all hb1 hb3, .inr ⟨by rw [HE.out]; exact HZ.out, A3, c3, rfl, hLS⟩⟩
      · have HACN : Hid (∀ V, Lists V (some a0) g → Lists V L l → Calls Tryz.prog 48 #[.slice (some a0) g.length cG, .int .i64 n, .slice L l.length cL] V fun e w' => e = .returned (.tuple #[.slice none 0 0, .int .i64 (actE n g l)]) ∧ Below V.heap.size V w') :=
          Lib.hid (fun V h h2 => (HACT.out V h h2).mono (fun e w' hor => ⟨(hor.2.resolve_right (fun h => hz h.1)).2, hor.1⟩))
        have HZ := Lib.hid hz
        clear hz HACT
        generalize actE n g l = z at *
        go_enter Tryz.func17, Tryz.ntmps17
        go_wp2_with (first
          | (go_at_call 27; refine (HIS.out _ HG.out).mono ?_; rintro e w1 ⟨rfl, hb1⟩
             have g1 := keep_cell hb1 g0)
          | (go_at_call 37; refine (HVM.out _ (HL.out.keep hb1)).mono ?_; rintro e w2 ⟨rfl, rfl⟩)
          | (go_at_call 48; refine (HACN.out _ (HG.out.keep hb1) (HL.out.keep hb1)).mono ?_; rintro e w3 ⟨rfl, hb3⟩))
        go_ret2
        exact ⟨below_all hb1 hb3, .inl ⟨by rw [HE.out]; exact HZ.out, by rw [HE.out]; rfl⟩⟩
    · have HVM : Hid (∀ V, Lists V L l → Calls Tryz.prog 37 #[.slice L l.length cL] V fun e w' => e = .returned (.bool false) ∧ V = w') := Lib.hid (fun V h => rmons_any L cL l false V h (by omega) HLL.out ⟨fun h => (by cases h), fun h => absurd h hv⟩)
      have HE : Hid (acnE g l = 1) := Lib.hid (by unfold acnE; rw [if_neg (fun h => hv h.2)])
      clear hv
      go_enter Tryz.func17, Tryz.ntmps17
      go_wp2_with (first
        | (go_at_call 27; refine (HIS.out _ HG.out).mono ?_; rintro e w1 ⟨rfl, hb1⟩)
        | (go_at_call 37; refine (HVM.out _ (HL.out.keep hb1)).mono ?_; rintro e w2 ⟨rfl, rfl⟩))
      go_ret2
      exact ⟨hb1, .inl ⟨by rw [HE.out]; decide, by rw [HE.out]; rfl⟩⟩
  · have HIS : Hid (∀ V, Lists V G g → Calls Tryz.prog 27 #[.slice G g.length cG] V fun e w' => e = .returned (.bool false) ∧ Below V.heap.size V w') := Lib.hid (fun V h => gp_risgroup G cG g false V h hgl HGG.out ⟨fun h => (by cases h), fun h => absurd h hI⟩)
    have HE : Hid (acnE g l = 1) := Lib.hid (by unfold acnE; rw [if_neg (fun h => hI h.1)])
    clear hI
    go_enter Tryz.func17, Tryz.ntmps17
    go_wp2_with (go_at_call 27; refine (HIS.out _ HG.out).mono ?_; rintro e w1 ⟨rfl, hb1⟩)
    go_ret2
    exact ⟨hb1, .inl ⟨by rw [HE.out]; decide, by rw [HE.out]; rfl⟩⟩
end Go.Proofs.Tg.Rf
end
