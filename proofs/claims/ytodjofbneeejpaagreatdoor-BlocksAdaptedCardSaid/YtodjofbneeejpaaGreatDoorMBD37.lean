/- Parts of the proof: RB7, LD10. -/
import Derived.Test.YtodjofbneeejpaaGreatDoorMBD22
import Derived.Test.YtodjofbneeejpaaGreatDoorMBD32
import Derived.Test.YtodjofbneeejpaaGreatDoorMBD35
import Derived.Test.YtodjofbneeejpaaGreatDoorMBD36
section
/- The reference 19: Adapted, the walk. -/
namespace Go.Proofs.Tg.Rf
open Go.RowKit Go.Gr Go.Sp Go.Ev Go.Pm Go.Mo Go.Bn Go.Rq Go.Proofs.Tg
open Go.Proofs.Tg.Bk (actE szE szE_ok CV CRows ChSt RetAdapted adE chE adN tx chg_info)
open Go.Proofs.Tg.Gp (prow_info findI rinvol_any find_any)
open Go.Proofs.Tg.Fi (vq)
set_option maxHeartbeats 4000000
set_option maxRecDepth 100000
/-- The texts of a matrix of signs. -/
theorem pack_tx {ms : List QRow} {rows : List (List Int)} (h : ms.map QRow.qs = rows.map toQ) (hs : ∀ r ∈ rows, ∀ x ∈ r, Sg x) : packTo ms ms.length = rows.flatten.map fun x => Value.string (tx x) := by
 unfold packTo
 rw [List.take_length, List.flatMap_def, h]
 clear h
 induction rows with
 | nil => rfl
 | cons r rows ih =>
   rw [List.map_cons, List.flatten_cons, List.flatten_cons, List.map_append, List.map_append, ih (fun r' hr' => hs r' (List.mem_cons_of_mem _ hr'))]
   congr 1
   unfold toQ
   rw [List.map_map]
   refine List.map_congr_left fun x hx => ?_
   show vq ((x : Int) : Rat) = _
   unfold Fi.vq
   rw [tx_q (hs r (List.mem_cons_self ..) x hx)]
theorem pack_tx' {bm : QMat} {rows : List (List Int)} (h : bm.qs = rows.map toQ) (hl : bm.ms.length = rows.length) (hs : ∀ r ∈ rows, ∀ x ∈ r, Sg x) : packTo bm.ms rows.length = rows.flatten.map fun x => Value.string (tx x) := by
 rw [← hl]
 exact pack_tx h hs
theorem cells_blk {w : World} {g : Nat} {t : TypeId} {cs : List Value} (h : Blk w g t cs.toArray) : ∀ j u, cs[j]? = some u → w.cell? ((⟨g, 0, none⟩ : Addr).add j) = some u := by
 intro j u hu
 rw [add_lit, Nat.zero_add, h.cell]
 simpa using hu
theorem adTo_len {c : Nat} {im : List (List Int)} {L k : Nat} {r : List Int} (h : r ∈ adTo c im L k) : r.length = L := by
 obtain ⟨i, _, hi⟩ := List.mem_filterMap.1 h
 exact adRow_len hi
theorem adTo_sg {c : Nat} {im : List (List Int)} {L : Nat} (hs : SgOk c im L) {r : List Int} (h : r ∈ adTo c im L L) : ∀ x ∈ r, Sg x := by
 obtain ⟨i, hi, hr⟩ := List.mem_filterMap.1 h
 exact hs i (List.mem_range.1 hi) r hr
theorem adTo_few (c : Nat) (im : List (List Int)) (L : Nat) : (adTo c im L L).length ≤ L := by
 have := List.length_filterMap_le (adRow c im L) (List.range L)
 rwa [List.length_range] at this
/-- What the loop that packs the bases holds. -/
structure PcSt (w : World) (L : Nat) (chg : List (List (List Int))) (wr : World) (k : Nat) (A : Option Addr) (cA : Nat) (cs : List CV) : Prop where
  below : Below w.heap.size w wr
  own : wr.ownsRow w.heap.size 50 3 (.slice A cs.length cA) cs.length (cs.flatMap (CV.cells L))
  rows : CRows wr w.heap.size L cs
  eq : cs.map CV.rows = chg.take k
theorem PcSt.keep {w wr wz : World} {L k cA : Nat} {chg : List (List (List Int))} {A : Option Addr} {cs : List CV} (h : PcSt w L chg wr k A cA cs) (hb : Below wr.heap.size wr wz) : PcSt w L chg wz k A cA cs :=
  ⟨below_all h.below hb, own_below h.own hb (Nat.le_refl _), fun c hc => own_below (h.rows c hc) hb (Nat.le_refl _), h.eq⟩
theorem PcSt.len {w wr : World} {L k cA : Nat} {chg : List (List (List Int))} {A : Option Addr} {cs : List CV} (h : PcSt w L chg wr k A cA cs) : cs.length ≤ k := by
 have := congrArg List.length h.eq
 rw [List.length_map, List.length_take] at this
 omega
theorem sh_sg {x : Int} (h : Sg x) : Sh ((x : Int) : Rat) := sh_int (by rcases h with rfl | rfl | rfl <;> decide)
theorem idx_self {b : List (List Int)} {k : Nat} (hk : k < b.length) : findI b b[k] = ((b.idxOf b[k] : Nat) : Int) := by
 unfold findI
 rw [if_pos (List.getElem_mem _)]
theorem radapted_any (A B : Option Addr) (cA cB : Nat) (l b : List (List Int)) (w : World) (hA : Lists w A l) (hB : Lists w B b) (hl : l.length ≤ 6) (hb : b.length ≤ 1000) (hll : ∀ x ∈ l, x.length ≤ 1000) (hbb : ∀ x ∈ b, x.length ≤ 1000) :
    Calls Tryz.prog 12 #[.slice A l.length cA, .slice B b.length cB] w (RetAdapted l b w) := by
  obtain ⟨E1, E2, E3, E4, E5, E6, E7⟩ := adE_ref (b := b) hl
  obtain ⟨E1, E2, E3, E4, E5, E6, E7⟩ := And.intro (Lib.hid E1) (And.intro (Lib.hid E2) (And.intro (Lib.hid E3) (And.intro (Lib.hid E4) (And.intro (Lib.hid E5) (And.intro (Lib.hid E6) (Lib.hid E7))))))
  have HA := Lib.hid hA
  have HB := Lib.hid hB
  have HLL := Lib.hid hll
  have HBB := Lib.hid hbb
  obtain ⟨j0, hj0, hjz0, hjz1, hjz2⟩ := info_parts prow_info
  obtain ⟨j1, hj1, hjw0, hjw1, hjw2⟩ := info_parts chg_info
  clear hA hB hll hbb
  go_enter Tryz.func12, Tryz.ntmps12
  go_wp2
  go_loopw [6] (fun s6 wr => ∃ k : Nat, s6 = .int .i64 k ∧ k ≤ l.length ∧ Hid (∀ j (h : j < l.length), j < k → Invo l[j]) ∧ Below w.heap.size w wr) (fun s6 _ => l.length - (intOf s6).toNat)
  case atStart => exact ⟨0, rfl, Nat.zero_le _, Lib.hid (fun j _ h => absurd h (by omega)), Below.refl _ _⟩
  case round =>
   obtain ⟨wo, rfl⟩ : ∃ wo : World, wo = wr := ⟨_, rfl⟩
   obtain ⟨k, rfl, hk, HK, hbo⟩ := hrel
   by_cases hkl : k < l.length
   ·obtain ⟨ad, E, ce, rfl, hc, hE⟩ := (HA.out.keep hbo).at hkl
    have q0 : (0 : Int) ≤ (k : Int) := by omega
    have q1 : (k : Int) < (l.length : Int) := by omega
    have q3 : ((k : Int)).toNat = k := by omega
    obtain ⟨v, hv⟩ : ∃ v : Bool, v = true ↔ Invo l[k] := ⟨decide (Invo l[k]), decide_eq_true_iff⟩
    have HIV := Lib.hid (rinvol_any E ce l[k] v wo hE (by have := HLL.out l[k] (List.getElem_mem _); omega) hv)
    have HV := Lib.hid hv
    have HMEM := Lib.hid (List.getElem_mem hkl)
    have HNX : Hid (v = true → ∀ j (h : j < l.length), j < k + 1 → Invo l[j]) := Lib.hid (fun hvt j h hj => by
     by_cases he : j = k
     ·subst he; exact hv.1 hvt
     ·exact HK.out j h (by omega))
    clear hv hE HK
    generalize l[k] = x at *
    cases v with
    | false =>
      have HR : Hid (adE l b = 1) := Lib.hid (E1.out (fun h => by have := HV.out.2 (h _ HMEM.out); cases this))
      clear HNX HV
      go_wp2_with (go_at_call 28; refine HIV.out.mono ?_; rintro e w1 ⟨rfl, hb1⟩)
      go_ret2
      exact ⟨below_all hbo hb1, .inl ⟨by rw [HR.out]; decide, by rw [HR.out]; rfl⟩⟩
    | true =>
      go_wp2_with (go_at_call 28; refine HIV.out.mono ?_; rintro e w1 ⟨rfl, hb1⟩)
      go_roundw
      case rel => exact ⟨k + 1, by go_num, by omega, Lib.hid (HNX.out trivial), below_all hbo hb1⟩
      case measure => simp [intOf]; omega
   ·obtain rfl : k = l.length := by omega
    have dk : decide ((l.length : Int) < (l.length : Int)) = false := by simp
    have hinv : ∀ a ∈ l, Invo a := fun a ha => by
     obtain ⟨j, hj, rfl⟩ := List.getElem_of_mem ha
     exact HK.out j hj hj
    have HINV := Lib.hid hinv
    clear HK hinv E1
    obtain ⟨v, hv⟩ : ∃ v : Bool, v = true ↔ ∀ x ∈ b, vldM x = true := ⟨decide _, decide_eq_true_iff⟩
    have HMO := Lib.hid (rmons_any B cB b v wo (HB.out.keep hbo) (by omega) HBB.out hv)
    have HV := Lib.hid hv
    clear hv
    cases v with
    | false =>
      have HR : Hid (adE l b = 1) := Lib.hid (E2.out HINV.out (fun h => by have := HV.out.2 h; cases this))
      clear HV
      go_wp2_with (go_at_call 37; refine HMO.out.mono ?_; rintro e w1 ⟨rfl, rfl⟩)
      go_ret2
      exact ⟨hbo, .inl ⟨by rw [HR.out]; decide, by rw [HR.out]; rfl⟩⟩
    | true =>
      have HVL := Lib.hid (HV.out.1 rfl)
      clear HV E2
      obtain ⟨f, hf, hfi⟩ := (HA.out.keep hbo).cells
      obtain ⟨g, hg, hgi⟩ := (HB.out.keep hbo).cells
      have hal := Below.alloc (Below.refl wo.heap.size wo) (Nat.le_refl _) (.cells #[] 22)
      have Q0 := Que.of_blk (base := wo.heap.size) (xs := []) (Blk.new wo 22 #[]) (Nat.le_refl _) (by simp [maxLen])
      have HQ0 := Lib.hid Q0
      have HS0 := Lib.hid (src_sl (P := Tryz.prog) (c := cA) Tryz.underlying23 (Sl.keep hf hal) (lcells_one f l))
      have HG := Lib.hid hg
      have HFI := Lib.hid hfi
      have HGI := Lib.hid hgi
      clear hf hg hfi hgi Q0
      go_upto_region 8 with (go_at_call 37; refine HMO.out.mono ?_; rintro e w1 ⟨rfl, rfl⟩)
      refine wp_region_list ?_
      refine wpList_plain rfl (fun K hK => ?_)
      go_simp
      refine hK _ _ ?_
      clear hK K
      refine wpList_plain rfl (fun K hK => ?_)
      go_simp
      refine hK _ _ ?_
      clear hK K
      refine wpList_que_app2 _ rfl _ _ 23 rfl wo.heap.size 22 j0 (.slice none 0 0) 24 Tryz.underlying23 hj0 hjz0 hjz1 hjz2 rfl (.slice (some ⟨wo.heap.size, 0, none⟩) 0 0) [] rfl HQ0.out (.slice A l.length cA) l.length (lcells f l) rfl HS0.out (by simp only [maxLen, List.length_nil]; omega) (by simp only [List.length_nil]; omega) (by simp) ?_
      intro v8 w8 Q8 hg8 _
      have hb8 := hal.grown hg8 hal.size (fun q hq => by simp [Value.ownBlock] at hq; omega)
      have HQ8 := Lib.hid Q8
      have HS8 := Lib.hid (src_sl (P := Tryz.prog) (c := cB) Tryz.underlying23 (HG.out.keep hb8) (lcells_one g b))
      clear Q8 hg8
      refine wpList_plain rfl (fun K hK => ?_)
      go_simp
      refine hK _ _ ?_
      clear hK K
      refine wpList_que_app2 _ rfl _ _ 23 rfl wo.heap.size 22 j0 (.slice none 0 0) 24 Tryz.underlying23 hj0 hjz0 hjz1 hjz2 rfl v8 ([] ++ lcells f l) rfl HQ8.out (.slice B b.length cB) b.length (lcells g b) rfl HS8.out (by simp only [maxLen, List.nil_append, lcells_len]; omega) (by simp only [List.nil_append, lcells_len]; omega) hb8.size ?_
      intro v9 w9 Q9 hg9 _
      have hb9 := hb8.grown hg9 hb8.size (fun q hq => by
       obtain ⟨_, h1, h2, _⟩ := HQ8.out.blk
       rw [h1] at hq
       injection hq with hq
       omega)
      have HQ9 := Lib.hid Q9
      clear Q9 hg9
      obtain ⟨ad9, c9, hv9, hS9, hlo9, _⟩ := HQ9.out.sl
      subst hv9
      have hLA := lists_cat hS9 (fun i hi => (HFI.out i hi).keep hb9) (fun i hi => (HGI.out i hi).keep hb9)
      have hN : ([] ++ lcells f l ++ lcells g b).length = l.length + b.length := by rw [List.nil_append, List.length_append, lcells_len, lcells_len]
      have HLA := Lib.hid hLA
      have hb09 := below_all hbo hb9
      have hlb : (l ++ b).length = l.length + b.length := List.length_append
      rw [hN]
      clear hS9 hLA hN HQ9 HQ8 HS8 HS0 HQ0 HG HFI HGI HMO hal hb8
      obtain ⟨N, hN⟩ : ∃ N, l.length + b.length = N := ⟨_, rfl⟩
      rw [hN]
      have HN := Lib.hid (hlb.trans hN)
      have hN2 : N ≤ 1006 := by omega
      have HAD : Hid (∀ (h : 0 < (l ++ b).length), (l ++ b)[0].length = adN l b) := Lib.hid (fun h => by
       unfold adN
       obtain ⟨x, xs, hx⟩ := List.exists_cons_of_length_pos h
       simp [hx])
      clear hlb
      have HNB := Lib.hid hN
      clear hN
      go_wp2
      go_loopw [8] (fun s8 wr => ∃ k : Nat, s8 = .int .i64 k ∧ k ≤ N ∧ Hid (∀ j (h : j < (l ++ b).length), j < k → (l ++ b)[j].length = adN l b) ∧ Below w9.heap.size w9 wr) (fun s8 _ => N - (intOf s8).toNat)
      case atStart => exact ⟨0, rfl, Nat.zero_le _, Lib.hid (fun j _ h => absurd h (by omega)), Below.refl _ _⟩
      case round =>
       obtain ⟨wp, rfl⟩ : ∃ wp : World, wp = wr := ⟨_, rfl⟩
       obtain ⟨k, rfl, hk, HK, hbp⟩ := hrel
       by_cases hkl : k < N
       ·have hk1 : k < (l ++ b).length := by rw [HN.out]; exact hkl
        have hk0 : 0 < (l ++ b).length := by omega
        obtain ⟨ad, F1, c1, had, hc1, hxx1⟩ := (HLA.out.keep hbp).at hk1
        injection had with had
        subst had
        obtain ⟨ad, F0, c0, had, hc0, hxx0⟩ := (HLA.out.keep hbp).at hk0
        injection had with had
        subst had
        rw [show ad9.add 0 = ad9 by simp [Addr.add]] at hc0
        rw [HAD.out hk0] at hc0
        have HNX : Hid ((l ++ b)[k].length = adN l b → ∀ j (h : j < (l ++ b).length), j < k + 1 → (l ++ b)[j].length = adN l b) := Lib.hid (fun hvt j h hj => by
         by_cases he : j = k
         ·subst he; exact hvt
         ·exact HK.out j h (by omega))
        have HBAD : Hid ((l ++ b)[k].length ≠ adN l b → ∃ x ∈ l ++ b, x.length ≠ adN l b) := Lib.hid (fun h => ⟨_, List.getElem_mem hk1, h⟩)
        have q0 : (0 : Int) ≤ (k : Int) := by omega
        have q1 : (k : Int) < (N : Int) := by omega
        have q3 : ((k : Int)).toNat = k := by omega
        have q4 : (0 : Int) < (N : Int) := by omega
        clear HK hxx1 hxx0
        generalize (l ++ b)[k].length = p at *
        clear hk1 hk0
        have HE3 := Lib.hid (E3.out HINV.out HVL.out)
        obtain ⟨n, hn⟩ : ∃ n, adN l b = n := ⟨_, rfl⟩
        rw [hn] at hc0
        by_cases hpn : p = n
        ·have HY := Lib.hid (HNX.out (by rw [hpn, hn]))
         clear HNX HBAD hn
         subst hpn
         have bP : ((p : Int) != (p : Int)) = false := by simp
         go_wp2
         go_quiet (fail)
         go_wp2
         go_roundw
         case rel => exact ⟨k + 1, by go_num, by omega, HY, below_drewN hbp _⟩
         case measure => simp [intOf]; omega
        ·have HR : Hid (adE l b = 4) := Lib.hid (HE3.out (HBAD.out (by rw [hn]; exact hpn)))
         clear HNX HBAD hn
         have bP : ((p : Int) != (n : Int)) = true := bne_iff_ne.2 (by omega)
         have bP2 : (p = n) = False := eq_false hpn
         have bP3 : ((p : Int) = (n : Int)) = False := eq_false (by omega)
         clear hpn
         go_wp2
         go_quiet (fail)
         go_wp2
         go_ret2
         exact ⟨below_all hb09 (below_drewN hbp _), .inl ⟨by rw [HR.out]; decide, by rw [HR.out]; rfl⟩⟩
       ·obtain rfl : k = N := by omega
        have dk : decide ((k : Int) < (k : Int)) = false := by simp
        have hall : ∀ x ∈ l ++ b, x.length = adN l b := fun x hx => by
         obtain ⟨j, hj, rfl⟩ := List.getElem_of_mem hx
         exact HK.out j hj (by rw [← HN.out]; exact hj)
        have HALL := Lib.hid hall
        have hb0p := below_all hb09 hbp
        clear HK hall HAD HLA E3
        by_cases hbz : b.length = 0 ∨ 64 < b.length
        ·have HR : Hid (adE l b = 2) := Lib.hid (E4.out HINV.out HVL.out HALL.out hbz)
         by_cases hbz0 : b.length = 0
         ·have z1 : ((b.length : Int) == 0) = true := beq_iff_eq.2 (by omega)
          have z2 : decide ((b.length : Int) = 0) = true := decide_eq_true (by omega)
          clear hbz
          have HBZ := Lib.hid hbz0
          clear hbz0
          go_wp2
          go_ret2
          exact ⟨hb0p, .inl ⟨by rw [HR.out]; decide, by rw [HR.out]; rfl⟩⟩
         ·have hb64 : 64 < b.length := by omega
          have z1 : ((b.length : Int) == 0) = false := beq_eq_false_iff_ne.2 (by omega)
          have z1' : (b.length == 0) = false := beq_eq_false_iff_ne.2 (by omega)
          have z3 : decide ((64 : Int) < (b.length : Int)) = true := decide_eq_true (by omega)
          have z3' : decide (64 < b.length) = true := decide_eq_true hb64
          clear hbz hbz0
          go_wp2
          go_ret2
          exact ⟨hb0p, .inl ⟨by rw [HR.out]; decide, by rw [HR.out]; rfl⟩⟩
        ·have HBZ := Lib.hid hbz
         have hb64 : b.length ≤ 64 := by omega
         have hb0 : 0 < b.length := by omega
         have z1 : ((b.length : Int) == 0) = false := beq_eq_false_iff_ne.2 (by omega)
         have z1' : (b.length == 0) = false := beq_eq_false_iff_ne.2 (by omega)
         have z3 : decide ((64 : Int) < (b.length : Int)) = false := decide_eq_false (by omega)
         have z3' : decide (64 < b.length) = false := decide_eq_false (by omega)
         clear hbz E4
         go_wp2
         clear z1 z1' z3 z3'
         go_loopw [9] (fun s9 wr => ∃ k : Nat, s9 = .int .i64 k ∧ k ≤ b.length ∧ Hid (∀ j (h : j < b.length), j < k → b.idxOf b[j] = j) ∧ Below wp.heap.size wp wr) (fun s9 _ => b.length - (intOf s9).toNat)
         case atStart => exact ⟨0, rfl, Nat.zero_le _, Lib.hid (fun j _ h => absurd h (by omega)), Below.refl _ _⟩
         case round =>
          obtain ⟨wq, rfl⟩ : ∃ wq : World, wq = wr := ⟨_, rfl⟩
          obtain ⟨k2, rfl, hk2, HK, hbq⟩ := hrel
          have hb0q := below_all hb0p hbq
          by_cases hkl : k2 < b.length
          ·obtain ⟨ad, F1, c1, rfl, hc1, hE1⟩ := (HB.out.keep hb0q).at hkl
           have HFD := Lib.hid (find_any (some ad) cB b F1 c1 b[k2] wq (HB.out.keep hb0q) hE1 (by omega) HBB.out)
           rw [idx_self hkl] at HFD
           have HNX : Hid (b.idxOf b[k2] = k2 → ∀ j (h : j < b.length), j < k2 + 1 → b.idxOf b[j] = j) := Lib.hid (fun hvt j h hj => by
            by_cases he : j = k2
            ·subst he; exact hvt
            ·exact HK.out j h (by omega))
           have HBAD : Hid (b.idxOf b[k2] ≠ k2 → ¬ b.Nodup) := Lib.hid (fun h hn => h ((nodup_idx.1 hn) k2 hkl))
           have q0 : (0 : Int) ≤ (k2 : Int) := by omega
           have q1 : (k2 : Int) < (b.length : Int) := by omega
           have q3 : ((k2 : Int)).toNat = k2 := by omega
           have HE5 := Lib.hid (E5.out HINV.out HVL.out HALL.out HBZ.out)
           clear HK hE1
           generalize b.idxOf b[k2] = p at *
           generalize b[k2] = x at *
           by_cases hp : p = k2
           ·have HY := Lib.hid (HNX.out hp)
            subst hp
            have bP : ((p : Int) != (p : Int)) = false := by simp
            clear HNX HBAD
            go_wp2_with (go_at_call 38; refine HFD.out.mono ?_; rintro e w1 ⟨rfl, hb1⟩)
            go_roundw
            case rel => exact ⟨p + 1, by go_num, by omega, HY, below_all hbq hb1⟩
            case measure => simp [intOf]; omega
           ·have HR : Hid (adE l b = 10) := Lib.hid (HE5.out (HBAD.out hp))
            have bP : ((p : Int) != (k2 : Int)) = true := bne_iff_ne.2 (by omega)
            have bP2 : (p = k2) = False := eq_false hp
            have bP3 : ((p : Int) = (k2 : Int)) = False := eq_false (by omega)
            clear HNX HBAD hp
            go_wp2_with (go_at_call 38; refine HFD.out.mono ?_; rintro e w1 ⟨rfl, hb1⟩)
            go_ret2
            exact ⟨below_all hb0q hb1, .inl ⟨by rw [HR.out]; decide, by rw [HR.out]; rfl⟩⟩
          ·obtain rfl : k2 = b.length := by omega
           have dk : decide ((b.length : Int) < (b.length : Int)) = false := by simp
           have hnd : b.Nodup := nodup_idx.2 (fun i h => HK.out i h h)
           have HND := Lib.hid hnd
           clear HK hnd E5
           obtain ⟨n, hn⟩ : ∃ n, adN l b = n := ⟨_, rfl⟩
           have hn6 : n ≤ 6 := by
            have h1 := HALL.out b[0] (List.mem_append_right _ (List.getElem_mem _))
            have h2 := (vldM_iff.1 (HVL.out b[0] (List.getElem_mem _))).1
            omega
           have hp : ∀ a ∈ l, Perm n a ∧ cmp a a = unit n := fun a ha => by
            obtain ⟨_, h1, _, h2⟩ := HINV.out a ha
            have h3 := HALL.out a (List.mem_append_left _ ha)
            rw [h3, hn] at h1 h2
            exact ⟨h1, h2⟩
           obtain ⟨ad, F0, c0, hBa, hc0, hxx0⟩ := (HB.out.keep hb0q).at hb0
           have hl0 : b[0].length = n := by rw [← hn]; exact HALL.out b[0] (List.mem_append_right _ (List.getElem_mem _))
           rw [hl0] at hc0
           subst hBa
           rw [show ad.add 0 = ad by simp [Addr.add]] at hc0
           have HBS := Lib.hid (bases_any A (some ad) cA cB n l b wq (HA.out.keep hb0q) hp hn6 hl (HB.out.keep hb0q) hb HBB.out)
           have HE6 := Lib.hid (E6.out HINV.out HVL.out HALL.out HBZ.out HND.out)
           have HE7 := Lib.hid (E7.out HINV.out HVL.out HALL.out HBZ.out HND.out)
           rw [hn] at HE6 HE7
           have HIMN : Hid (imgs (adN l b) l b = imgs n l b) := Lib.hid (by rw [hn])
           clear hxx0 hl0 hp hn E6 E7 HB
           have z0 : (0 : Int) < (b.length : Int) := by omega
           by_cases hin : Indep n l
           ·by_cases hac : actE n (prods n l) b = 0
            ·have hR0 : adE l b = 0 := (HE7.out hin).trans hac
             have HR := Lib.hid hR0
             have HSGS := Lib.hid (Bk.adapt_signs hR0)
             have HBY : Hid (Calls Tryz.prog 39 #[.slice A l.length cA, .int .i64 n, .slice (some ad) b.length cB] wq fun e w' => Below wq.heap.size wq w' ∧ ∃ A c bs, e = .returned (.tuple #[.slice A bs.length c, .int .i64 0]) ∧ OwnB wq.heap.size w' A c bs ∧ bs.map QMat.qs = (chgTo (imgs n l b) b.length (imgs n l b).length).map (List.map toQ)) := Lib.hid (HBS.out.mono (fun e w' h => ⟨h.1, (h.2.resolve_left (fun h => h.1 hin)).resolve_left (fun h => h.2.1 hac) |>.2.2⟩))
             clear HBS HE6 HE7 hin hac hR0
             rw [HIMN.out] at HSGS
             have HM64 : Hid ((chgTo (imgs n l b) b.length (imgs n l b).length).length ≤ 64) := Lib.hid (by
              unfold chgTo
              refine Nat.le_trans (List.length_filter_le _ _) ?_
              rw [List.length_map, List.length_range]
              unfold imgs
              rw [List.length_map, prods_len]
              exact Nat.pow_le_pow_right (by omega) hl)
             have HFIN : Hid (∀ U V A c (cs : List CV), Below w.heap.size w U → PcSt U b.length (chgTo (imgs n l b) b.length (imgs n l b).length) V (chgTo (imgs n l b) b.length (imgs n l b).length).length A c cs → RetAdapted l b w (.returned (.tuple #[.slice A cs.length c, .int .i64 0])) V) := Lib.hid (fun U V A c cs hU h => ⟨below_all hU h.below, .inr ⟨HR.out, A, c, cs, rfl, by
              rw [HIMN.out]
              exact ⟨below_all hU h.below, own_base h.own hU.size, fun c hc => own_base (h.rows c hc) hU.size, by rw [h.eq, List.take_length]⟩⟩⟩)
             have HSG : Hid (∀ rows ∈ chgTo (imgs n l b) b.length (imgs n l b).length, 0 < rows.length ∧ rows.length ≤ b.length ∧ (∀ r ∈ rows, r.length = b.length) ∧ ∀ r ∈ rows, ∀ x ∈ r, Sg x) := Lib.hid (fun rows h => by
              unfold chgTo at h
              obtain ⟨h1, h2⟩ := List.mem_filter.1 h
              obtain ⟨c, hc, rfl⟩ := List.mem_map.1 h1
              exact ⟨of_decide_eq_true h2, adTo_few c _ _, fun r hr => adTo_len hr, fun r hr => adTo_sg (HSGS.out c (List.mem_range.1 hc)) hr⟩)
             clear HR HSGS HIMN
             generalize chgTo (imgs n l b) b.length (imgs n l b).length = chg at *
             go_upto_region 25 with (go_at_call 39; refine HBY.out.mono ?_; rintro e w1 ⟨hb1, A1, c1, bs, rfl, hO1, he1⟩)
             have hb01 := below_all hb0q hb1
             have HO1 := Lib.hid hO1
             have HE1 := Lib.hid he1
             have HBL : Hid (bs.length = chg.length) := Lib.hid (by
              have := congrArg List.length he1
              rwa [List.length_map, List.length_map] at this)
             obtain ⟨M, hM⟩ : ∃ M, bs.length = M := ⟨_, rfl⟩
             have HM := Lib.hid hM
             have hm64 : M ≤ 64 := by rw [← hM, HBL.out]; exact HM64.out
             rw [hM]
             clear hM hO1 he1 hb1 HBY
             have H0 : Hid (PcSt w1 b.length chg w1 0 none 0 []) := Lib.hid ⟨Below.refl _ _, World.ownsRow_nil _ _ _ _, fun c hc => absurd hc (by simp), by simp⟩
             go_wp2
             go_loopw [12, 13] (fun s12 s13 wr => ∃ (k : Nat) (A2 : Option Addr) (c2 : Nat) (cs : List CV), s13 = .int .i64 k ∧ k ≤ M ∧ s12 = .slice A2 cs.length c2 ∧ Hid (PcSt w1 b.length chg wr k A2 c2 cs)) (fun _ s13 _ => M - (intOf s13).toNat)
             case atStart => exact ⟨0, none, 0, [], rfl, Nat.zero_le _, rfl, H0⟩
             case round =>
              clear H0
              obtain ⟨wc, rfl⟩ : ∃ wc : World, wc = wr := ⟨_, rfl⟩
              obtain ⟨k3, A2, c2, cs, rfl, hk3, rfl, HCS⟩ := hrel
              have hbc := HCS.out.below
              by_cases hkl : k3 < M
              ·have hkb : k3 < bs.length := by rw [HM.out]; exact hkl
               have hkc : k3 < chg.length := by rw [← HBL.out]; exact hkb
               obtain ⟨ad1, rfl, hc1⟩ := (HO1.out.keep hbc).at hkb
               have hms := (HO1.out.keep hbc).ok bs[k3] (List.getElem_mem _)
               obtain ⟨g1, g2, g3, g4⟩ := HSG.out chg[k3] (List.getElem_mem _)
               have hqs : bs[k3].qs = chg[k3].map toQ := by
                have h1 : (bs.map QMat.qs)[k3]? = (chg.map (List.map toQ))[k3]? := by rw [HE1.out]
                simpa [hkb, hkc] using h1
               have hml : bs[k3].ms.length = chg[k3].length := by
                have := congrArg List.length hqs
                unfold QMat.qs at this
                rwa [List.length_map, List.length_map] at this
               have hrl : ∀ r ∈ bs[k3].ms, r.rs.length = b.length := fun r hr => by
                have h1 : r.qs ∈ bs[k3].qs := List.mem_map_of_mem hr
                rw [hqs] at h1
                obtain ⟨x, hx, h2⟩ := List.mem_map.1 h1
                have := congrArg List.length h2
                rw [toQ_len, g3 x hx] at this
                unfold QRow.qs at this
                rw [List.length_map] at this
                exact this.symm
               have hsh : ∀ r ∈ bs[k3].ms, ∀ x ∈ r.rs, Sh x.q := fun r hr x hx => by
                have h1 : r.qs ∈ bs[k3].qs := List.mem_map_of_mem hr
                rw [hqs] at h1
                obtain ⟨y, hy, h2⟩ := List.mem_map.1 h1
                have h3 : x.q ∈ r.qs := List.mem_map_of_mem hx
                rw [← h2] at h3
                obtain ⟨z, hz, h4⟩ := List.mem_map.1 h3
                rw [← h4]
                exact sh_sg (g4 y hy z hz)
               have hpk := rpack3_any bs[k3].adr bs[k3].cap b.length bs[k3].ms wc (OwnM.rowsQ hms hrl) hsh (by omega) (by omega) hb0 (by omega)
               unfold RetPack at hpk
               rw [hml, pack_tx' hqs hml g4] at hpk
               have HPK := Lib.hid hpk
               have q0 : (0 : Int) ≤ (k3 : Int) := by omega
               have q1 : (k3 : Int) < (M : Int) := by omega
               have q3 : ((k3 : Int)).toNat = k3 := by omega
               have hcell : wc.cell? (ad1.add k3) = some (.slice bs[k3].adr chg[k3].length bs[k3].cap) := by rw [hc1]; unfold QMat.cell; rw [hml]
               have HTK : Hid (chg.take (k3 + 1) = chg.take k3 ++ [chg[k3]]) := Lib.hid (List.take_succ_eq_append_getElem hkc)
               clear hc1 hms hqs hml hrl hsh hpk g3 g4
               generalize bs[k3].adr = a3 at *
               generalize bs[k3].cap = c3 at *
               generalize chg[k3] = rows at *
               clear hkb hkc
               obtain ⟨R, hR⟩ : ∃ R, rows.length = R := ⟨_, rfl⟩
               rw [hR] at HPK hcell g1 g2
               have HRR := Lib.hid hR
               clear hR
               go_wp2_with (first
                 | (go_at_call 40; refine HPK.out.mono ?_; rintro e w5 ⟨E, c5, rfl, hO5, hb5⟩
                    have hcown := (HCS.out.keep hb5).own
                    have hcl := HCS.out.len
                    have hsz := hb5.size
                    have hszw := HCS.out.below.size)
                 | (at_builtin
                    refine wpList_append_own_at _ rfl _ _ 32 rfl w1.heap.size 50 j1 (.agg #[.int .i64 0, .int .i64 0, .slice none 0 0]) 3 40 Tryz.underlying32 hj1 hjw0 hjw1 hjw2 rfl (by decide) (.slice A2 cs.length c2) cs.length (cs.flatMap (CV.cells b.length)) rfl (hcown.alloc _) ⟨w5.heap.size, 0, none⟩ 1 1 [.int .i64 R, .int .i64 b.length, .slice E (R * b.length) c5] rfl rfl (cells_blk (Blk.new _ _ _)) (by intro u hu; simp at hu; rcases hu with rfl | rfl | rfl <;> rfl) (by simp only [maxLen]; omega) (by omega) (by simp; omega) ?_
                    intro v8 w8 hown8 hg8 _ hat8
                    obtain ⟨A8, c8, hv8, _, _⟩ := Sl.of_own hown8
                    subst hv8))
               go_roundw
               case rel =>
                have H7 := HCS.out.keep hb5
                have hO5' := own_base hO5 (show w1.heap.size ≤ wc.heap.size from hszw)
                have hal8 := Below.alloc (Below.refl w5.heap.size w5) (Nat.le_refl _) (.cells #[.int .i64 R, .int .i64 b.length, .slice E (R * b.length) c5] 50)
                have hox := hcown.alloc (.cells #[.int .i64 R, .int .i64 b.length, .slice E (R * b.length) c5] 50)
                have hb8 := below_all (below_all H7.below (Below.refl _ _)) hal8
                refine ⟨k3 + 1, A8, c8, cs ++ [⟨rows, E, c5⟩], by go_num, by omega, by simp, Lib.hid ⟨hb8.grown hg8 hb8.size (fun q hq => (hox.lt q hq).1), ?_, fun c hc => ?_, ?_⟩⟩
                ·rw [List.length_append, List.flatMap_append, List.flatMap_singleton]
                 unfold CV.cells
                 simp only [List.length_singleton, HRR.out]
                 exact hown8
                ·rcases List.mem_append.1 hc with h | h
                 ·have h1 := own_below (H7.rows c h) hal8 (Nat.le_refl _)
                  exact h1.kept hg8 (own_ne h1 hox (by decide))
                 ·rw [List.mem_singleton.1 h]
                  simp only [HRR.out]
                  have h1 := own_below hO5' hal8 (Nat.le_refl _)
                  exact h1.kept hg8 (own_ne h1 hox (by decide))
                ·rw [List.map_append, HCS.out.eq, HTK.out]
                 rfl
               case measure => simp [intOf]; omega
              ·obtain rfl : k3 = M := by omega
               have dk : decide ((k3 : Int) < (k3 : Int)) = false := by simp
               go_wp2
               go_ret2
               exact HFIN.out _ _ _ _ _ hb01 (by
                have := HCS.out
                have e : chg.length = k3 := by rw [← HBL.out, HM.out]
                rw [e]
                exact this)
            ·have HR : Hid (adE l b = actE n (prods n l) b) := Lib.hid (HE7.out hin)
             have HBY : Hid (Calls Tryz.prog 39 #[.slice A l.length cA, .int .i64 n, .slice (some ad) b.length cB] wq fun e w' => Below wq.heap.size wq w' ∧ e = .returned (.tuple #[.slice none 0 0, .int .i64 (actE n (prods n l) b)])) := Lib.hid (HBS.out.mono (fun e w' h => ⟨h.1, ((h.2.resolve_left (fun h => h.1 hin)).resolve_right (fun h => hac h.2.1)).2.2⟩))
             clear HBS HE6 HE7 hin
             generalize actE n (prods n l) b = z at *
             have ez : (z != 0) = true := bne_iff_ne.2 hac
             have ez2 : (z = 0) = False := eq_false hac
             have HZ := Lib.hid hac
             clear hac
             go_wp2_with (go_at_call 39; refine HBY.out.mono ?_; rintro e w1 ⟨hb1, rfl⟩)
             go_ret2
             exact ⟨below_all hb0q hb1, .inl ⟨by rw [HR.out]; exact HZ.out, by rw [HR.out]; rfl⟩⟩
           ·have HR : Hid (adE l b = 11) := Lib.hid (HE6.out hin)
            have HBY : Hid (Calls Tryz.prog 39 #[.slice A l.length cA, .int .i64 n, .slice (some ad) b.length cB] wq fun e w' => Below wq.heap.size wq w' ∧ e = .returned (.tuple #[.slice none 0 0, .int .i64 11])) := Lib.hid (HBS.out.mono (fun e w' h => ⟨h.1, by
             rcases h.2 with h | h | h
             ·exact h.2
             ·exact absurd h.1 hin
             ·exact absurd h.1 hin⟩))
            clear HBS HE6 HE7 hin
            go_wp2_with (go_at_call 39; refine HBY.out.mono ?_; rintro e w1 ⟨hb1, rfl⟩)
            go_ret2
            exact ⟨below_all hb0q hb1, .inl ⟨by rw [HR.out]; decide, by rw [HR.out]; rfl⟩⟩
end Go.Proofs.Tg.Rf
end
section
/- The law BlocksAdapted (printed by wip/tools/mk_lawadapted.py): facts. -/
namespace Go.Proofs.Tg.Bk
open Go.RowKit Go.Gr Go.Sp Go.Ev Go.Pm Go.Mo
open Go.Proofs.Tg.Gp (rinvs_any RetInv)
open Go.Proofs.Tg.Rf (radapted_any)
set_option maxHeartbeats 40000000
set_option maxRecDepth 100000
theorem ad_split {l b : List (List Int)} {w w' : World} {e : Ending} (h : RetAdapted l b w e w') : ∃ (A : Option Addr) (c : Nat) (cs : List CV), e = .returned (.tuple #[.slice A cs.length c, .int .i64 (adE l b)]) ∧ w'.ownsRow w.heap.size 50 3 (.slice A cs.length c) cs.length (cs.flatMap (CV.cells b.length)) ∧ CRows w' w.heap.size b.length cs ∧ Below w.heap.size w w' ∧ cs.map CV.rows = if adE l b = 0 then chgTo (imgs (adN l b) l b) b.length (imgs (adN l b) l b).length else [] := by
 rcases h with ⟨hb, ⟨h1, h2⟩ | ⟨h1, A, c, cs, h2, h3⟩⟩
 ·exact ⟨none, 0, [], h2, World.ownsRow_nil _ _ _ _, fun o ho => absurd ho (by simp), hb, by rw [if_neg h1]; rfl⟩
 ·exact ⟨A, c, cs, by rw [h1]; exact h2, h3.own, h3.rows, hb, by rw [if_pos h1]; exact h3.eq⟩
theorem flatL_len {L : Nat} : ∀ {rows : List (List Int)}, (∀ r ∈ rows, r.length = L) → rows.flatten.length = rows.length * L
  | [], _ => by simp
  | r :: rows, h => by
    rw [List.flatten_cons, List.length_append, h r (List.mem_cons_self ..), flatL_len (fun x hx => h x (List.mem_cons_of_mem _ hx)), List.length_cons, Nat.succ_mul]
    omega
theorem chg_few {im : List (List Int)} {L k : Nat} (hL : L ≤ 64) {rows : List (List Int)} (h : rows ∈ chgTo im L k) : rows.flatten.length = rows.length * L ∧ rows.length * L ≤ 100000 := by
 unfold chgTo at h
 obtain ⟨h1, _⟩ := List.mem_filter.1 h
 obtain ⟨c, _, rfl⟩ := List.mem_map.1 h1
 refine ⟨flatL_len fun r hr => Rf.adTo_len hr, ?_⟩
 have := Nat.mul_le_mul (Rf.adTo_few c im L) (Nat.le_refl L)
 have := Nat.mul_le_mul hL hL
 omega
theorem ad_rows {l b : List (List Int)} (hb : b.length ≤ 64) {cs : List CV} (h : cs.map CV.rows = if adE l b = 0 then chgTo (imgs (adN l b) l b) b.length (imgs (adN l b) l b).length else []) : ∀ c ∈ cs, c.rows.flatten.length = c.rows.length * b.length ∧ c.rows.length * b.length ≤ 100000 := by
 intro c hc
 have h1 : c.rows ∈ cs.map CV.rows := List.mem_map_of_mem hc
 rw [h] at h1
 split at h1
 ·exact chg_few hb h1
 ·cases h1
theorem ad_count {l b : List (List Int)} (hl : l.length ≤ 6) {cs : List CV} (h : cs.map CV.rows = if adE l b = 0 then chgTo (imgs (adN l b) l b) b.length (imgs (adN l b) l b).length else []) : cs.length ≤ 1000000 := by
 have h1 := congrArg List.length h
 rw [List.length_map] at h1
 rw [h1]
 split
 ·unfold chgTo
  refine Nat.le_trans (List.length_filter_le _ _) ?_
  rw [List.length_map, List.length_range]
  unfold imgs
  rw [List.length_map, prods_len]
  exact Nat.le_trans (Nat.pow_le_pow_right (by omega) hl) (by decide)
 ·simp
theorem invs_six {g : List (List Int)} (hI : IsG g) (hr : ∀ k, 2 ^ k ≤ g.length → k ≤ (g.headD []).length) : (invs (g.headD []).length g).length ≤ 6 := by
 obtain ⟨hn6, hne, hpm, hasc, hgrp⟩ := hI
 have hC := invs_coll hpm g.length
 rw [List.take_length] at hC
 have h1 := hC.nodup.length_le_of_subset (prods_in hgrp hC.mem)
 rw [prods_len] at h1
 have := hr _ h1
 omega
end Go.Proofs.Tg.Bk
end
