/- The reference's simplicial and Triangulated. -/
import Derived.Test.YtamipjpcphghaaaDoorXI
import Derived.Test.YtamipjpcphghaaaDoorXF
namespace Go.Gr
def okp (t : Nat → Nat → Bool) (gone : Nat → Bool) (i a b : Nat) : Bool := !(!gone a && !gone b && t i a && t i b && !t a b)
def simpB (t : Nat → Nat → Bool) (n : Nat) (gone : Nat → Bool) (i : Nat) : Bool := (List.range n).all fun a => (List.range a).all fun b => okp t gone i a b
theorem simpB_iff {t : Nat → Nat → Bool} {n : Nat} {gone : Nat → Bool} {i : Nat} : simpB t n gone i = true ↔ ∀ a, a < n → ∀ b, b < a → okp t gone i a b = true := by
  unfold simpB
  simp only [List.all_eq_true, List.mem_range]
def okV (t : Nat → Nat → Bool) (n : Nat) (gone : Nat → Bool) (i : Nat) : Bool := !gone i && simpB t n gone i
/-- The vertices that are gone after r steps, if there is one to go at each. -/
def triTo (t : Nat → Nat → Bool) (n : Nat) : Nat → Option (Nat → Bool)
  | 0 => some fun _ => false
  | r + 1 => match triTo t n r with
    | none => none
    | some gone => match (List.range n).find? (okV t n gone) with
      | none => none
      | some i => some (updF gone i true)
def triang (t : Nat → Nat → Bool) (n : Nat) : Bool := (triTo t n n).isSome
theorem find_first {p : Nat → Bool} {n j : Nat} (hj : j < n) (hp : p j = true) (hf : ∀ i, i < j → p i = false) : (List.range n).find? p = some j := by
  rw [List.find?_eq_some_iff_getElem]
  refine ⟨hp, j, by simpa using hj, by simp, fun i hi => ?_⟩
  simp [hf i hi]
theorem find_no {p : Nat → Bool} {n : Nat} (hf : ∀ i, i < n → p i = false) : (List.range n).find? p = none := by
  rw [List.find?_eq_none]
  intro i hi
  rw [hf i (by simpa using hi)]; simp
theorem triTo_none {t : Nat → Nat → Bool} {n r : Nat} (h : triTo t n r = none) : ∀ d, triTo t n (r + d) = none
  | 0 => h
  | d + 1 => by
    show (match triTo t n (r + d) with | none => none | some gone => _) = none
    rw [triTo_none h d]
end Go.Gr
namespace Go.Proofs.Tg
open Go.RowKit Go.Gr
set_option maxHeartbeats 4000000
set_option maxRecDepth 100000
theorem rsimp_any (g gg n i : Nat) (t : Nat → Nat → Bool) (gone : Nat → Bool) (w : World) (hT : TableAt w g n t) (hG : Blk w gg 4 (farr n fun v => .bool (gone v))) (hi : i < n) (hn : n ≤ 64) :
    Calls Tryd.prog 74 #[.slice (some ⟨g, 0, none⟩) n n, .slice (some ⟨gg, 0, none⟩) n n, .int .i64 i] w fun e w' => e = .returned (.bool (simpB t n gone i)) ∧ w = w' := by
  obtain ⟨bv, hbv⟩ : ∃ bv, simpB t n gone i = bv := ⟨_, rfl⟩
  have HV : Hid (bv = true ↔ ∀ a, a < n → ∀ b, b < a → okp t gone i a b = true) := Lib.hid (by rw [← hbv]; exact simpB_iff)
  rw [hbv]
  clear hbv
  have ci := (hT.head.cell i).trans (farr_at n _ hi)
  unfold rowV at ci
  have hin0 : (0 : Int) ≤ (i : Int) := by omega
  have hin1 : (i : Int) < (n : Int) := by omega
  go_enter Tryd.func74, Tryd.ntmps74
  go_wp2
  go_loop [7] (fun x => ∃ k : Nat, x = .int .i64 k ∧ k ≤ n ∧ Hid (∀ a, a < k → ∀ b, b < a → okp t gone i a b = true)) (fun x => n - (intOf x).toNat)
  case atStart => exact ⟨0, rfl, Nat.zero_le _, Lib.hid (fun a h => by omega)⟩
  case round =>
    obtain ⟨k, rfl, hk, HK⟩ := hrel
    by_cases hkn : k < n
    · have hkb : decide ((k : Int) < (n : Int)) = true := by simp; omega
      have cgk := (hG.cell k).trans (farr_at n _ hkn)
      have cik := ((hT.row i hi).cell k).trans (farr_at n _ hkn)
      have ck := (hT.head.cell k).trans (farr_at n _ hkn)
      unfold rowV at ck
      have k0 : (0 : Int) ≤ (k : Int) := by omega
      have k1 : (k : Int) < (n : Int) := by omega
      go_wp2
      go_loop [8] (fun x => ∃ q : Nat, x = .int .i64 q ∧ q ≤ k ∧ Hid (∀ b, b < q → okp t gone i k b = true)) (fun x => k - (intOf x).toNat)
      case atStart => exact ⟨0, rfl, Nat.zero_le _, Lib.hid (fun b h => by omega)⟩
      case round =>
        obtain ⟨q, rfl, hq, HQ⟩ := hrel
        by_cases hqk : q < k
        · have hqb : decide ((q : Int) < (k : Int)) = true := by simp; omega
          have hqn : q < n := by omega
          have cgq := (hG.cell q).trans (farr_at n _ hqn)
          have ciq := ((hT.row i hi).cell q).trans (farr_at n _ hqn)
          have ckq := ((hT.row k hkn).cell q).trans (farr_at n _ hqn)
          have q0 : (0 : Int) ≤ (q : Int) := by omega
          have q1 : (q : Int) < (n : Int) := by omega
          have HN : Hid (okp t gone i k q = true → ∀ b, b < q + 1 → okp t gone i k b = true) := Lib.hid (fun h b hb => by
            by_cases e : b = q
            · rw [e]; exact h
            · exact HQ.out b (by omega))
          have HF : Hid (okp t gone i k q = false → bv = false) := Lib.hid (fun h => by
            cases bv
            · rfl
            · have := HV.out.1 rfl k hkn q hqk
              rw [h] at this; cases this)
          have HD : Hid (okp t gone i k q = !(!gone k && !gone q && t i k && t i q && !t k q)) := Lib.hid rfl
          generalize okp t gone i k q = ok at HN HF HD
          generalize gone k = gk at cgk HD
          generalize gone q = gq at cgq HD
          generalize t i k = tik at cik HD
          generalize t i q = tiq at ciq HD
          generalize t k q = tkq at ckq HD
          have go : ok = true → Hid (∀ b, b < q + 1 → okp t gone i k b = true) := fun h => Lib.hid (HN.out h)
          have GO := Lib.hid go
          clear go HN hT hG
          cases gk
          · cases gq
            · cases tik
              · have HK2 := GO.out (by rw [HD.out]; rfl)
                clear GO HD HF
                go_wp2
                go_round
                case rel => exact ⟨q + 1, by go_num, by omega, HK2⟩
                case measure => simp [intOf]; omega
              · cases tiq
                · have HK2 := GO.out (by rw [HD.out]; rfl)
                  clear GO HD HF
                  go_wp2
                  go_round
                  case rel => exact ⟨q + 1, by go_num, by omega, HK2⟩
                  case measure => simp [intOf]; omega
                · cases tkq
                  · obtain rfl := HF.out (by rw [HD.out]; rfl)
                    clear GO HD HF
                    go_wp2
                    go_ret
                    exact ⟨rfl, rfl⟩
                  · have HK2 := GO.out (by rw [HD.out]; rfl)
                    clear GO HD HF
                    go_wp2
                    go_round
                    case rel => exact ⟨q + 1, by go_num, by omega, HK2⟩
                    case measure => simp [intOf]; omega
            · have HK2 := GO.out (by rw [HD.out]; rfl)
              clear GO HD HF
              go_wp2
              go_round
              case rel => exact ⟨q + 1, by go_num, by omega, HK2⟩
              case measure => simp [intOf]; omega
          · have HK2 := GO.out (by rw [HD.out]; rfl)
            clear GO HD HF
            go_wp2
            go_round
            case rel => exact ⟨q + 1, by go_num, by omega, HK2⟩
            case measure => simp [intOf]; omega
        · obtain rfl : q = k := by omega
          have hqb : decide ((q : Int) < (q : Int)) = false := by simp
          have HK2 : Hid (∀ a, a < q + 1 → ∀ b, b < a → okp t gone i a b = true) := Lib.hid (fun a ha => by
            by_cases e : a = q
            · rw [e]; exact HQ.out
            · exact HK.out a (by omega))
          go_wp2
          go_round
          case rel => exact ⟨q + 1, by go_num, by omega, HK2⟩
          case measure => simp [intOf]; omega
    · obtain rfl : k = n := by omega
      have hkb : decide ((k : Int) < (k : Int)) = false := by simp
      obtain rfl : bv = true := HV.out.2 HK.out
      go_wp2
      go_ret
      exact ⟨rfl, rfl⟩
theorem rtri_any (g n : Nat) (t : Nat → Nat → Bool) (w : World) (hT : TableAt w g n t) (hn : n ≤ 64) :
    Calls Tryd.prog 57 #[.slice (some ⟨g, 0, none⟩) n n] w fun e w' => e = .returned (.bool (triang t n)) ∧ Below w.heap.size w w' := by
  have m1 := fun W => make_bools n (by omega) W
  have hgl : ∀ i, i < n → g + 1 + i < w.heap.size := fun i hi => (hT.row i hi).lt
  have hgl0 : g < w.heap.size := hT.head.lt
  have HGL := Lib.hid hgl
  clear hgl
  go_enter Tryd.func57, Tryd.ntmps57
  go_wp2
  clear m1
  have hB0 := Blk.new w 4 (farr n fun _ => .bool false)
  have hb0 : Below w.heap.size w (w.alloc (.cells (farr n fun _ => .bool false) 4)) := (Below.refl _ _).alloc (Nat.le_refl _) _
  generalize w.alloc (.cells (farr n fun _ => .bool false) 4) = W at hB0 hb0 ⊢
  go_loopw [4] (fun x wr => ∃ (l : Nat) (gone : Nat → Bool), x = .int .i64 l ∧ l ≤ n ∧ Hid (triTo t n (n - l) = some gone) ∧ Blk wr w.heap.size 4 (farr n fun v => .bool (gone v)) ∧ Below w.heap.size w wr) (fun x _ => (intOf x).toNat)
  case atStart => exact ⟨n, fun _ => false, rfl, Nat.le_refl _, Lib.hid (by rw [Nat.sub_self]; rfl), hB0, hb0⟩
  case round =>
    clear hB0 hb0
    obtain ⟨l, gone, rfl, hl, HT, hG, hb⟩ := hrel
    by_cases hl0 : 0 < l
    · have hlb : decide ((0 : Int) < (l : Int)) = true := by simp; omega
      have hlb' : decide (0 < l) = true := by simp; omega
      have hTr := hT.keep hb (Nat.le_refl _)
      go_wp2
      go_loopw [6, 5] (fun x f wr => ∃ (k : Nat) (fi : Int), x = .int .i64 k ∧ f = .int .i64 fi ∧ k ≤ n ∧ Hid ((fi = -1 ∧ ∀ j, j < k → okV t n gone j = false) ∨ (0 ≤ fi ∧ fi.toNat < n ∧ okV t n gone fi.toNat = true ∧ ∀ j, j < fi.toNat → okV t n gone j = false)) ∧ Blk wr w.heap.size 4 (farr n fun v => .bool (gone v)) ∧ Below w.heap.size w wr) (fun x _ _ => n - (intOf x).toNat)
      case atStart => exact ⟨0, -1, rfl, rfl, Nat.zero_le _, Lib.hid (.inl ⟨rfl, fun j h => by omega⟩), hG, hb⟩
      case round =>
        clear hG hb hTr
        obtain ⟨k, fi, rfl, rfl, hk, HF, hG, hb⟩ := hrel
        have hTr := hT.keep hb (Nat.le_refl _)
        by_cases hstop : fi < 0
        · have hfi : fi = -1 ∧ ∀ j, j < k → okV t n gone j = false := by
            rcases HF.out with h | ⟨h, _⟩
            · exact h
            · omega
          obtain ⟨rfl, hall⟩ := hfi
          have HALL := Lib.hid hall
          clear hall HF
          by_cases hkn : k < n
          · have hkb : decide ((k : Int) < (n : Int)) = true := by simp; omega
            have hs := rsimp_any g w.heap.size n k t gone wr hTr hG hkn hn
            have cgk := (hG.cell k).trans (farr_at n _ hkn)
            have k0 : (0 : Int) ≤ (k : Int) := by omega
            have k1 : (k : Int) < (n : Int) := by omega
            have HD : Hid (okV t n gone k = (!gone k && simpB t n gone k)) := Lib.hid rfl
            have HS := Lib.hid hs
            clear hs
            generalize simpB t n gone k = sk at HD HS
            generalize gone k = gk at cgk HD
            have HNO : Hid (okV t n gone k = false → ∀ j, j < k + 1 → okV t n gone j = false) := Lib.hid (fun h j hj => by
              by_cases e : j = k
              · rw [e]; exact h
              · exact HALL.out j (by omega))
            cases gk
            · cases sk
              · have HK2 := Lib.hid (HNO.out (by rw [HD.out]; rfl))
                clear HNO HD
                go_wp2_with (go_at_call 74; refine HS.out.mono ?_; rintro e w' ⟨rfl, rfl⟩)
                go_roundw
                case rel => exact ⟨k + 1, -1, by go_num, rfl, by omega, Lib.hid (.inl ⟨rfl, HK2.out⟩), hG, hb⟩
                case measure => simp [intOf]; omega
              · have HOK : Hid (okV t n gone k = true) := Lib.hid (by rw [HD.out]; rfl)
                clear HNO HD
                go_wp2_with (go_at_call 74; refine HS.out.mono ?_; rintro e w' ⟨rfl, rfl⟩)
                go_roundw
                case rel => exact ⟨k + 1, (k : Int), by go_num, rfl, by omega, Lib.hid (.inr ⟨by omega, by rw [Int.toNat_natCast]; exact hkn, by rw [Int.toNat_natCast]; exact HOK.out, by rw [Int.toNat_natCast]; exact HALL.out⟩), hG, hb⟩
                case measure => simp [intOf]; omega
            · have HK2 := Lib.hid (HNO.out (by rw [HD.out]; rfl))
              clear HNO HD HS
              go_wp2
              go_roundw
              case rel => exact ⟨k + 1, -1, by go_num, rfl, by omega, Lib.hid (.inl ⟨rfl, HK2.out⟩), hG, hb⟩
              case measure => simp [intOf]; omega
          · obtain rfl : k = n := by omega
            have hkb : decide ((k : Int) < (k : Int)) = false := by simp
            have HR : Hid (triang t k = false) := Lib.hid (by
              have h1 : triTo t k (k - l + 1) = none := by
                show (match triTo t k (k - l) with | none => none | some gone => _) = none
                rw [HT.out]
                show (match (List.range k).find? (okV t k gone) with | none => none | some i => _) = none
                rw [find_no HALL.out]
              have h2 := triTo_none h1 (l - 1)
              rw [show k - l + 1 + (l - 1) = k from by omega] at h2
              unfold triang
              rw [h2]; rfl)
            go_wp2
            go_ret
            exact ⟨by rw [HR.out]; rfl, hb⟩
        · have hfi : 0 ≤ fi ∧ fi.toNat < n ∧ okV t n gone fi.toNat = true ∧ ∀ j, j < fi.toNat → okV t n gone j = false := by
            rcases HF.out with ⟨h, _⟩ | h
            · omega
            · exact h
          obtain ⟨f0, f1, f2, f3⟩ := hfi
          obtain ⟨j, rfl⟩ := Int.eq_ofNat_of_zero_le f0
          rw [Int.toNat_natCast] at f1 f2 f3
          have HFD := Lib.hid (find_first f1 f2 f3)
          have HN : Hid (triTo t n (n - (l - 1)) = some (updF gone j true)) := Lib.hid (by
            rw [show n - (l - 1) = n - l + 1 from by omega]
            show (match triTo t n (n - l) with | none => none | some gone => _) = _
            rw [HT.out]
            show (match (List.range n).find? (okV t n gone) with | none => none | some i => _) = _
            rw [HFD.out])
          have d0 : decide ((j : Int) < 0) = false := by simp
          have cgj := (hG.cell j).trans (farr_at n _ f1)
          have fgj := hG.frozen j
          have hGs := hG.set j (.bool true)
          rw [farr_upd (fun v : Bool => Value.bool v)] at hGs
          have HGS := Lib.hid hGs
          have j0 : (0 : Int) ≤ (j : Int) := by omega
          have j1 : (j : Int) < (n : Int) := by omega
          clear hGs f2 f3 HF HFD hstop
          have hcase : k < n ∨ n ≤ k := by omega
          rcases hcase with hkn | hkn
          · have hkb : decide ((k : Int) < (n : Int)) = true := by simp; omega
            go_wp2
            go_roundw
            case rel => exact ⟨l - 1, updF gone j true, by go_num, by omega, HN, HGS.out, hb.setCell (by simp) _⟩
            case measure => simp [intOf]; omega
          · have hkb : decide ((k : Int) < (n : Int)) = false := by simp; omega
            go_wp2
            go_roundw
            case rel => exact ⟨l - 1, updF gone j true, by go_num, by omega, HN, HGS.out, hb.setCell (by simp) _⟩
            case measure => simp [intOf]; omega
    · obtain rfl : l = 0 := by omega
      have HR : Hid (triang t n = true) := Lib.hid (by unfold triang; have := HT.out; rw [Nat.sub_zero] at this; rw [this]; rfl)
      go_wp2
      go_ret
      exact ⟨by rw [HR.out]; rfl, hb⟩
end Go.Proofs.Tg
