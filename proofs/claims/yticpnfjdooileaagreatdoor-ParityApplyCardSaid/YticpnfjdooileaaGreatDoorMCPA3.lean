/- Parts of the proof: FrP, FrQ, WM1. -/
import Derived.Deep.SlicePairs
import Derived.Test.YticpnfjdooileaaGreatDoorMCPA0
import Derived.Test.YticpnfjdooileaaGreatDoorMCPA1
import Derived.Test.YticpnfjdooileaaGreatDoorMCPA2
section
/- The frame: slices of polynomials, opened. -/
namespace Go.Proofs.YticpnfjdooileaaGreatDoor.Fr
open Go.ChangeShapes Go.WideShapes Go.ChangeAt Go.RowKit Go.Deep Go.Proofs.Tg Go.Gr Go.Mo
set_option maxRecDepth 100000
section
variable {H : Type} {enc : TypeId × Value → H} {W : World}
theorem ints_of {fuel : Nat} {v : Value} {x : DataW H × List MemPlace} (h : DataW.trod enc Tryz.prog W 0 (fun _ => true) true fuel 33 [v] = some x) : ∃ A xs c, v = .slice A xs.length c ∧ Ints W A xs := by
  rcases open_ints Tryz.underlying33 Tryz.underlying3 cellsInt h with ⟨h1, _⟩ | ⟨a, l, c, zs, h1, _, hl, hm, hz, _, hx, _⟩
  · injection h1 with h1
    exact ⟨none, [], 0, h1, Sl.nil _ _ _⟩
  · injection h1 with h1
    simp only [if_true] at hz
    have hlen : (zs.take l).length = l := by rw [List.length_take]; omega
    refine ⟨some a, zs.take l, c, by rw [hlen, h1], by simp, fun hn => ⟨a, rfl, ?_, ?_⟩⟩
    · rw [hlen] at hn
      exact World.block_lt_of_cell? W _ (hx 0 (by omega))
    · intro j u hu
      have hj : j < l := by
        have := (List.getElem?_eq_some_iff.1 hu).1
        rw [List.length_map, hlen] at this
        exact this
      have e : u = .int .i64 (zs.getD j 0) := by
        rw [List.getElem?_map, List.getElem?_take, if_pos hj] at hu
        simp only [List.getElem?_eq_getElem (show j < zs.length by omega), Option.map_some] at hu
        injection hu with hu
        rw [← hu]
        simp [vi, show j < zs.length by omega]
      rw [e]
      exact hx j (by omega)
/-- Cells two by two. -/
theorem sl_two {α : Type} (f : α → List Value) (hf : ∀ x, (f x).length = 2) (q : Nat → α) (a : Addr) (n : Nat) (h : ∀ i, i < n → ∃ v0 v1, f (q i) = [v0, v1] ∧ W.cell? (a.add (i * 2)) = some v0 ∧ W.cell? (a.add (i * 2 + 1)) = some v1) :
    Sl W (some a) n 2 (((List.range n).map q).flatMap f) := by
  have hlen : (((List.range n).map q).flatMap f).length = n * 2 := by
    have : ∀ l : List α, (l.flatMap f).length = l.length * 2 := by
      intro l
      induction l with
      | nil => rfl
      | cons x l ih => rw [List.flatMap_cons, List.length_append, ih, hf, List.length_cons]; omega
    rw [this]; simp
  refine ⟨hlen, fun hn => ⟨a, rfl, ?_, ?_⟩⟩
  · obtain ⟨_, _, _, h1, _⟩ := h 0 hn
    exact World.block_lt_of_cell? W (a.add (0 * 2)) h1
  · intro j u hu
    have hj : j < n * 2 := by rw [← hlen]; exact (List.getElem?_eq_some_iff.1 hu).1
    obtain ⟨v0, v1, h0, h1, h2⟩ := h (j / 2) (by omega)
    have hg := flat_get f 2 hf ((List.range n).map q) (j / 2) (j % 2) (by simp; omega) (by omega)
    rw [show j / 2 * 2 + j % 2 = j by omega, hu] at hg
    have : j % 2 = 0 ∨ j % 2 = 1 := by omega
    rcases this with e | e
    · rw [e] at hg
      simp [h0] at hg
      rw [hg, show j = j / 2 * 2 by omega]; exact h1
    · rw [e] at hg
      simp [h0] at hg
      rw [hg, show j = j / 2 * 2 + 1 by omega]; exact h2
theorem cellsTerm : Tryz.prog.cellsOf 54 = 2 := by kernel_rfl
theorem cellsPoly : Tryz.prog.cellsOf 36 = 2 := by kernel_rfl
theorem cellsStr : Tryz.prog.cellsOf 9 = 1 := by kernel_rfl
theorem cellsTerms : Tryz.prog.cellsOf 34 = 1 := by kernel_rfl
instance : Inhabited TV := ⟨⟨⟨#[]⟩, none, 0, []⟩⟩
instance : Inhabited PVal := ⟨⟨0, none, 0, []⟩⟩
theorem terms_of {fuel : Nat} {v : Value} {x : DataW H × List MemPlace} (h : DataW.trod enc Tryz.prog W 0 (fun _ => true) true fuel 34 [v] = some x) : ∃ T tv c, v = .slice T tv.length c ∧ TermsAt W T tv := by
  rcases open_slice_pairs Tryz.underlying34 Tryz.underlying54 cellsTerm rfl rfl cellsStr cellsRow h with ⟨h1, _⟩ | ⟨a, l, c, m, n, V0, V1, D0, D1, P0, P1, h1, _, hl, _, hm, _, hx⟩
  · injection h1 with h1
    exact ⟨none, [], 0, h1, TermsAt.nil _ _⟩
  · injection h1 with h1
    simp only [if_true] at hm
    obtain ⟨q, hq⟩ := choose_lt (n := l) (p := fun i (t : TV) => (TV.cells t = [V0 i, V1 i]) ∧ Ints W t.adr t.exps) (fun i hi => by
      obtain ⟨_, _, g0, g1⟩ := hx i (by omega)
      obtain ⟨s, e0, _⟩ := DataW.trod_string Tryz.underlying9 g0
      obtain ⟨A, xs, d, e1, hA⟩ := ints_of g1
      injection e0 with e0
      exact ⟨⟨s, A, d, xs⟩, by rw [e0, e1]; rfl, hA⟩)
    refine ⟨some a, (List.range l).map q, c, by simp [h1], ?_, fun t ht => ?_⟩
    · have := sl_two TV.cells (fun _ => rfl) q a l (fun i hi => by
        obtain ⟨c0, c1, _, _⟩ := hx i (by omega)
        exact ⟨V0 i, V1 i, (hq i hi).1, c0, c1⟩)
      simpa using this
    · obtain ⟨i, hi, rfl⟩ := List.mem_map.1 ht
      exact (hq i (List.mem_range.1 hi)).2
theorem polys_of {fuel : Nat} {v : Value} {x : DataW H × List MemPlace} (h : DataW.trod enc Tryz.prog W 0 (fun _ => true) true fuel 22 [v] = some x) : ∃ L ps c, v = .slice L ps.length c ∧ PolysAt W L ps := by
  rcases open_slice_pairs Tryz.underlying22 Tryz.underlying36 cellsPoly rfl rfl cellsInt cellsTerms h with ⟨h1, _⟩ | ⟨a, l, c, m, n, V0, V1, D0, D1, P0, P1, h1, _, hl, _, hm, _, hx⟩
  · injection h1 with h1
    exact ⟨none, [], 0, h1, Sl.nil _ _ _, fun p hp => by cases hp⟩
  · injection h1 with h1
    simp only [if_true] at hm
    obtain ⟨q, hq⟩ := choose_lt (n := l) (p := fun i (t : PVal) => (PVal.cells t = [V0 i, V1 i]) ∧ TermsAt W t.adr t.tv) (fun i hi => by
      obtain ⟨_, _, g0, g1⟩ := hx i (by omega)
      obtain ⟨s, e0, _⟩ := DataW.trod_int Tryz.underlying3 g0
      obtain ⟨A, xs, d, e1, hA⟩ := terms_of g1
      injection e0 with e0
      exact ⟨⟨s, A, d, xs⟩, by rw [e0, e1]; rfl, hA⟩)
    refine ⟨some a, (List.range l).map q, c, by simp [h1], ?_, fun t ht => ?_⟩
    · have := sl_two PVal.cells (fun _ => rfl) q a l (fun i hi => by
        obtain ⟨c0, c1, _, _⟩ := hx i (by omega)
        exact ⟨V0 i, V1 i, (hq i hi).1, c0, c1⟩)
      simpa using this
    · obtain ⟨i, hi, rfl⟩ := List.mem_map.1 ht
      exact (hq i (List.mem_range.1 hi)).2
theorem open_polys {v : Value} {d : DataW H} {ps : List MemPlace} {b0 : Nat} (hval : Value.okWide Tryz.prog W .any b0 22 v) (h : DataW.Trod enc Tryz.prog W 0 (fun _ => true) true 22 v d ps) :
    ∃ L pl c, v = .slice L pl.length c ∧ PolysAt W L pl := by
  obtain ⟨V, len, cap, rfl⟩ := okWide_slice Tryz.underlying22 hval
  obtain ⟨fuel, h⟩ := h
  have hcs : (Value.slice V len cap).cells.toList = [.slice V len cap] := by simp [Value.cells]
  rw [hcs] at h
  exact polys_of h
end
end Go.Proofs.YticpnfjdooileaaGreatDoor.Fr
end
section
/- The frame: one polynomial as an argument, opened. -/
namespace Go.Proofs.YticpnfjdooileaaGreatDoor.Fr
open Go.ChangeShapes Go.WideShapes Go.ChangeAt Go.RowKit Go.Deep Go.Proofs.Tg Go.Gr Go.Mo
set_option maxRecDepth 100000
section
variable {H : Type} {enc : TypeId × Value → H} {W : World}
theorem open_poly {v : Value} {d : DataW H} {ps : List MemPlace} {b0 : Nat} (hval : Value.okWide Tryz.prog W .any b0 36 v) (h : DataW.Trod enc Tryz.prog W 0 (fun _ => true) true 36 v d ps) :
    ∃ n T tv c, v = .agg #[.int .i64 n, .slice T (List.length tv) c] ∧ TermsAt W T tv := by
  obtain ⟨cs, rfl, hsz⟩ := okWide_struct Tryz.underlying36 hval
  obtain ⟨fuel, h⟩ := h
  have hcs : (Value.agg cs).cells.toList = cs.toList := rfl
  rw [hcs] at h
  obtain ⟨xs, k, _, _, hlen, hxl, hf⟩ := DataW.trod_struct Tryz.underlying36 h
  have g0 := hf 0 { name := "Vars", type := 3, offset := 0, embedded := false, tag := "", pkgPath := "", byteOffset := 0 } rfl
  have g1 := hf 1 { name := "Terms", type := 34, offset := 1, embedded := false, tag := "", pkgPath := "", byteOffset := 8 } rfl
  have hc2 : cs.toList.length = 2 := by rw [hlen]; kernel_rfl
  obtain ⟨l⟩ := cs
  match l, hc2, xs, hxl with
  | [a, b], _, [y0, y1], _ =>
    have g0' : DataW.trod enc Tryz.prog W 0 (fun _ => true) true k 3 [a] = some y0 := by
      have := g0
      dsimp only at this
      rw [cellsInt] at this
      exact this
    have g1' : DataW.trod enc Tryz.prog W 0 (fun _ => true) true k 34 [b] = some y1 := by
      have := g1
      dsimp only at this
      rw [cellsTerms] at this
      exact this
    obtain ⟨n, e0, _⟩ := DataW.trod_int Tryz.underlying3 g0'
    obtain ⟨T, tv, c, e1, hE⟩ := terms_of g1'
    injection e0 with e0
    subst e0 e1
    exact ⟨n, T, tv, c, rfl, hE⟩
end
end Go.Proofs.YticpnfjdooileaaGreatDoor.Fr
end
section
/- Walks: the degree of a monomial, the order of monomials. -/
namespace Go.Proofs.Tg
open Go.RowKit Go.Gr Go.Mo
set_option maxHeartbeats 1000000
set_option maxRecDepth 100000
theorem deg_any (A : Option Addr) (c : Nat) (m : List Int) (w : World) (hA : Ints w A m) (hn : m.length ≤ 1000) :
    Calls Tryz.prog 33 #[.slice A m.length c] w fun e w' => e = .returned (.int .i64 (degM m)) ∧ w = w' := by
  by_cases hl : m.length ≤ 6
  · have hd : decide ((6 : Int) < (m.length : Int)) = false := by simp; omega
    go_enter Tryz.func33, Tryz.ntmps33
    go_wp2
    go_loop [3, 11] (fun s i => ∃ k : Nat, k ≤ m.length ∧ i = .int .i64 k ∧ ∃ z : Int, s = .int .i64 z ∧ 0 ≤ z ∧ z ≤ 24 ∧ Hid (z = (m.take k).sum ∧ ∀ e ∈ m.take k, 0 ≤ e)) (fun _ i => m.length - (intOf i).toNat)
    case atStart => exact ⟨0, Nat.zero_le _, rfl, 0, rfl, by omega, by omega, Lib.hid ⟨rfl, by simp⟩⟩
    case round =>
      obtain ⟨k, hk, rfl, z, rfl, hz0, hz1, HZ⟩ := hrel
      by_cases hlt : k < m.length
      · obtain ⟨ad, rfl, hc⟩ := Ints.at hA hlt
        have HS : Hid ((m.take (k + 1)).sum = z + m[k]) := Lib.hid (by rw [sum_take_succ m k hlt, ← HZ.out.1])
        have HB : Hid (m[k] < 0 ∨ 24 - z < m[k] → vldM m = false) := Lib.hid (fun h => vldM_bad hlt (by rw [← HZ.out.1]; exact h))
        have HT : Hid (m.take (k + 1) = m.take k ++ [m[k]]) := Lib.hid (List.take_succ_eq_append_getElem hlt)
        clear hA
        generalize m[k] = x at hc HS HB HT
        by_cases h1 : x < 0
        · have b1 : decide (x < 0) = true := by simpa using h1
          have HF : Hid (degM m = -1) := Lib.hid (by unfold degM; rw [HB.out (.inl h1)]; rfl)
          go_wp2
          go_ret
          exact ⟨by rw [HF.out]; rfl, rfl⟩
        · have b1 : decide (x < 0) = false := by simpa using h1
          by_cases h2 : 24 - z < x
          · have b2 : decide (24 - z < x) = true := by simpa using h2
            have HF : Hid (degM m = -1) := Lib.hid (by unfold degM; rw [HB.out (.inr h2)]; rfl)
            go_wp2
            go_ret
            exact ⟨by rw [HF.out]; rfl, rfl⟩
          · have b2 : decide (24 - z < x) = false := by simpa using h2
            go_wp2
            go_round
            case rel =>
              refine ⟨k + 1, by omega, by go_num, z + x, rfl, by omega, by omega, Lib.hid ⟨HS.out.symm, fun e he => ?_⟩⟩
              rw [HT.out] at he
              rcases List.mem_append.1 he with he | he
              · exact HZ.out.2 e he
              · simp at he; omega
            case measure => simp [intOf]; omega
      · obtain rfl : k = m.length := by omega
        have HF : Hid (degM m = z) := Lib.hid (by
          have h := HZ.out
          rw [List.take_length] at h
          unfold degM
          rw [if_pos (vldM_iff.2 ⟨hl, h.2, by omega⟩), h.1])
        go_wp2
        go_ret
        exact ⟨by rw [HF.out]; rfl, rfl⟩
  · have hd : decide ((6 : Int) < (m.length : Int)) = true := by simp; omega
    have HF : Hid (degM m = -1) := Lib.hid (by
      unfold degM
      rw [if_neg (by rw [vldM_iff]; exact fun h => hl h.1)])
    go_enter Tryz.func33, Tryz.ntmps33
    go_wp2
    go_ret
    exact ⟨by rw [HF.out]; rfl, rfl⟩
theorem valid_any (A : Option Addr) (c : Nat) (m : List Int) (w : World) (hA : Ints w A m) (hn : m.length ≤ 1000) :
    Calls Tryz.prog 14 #[.slice A m.length c] w fun e w' => e = .returned (.bool (vldM m)) ∧ w = w' := by
  have HD : Hid (decide (0 ≤ degM m) = vldM m) := Lib.hid degM_ge
  have HC := Lib.hid (deg_any A c m w hA hn)
  generalize degM m = z at *
  go_enter Tryz.func14, Tryz.ntmps14
  go_wp2_with (go_at_call 33; refine HC.out.mono ?_; rintro e w' ⟨rfl, rfl⟩)
  go_ret
  exact ⟨by rw [← HD.out]; rfl, rfl⟩
theorem cmpI_ne {x y : Int} (h : ¬ x = y) : cmpI x y = if x < y then -1 else 1 := by
  unfold cmpI
  by_cases h1 : x < y
  · simp [h1]
  · rw [if_neg h1, if_pos (by omega), if_neg h1]
theorem order_any (A B : Option Addr) (c d : Nat) (a b : List Int) (w : World) (hA : Ints w A a) (hB : Ints w B b) (hl : a.length = b.length) (hn : a.length ≤ 64) (ha : low20 a = true) (hb : low20 b = true) :
    Calls Tryz.prog 72 #[.slice A a.length c, .slice B b.length d] w fun e w' => e = .returned (.int .i64 (ord a b)) ∧ Dr w w' := by
  have HL := Lib.hid hl
  have HA := Lib.hid (low20_iff.1 ha)
  have HB := Lib.hid (low20_iff.1 hb)
  have hn2 : b.length ≤ 64 := by omega
  clear hl ha hb
  go_enter Tryz.func72, Tryz.ntmps72
  go_wp2
  go_loop [5, 6, 12] (fun s t i => ∃ k : Nat, k ≤ a.length ∧ i = .int .i64 k ∧ ∃ y z : Int, s = .int .i64 y ∧ t = .int .i64 z ∧ 0 ≤ y ∧ y ≤ 1048576 * 64 ∧ 0 ≤ z ∧ z ≤ 1048576 * 64 ∧ Hid (y = (a.take k).sum ∧ z = (b.take k).sum)) (fun _ _ i => a.length - (intOf i).toNat)
  case atStart => exact ⟨0, Nat.zero_le _, rfl, 0, 0, rfl, rfl, by omega, by omega, by omega, by omega, Lib.hid ⟨rfl, rfl⟩⟩
  case round =>
    obtain ⟨k, hk, rfl, y, z, rfl, rfl, hy0, hy1, hz0, hz1, HZ⟩ := hrel
    by_cases hlt : k < a.length
    · have hlt2 : k < b.length := by have := HL.out; omega
      obtain ⟨ad, rfl, hc1⟩ := Ints.at hA hlt
      obtain ⟨bd, rfl, hc2⟩ := Ints.at hB hlt2
      have HS1 : Hid ((a.take (k + 1)).sum = y + a[k]) := Lib.hid (by rw [sum_take_succ a k hlt, ← HZ.out.1])
      have HS2 : Hid ((b.take (k + 1)).sum = z + b[k]) := Lib.hid (by rw [sum_take_succ b k hlt2, ← HZ.out.2])
      have hb1 := HA.out a[k] (List.getElem_mem _)
      have hb2 := HB.out b[k] (List.getElem_mem _)
      have hs1 := sum_bound a (k + 1) HA.out
      have hs2 := sum_bound b (k + 1) HB.out
      rw [HS1.out] at hs1
      rw [HS2.out] at hs2
      have hl1 : (a.take (k + 1)).length ≤ 64 := Nat.le_trans (List.length_take_le' _ _) hn
      have hl2 : (b.take (k + 1)).length ≤ 64 := Nat.le_trans (List.length_take_le' _ _) hn2
      obtain ⟨p1, p2⟩ := hb1
      obtain ⟨p3, p4⟩ := hb2
      have r1 : y + a[k] ≤ 1048576 * 64 := by omega
      have r2 : z + b[k] ≤ 1048576 * 64 := by omega
      clear hs1 hs2 hl1 hl2
      generalize a[k] = p at *
      generalize b[k] = q at *
      go_wp2
      go_round
      case rel => exact ⟨k + 1, by omega, by go_num, y + p, z + q, rfl, rfl, by omega, by omega, by omega, by omega, Lib.hid ⟨HS1.out.symm, HS2.out.symm⟩⟩
      case measure => simp [intOf]; omega
    · obtain rfl : k = a.length := by omega
      have h1 : y = a.sum := by rw [HZ.out.1, List.take_length]
      have h2 : z = b.sum := by rw [HZ.out.2, HL.out, List.take_length]
      by_cases hyz : y = z
      · have hbb : (y != z) = false := by simp [hyz]
        have HO : Hid (ord a b = ordT a b a.length) := Lib.hid (by unfold ord; rw [if_pos (by rw [← h1, ← h2]; exact hyz)])
        clear h1 h2 hyz
        go_wp2
        go_loopw [9] (fun i wr => ∃ z : Int, i = .int .i64 z ∧ -1 ≤ z ∧ z < a.length ∧ Hid (ord a b = ordT a b (z + 1).toNat) ∧ Dr w wr) (fun i _ => (intOf i + 1).toNat)
        case atStart => exact ⟨(a.length : Int) - 1, rfl, by omega, by omega, Lib.hid (by rw [HO.out]; congr 1; omega), Dr.refl _⟩
        case round =>
          obtain ⟨z', rfl, hz2, hz3, HZ', hdr⟩ := hrel
          by_cases hneg : z' = -1
          · subst hneg
            have HF : Hid (ord a b = 0) := Lib.hid (by rw [HZ'.out]; rfl)
            go_wp2
            go_ret
            exact ⟨by rw [HF.out]; rfl, hdr⟩
          · obtain ⟨j, rfl⟩ : ∃ j : Nat, z' = j := ⟨z'.toNat, by omega⟩
            have hlt1 : j < a.length := by omega
            have hlt2 : j < b.length := by have := HL.out; omega
            obtain ⟨ad, rfl, hc1⟩ := Ints.at (hA.keep hdr.below) hlt1
            obtain ⟨bd, rfl, hc2⟩ := Ints.at (hB.keep hdr.below) hlt2
            have HX : Hid (ord a b = if a[j] = b[j] then ordT a b j else if b[j] < a[j] then -1 else 1) := Lib.hid (by
              rw [HZ'.out, show ((j : Int) + 1).toNat = j + 1 by omega, ordT]
              simp [hlt1, hlt2])
            have q0 : (0 : Int) ≤ (j : Int) := by omega
            have q1 : (j : Int) < (a.length : Int) := by omega
            have q2 : (j : Int) < (b.length : Int) := by omega
            have q3 : ((j : Int)).toNat = j := by omega
            clear hneg hA hB
            generalize a[j] = p at *
            generalize b[j] = q at *
            by_cases hpq : p = q
            · have hb2 : (p != q) = false := by simp [hpq]
              have HX2 : Hid (ord a b = ordT a b j) := Lib.hid (by rw [HX.out, if_pos hpq])
              clear hpq HX
              go_wp2
              go_quiet (fail)
              go_wp2
              go_roundw
              case rel => exact ⟨(j : Int) - 1, rfl, by omega, by omega, Lib.hid (by rw [HX2.out]; congr 1; omega), hdr.drewN _⟩
              case measure => simp [intOf]
            · have hb2 : (p != q) = true := by simp [hpq]
              have HX2 : Hid (ord a b = cmpI q p) := Lib.hid (by rw [HX.out, if_neg hpq, cmpI_ne (fun e => hpq e.symm)])
              have HC := Lib.hid (fun W => cmp_any q p W)
              clear hpq HX
              go_wp2
              go_quiet (fail)
              go_wp2
              have k1 : (wr.drewN nq).cell? (ad.add j) = some (.int .i64 p) := hc1
              have k2 : (wr.drewN nq).cell? (bd.add j) = some (.int .i64 q) := hc2
              have hdr2 := hdr.drewN nq
              generalize wr.drewN nq = W at *
              go_quiet ((go_at_call 85; exact quiet_sm (HC.out _)))
              go_wp2
              go_ret
              exact ⟨by rw [HX2.out]; rfl, hdr2.drewN _⟩
      · have hbb : (y != z) = true := by simp [hyz]
        have HO : Hid (ord a b = cmpI y z) := Lib.hid (by rw [cmpI_ne hyz]; unfold ord; rw [if_neg (by rw [← h1, ← h2]; exact hyz), h1, h2])
        clear h1 h2 hyz
        go_wp2_with (go_at_call 85; refine (cmp_any y z _).mono ?_; rintro e w' ⟨rfl, rfl⟩)
        go_ret
        exact ⟨by rw [HO.out]; rfl, Dr.refl _⟩
end Go.Proofs.Tg
end
