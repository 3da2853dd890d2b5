/- The elements of a set, in a slice. -/
import Derived.Test.YtamipjpcphghaaaDoorWA
import Derived.Test.YtamipjpcphghaaaDoorMem
namespace Go.Proofs.Tg
open Go.RowKit Go.Gr
theorem int_info : (Tryd.prog.info? 3).map (fun i => (i.zero, i.size, i.bytes)) = some (some (.int .i64 0), 1, 8) := by kernel_rfl
set_option maxHeartbeats 1000000
theorem verts_any (s : Nat) (w : World) (hs : s < 18446744073709551616) (hT : Tab w) :
    Calls Tryd.prog 54 #[.int .u64 s] w (RetOwn 3 (verts s).length 1 ((verts s).map vn) w) := by
  obtain ⟨i0, hi, hz0, hz1, hz2⟩ := info_parts int_info
  have hlen : (verts s).length ≤ 64 := size_le s
  go_enter Tryd.func54, Tryd.ntmps54
  go_wp2
  go_loopw [0, 3] (fun t v wr => ∃ (x : Nat) (l : List Nat), t = .int .u64 x ∧ x < 18446744073709551616 ∧ Hid (verts s = l ++ verts x) ∧ l.length ≤ 64 ∧ wr.ownsRow w.heap.size 3 1 v l.length (l.map vn) ∧ Below w.heap.size w wr)
    (fun t _ _ => (intOf t).toNat)
  case atStart => exact ⟨s, [], rfl, hs, Lib.hid rfl, by simp, World.ownsRow_nil _ _ _ _, Below.refl _ _⟩
  case round =>
    obtain ⟨x, l, rfl, hx, HV, hl, hown, hb⟩ := hrel
    by_cases hx0 : x = 0
    · subst hx0
      go_wp2
      go_ret
      obtain ⟨A, c, hv, hc, _⟩ := Sl.of_own hown
      have hv2 : verts s = l := by rw [HV.out, verts_zero, List.append_nil]
      rw [hv2]
      exact ⟨A, c, by rw [← hv]; rfl, hc, by rw [← hv]; exact hown, hb⟩
    · have hxp : 0 < x := by omega
      have hxb : ((x : Int) != 0) = true := by simp; omega
      have ht := tz_any x wr hx hx0 (hT.below hb hT.1)
      obtain ⟨hv, hlt⟩ := verts_cons x hx hx0
      have hk := (Lib.lowest_bit 64 x hx0 hx).2
      generalize Lib.ctz 64 x = c at ht hv hk
      have HT := Lib.hid ht
      have e1 : (x : Int) - 1 = ((x - 1 : Nat) : Int) := by omega
      have HV2 : Hid (verts s = (l ++ [c]) ++ verts (x &&& (x - 1))) := by
        rw [List.append_assoc]; exact HV.out.trans (by rw [hv]; rfl)
      have hll : (l ++ [c]).length ≤ 64 := by have := congrArg List.length HV2.out; simp at this; simp; omega
      have HE := Lib.hid e1
      clear ht hv e1 hx0 HV
      go_wp2_with (first
        | (go_at_call 70; refine HT.out.mono ?_; rintro e w' ⟨rfl, rfl⟩)
        | (at_builtin; refine wpList_append_own _ rfl _ _ 40 rfl w.heap.size 3 i0 (.int .i64 0) 1 8 Tryd.underlying40 hi hz0 hz1 hz2 rfl (by decide) _ _ _ rfl (hown.alloc _) ⟨wr.heap.size, 0, none⟩ 1 1 [.int .i64 c] rfl rfl ?c1 ?c2 ?c3 ?c4 ?c5 ?_
           case c1 => exact cell_one_new _ _ _
           case c2 => simp [Value.oneCell']
           case c3 => simp only [maxLen]; omega
           case c4 => omega
           case c5 => have := hb.size; simp; omega
           intro v' w1 hown' hgrow _))
      have ea : bits BinOp.and IntKind.u64 (x : Int) ((x : Int) - 1) = ((x &&& (x - 1) : Nat) : Int) := by
        rw [HE.out, u64_and_nat _ _ hx (by omega)]
      go_roundw
      case rel =>
        refine ⟨x &&& (x - 1), l ++ [c], ?_, and_lt _ hx, HV2, hll, ?_, ?_⟩
        · rw [ea]
        · simpa [vn] using hown'
        · refine (hb.alloc hb.size _).grown hgrow (by have := hb.size; simp; omega) (fun k hk => (hown.lt k hk).1)
      case measure => simp [intOf, ea]; omega
end Go.Proofs.Tg
