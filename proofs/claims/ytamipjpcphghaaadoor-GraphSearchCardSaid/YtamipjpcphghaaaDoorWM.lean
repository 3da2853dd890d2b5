/- slices.ContainsFunc with the closure of Cliques. -/
import Derived.Test.YtamipjpcphghaaaDoorWH
namespace Go.Proofs.Tg
open Go.RowKit Go.Gr
set_option maxHeartbeats 1000000
set_option maxRecDepth 100000
theorem closure_any (s t b : Nat) (w : World) (hb : w.cell? ⟨b, 0, none⟩ = some (.int .u64 s)) (hs : s < 18446744073709551616) (ht : t < 18446744073709551616) :
    Calls Tryd.prog 53 #[.int .u64 t, .pointer (some ⟨b, 0, none⟩)] w fun e w' => e = .returned (.bool (decide (andn s t = 0))) ∧ w = w' := by
  have h1 := andn_zero_any t hs ht
  have h2 : (((andn s t : Nat) : Int) == 0) = decide (andn s t = 0) := by
    rw [Bool.eq_iff_iff]; simp
  generalize andn s t = z at h1 h2
  go_enter Tryd.func53, Tryd.ntmps53
  go_wp2
  go_ret
  refine ⟨?_, rfl⟩
  show Ending.returned (.bool _) = _
  first | rw [← h2] | rfl
theorem index_any (A : Option Addr) (c s b : Nat) (l : List Nat) (w : World) (hA : Sets w A l) (hb : w.cell? ⟨b, 0, none⟩ = some (.int .u64 s)) (hs : s < 18446744073709551616) (hl : l.length ≤ 1000000) (hls : ∀ t ∈ l, t < 18446744073709551616) :
    Calls Tryd.prog 69 #[.slice A l.length c, .func (.func 53) #[] #[.pointer (some ⟨b, 0, none⟩)]] w fun e w' => (∃ n : Int, e = .returned (.int .i64 n) ∧ (0 ≤ n ↔ ∃ t ∈ l, andn s t = 0)) ∧ w = w' := by
  have HLS := Lib.hid hls
  clear hls
  go_enter Tryd.func69, Tryd.ntmps69
  go_wp2
  go_loop [8] (fun i => ∃ k : Nat, i = .int .i64 k ∧ k ≤ l.length ∧ Hid (∀ t ∈ l.take k, ¬ andn s t = 0)) (fun i => l.length - (intOf i).toNat)
  case atStart => exact ⟨0, rfl, Nat.zero_le _, Lib.hid (by simp)⟩
  case round =>
    obtain ⟨k, rfl, hk, HN⟩ := hrel
    by_cases hkl : k < l.length
    · obtain ⟨ad, rfl, hc⟩ := Sets.at hA hkl
      have ht := HLS.out l[k] (List.getElem_mem _)
      have HT : Hid (l.take (k + 1) = l.take k ++ [l[k]]) := Lib.hid (List.take_succ_eq_append_getElem hkl)
      have HM : Hid (l[k] ∈ l) := Lib.hid (List.getElem_mem _)
      generalize l[k] = t at hc ht HT HM
      have hq := closure_any s t b w hb hs ht
      by_cases hz : andn s t = 0
      · rw [decide_eq_true hz] at hq
        have HQ := Lib.hid hq
        have HZ := Lib.hid hz
        clear hq hz
        go_wp2_with (go_at_call 53; refine HQ.out.mono ?_; rintro e w' ⟨rfl, rfl⟩)
        go_ret
        exact ⟨⟨k, rfl, fun _ => ⟨t, HM.out, HZ.out⟩, fun _ => by omega⟩, rfl⟩
      · rw [decide_eq_false hz] at hq
        have HQ := Lib.hid hq
        have HZ := Lib.hid hz
        clear hq hz
        go_wp2_with (go_at_call 53; refine HQ.out.mono ?_; rintro e w' ⟨rfl, rfl⟩)
        go_round
        case rel =>
          refine ⟨k + 1, by go_num, by omega, Lib.hid ?_⟩
          rw [HT.out]
          intro x hx
          rcases List.mem_append.1 hx with h | h
          · exact HN.out x h
          · simp at h; subst h; exact HZ.out
        case measure => simp [intOf]; omega
    · obtain rfl : k = l.length := by omega
      have HN2 : Hid (∀ t ∈ l, ¬ andn s t = 0) := Lib.hid (by have := HN.out; rwa [List.take_length] at this)
      clear HN
      go_wp2
      go_ret
      exact ⟨⟨-1, rfl, fun h => by omega, fun ⟨t, ht, hz⟩ => absurd hz (HN2.out t ht)⟩, rfl⟩
theorem contains_any (A : Option Addr) (c s b : Nat) (l : List Nat) (w : World) (hA : Sets w A l) (hb : w.cell? ⟨b, 0, none⟩ = some (.int .u64 s)) (hs : s < 18446744073709551616) (hl : l.length ≤ 1000000) (hls : ∀ t ∈ l, t < 18446744073709551616) :
    Calls Tryd.prog 52 #[.slice A l.length c, .func (.func 53) #[] #[.pointer (some ⟨b, 0, none⟩)]] w fun e w' => e = .returned (.bool (l.any fun t => decide (andn s t = 0))) ∧ w = w' := by
  have HI := Lib.hid (index_any A c s b l w hA hb hs hl hls)
  clear hA hb hls
  go_enter Tryd.func52, Tryd.ntmps52
  go_wp2_with (go_at_call 69; refine HI.out.mono ?_; rintro e w' ⟨⟨n, rfl, hn⟩, rfl⟩; have HN := Lib.hid hn; clear hn)
  go_ret
  refine ⟨?_, rfl⟩
  show Ending.returned (.bool (decide (0 ≤ n))) = _
  have : decide (0 ≤ n) = l.any fun t => decide (andn s t = 0) := by
    rw [Bool.eq_iff_iff, decide_eq_true_eq, HN.out, List.any_eq_true]
    simp
  rw [this]
end Go.Proofs.Tg
