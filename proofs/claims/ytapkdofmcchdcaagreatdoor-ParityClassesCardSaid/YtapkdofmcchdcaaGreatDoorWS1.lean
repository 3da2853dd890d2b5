/- Walks: cutting a sign and digits off a text. -/
import Derived.Test.YtapkdofmcchdcaaGreatDoorProg
import Derived.Test.YtapkdofmcchdcaaGreatDoorMem
import Derived.Test.YtapkdofmcchdcaaGreatDoorN1
import Derived.WalkKit
import Derived.WalkSpells
import Derived.WalkLawsBesides
import Derived.Deep.QuietTactic
import Derived.BigQuiet
import Derived.Lib.Hide
import Derived.Lib.Strings
import Derived.Lib.IndexBytes
import Derived.Outline
namespace Go.Proofs.Tg
open Go.RowKit Go.Qn
set_option maxHeartbeats 400000
def bs (l : List UInt8) : ByteArray := ⟨l.toArray⟩
theorem bs_self (s : ByteArray) : bs s.data.toList = s := by cases s; rfl
theorem bs_data (l : List UInt8) : (bs l).data.toList = l := rfl
theorem bs_size (l : List UInt8) : (bs l).size = l.length := by show l.toArray.size = _; simp
theorem ext_bs (s : ByteArray) (a b : Nat) : s.extract a b = bs ((s.data.toList.drop a).take (b - a)) := by rw [← bs_self (s.extract a b), Lib.extract_data]
theorem ext_end (s : ByteArray) (a : Nat) : s.extract a s.size = bs (s.data.toList.drop a) := by rw [← bs_self (s.extract a s.size), Lib.extract_to_end]
theorem len_size (s : ByteArray) : s.data.toList.length = s.size := by rw [Array.length_toList]; rfl
theorem hasp_any (s : ByteArray) (w : World) (hs : s.size ≤ 64) :
    Calls Tryz.prog 218 #[.string s, .string ⟨#[45]⟩] w fun e w' => e = .returned (.bool (decide (s.data.toList.head? = some 45))) ∧ w = w' := by
  go_enter Tryz.func218, Tryz.ntmps218
  go_wp2
  · have h1 : 1 ≤ (s.size : Int) := by assumption
    go_ret
    refine ⟨?_, rfl⟩
    show Ending.returned (.bool ((s.extract 0 1).toList == [45])) = _
    rw [Lib.toList_data, Lib.extract_data]
    have hl := len_size s
    congr 2
    cases hd : s.data.toList with
    | nil => rw [hd] at hl; simp at hl; omega
    | cons c t => by_cases hc : c = 45 <;> simp [hc]
  · have h1 : (s.size : Int) < 1 := by assumption
    go_ret
    refine ⟨?_, rfl⟩
    have hl := len_size s
    have : s.data.toList = [] := List.eq_nil_of_length_eq_zero (by omega)
    rw [this]; rfl
theorem hasp_t (s : ByteArray) (w : World) (hs : s.size ≤ 64) (h : s.data.toList.head? = some 45) :
    Calls Tryz.prog 218 #[.string s, .string ⟨#[45]⟩] w fun e w' => e = .returned (.bool true) ∧ w = w' :=
  (hasp_any s w hs).mono fun e w' ⟨h1, h2⟩ => ⟨by rw [h1, decide_eq_true h], h2⟩
theorem hasp_f (s : ByteArray) (w : World) (hs : s.size ≤ 64) (h : s.data.toList.head? ≠ some 45) :
    Calls Tryz.prog 218 #[.string s, .string ⟨#[45]⟩] w fun e w' => e = .returned (.bool false) ∧ w = w' :=
  (hasp_any s w hs).mono fun e w' ⟨h1, h2⟩ => ⟨by rw [h1, decide_eq_false h], h2⟩
theorem cutl_any (s : ByteArray) (w : World) (hs : s.size ≤ 64) :
    Calls Tryz.prog 199 #[.string s, .string ⟨#[45]⟩] w fun e w' => e = .returned (.tuple #[.string (bs (cut s.data.toList).2), .bool (cut s.data.toList).1]) ∧ w = w' := by
  by_cases h : s.data.toList.head? = some 45
  · have h1 : 1 ≤ (s.size : Int) := by
      have hl := len_size s
      cases hd : s.data.toList with
      | nil => rw [hd] at h; cases h
      | cons c t => rw [hd] at hl; simp at hl; omega
    have H := Lib.hid h
    clear h
    go_enter Tryz.func199, Tryz.ntmps199
    go_wp2_with (go_at_call 218; refine (hasp_t _ _ hs H.out).mono ?_; rintro e w' ⟨rfl, rfl⟩)
    go_ret2
    refine ⟨?_, rfl⟩
    have H := H.out
    show Ending.returned (.tuple #[.string (s.extract 1 s.size), .bool true]) = _
    rw [ext_end]
    unfold cut
    rw [if_pos H]; simp
  · have H := Lib.hid h
    clear h
    go_enter Tryz.func199, Tryz.ntmps199
    go_wp2_with (go_at_call 218; refine (hasp_f _ _ hs H.out).mono ?_; rintro e w' ⟨rfl, rfl⟩)
    go_ret2
    refine ⟨?_, rfl⟩
    have H := H.out
    show Ending.returned (.tuple #[.string s, .bool false]) = _
    unfold cut
    rw [if_neg H, bs_self]
theorem cutp_any (s : ByteArray) (w : World) (hs : s.size ≤ 64) :
    Calls Tryz.prog 181 #[.string s, .string ⟨#[45]⟩] w fun e w' => e = .returned (.tuple #[.string (bs (cut s.data.toList).2), .bool (cut s.data.toList).1]) ∧ w = w' := by
  go_enter Tryz.func181, Tryz.ntmps181
  go_wp2_with (go_at_call 199; refine (cutl_any _ _ hs).mono ?_; rintro e w' ⟨rfl, rfl⟩)
  go_ret2
  exact ⟨rfl, rfl⟩
theorem tw_at {p : UInt8 → Bool} (l : List UInt8) (k : Nat) (h : ∀ c ∈ l.take k, p c = true) (hx : l.length ≤ k ∨ ∃ h : k < l.length, p l[k] = false) : l.takeWhile p = l.take k ∧ l.dropWhile p = l.drop k := by
  have := tw_app (p := p) (l.take k) (l.drop k) h (by
    rcases hx with hx | ⟨hk, hx⟩
    · left; rw [List.drop_eq_nil_iff]; exact hx
    · right; exact ⟨l[k], l.drop (k + 1), by rw [List.drop_eq_getElem_cons hk], hx⟩)
  rwa [List.take_append_drop] at this
theorem isD_int {c : UInt8} (h : isD c = true) : (48 : Int) ≤ (c.toNat : Int) ∧ (c.toNat : Int) ≤ 57 := by rw [isD_iff] at h; omega
set_option maxHeartbeats 1000000 in
theorem digits_any (s : ByteArray) (w : World) (hs : s.size ≤ 64) :
    Calls Tryz.prog 182 #[.string s] w fun e w' => e = .returned (.tuple #[.string (bs (s.data.toList.takeWhile isD)), .string (bs (s.data.toList.dropWhile isD))]) ∧ Below w.heap.size w w' := by
  go_enter Tryz.func182, Tryz.ntmps182
  go_wp2
  go_loop [4] (fun i => ∃ k : Nat, k ≤ s.size ∧ i = .int .i64 k ∧ Hid (∀ c ∈ s.data.toList.take k, isD c = true)) (fun i => s.size - (intOf i).toNat)
  case atStart => exact ⟨0, Nat.zero_le _, rfl, Lib.hid (by simp)⟩
  case round =>
    obtain ⟨k, hk, rfl, HD⟩ := hrel
    have hl := Lib.hid (len_size s)
    by_cases hlt : k < s.size
    · by_cases hc : isD s[k] = true
      · obtain ⟨c1, c2⟩ := isD_int hc
        have d1 : decide ((48 : Int) ≤ (s[k].toNat : Int)) = true := by simpa using c1
        have d2 : decide ((s[k].toNat : Int) ≤ 57) = true := by simpa using c2
        have HD' : Hid (∀ c ∈ s.data.toList.take (k + 1), isD c = true) := Lib.hid (by
          intro c hc'
          rw [List.take_succ_eq_append_getElem (by rw [hl.out]; exact hlt)] at hc'
          rcases List.mem_append.1 hc' with h | h
          · exact HD.out c h
          · simp only [List.mem_cons, List.not_mem_nil, or_false] at h
            rw [h]; exact hc)
        clear hc
        go_wp2
        go_round
        case rel => exact ⟨k + 1, by omega, by go_num, HD'⟩
        case measure => simp [intOf]; omega
      · have hx : (s[k].toNat : Int) < 48 ∨ 57 < (s[k].toNat : Int) := by
          rw [isD_iff] at hc; omega
        have HX : Hid (s.data.toList.takeWhile isD = s.data.toList.take k ∧ s.data.toList.dropWhile isD = s.data.toList.drop k) := Lib.hid (tw_at _ k HD.out (.inr ⟨by rw [hl.out]; exact hlt, eq_false_of_ne_true hc⟩))
        clear hc
        have q1 : (k : Int) ≤ (s.size : Int) := by omega
        have q2 : (0 : Int) ≤ (k : Int) := by omega
        have q3 : ((k : Int)).toNat = k := by omega
        rcases hx with hx | hx
        · have d1 : decide ((48 : Int) ≤ (s[k].toNat : Int)) = false := by simp; omega
          go_wp2
          go_quiet (fail)
          go_wp2
          go_ret2
          refine ⟨?_, below_drewN (Below.refl _ _) _⟩
          show Ending.returned (.tuple #[.string (s.extract 0 k), .string (s.extract k s.size)]) = _
          rw [ext_bs, ext_end, HX.out.1, HX.out.2]; simp
        · have d1 : decide ((48 : Int) ≤ (s[k].toNat : Int)) = true := by simp; omega
          have d2 : decide ((s[k].toNat : Int) ≤ 57) = false := by simp; omega
          go_wp2
          go_quiet (fail)
          go_wp2
          go_ret2
          refine ⟨?_, below_drewN (Below.refl _ _) _⟩
          show Ending.returned (.tuple #[.string (s.extract 0 k), .string (s.extract k s.size)]) = _
          rw [ext_bs, ext_end, HX.out.1, HX.out.2]; simp
    · obtain rfl : k = s.size := by omega
      have HX : Hid (s.data.toList.takeWhile isD = s.data.toList.take s.size ∧ s.data.toList.dropWhile isD = s.data.toList.drop s.size) := Lib.hid (tw_at _ s.size HD.out (.inl (by rw [hl.out]; omega)))
      have q2 : (0 : Int) ≤ (s.size : Int) := by omega
      have q3 : ((s.size : Int)).toNat = s.size := by omega
      have d0 : decide (s.size < s.size) = false := by simp
      go_wp2
      go_quiet (fail)
      go_wp2
      go_ret2
      refine ⟨?_, below_drewN (Below.refl _ _) _⟩
      show Ending.returned (.tuple #[.string s, .string ByteArray.empty]) = _
      have h1 : s.data.toList.take s.size = s.data.toList := List.take_of_length_le (by rw [hl.out]; omega)
      have h2 : s.data.toList.drop s.size = [] := List.drop_eq_nil_iff.2 (by rw [hl.out]; omega)
      rw [HX.out.1, HX.out.2, h1, h2, bs_self]; rfl
end Go.Proofs.Tg
