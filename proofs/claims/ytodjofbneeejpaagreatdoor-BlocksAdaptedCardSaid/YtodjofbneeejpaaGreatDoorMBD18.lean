/- Parts of the proof: AE1, AE2, WHE. -/
import Derived.Test.YtodjofbneeejpaaGreatDoorMBD6
import Derived.Test.YtodjofbneeejpaaGreatDoorMBD11
import Derived.Test.YtodjofbneeejpaaGreatDoorMBD17
section
/- The sanity check of the statements on blocks. -/
namespace Go.Pm
open Go.Mo Go.Gr
theorem sw_isg : IsG [[0, 1], [1, 0]] := by
 refine ⟨by decide, by decide, ?_, ?_, ?_⟩
 ·intro a ha
  simp only [List.mem_cons, List.not_mem_nil, or_false] at ha
  rcases ha with rfl | rfl
  ·exact ⟨by decide, by decide, by decide⟩
  ·exact ⟨by decide, by decide, by decide⟩
 ·unfold Asc
  decide
 ·unfold Grp
  decide
theorem sw_acn : acnE [[0, 1], [1, 0]] [[0, 0], [0, 1], [1, 0]] = 0 := by
 unfold acnE
 rw [if_pos ⟨sw_isg, by decide⟩]
 decide
theorem sw_img : ([[0, 1], [1, 0]].map fun a => img ([[0, 1], [1, 0]].headD ([] : List Int)).length a [[0, 0], [0, 1], [1, 0]]) = [[0, 1, 2], [0, 2, 1]] := by decide
theorem ad_imgs : imgs (Go.Proofs.Tg.Bk.adN [[1, 0]] [[0, 0], [0, 1], [1, 0]]) [[1, 0]] [[0, 0], [0, 1], [1, 0]] = [[0, 1, 2], [0, 2, 1]] := by decide
theorem ad_chg : chgTo [[0, 1, 2], [0, 2, 1]] 3 2 = [[[1, 0, 0], [0, 1, 1]], [[0, 1, -1]]] := by decide +kernel
theorem ad_e : Go.Proofs.Tg.Bk.adE [[1, 0]] [[0, 0], [0, 1], [1, 0]] = 0 := by
 unfold Go.Proofs.Tg.Bk.adE
 have h1 : Go.Proofs.Tg.Bk.chE [[1, 0]] [[0, 0], [0, 1], [1, 0]] = 0 := by decide
 have h2 : AdInd (Go.Proofs.Tg.Bk.adN [[1, 0]] [[0, 0], [0, 1], [1, 0]]) [[1, 0]] := by
  intro j hj
  have : j = 0 := by simpa using hj
  subst this
  show ([1, 0] : List Int) ∉ prods 2 [] ∧ ∀ b ∈ ([] : List (List Int)), cmp [1, 0] b = cmp b [1, 0]
  exact ⟨by decide, fun b hb => by cases hb⟩
 rw [if_neg (fun h => h h1), if_neg (fun h => h (by decide)), if_neg (fun h => h h2), if_neg (by decide)]
theorem ad_sg : ∀ c, c < 2 → SgOk c [[0, 1, 2], [0, 2, 1]] 3 := by
 intro c hc i hi r hr x hx
 have h : ∀ c : Fin 2, ∀ i : Fin 3, ∀ r ∈ adRow c.val [[0, 1, 2], [0, 2, 1]] 3 i.val, ∀ x ∈ r, x = 0 ∨ x = 1 ∨ x = -1 := by decide +kernel
 exact h ⟨c, hc⟩ ⟨i, hi⟩ r hr x hx
end Go.Pm
namespace Go.Proofs.Tg.Bk
open Go.RowKit Go.Gr Go.Sp Go.Ev Go.Pm Go.Mo
set_option maxHeartbeats 4000000
set_option maxRecDepth 100000
/-- Blocks set down one behind another. -/
def al (w : World) (os : List Obj) : World := os.foldl World.alloc w
theorem al_below (w : World) (os : List Obj) : Below w.heap.size w (al w os) := by
 induction os generalizing w with
 | nil => exact Below.refl _ _
 | cons o os ih =>
   have : al w (o :: os) = al (w.alloc o) os := rfl
   rw [this]
   exact below_all ((Below.refl _ _).alloc (Nat.le_refl _) _) (ih _)
theorem al_blk (w : World) (os : List Obj) (i : Nat) {t : TypeId} {cs : Array Value} (h : os[i]? = some (.cells cs t)) : Blk (al w os) (w.heap.size + i) t cs := by
 induction os generalizing w i with
 | nil => simp at h
 | cons o os ih =>
   have e : al w (o :: os) = al (w.alloc o) os := rfl
   rw [e]
   cases i with
   | zero =>
     have : o = .cells cs t := by simpa using h
     subst this
     exact (Blk.new w t cs).keep (al_below _ _) (by simp)
   | succ i =>
     have := ih (w.alloc o) i (by simpa using h)
     have e2 : (w.alloc o).heap.size + i = w.heap.size + (i + 1) := by simp; omega
     rwa [e2] at this
theorem blkN_sl {w : World} {g : Nat} {t : TypeId} {xs : List Value} {n : Nat} (h : Blk w g t xs.toArray) (hl : xs.length = n) : Sl w (some ⟨g, 0, none⟩) n 1 xs :=
  ⟨by omega, fun _ => ⟨_, rfl, h.lt, fun j u hu => by rw [add_lit, Nat.zero_add, h.cell j, List.getElem?_toArray]; exact hu⟩⟩
theorem lists_two {W : World} {g0 g1 g n : Nat} {a b : List Int} (b0 : Blk W g0 3 (a.map vi).toArray) (b1 : Blk W g1 3 (b.map vi).toArray) (ha : a.length = n) (hb : b.length = n) (h : Blk W g 22 #[.slice (some ⟨g0, 0, none⟩) n n, .slice (some ⟨g1, 0, none⟩) n n]) : Lists W (some ⟨g, 0, none⟩) [a, b] := by
 have h := lists_rows (L := n) (rs := [(g0, a), (g1, b)]) h (fun r hr => by
  simp only [List.mem_cons, List.not_mem_nil, or_false] at hr
  rcases hr with rfl | rfl
  ·exact b0
  ·exact b1) (fun r hr => by
  simp only [List.mem_cons, List.not_mem_nil, or_false] at hr
  rcases hr with rfl | rfl
  ·exact ha
  ·exact hb)
 exact h
theorem swap_any (w : World) : Calls Tryz.prog 21 #[] w fun e w' => ∃ A, e = .returned (.slice A 2 2) ∧ Lists w' A [[0, 1], [1, 0]] ∧ Below w.heap.size w w' := by
 go_enter Tryz.func21, Tryz.ntmps21
 go_wp2
 go_ret
 let os : List Obj := [.cells #[.int .i64 0, .int .i64 1] 3, .cells #[.int .i64 1, .int .i64 0] 3, .cells #[.slice (some ⟨w.heap.size, 0, none⟩) 2 2, .slice (some ⟨w.heap.size + 1, 0, none⟩) 2 2] 22]
 exact ⟨_, rfl, lists_two (W := al w os) (n := 2) (al_blk w os 0 rfl) (al_blk w os 1 rfl) rfl rfl (al_blk w os 2 rfl), al_below w os⟩
theorem lists_three {W : World} {g0 g1 g2 g n : Nat} {a b c : List Int} (b0 : Blk W g0 3 (a.map vi).toArray) (b1 : Blk W g1 3 (b.map vi).toArray) (b2 : Blk W g2 3 (c.map vi).toArray) (ha : a.length = n) (hb : b.length = n) (hc : c.length = n) (h : Blk W g 22 #[.slice (some ⟨g0, 0, none⟩) n n, .slice (some ⟨g1, 0, none⟩) n n, .slice (some ⟨g2, 0, none⟩) n n]) : Lists W (some ⟨g, 0, none⟩) [a, b, c] := by
 have h := lists_rows (L := n) (rs := [(g0, a), (g1, b), (g2, c)]) h (fun r hr => by
  simp only [List.mem_cons, List.not_mem_nil, or_false] at hr
  rcases hr with rfl | rfl | rfl
  ·exact b0
  ·exact b1
  ·exact b2) (fun r hr => by
  simp only [List.mem_cons, List.not_mem_nil, or_false] at hr
  rcases hr with rfl | rfl | rfl
  ·exact ha
  ·exact hb
  ·exact hc)
 exact h
theorem three_any (w : World) : Calls Tryz.prog 22 #[] w fun e w' => ∃ A, e = .returned (.slice A 3 3) ∧ Lists w' A [[0, 0], [0, 1], [1, 0]] ∧ Below w.heap.size w w' := by
 go_enter Tryz.func22, Tryz.ntmps22
 go_wp2
 go_ret
 let os : List Obj := [.cells #[.int .i64 0, .int .i64 0] 3, .cells #[.int .i64 0, .int .i64 1] 3, .cells #[.int .i64 1, .int .i64 0] 3, .cells #[.slice (some ⟨w.heap.size, 0, none⟩) 2 2, .slice (some ⟨w.heap.size + 1, 0, none⟩) 2 2, .slice (some ⟨w.heap.size + 1 + 1, 0, none⟩) 2 2] 22]
 exact ⟨_, rfl, lists_three (W := al w os) (n := 2) (al_blk w os 0 rfl) (al_blk w os 1 rfl) (al_blk w os 2 rfl) rfl rfl rfl (al_blk w os 3 rfl), al_below w os⟩
abbrev Strs (w : World) (A : Option Addr) (xs : List ByteArray) : Prop := Sl w A xs.length 1 (xs.map Value.string)
theorem strings_same (A B : Option Addr) (c d : Nat) (xs : List ByteArray) (w : World) (hA : Strs w A xs) (hB : Strs w B xs) (hn : xs.length ≤ 100000) :
    Calls Tryz.prog 23 #[.slice A xs.length c, .slice B xs.length d] w fun e w' => e = .returned (.bool true) ∧ Below w.heap.size w w' := by
  have HA := Lib.hid hA
  have HB := Lib.hid hB
  clear hA hB
  go_enter Tryz.func23, Tryz.ntmps23
  go_wp2
  go_loopw [5] (fun s5 wr => ∃ (k m : Nat), s5 = .int .i64 k ∧ k ≤ xs.length ∧ wr = w.drewN m) (fun s5 _ => xs.length - (intOf s5).toNat)
  case atStart => exact ⟨0, 0, rfl, Nat.zero_le _, rfl⟩
  case round =>
   obtain ⟨wo, rfl⟩ : ∃ wo : World, wo = wr := ⟨_, rfl⟩
   obtain ⟨k, m, rfl, hk, hw⟩ := hrel
   have hbw : Below w.heap.size w wo := by rw [hw]; exact below_drewN (Below.refl _ _) _
   have HW := Lib.hid hw
   clear hw
   by_cases hkl : k < xs.length
   ·obtain ⟨ad, rfl, hc0⟩ := Sl.at1 (HA.out.keep hbw) hkl
    obtain ⟨bd, rfl, hd0⟩ := Sl.at1 (HB.out.keep hbw) hkl
    have hc : wo.cell? (ad.add k) = some (.string xs[k]) := by simpa using hc0
    have hd : wo.cell? (bd.add k) = some (.string xs[k]) := by simpa using hd0
    have q0 : (0 : Int) ≤ (k : Int) := by omega
    have q1 : (k : Int) < (xs.length : Int) := by omega
    have q3 : ((k : Int)).toNat = k := by omega
    clear hc0 hd0
    generalize xs[k] = s at *
    go_wp2
    go_quiet (fail)
    go_wp2
    go_roundw
    case rel => exact ⟨k + 1, m + nq, by go_num, by omega, by rw [HW.out, World.drewN_drewN]⟩
    case measure => simp [intOf]; omega
   ·obtain rfl : k = xs.length := by omega
    have dk : decide ((xs.length : Int) < (xs.length : Int)) = false := by simp
    go_wp2
    go_ret
    exact ⟨rfl, hbw⟩
end Go.Proofs.Tg.Bk
end
section
/- The sanity check of the statements on blocks: awake. -/
namespace Go.Proofs.Tg.Bk
open Go.RowKit Go.Gr Go.Sp Go.Ev Go.Pm Go.Mo
set_option maxHeartbeats 4000000
set_option maxRecDepth 100000
theorem aw_action (W : World) (A L : Option Addr) (hA : Lists W A [[0, 1], [1, 0]]) (hL : Lists W L [[0, 0], [0, 1], [1, 0]]) :
    Calls Tryz.prog 16 #[.slice A 2 2, .slice L 3 3] W fun e w' => ∃ q, e = .returned (.tuple #[.slice (some ⟨q, 0, none⟩) 2 2, .int .i64 0]) ∧ Lists w' (some ⟨q, 0, none⟩) [[0, 1, 2], [0, 2, 1]] ∧ Below W.heap.size W w' := by
  have h := action_any A L 2 3 [[0, 1], [1, 0]] [[0, 0], [0, 1], [1, 0]] W hA (by decide) (by decide) hL (by decide) (by decide)
  refine h.mono ?_
  rintro e w' ⟨hb, h⟩
  obtain ⟨_, q, h1, h2⟩ := h.resolve_left (fun h => h.1 sw_acn)
  rw [sw_img] at h2
  exact ⟨q, h1, h2, hb⟩
/-- The two changes of the example. -/
def RetAw (W : World) (e : Ending) (w' : World) : Prop := ∃ g cA E0 k0 E1 k1, e = .returned (.tuple #[.slice (some ⟨g, 0, none⟩) 2 cA, .int .i64 0]) ∧ w'.cell? ⟨g, 2, none⟩ = some (.slice E0 6 k0) ∧ w'.cell? ⟨g, 5, none⟩ = some (.slice E1 3 k1) ∧
  Strs w' E0 ([1, 0, 0, 0, 1, 1].map tx) ∧ Strs w' E1 ([0, 1, -1].map tx) ∧ Below W.heap.size W w'
theorem aw_adapted (W : World) (A L : Option Addr) (hA : Lists W A [[1, 0]]) (hL : Lists W L [[0, 0], [0, 1], [1, 0]]) (hT : PT W) :
    Calls Tryz.prog 11 #[.slice A 1 1, .slice L 3 3] W (RetAw W) := by
  have h := adapted_any A L 1 3 [[1, 0]] [[0, 0], [0, 1], [1, 0]] W hA hL (by decide) (by decide) (by decide) (by decide) hT (fun _ => by
   rw [ad_imgs]
   exact ad_sg)
  refine h.mono ?_
  rintro e w' ⟨hb, h⟩
  obtain ⟨_, A', cA, cs, h1, h2⟩ := h.resolve_left (fun h => h.1 ad_e)
  rw [ad_imgs] at h2
  have heq := h2.eq
  rw [show ([[0, 1, 2], [0, 2, 1]] : List (List Int)).length = 2 from rfl, show ([[0, 0], [0, 1], [1, 0]] : List (List Int)).length = 3 from rfl, ad_chg] at heq
  match cs, heq, h1, h2 with
  | [⟨r0, E0, k0⟩, ⟨r1, E1, k1⟩], heq, h1, h2 =>
    simp only [List.map_cons, List.map_nil, List.cons.injEq, and_true] at heq
    obtain ⟨rfl, rfl⟩ := heq
    have hown := h2.own
    have hr0 := Sl.own (h2.rows _ (List.mem_cons_self ..))
    have hr1 := Sl.own (h2.rows _ (List.mem_cons_of_mem _ (List.mem_cons_self ..)))
    rcases hown.2 with ⟨_, h0⟩ | ⟨g, cap, cur, hv, _⟩
    ·cases h0
    ·injection hv with hv1 hv2 hv3
     subst hv1 hv3
     have hc := hown.cells (g := g) rfl
     exact ⟨g, cA, E0, k0, E1, k1, h1, hc 2 _ rfl, hc 5 _ rfl, hr0, hr1, hb⟩
theorem aw_strs0 (W : World) (E : Option Addr) (k : Nat) (hE : Strs W E ([1, 0, 0, 0, 1, 1].map tx)) :
    Calls Tryz.prog 23 #[.slice E 6 k, .slice (some ⟨W.heap.size, 0, none⟩) 6 6] (W.alloc (.cells #[.string ⟨#[49]⟩, .string ⟨#[48]⟩, .string ⟨#[48]⟩, .string ⟨#[48]⟩, .string ⟨#[49]⟩, .string ⟨#[49]⟩] 9)) fun e w' => e = .returned (.bool true) ∧ Below W.heap.size W w' := by
  have hal := Below.alloc (Below.refl W.heap.size W) (Nat.le_refl _) (.cells #[.string ⟨#[49]⟩, .string ⟨#[48]⟩, .string ⟨#[48]⟩, .string ⟨#[48]⟩, .string ⟨#[49]⟩, .string ⟨#[49]⟩] 9)
  exact (strings_same E _ k 6 ([1, 0, 0, 0, 1, 1].map tx) _ (Sl.keep hE hal) (blkN_sl (Blk.new _ _ _) rfl) (by decide)).mono fun e w' h => ⟨h.1, below_all hal h.2⟩
theorem aw_strs1 (W : World) (E : Option Addr) (k : Nat) (hE : Strs W E ([0, 1, -1].map tx)) :
    Calls Tryz.prog 23 #[.slice E 3 k, .slice (some ⟨W.heap.size, 0, none⟩) 3 3] (W.alloc (.cells #[.string ⟨#[48]⟩, .string ⟨#[49]⟩, .string ⟨#[45, 49]⟩] 9)) fun e w' => e = .returned (.bool true) ∧ Below W.heap.size W w' := by
  have hal := Below.alloc (Below.refl W.heap.size W) (Nat.le_refl _) (.cells #[.string ⟨#[48]⟩, .string ⟨#[49]⟩, .string ⟨#[45, 49]⟩] 9)
  exact (strings_same E _ k 3 ([0, 1, -1].map tx) _ (Sl.keep hE hal) (blkN_sl (Blk.new _ _ _) rfl) (by decide)).mono fun e w' h => ⟨h.1, below_all hal h.2⟩
theorem aw_lists (W : World) (A : Option Addr) (c : Nat) (hA : Lists W A [[0, 1, 2], [0, 2, 1]]) :
    Calls Tryz.prog 15 #[.slice A 2 c, .slice (some ⟨W.heap.size + 1 + 1, 0, none⟩) 2 2] (((W.alloc (.cells #[.int .i64 0, .int .i64 1, .int .i64 2] 3)).alloc (.cells #[.int .i64 0, .int .i64 2, .int .i64 1] 3)).alloc (.cells #[.slice (some ⟨W.heap.size, 0, none⟩) 3 3, .slice (some ⟨W.heap.size + 1, 0, none⟩) 3 3] 22)) fun e w' => e = .returned (.bool true) ∧ Below W.heap.size W w' := by
  let os : List Obj := [.cells #[.int .i64 0, .int .i64 1, .int .i64 2] 3, .cells #[.int .i64 0, .int .i64 2, .int .i64 1] 3, .cells #[.slice (some ⟨W.heap.size, 0, none⟩) 3 3, .slice (some ⟨W.heap.size + 1, 0, none⟩) 3 3] 22]
  have h := lists_any A _ [[0, 1, 2], [0, 2, 1]] [[0, 1, 2], [0, 2, 1]] c 2 (al W os) (hA.keep (al_below W os)) (lists_two (W := al W os) (n := 3) (al_blk W os 0 rfl) (al_blk W os 1 rfl) rfl rfl (al_blk W os 2 rfl)) (by decide) (by decide)
  exact h.mono fun e w' h => ⟨by rw [h.1]; rfl, below_all (al_below W os) h.2.below⟩
theorem awake19_any (w : World) (hT : PT w) : Calls Tryz.prog 8 #[] w fun e w' => e = .returned (.bool true) ∧ Below w.heap.size w w' := by
 go_enter Tryz.func8, Tryz.ntmps8
 go_wp2_with (fail)
 refine (swap_any _).mono ?_
 rintro e w1 ⟨A, rfl, hA, hb1⟩
 go_wp2_with (fail)
 refine (three_any _).mono ?_
 rintro e w2 ⟨L, rfl, hL, hb2⟩
 go_wp2_with (fail)
 refine (aw_action _ _ _ (hA.keep hb2) hL).mono ?_
 rintro e w3 ⟨q, rfl, hR, hb3⟩
 have hb03 := below_all (below_all hb1 hb2) hb3
 clear hA hL hb1 hb2 hb3
 go_wp2_with (fail)
 have hbl : Below w3.heap.size w3 ((w3.alloc (.cells #[.int .i64 1, .int .i64 0] 3)).alloc (.cells #[.slice (some ⟨w3.heap.size, 0, none⟩) 2 2] 22)) := al_below w3 [.cells #[.int .i64 1, .int .i64 0] 3, .cells #[.slice (some ⟨w3.heap.size, 0, none⟩) 2 2] 22]
 have hone : Lists ((w3.alloc (.cells #[.int .i64 1, .int .i64 0] 3)).alloc (.cells #[.slice (some ⟨w3.heap.size, 0, none⟩) 2 2] 22)) (some ⟨w3.heap.size + 1, 0, none⟩) [[1, 0]] := by
  let os : List Obj := [.cells #[.int .i64 1, .int .i64 0] 3, .cells #[.slice (some ⟨w3.heap.size, 0, none⟩) 2 2] 22]
  exact lists_rows (w := al w3 os) (L := 2) (rs := [(w3.heap.size, [1, 0])]) (al_blk w3 os 1 rfl) (fun r hr => by
   rw [List.mem_singleton.1 hr]
   exact al_blk w3 os 0 rfl) (fun r hr => by
   rw [List.mem_singleton.1 hr]
   rfl)
 have hR2 := hR.keep hbl
 have hb04 := below_all hb03 hbl
 generalize ((w3.alloc (.cells #[.int .i64 1, .int .i64 0] 3)).alloc (.cells #[.slice (some ⟨w3.heap.size, 0, none⟩) 2 2] 22)) = w4 at *
 clear hR hbl
 refine (three_any _).mono ?_
 rintro e w5 ⟨L, rfl, hL, hb5⟩
 go_wp2_with (fail)
 refine (aw_adapted w5 _ L (hone.keep hb5) hL (hT.keep (below_all hb04 hb5))).mono ?_
 rintro e w6 ⟨g, cA, E0, k0, E1, k1, rfl, c0, c1, hS0, hS1, hb6⟩
 have hR3 := (hR2.keep hb5).keep hb6
 have hb06 := below_all (below_all hb04 hb5) hb6
 clear hone hL hR2 hb5 hb6 hb04 hb03
 go_wp2_with (fail)
 refine (aw_lists w6 _ 2 hR3).mono ?_
 rintro e w7 ⟨rfl, hb7⟩
 have hb07 := below_all hb06 hb7
 have c0 := keep_cell hb7 c0
 have c1 := keep_cell hb7 c1
 have hS0 := Sl.keep hS0 hb7
 have hS1 := Sl.keep hS1 hb7
 clear hR3 hb7 hb06
 go_wp2_with (fail)
 refine (aw_strs0 w7 _ _ hS0).mono ?_
 rintro e w8 ⟨rfl, hb8⟩
 have hb08 := below_all hb07 hb8
 have c1 := keep_cell hb8 c1
 have hS1 := Sl.keep hS1 hb8
 clear hb07
 go_wp2_with (fail)
 refine (aw_strs1 w8 _ _ hS1).mono ?_
 rintro e w9 ⟨rfl, hb9⟩
 go_wp2_with (fail)
 go_ret
 exact ⟨rfl, below_all hb08 hb9⟩
end Go.Proofs.Tg.Bk
end
section
/- The law's few. -/
namespace Go.Proofs.Tg.Bk
open Go.RowKit Go.Gr Go.Sp Go.Ev Go.Pm
set_option maxHeartbeats 1000000
set_option maxRecDepth 100000
theorem few19_any (L : Option Addr) (cL : Nat) (l : List (List Int)) (q : Bool) (w : World) (hL : Lists w L l) (hl : l.length ≤ 1000000) (hq : q = true ↔ ∀ x ∈ l, x.length ≤ 20) :
    Calls Tryz.prog 6 #[.slice L l.length cL] w fun e w' => e = .returned (.bool q) ∧ w = w' := by
  have HL := Lib.hid hL
  have HQ := Lib.hid hq
  clear hL hq
  go_enter Tryz.func6, Tryz.ntmps6
  go_wp2
  go_loopw [3] (fun s3 wr => ∃ k : Nat, s3 = .int .i64 k ∧ k ≤ l.length ∧ Hid (∀ j (h : j < l.length), j < k → l[j].length ≤ 20) ∧ w = wr) (fun s3 _ => l.length - (intOf s3).toNat)
  case atStart => exact ⟨0, rfl, Nat.zero_le _, Lib.hid (fun j _ h => absurd h (by omega)), rfl⟩
  case round =>
   obtain ⟨k, rfl, hk, HN, rfl⟩ := hrel
   by_cases hkl : k < l.length
   ·obtain ⟨ad, E, ce, rfl, hc, _⟩ := HL.out.at hkl
    have q0 : (0 : Int) ≤ (k : Int) := by omega
    have q1 : (k : Int) < (l.length : Int) := by omega
    have q3 : ((k : Int)).toNat = k := by omega
    by_cases h20 : l[k].length ≤ 20
    ·have d1 : decide ((20 : Int) < (l[k].length : Int)) = false := decide_eq_false (by omega)
     have d2 : decide (20 < l[k].length) = false := decide_eq_false (by omega)
     have HN2 : Hid (∀ j (h : j < l.length), j < k + 1 → l[j].length ≤ 20) := Lib.hid (fun j h hj => by
      by_cases he : j = k
      ·subst he; exact h20
      ·exact HN.out j h (by omega))
     clear h20
     generalize l[k] = x at hc d1 d2
     go_wp2
     go_roundw
     case rel => exact ⟨k + 1, by go_num, by omega, HN2, trivial⟩
     case measure => simp [intOf]; omega
    ·have d1 : decide ((20 : Int) < (l[k].length : Int)) = true := decide_eq_true (by omega)
     have d2 : decide (20 < l[k].length) = true := decide_eq_true (by omega)
     obtain rfl : q = false := eq_false_of_ne_true (fun h => h20 (HQ.out.1 h _ (List.getElem_mem _)))
     clear h20
     generalize l[k] = x at hc d1 d2
     go_wp2
     go_ret
     exact ⟨rfl, rfl⟩
   ·obtain rfl : k = l.length := by omega
    obtain rfl : q = true := HQ.out.2 (fun x hx => by
     obtain ⟨j, hj, rfl⟩ := List.getElem_of_mem hx
     exact HN.out j hj hj)
    have dk : decide ((l.length : Int) < (l.length : Int)) = false := by simp
    go_wp2
    go_ret
    exact ⟨rfl, rfl⟩
end Go.Proofs.Tg.Bk
end
