/- Parts of the proof: BG6, BG7, WG7, QU2, WHA. -/
import Derived.Deep.LoopGhost
import Derived.Test.YtodjofbneeejpaaGreatDoorMBD6
import Derived.Test.YtodjofbneeejpaaGreatDoorMBD7
section
/- How many permutations there are; the involutions of a group, told in two ways. Plain. -/
namespace Go.Pm
def words (n : Nat) : Nat → List (List Int)
  | 0 => [[]]
  | k + 1 => (words n k).flatMap fun l => (List.range n).map fun x : Nat => (x : Int) :: l
theorem words_mem (n : Nat) : ∀ (l : List Int), (∀ x ∈ l, 0 ≤ x ∧ x < n) → l ∈ words n l.length
  | [], _ => List.mem_singleton.2 rfl
  | x :: l, h => by
    have h1 := h x (by simp)
    refine List.mem_flatMap.2 ⟨l, words_mem n l (fun y hy => h y (List.mem_cons_of_mem _ hy)), List.mem_map.2 ⟨x.toNat, List.mem_range.2 (by omega), ?_⟩⟩
    rw [show (x.toNat : Int) = x by omega]
def allP (n : Nat) : List (List Int) := (words n n).filter fun a => decide a.Nodup
theorem allP_mem {n : Nat} {a : List Int} (h : Perm n a) : a ∈ allP n := by
 refine List.mem_filter.2 ⟨?_, decide_eq_true h.2.2⟩
 have := words_mem n a h.2.1
 rwa [h.1] at this
theorem perm_count {n : Nat} {S : List (List Int)} (hS : S.Nodup) (hp : ∀ a ∈ S, Perm n a) : S.length ≤ (allP n).length := hS.length_le_of_subset fun a ha => allP_mem (hp a ha)
theorem all0 : (allP 0).length = 1 := by decide
theorem all1 : (allP 1).length = 1 := by decide
theorem all2 : (allP 2).length = 2 := by decide
theorem all3 : (allP 3).length = 6 := by decide
set_option maxRecDepth 100000 in
theorem all4 : (allP 4).length = 24 := by decide
theorem pow_bound {k m : Nat} (h : 2 ^ k ≤ m) (n : Nat) (hm : m < 2 ^ (n + 1)) : k ≤ n := by
 apply Classical.byContradiction
 intro hlt
 have : 2 ^ (n + 1) ≤ 2 ^ k := Nat.pow_le_pow_right (by omega) (by omega)
 omega
/-- A small group, or one of few variables, has room for as many independent involutions as variables. -/
theorem room_few {n : Nat} {g : List (List Int)} (hg : g.Nodup) (hp : ∀ a ∈ g, Perm n a) (h : g.length ≤ 8 ∨ n ≤ 4) : ∀ k, 2 ^ k ≤ g.length → k ≤ n := by
 intro k hk
 have hc := perm_count hg hp
 by_cases h4 : n ≤ 4
 ·have : n = 0 ∨ n = 1 ∨ n = 2 ∨ n = 3 ∨ n = 4 := by omega
  rcases this with rfl | rfl | rfl | rfl | rfl
  ·rw [all0] at hc; exact pow_bound hk 0 (by omega)
  ·rw [all1] at hc; exact pow_bound hk 1 (by omega)
  ·rw [all2] at hc; exact pow_bound hk 2 (by omega)
  ·rw [all3] at hc; exact pow_bound hk 3 (by omega)
  ·rw [all4] at hc; exact pow_bound hk 4 (by omega)
 ·have h8 : g.length ≤ 8 := by omega
  have := pow_bound hk 3 (by omega)
  omega
/-- Independent, as the reference has it. -/
def Indep (n : Nat) (l : List (List Int)) : Prop := (∀ i k, ∀ (h1 : i < l.length) (h2 : k < i), cmp l[i] l[k] = cmp l[k] l[i]) ∧ l.length ≤ n ∧ (prods n l).Nodup
/-- What the two loops hold: what has been collected. -/
structure Coll (n : Nat) (g out : List (List Int)) : Prop where
  sub : Sub n out
  nodup : (prods n out).Nodup
  mem : ∀ a ∈ out, a ∈ g
theorem Coll.nil {n : Nat} (g : List (List Int)) : Coll n g [] := ⟨Sub.nil n, by rw [prods_nil]; simp, fun _ h => by cases h⟩
theorem prods_in {n : Nat} {g l : List (List Int)} (hG : Grp n g) (h : ∀ a ∈ l, a ∈ g) : ∀ p ∈ prods n l, p ∈ g := by
 induction l using snoc_ind with
 | h0 => intro p hp; rw [prods_nil, List.mem_singleton] at hp; rw [hp]; exact hG.1
 | h1 l a ih =>
   intro p hp
   have ih := ih (fun a ha => h a (List.mem_append_left _ ha))
   rw [prods_snoc] at hp
   rcases List.mem_append.1 hp with hp | hp
   ·exact ih p hp
   ·obtain ⟨q, hq, rfl⟩ := List.mem_map.1 hp
    exact hG.2 a (h a (by simp)) q (ih q hq)
theorem Coll.iff {n : Nat} {g out : List (List Int)} {a : List Int} (h : Coll n g out) (hG : Grp n g) (hp : ∀ a ∈ g, Perm n a) (hr : ∀ k, 2 ^ k ≤ g.length → k ≤ n) (ha : a ∈ g) (hi : cmp a a = unit n) :
    (a ∉ prods n out ∧ ∀ b ∈ out, cmp a b = cmp b a) ↔ Indep n (out ++ [a]) := by
  refine h.sub.step h.nodup (hp a ha) hi (fun hnd hc => hr _ ?_)
  have h1 : ∀ x ∈ out ++ [a], x ∈ g := fun x hx => by
   rcases List.mem_append.1 hx with hx | hx
   ·exact h.mem x hx
   ·rw [List.mem_singleton.1 hx]; exact ha
  have h2 := hnd.length_le_of_subset (prods_in hG h1)
  rwa [prods_len, List.length_append, List.length_singleton] at h2
theorem Coll.snoc {n : Nat} {g out : List (List Int)} {a : List Int} (h : Coll n g out) (hp : ∀ a ∈ g, Perm n a) (ha : a ∈ g) (hi : cmp a a = unit n) (h1 : a ∉ prods n out) (h2 : ∀ b ∈ out, cmp a b = cmp b a) : Coll n g (out ++ [a]) :=
  ⟨h.sub.snoc (hp a ha) hi h2, (h.sub.nodup_snoc h.nodup (hp a ha) hi).2 h1, fun x hx => by
   rcases List.mem_append.1 hx with hx | hx
   ·exact h.mem x hx
   ·rw [List.mem_singleton.1 hx]; exact ha⟩
/-- Is it taken? -/
def Take (n : Nat) (out : List (List Int)) (a : List Int) : Prop := a ≠ unit n ∧ cmp a a = unit n ∧ a ∉ prods n out ∧ ∀ b ∈ out, cmp a b = cmp b a
instance (n : Nat) (out : List (List Int)) (a : List Int) : Decidable (Take n out a) := inferInstanceAs (Decidable (_ ∧ _ ∧ _ ∧ _))
def invs (n : Nat) (g : List (List Int)) : List (List Int) := g.foldl (fun out a => if Take n out a then out ++ [a] else out) []
theorem invs_snoc (n : Nat) (g : List (List Int)) (a : List Int) : invs n (g ++ [a]) = if Take n (invs n g) a then invs n g ++ [a] else invs n g := by unfold invs; rw [List.foldl_append]; rfl
theorem invs_coll {n : Nat} {g : List (List Int)} (hp : ∀ a ∈ g, Perm n a) : ∀ k, Coll n g (invs n (g.take k))
  | 0 => by simpa [invs] using Coll.nil g
  | k + 1 => by
    have ih := invs_coll hp k
    by_cases hk : k < g.length
    ·rw [List.take_succ_eq_append_getElem hk, invs_snoc]
     split
     ·rename_i h
      exact ih.snoc hp (List.getElem_mem _) h.2.1 h.2.2.1 h.2.2.2
     ·exact ih
    ·rw [List.take_of_length_le (by omega)]
     rw [List.take_of_length_le (by omega)] at ih
     exact ih
end Go.Pm
end
section
/- The reference's closure (a stack, a list in order); permutations that are made by inserting. Plain. -/
namespace Go.Pm
open Go.Gr
theorem Bfs.popr {n : Nat} {gs S Q : List (List Int)} {a : List Int} (h : Bfs n gs S (Q ++ [a])) : Mid n gs S Q a 0 :=
  ⟨h.nodup, h.gen, h.one, h.wait a (by simp), fun x hx => h.wait x (List.mem_append_left _ hx), fun x hx => by
   rcases h.done x hx with h1 | h1
   ·rcases List.mem_append.1 h1 with h1 | h1
    ·exact .inl h1
    ·exact .inr (.inl (List.mem_singleton.1 h1))
   ·exact .inr (.inr h1), fun g hg => by simp at hg⟩
theorem Mid.congr {n : Nat} {gs S S' Q : List (List Int)} {a : List Int} {j : Nat} (h : Mid n gs S Q a j) (hn : S'.Nodup) (hs : ∀ x, x ∈ S' ↔ x ∈ S) : Mid n gs S' Q a j :=
  ⟨hn, fun x hx => h.gen x ((hs x).1 hx), (hs _).2 h.one, (hs _).2 h.cur, fun x hx => (hs x).2 (h.wait x hx), fun x hx => by
   rcases h.done x ((hs x).1 hx) with h1 | h1 | h1
   ·exact .inl h1
   ·exact .inr (.inl h1)
   ·exact .inr (.inr fun g hg => (hs _).2 (h1 g hg)), fun g hg => (hs _).2 (h.part g hg)⟩
/-- A product that is new, put in its place. -/
theorem Mid.place {n : Nat} {gs S Q : List (List Int)} {a : List Int} {j m : Nat} (h : Mid n gs S Q a j) (hj : j < gs.length) (hA : Asc S) (hm : At S (cmp gs[j] a) m) (hn : cmp gs[j] a ∉ S) :
    Asc (S.take m ++ cmp gs[j] a :: S.drop m) ∧ Mid n gs (S.take m ++ cmp gs[j] a :: S.drop m) (Q ++ [cmp gs[j] a]) a (j + 1) := by
  have h1 := hm.insert hA hn
  exact ⟨h1, (h.new hj hn).congr h1.nodup fun x => by rw [ins_mem, List.mem_cons]⟩
theorem Mid.few {n : Nat} {gs S Q : List (List Int)} {a : List Int} {j : Nat} (h : Mid n gs S Q a j) (hn : n ≤ 6) (hg : ∀ g ∈ gs, Perm n g) : S.length ≤ 46656 := perm_few hn h.nodup fun x hx => (h.gen x hx).perm hg
theorem Bfs.few {n : Nat} {gs S Q : List (List Int)} (h : Bfs n gs S Q) (hn : n ≤ 6) (hg : ∀ g ∈ gs, Perm n g) : S.length ≤ 46656 := perm_few hn h.nodup fun x hx => (h.gen x hx).perm hg
theorem perm_zero : Perm 0 [] := ⟨rfl, ⟨fun x hx => absurd hx (by simp), List.nodup_nil⟩⟩
/-- One number more, at any place. -/
theorem perm_ins {i k : Nat} {out : List Int} (h : Perm i out) (hk : k ≤ i) : Perm (i + 1) (out.take k ++ (i : Int) :: out.drop k) := by
 have hm : ∀ x, x ∈ out.take k ++ (i : Int) :: out.drop k ↔ x = (i : Int) ∨ x ∈ out := fun x => by
  rw [List.mem_append, List.mem_cons]
  have e : x ∈ out ↔ x ∈ out.take k ∨ x ∈ out.drop k := by rw [← List.mem_append, List.take_append_drop]
  rw [e]
  constructor
  ·rintro (h | h | h)
   ·exact .inr (.inl h)
   ·exact .inl h
   ·exact .inr (.inr h)
  ·rintro (h | h | h)
   ·exact .inr (.inl h)
   ·exact .inl h
   ·exact .inr (.inr h)
 refine ⟨?_, fun x hx => ?_, ?_⟩
 ·rw [List.length_append, List.length_cons, List.length_take, List.length_drop, h.1]; omega
 ·rcases (hm x).1 hx with rfl | hx
  ·omega
  ·have := h.2.1 x hx; omega
 ·have hp : (out.take k ++ (i : Int) :: out.drop k).Perm ((i : Int) :: out) := by
   refine List.perm_middle.trans (List.Perm.cons _ ?_)
   rw [List.take_append_drop]
  refine hp.nodup_iff.2 (List.nodup_cons.2 ⟨fun hi => ?_, h.2.2⟩)
  have := h.2.1 _ hi
  omega
end Go.Pm
end
section
/- closure of group: the products of generators, as a set of keys. -/
namespace Go.Proofs.Tg.Gp
open Go.RowKit Go.Gr Go.Sp Go.Ev Go.Pm
set_option maxHeartbeats 4000000
set_option maxRecDepth 100000
theorem prow_info : (Tryz.prog.info? 22).map (fun i => (i.zero, i.size, i.bytes)) = some (some (.slice none 0 0), 1, 24) := by kernel_rfl
/-- A row of the call's own: its block, its numbers. -/
abbrev PRow := Nat × List Int
def cellP (n : Nat) (r : PRow) : Value := .slice (some ⟨r.1, 0, none⟩) n n
def RowsB (w : World) (rs : List PRow) : Prop := ∀ r ∈ rs, Blk w r.1 3 (iarr r.2)
theorem RowsB.keep {w w' : World} {rs : List PRow} (h : RowsB w rs) (hb : Below w.heap.size w w') : RowsB w' rs := fun r hr => (h r hr).keep hb (h r hr).lt
theorem RowsB.turn {w w' : World} {rs : List PRow} {mb : Nat} (h : RowsB w rs) (hm : MapB w mb) (hg : w.grownBy w' (some mb)) : RowsB w' rs := fun r hr => (h r hr).turn hm hg
theorem RowsB.grown {w w' : World} {rs : List PRow} {base : Nat} {v : Value} {xs : List Value} (h : RowsB w rs) (hq : Que w base 22 v xs) (hg : w.grownBy w' v.ownBlock) : RowsB w' rs := fun r hr => (h r hr).grown hg (hq.ne (h r hr) (by decide))
theorem RowsB.snoc {w : World} {rs : List PRow} {g : Nat} {l : List Int} (h : RowsB w rs) (hB : Blk w g 3 (iarr l)) : RowsB w (rs ++ [(g, l)]) := by
 intro r hr
 rcases List.mem_append.1 hr with hr | hr
 ·exact h r hr
 ·rw [List.mem_singleton.1 hr]; exact hB
theorem Que.turn {w w' : World} {base : Nat} {e : TypeId} {v : Value} {xs : List Value} {mb : Nat} (h : Que w base e v xs) (hm : MapB w mb) (hg : w.grownBy w' (some mb)) : Que w' base e v xs := by
 obtain ⟨g, o, cap, cur, h1, h2, h3, h4⟩ := h
 refine ⟨g, o, cap, cur, h1, h2, (hg.block g (Array.getElem?_eq_some_iff.1 h3).1 (fun e => ?_)).trans h3, h4⟩
 injection e with e
 subst e
 obtain ⟨es, ck, hh⟩ := hm
 rw [hh] at h3
 cases h3
/-- What the outer loop of closure holds. -/
structure ClSt (w : World) (n : Nat) (gs : List (List Int)) (wr : World) (mb : Nat) (S : List (List Int)) (rs : List PRow) (v : Value) : Prop where
  below : Below w.heap.size w wr
  bfs : Bfs n gs S (rs.map Prod.snd)
  set : SetM wr mb S.length n S
  low : w.heap.size ≤ mb
  que : Que wr w.heap.size 22 v (rs.map (cellP n))
  rows : RowsB wr rs
/-- .. and the inner one. -/
structure ClMid (w : World) (n : Nat) (gs : List (List Int)) (wr : World) (mb : Nat) (S : List (List Int)) (rs : List PRow) (v : Value) (ga : Nat) (a : List Int) (j : Nat) : Prop where
  below : Below w.heap.size w wr
  mid : Mid n gs S (rs.map Prod.snd) a j
  set : SetM wr mb S.length n S
  low : w.heap.size ≤ mb
  que : Que wr w.heap.size 22 v (rs.map (cellP n))
  rows : RowsB wr rs
  cur : Blk wr ga 3 (iarr a)
theorem gp_closure (G : Option Addr) (cG n : Nat) (gs : List (List Int)) (w : World) (hG : Lists w G gs) (hp : ∀ g ∈ gs, Perm n g) (hn : n ≤ 6) (hl : gs.length ≤ 1000000) :
    Calls Tryz.prog 75 #[.int .i64 n, .slice G gs.length cG] w fun e w' => ∃ mb S, e = .returned (.map (some mb)) ∧ IsGen n gs S ∧ SetM w' mb S.length n S ∧ w.heap.size ≤ mb ∧ Below w.heap.size w w' := by
  have HG := Lib.hid hG
  have HP := Lib.hid hp
  have HID := Lib.hid (fun V => identity_any n V hn)
  have HKY : Hid (∀ V g a, Blk V g 3 (iarr a) → a.length = n → Calls Tryz.prog 76 #[.slice (some ⟨g, 0, none⟩) n n] V fun e w' => e = .returned (keyV a) ∧ Below V.heap.size V w') := Lib.hid (fun V g a h ha => by
   have := keyOf_any (some ⟨g, 0, none⟩) n a V (ints_blk h ha hn) (by omega)
   rw [ha] at this
   exact this)
  clear hG hp
  obtain ⟨j0, hj0, hjz0, hjz1, hjz2⟩ := info_parts prow_info
  have hmm := @run_makeMap Tryz.prog
  go_enter Tryz.func75, Tryz.ntmps75
  go_upto_region 2 with (go_at_call 97; refine (HID.out _).mono ?_; rintro e w1 ⟨rfl, hG1, hb1⟩)
  have hM := SetM.made w1 n
  have hal := Below.alloc (Below.refl w1.heap.size w1) (Nat.le_refl _) (.map #[] 0)
  have hG1x := hG1.keep hal hG1.lt
  have hb1x := below_all hb1 hal
  have hlow := hb1.size
  have HUL : Hid ((unit n).length = n) := Lib.hid (unit_len n)
  have hUD := perm_dom hn (unit_perm n)
  have HBF := Lib.hid (Bfs.start n gs)
  generalize unit n = u at *
  go_wp2_with (go_at_call 76; refine (HKY.out _ _ _ hG1x HUL.out).mono ?_; rintro e w2 ⟨rfl, hb2⟩
               have hM2 := hM.below hb2 hM.lt
               have hm2 := hM2.mapB
               obtain ⟨w3, hrun, hS3, hg3⟩ := hM2.put hn (by omega) hUD (by simp))
  have hm2l := hM.lt
  have hb3 := bturn (below_all hb1x hb2) hm2 hg3 hlow
  have hG3 := (hG1x.keep hb2 hG1x.lt).turn hm2 hg3
  have hS4 := hS3
  have hal3 := Below.alloc (Below.refl w3.heap.size w3) (Nat.le_refl _) (.cells #[.slice (some ⟨w.heap.size, 0, none⟩) n n] 22)
  have hGq := hG3.alloc (.cells #[.slice (some ⟨w.heap.size, 0, none⟩) n n] 22)
  have hSq := hS4.below hal3 hS4.lt
  have hbq := hb3.alloc hb3.size (.cells #[.slice (some ⟨w.heap.size, 0, none⟩) n n] 22)
  have hQq : Que (w3.alloc (.cells #[.slice (some ⟨w.heap.size, 0, none⟩) n n] 22)) w.heap.size 22 (.slice (some ⟨w3.heap.size, 0, none⟩) 1 1) ([(w.heap.size, u)].map (cellP n)) := Que.of_blk (xs := [cellP n (w.heap.size, u)]) (Blk.new _ _ _) hb3.size (by simp [maxLen])
  clear hM hM2 hm2 hS3 hg3 hrun hal hG1 hG1x hb1x hb2 hb3 hG3 hS4 hal3 hUD hb1 HID
  generalize w3.alloc (.cells #[.slice (some ⟨w.heap.size, 0, none⟩) n n] 22) = W at *
  generalize w3.heap.size = gq at *
  generalize w1.heap.size = mb at *
  clear hmm
  go_loopg [7] 46656 (fun m s7 wr => ∃ (S : List (List Int)) (rs : List PRow), Hid (ClSt w n gs wr mb S rs s7) ∧ 46656 - S.length + rs.length ≤ m ∧ rs.length ≤ S.length)
  case atStart => exact ⟨[u], [(w.heap.size, u)], Lib.hid ⟨hbq, HBF.out, hSq, hlow, hQq, fun r hr => by rw [List.mem_singleton.1 hr]; exact hGq⟩, by simp, by simp⟩
  case round =>
   clear hbq hSq hQq hGq
   obtain ⟨wo, rfl⟩ : ∃ wo : World, wo = wr := ⟨_, rfl⟩
   obtain ⟨S, rs, HST, hm, hrs⟩ := hrel
   have hSl := HST.out.bfs.few hn HP.out
   cases rs with
   | nil =>
     obtain ⟨g, o, cap, cur, rfl, _⟩ := HST.out.que
     go_wp2
     go_ret
     exact ⟨mb, S, rfl, HST.out.bfs.fin, HST.out.set, hlow, HST.out.below⟩
   | cons r rs =>
     obtain ⟨gr, a⟩ := r
     obtain ⟨g, o, cap, rfl, hc, hcap⟩ := HST.out.que.head
     have hqt := HST.out.que.tail
     rw [List.length_map] at hqt
     have HMI := Lib.hid (HST.out.bfs.pop)
     have hra := HST.out.rows (gr, a) (by simp)
     have HMD : Hid (ClMid w n gs wo mb S rs (.slice (some ⟨g, o + 1, none⟩) rs.length (cap - 1)) gr a 0) := Lib.hid ⟨HST.out.below, HMI.out, HST.out.set, hlow, hqt, fun r hr => HST.out.rows r (List.mem_cons_of_mem _ hr), hra⟩
     rw [List.length_cons] at hm hrs
     have HR0 : Hid (cap = 1 → rs = [] ∧ ClMid w n gs wo mb S rs (.slice (some ⟨g, o, none⟩) 0 0) gr a 0) := Lib.hid (fun h1 => by
      obtain ⟨g', o', cap', cur, e1, e2, e3, e4, e5, e6, e7⟩ := HST.out.que
      injection e1 with e1 _ ec
      injection e1 with e1
      injection e1 with eg eo
      subst eg eo ec
      simp at e4
      have hr0 : rs = [] := List.eq_nil_of_length_eq_zero (by omega)
      subst hr0
      exact ⟨rfl, HST.out.below, HMI.out, HST.out.set, hlow, ⟨g, o, 0, cur, rfl, e2, e3, Nat.zero_le _, by simp [maxLen], by omega, fun j u hu => by simp at hu⟩, fun r hr => by simp at hr, hra⟩)
     clear hqt HMI hra
     have hcell : (cellP n (gr, a)) = .slice (some ⟨gr, 0, none⟩) n n := rfl
     rw [hcell] at hc
     clear hcell
     go_upto_region 6 with (fail)
     go_cut [7] (fun s7 wx => Hid (ClMid w n gs wx mb S rs s7 gr a 0))
     case first =>
      by_cases hc1 : cap = 1
      ·obtain ⟨h1, h2⟩ := HR0.out hc1
       subst hc1
       subst h1
       go_wp2
       go_meet
       exact Lib.hid h2
      ·have hcf : (cap = 1) = False := eq_false hc1
       go_wp2
       go_meet
       exact HMD
     case rest =>
      have HMD := hcut
      obtain ⟨wx, rfl⟩ : ∃ wx : World, wx = wc := ⟨_, rfl⟩
      clear hcut HR0 HST hc hcap
      go_wp2
      go_loopw [30, 7] (fun s30 s7 wr => ∃ (j : Nat) (S' : List (List Int)) (rs' : List PRow), s30 = .int .i64 j ∧ j ≤ gs.length ∧ Hid (ClMid w n gs wr mb S' rs' s7 gr a j) ∧ 46656 - S'.length + rs'.length < gk ∧ rs'.length + 1 ≤ S'.length) (fun s30 _ _ => gs.length - (intOf s30).toNat)
      case atStart => exact ⟨0, S, rs, rfl, Nat.zero_le _, HMD, by omega, hrs⟩
      case round =>
       clear HMD
       obtain ⟨wi, rfl⟩ : ∃ wi : World, wi = wr := ⟨_, rfl⟩
       obtain ⟨j, S2, rs2, rfl, hj, HMD, hm2, hrs2⟩ := hrel
       have hbi := HMD.out.below
       have hS2 := HMD.out.mid.few hn HP.out
       obtain ⟨gq2, o2, cap2, cur2, rfl, hq2⟩ := HMD.out.que
       rw [List.length_map] at *
       by_cases hjl : j < gs.length
       ·obtain ⟨ad, E, ce, rfl, hcg, hE⟩ := (HG.out.keep hbi).at hjl
        have hpg := HP.out gs[j] (List.getElem_mem _)
        have hpa : Perm n a := (HMD.out.mid.gen a HMD.out.mid.cur).perm HP.out
        have q0 : (0 : Int) ≤ (j : Int) := by omega
        have q1 : (j : Int) < (gs.length : Int) := by omega
        have q3 : ((j : Int)).toNat = j := by omega
        rw [hpg.1] at hcg
        have hia := ints_blk HMD.out.cur hpa.1 hn
        have HCP := Lib.hid (compose_any E (some ⟨gr, 0, none⟩) ce n n gs[j] a wi hE hia hpg hpa hn)
        have hpc := cmp_perm hpg hpa
        have hdc := perm_dom hn hpc
        clear hE hia
        by_cases hin : cmp gs[j] a ∈ S2
        ·have HO := Lib.hid (HMD.out.mid.old hjl hin)
         have hdec : decide (cmp gs[j] a ∈ S2) = true := decide_eq_true hin
         clear hin
         generalize cmp gs[j] a = b at *
         go_wp2_with (first
           | (go_at_call 98; refine HCP.out.mono ?_; rintro e w4 ⟨rfl, hG4, hb4⟩)
           | (go_at_call 76; refine (HKY.out _ _ _ hG4 hpc.1).mono ?_; rintro e w5 ⟨rfl, hb5⟩
              have hb45 := below_all hb4 hb5
              have hlook := (HMD.out.set.below hb45 HMD.out.set.lt).look hdc hdec))
         go_roundw
         case rel => exact ⟨j + 1, S2, rs2, by go_num, by omega, Lib.hid ⟨below_all hbi hb45, HO.out, HMD.out.set.below hb45 HMD.out.set.lt, hlow, HMD.out.que.below hb45, HMD.out.rows.keep hb45, HMD.out.cur.keep hb45 HMD.out.cur.lt⟩, hm2, hrs2⟩
         case measure => simp [intOf]; omega
        ·have HO := Lib.hid (HMD.out.mid.new hjl hin)
         have hdec : decide (cmp gs[j] a ∈ S2) = false := decide_eq_false hin
         have HNI := Lib.hid hin
         clear hin
         generalize cmp gs[j] a = b at *
         have hqlen : rs2.length ≤ 46656 := by omega
         go_wp2_with (first
           | (go_at_call 98; refine HCP.out.mono ?_; rintro e w4 ⟨rfl, hG4, hb4⟩)
           | (go_at_call 76
              first
                | (have hb45' := hb45
                   refine (HKY.out _ _ _ (hG4.keep hb5 hG4.lt) hpc.1).mono ?_; rintro e w6 ⟨rfl, hb6⟩
                   clear hlook
                   have hb46 := below_all hb45 hb6
                   have hM6 := HMD.out.set.below hb46 HMD.out.set.lt
                   have hm6 := hM6.mapB
                   obtain ⟨w7, hrun, hS7, hg7⟩ := hM6.put hn (by omega) hdc HNI.out)
                | (refine (HKY.out _ _ _ hG4 hpc.1).mono ?_; rintro e w5 ⟨rfl, hb5⟩
                   have hb45 := below_all hb4 hb5
                   have hlook := (HMD.out.set.below hb45 HMD.out.set.lt).look hdc hdec))
           | (at_builtin
              have hG7 := ((hG4.keep hb5 hG4.lt).keep hb6 (hG4.keep hb5 hG4.lt).lt).turn hm6 hg7
              have hQ7 := Que.turn (HMD.out.que.below hb46) hm6 hg7
              have hR7 := (HMD.out.rows.keep hb46).turn hm6 hg7
              have hC7 := (HMD.out.cur.keep hb46 HMD.out.cur.lt).turn hm6 hg7
              have hb7 := bturn (below_all hbi hb46) hm6 hg7 hlow
              have hal7 := Below.alloc (Below.refl w7.heap.size w7) (Nat.le_refl _) (.cells #[.slice (some ⟨wi.heap.size, 0, none⟩) n n] 22)
              refine wpList_que_append _ rfl _ _ 23 rfl w.heap.size 22 j0 (.slice none 0 0) 24 Tryz.underlying23 hj0 hjz0 hjz1 hjz2 rfl _ (rs2.map (cellP n)) rfl (hQ7.below hal7) ⟨w7.heap.size, 0, none⟩ 1 (.slice (some ⟨wi.heap.size, 0, none⟩) n n) rfl ((Blk.new w7 22 #[.slice (some ⟨wi.heap.size, 0, none⟩) n n]).cell 0) (by simp [Value.oneCell']) (by simp [maxLen]; omega) (by simp; omega) (by have := hb7.size; simp; omega) ?_
              intro v8 w8 hQ8 hg8 _ _))
         go_roundw
         case rel =>
          have hSx := hS7.below hal7 hS7.lt
          have hfew := HO.out.few hn HP.out
          rw [List.length_cons] at hfew
          refine ⟨j + 1, b :: S2, rs2 ++ [(wi.heap.size, b)], by go_num, by omega, Lib.hid ⟨?_, ?_, ?_, hlow, ?_, ?_, ?_⟩, by simp; omega, by simp; omega⟩
          ·exact (hb7.alloc hb7.size _).grown hg8 (by have := hb7.size; simp; omega) (fun q hq => by
            obtain ⟨g9, e9, h9, _⟩ := hQ7.blk
            have h10 := e9.symm.trans hq
            injection h10 with h10
            omega)
          ·rw [List.map_append]; exact HO.out
          ·refine hSx.grown hg8 (fun e => ?_)
           obtain ⟨es, ck, hh⟩ := hSx.mapB
           obtain ⟨g9, o9, cap9, cur9, e9, _, h9, _⟩ := hQ7.below hal7
           rw [e9] at e
           injection e with e
           subst e
           rw [h9] at hh
           cases hh
          ·rw [List.map_append]; exact hQ8
          ·exact ((hR7.keep hal7).grown (hQ7.below hal7) hg8).snoc ((hG7.alloc _).grown hg8 ((hQ7.below hal7).ne (hG7.alloc _) (by decide)))
          ·exact (hC7.alloc _).grown hg8 ((hQ7.below hal7).ne (hC7.alloc _) (by decide))
         case measure => simp [intOf]; omega
       ·obtain rfl : j = gs.length := by omega
        have HF := Lib.hid (HMD.out.mid.fin)
        have HFS : Hid (ClSt w n gs wi mb S2 rs2 (.slice (some ⟨gq2, o2, none⟩) rs2.length cap2)) := Lib.hid ⟨HMD.out.below, HF.out, HMD.out.set, hlow, HMD.out.que, HMD.out.rows⟩
        have dk : decide ((gs.length : Int) < (gs.length : Int)) = false := by simp
        go_wp2
        go_roundg (46656 - S2.length + rs2.length)
        case measure => omega
        case rel => exact ⟨S2, rs2, HFS, by omega, by omega⟩
end Go.Proofs.Tg.Gp
end
section
/- Queues: as slices; append at a step of a region that draws its order. -/
namespace Go.Proofs.Tg
open Go.RowKit Go.Gr
set_option maxHeartbeats 1000000
theorem Que.sl {w : World} {base : Nat} {e : TypeId} {v : Value} {xs : List Value} (h : Que w base e v xs) : ∃ ad c, v = .slice (some ad) xs.length c ∧ Sl w (some ad) xs.length 1 xs ∧ base ≤ ad.block ∧ ad.spot = none := by
 obtain ⟨g, o, cap, cur, h1, h2, h3, h4, h5, h6, h7⟩ := h
 refine ⟨⟨g, o, none⟩, cap, h1, ⟨by simp, fun _ => ⟨_, rfl, (Array.getElem?_eq_some_iff.1 h3).1, fun j u hu => ?_⟩⟩, h2, rfl⟩
 rw [add_lit, cell_of_row w g _ cur e _ h3]
 exact h7 j u hu
theorem spot_add {ad : Addr} (h : ad.spot = none) (k : Nat) : ad.add k = ⟨ad.block, ad.off + k, none⟩ := by
 obtain ⟨b, o, s⟩ := ad
 simp only at h
 subst h
 exact add_lit _ _ _
theorem Que.far {w : World} {base : Nat} {e : TypeId} {v : Value} {xs : List Value} (h : Que w base e v xs) {p : Addr} (hp : some p.block ≠ v.ownBlock) (u : Value) : Que (w.setCell p u) base e v xs := by
 obtain ⟨g, o, cap, cur, rfl, h2, h3, h4⟩ := h
 exact ⟨g, o, cap, cur, rfl, h2, (Below.heap_setCell _ _ _ _ (fun e => hp (by rw [← e]; rfl))).trans h3, h4⟩
section
variable {P : Program}
theorem step_que_append (w : World) {ops : Array Oper} {o : Oper} {a : Act} {K : Act → World → Prop} {Q : Exit → Act → World → Prop} {E : Prop} (hgd : o.guard = none) (s x : Operand) (t : TypeId)
    (ho : o.op = .call { callee := .builtin .append, args := #[s, x], argTypes := #[t, t] })
    (base : Nat) (e : TypeId) (i : TypeInfo) (z : Value) (bytes : Nat) (ht : P.underlying t = some (.slice e)) (hi : P.info? e = some i) (hz : i.zero = some z) (hsize : i.size = 1) (hby : i.bytes = bytes) (hzs : z.cells.size = 1)
    (v : Value) (xs : List Value) (hs : a.eval s = v) (hq : Que w base e v xs) (ad : Addr) (c : Nat) (u : Value) (hx : a.eval x = .slice (some ad) 1 c) (hu : w.cell? ad = some u) (h1 : u.oneCell' = true) (h63 : xs.length + 1 ≤ maxLen) (hbytes : (xs.length + 1) * bytes ≤ 140737488355328) (hbase : base ≤ w.heap.size)
    (h : ∀ v' w', Que w' base e v' (xs ++ [u]) → w.grownBy w' v.ownBlock → (v'.ownBlock = v.ownBlock ∨ v'.ownBlock = some w.heap.size) → (∀ ad n c, v = .slice (some ad) n c → ((∃ n' c', v' = .slice (some ad) n' c') ∨ v'.ownBlock = some w.heap.size) ∧ ∀ q, q < ad.off + xs.length → w'.cell? ⟨ad.block, q, none⟩ = w.cell? ⟨ad.block, q, none⟩) → K (a.put o.dst v') w') :
    if Region.wanted o (yielded ops a.tmps) = true then Oper.wp P o a w K Q else E := by
  have hw : Region.wanted o (yielded ops a.tmps) = true := by simp [Region.wanted, hgd]
  rw [if_pos hw]
  obtain ⟨v', w', hr, h2, h3, h4, h5⟩ := run_que_append (P := P) w base t o.type e i z bytes ht hi hz hsize hby hzs v xs hq ad c u hu h1 h63 hbytes hbase
  unfold Oper.wp execOp
  simp only [ho, resolve, invoke, builtin, Sem.run_bind, Sem.run_pure, Result.andThen_ok, List.map_toArray, List.map_cons, List.map_nil, hs, hx, hr]
  exact h v' w' h2 h3 h4 h5
end
end Go.Proofs.Tg
namespace Go.Proofs.Tg.Gp
open Go.RowKit Go.Gr Go.Pm
theorem lists_rows {w : World} {n : Nat} {A : Option Addr} {rs : List PRow} (hS : Sl w A rs.length 1 (rs.map (cellP n))) (hR : RowsB w rs) (hn : n ≤ 6) (hl : ∀ r ∈ rs, r.2.length = n) : Lists w A (rs.map Prod.snd) := by
 refine ⟨fun i => (some ⟨(rs.getD i (0, [])).1, 0, none⟩, n), ?_, fun i hi => ?_⟩
 ·have e : (List.range (rs.map Prod.snd).length).map (fun i => Value.slice (some ⟨(rs.getD i (0, [])).1, 0, none⟩) ((rs.map Prod.snd).getD i []).length n) = rs.map (cellP n) := by
   refine List.ext_getElem (by simp) fun i h1 h2 => ?_
   have hi : i < rs.length := by simpa using h2
   simp [hi, cellP, hl rs[i] (List.getElem_mem _)]
  rw [e, List.length_map]
  exact hS
 ·have hi' : i < rs.length := by simpa using hi
  have e1 : rs.getD i (0, []) = rs[i] := by simp [hi']
  have e2 : (rs.map Prod.snd).getD i [] = rs[i].2 := by simp [hi']
  simp only [e1, e2]
  exact ints_blk (hR rs[i] (List.getElem_mem _)) (hl rs[i] (List.getElem_mem _)) hn
end Go.Proofs.Tg.Gp
end
section
/- The program's subsets: newSubsets. -/
namespace Go.Proofs.Tg.Bk
open Go.RowKit Go.Gr Go.Sp Go.Ev Go.Pm
open Go.Proofs.Tg.Gp (PRow cellP RowsB ints_blk take_all_fill prow_info)
set_option maxHeartbeats 4000000
set_option maxRecDepth 100000
/-- A value of type subsets in memory: the products, the set of their keys. -/
structure SubAt (wr : World) (base n : Nat) (P : List (List Int)) (gs mb : Nat) (v : Value) (rs : List PRow) (S : List (List Int)) : Prop where
  box : Blk wr gs 66 #[v, .map (some mb)]
  que : Que wr base 22 v (rs.map (cellP n))
  rows : RowsB wr rs
  eq : rs.map Prod.snd = P
  set : SetM wr mb S.length n S
  mem : ∀ x, x ∈ S ↔ x ∈ P
  slen : S.length ≤ rs.length
  lows : base ≤ gs
  lowm : base ≤ mb
theorem SubAt.keep {wr wz : World} {base n gs mb : Nat} {P S : List (List Int)} {v : Value} {rs : List PRow} (h : SubAt wr base n P gs mb v rs S) (hb : Below wr.heap.size wr wz) : SubAt wz base n P gs mb v rs S :=
  ⟨h.box.keep hb h.box.lt, h.que.below hb, h.rows.keep hb, h.eq, h.set.below hb h.set.lt, h.mem, h.slen, h.lows, h.lowm⟩
theorem newsubs_any (n : Nat) (w : World) (hn : n ≤ 6) :
    Calls Tryz.prog 32 #[.int .i64 n] w fun e w' => ∃ gs mb v rs S, e = .returned (.pointer (some ⟨gs, 0, none⟩)) ∧ SubAt w' w.heap.size n (prods n []) gs mb v rs S ∧ Below w.heap.size w w' := by
  have HSL : Hid ((unit n).length = n) := Lib.hid (unit_len n)
  have HSA : Hid (∀ k (h : k < (unit n).length), (unit n)[k] = (k : Int)) := Lib.hid (fun k h => by simp [unit])
  have HUD := Lib.hid (perm_dom hn (unit_perm n))
  have hmk := fun W => make_ints n n (Nat.le_refl _) (by omega) W
  rw [prods_nil]
  generalize unit n = s at *
  go_enter Tryz.func32, Tryz.ntmps32
  go_wp2
  clear hmk
  go_loopw [9] (fun i wr => ∃ k : Nat, k ≤ n ∧ i = .int .i64 k ∧ Blk wr w.heap.size 3 (iarr (s.take k ++ List.replicate (n - k) 0)) ∧ Below w.heap.size w wr) (fun i _ => n - (intOf i).toNat)
  case atStart =>
   refine ⟨0, Nat.zero_le _, rfl, ?_, (Below.refl _ _).alloc (Nat.le_refl _) _⟩
   have e : iarr (s.take 0 ++ List.replicate (n - 0) 0) = madeCells #[.int .i64 0] n := (iarr_made n).symm
   rw [e]
   exact Blk.new w 3 _
  case round =>
   obtain ⟨wo, rfl⟩ : ∃ wo : World, wo = wr := ⟨_, rfl⟩
   obtain ⟨k, hk, rfl, B0, hbw⟩ := hrel
   by_cases hlt : k < n
   ·have hl2 : (s.take k ++ List.replicate (n - k) 0).length = n := by
     have := HSL.out
     rw [List.length_append, List.length_take, List.length_replicate]; omega
    have HST : Hid ((s.take k ++ List.replicate (n - k) 0).set k (k : Int) = s.take (k + 1) ++ List.replicate (n - (k + 1)) 0) := Lib.hid (fill_set _ k _ _ HSL.out hlt (HSA.out k (by rw [HSL.out]; exact hlt)))
    have c0 := B0.cell k
    have f0 := B0.frozen k
    rw [iarr_at _ (by rw [hl2]; exact hlt)] at c0
    generalize (s.take k ++ List.replicate (n - k) 0)[k]'(by rw [hl2]; exact hlt) = old at c0
    have HB0 := Lib.hid B0
    have q0 : (0 : Int) ≤ (k : Int) := by omega
    have q1 : (k : Int) < (n : Int) := by omega
    have q3 : ((k : Int)).toNat = k := by omega
    clear B0 hl2
    go_wp2
    go_roundw
    case rel =>
     refine ⟨k + 1, by omega, by go_num, ?_, below_far hbw (Nat.le_refl _) _ _⟩
     have := HB0.out.set k (.int .i64 (k : Int))
     rw [iarr_set, HST.out] at this
     exact this
    case measure => simp [intOf]; omega
   ·obtain rfl : k = n := by omega
    rw [take_all_fill HSL.out] at B0
    have dk : decide ((k : Int) < (k : Int)) = false := by simp
    have hmm := @run_makeMap Tryz.prog
    -- the slice of the one product, then the map
    have hal1 := Below.alloc (Below.refl wo.heap.size wo) (Nat.le_refl _) (.cells #[.slice (some ⟨w.heap.size, 0, none⟩) k k] 22)
    have hQ1 := Que.of_blk (base := w.heap.size) (xs := [cellP k (w.heap.size, s)]) (Blk.new wo 22 #[.slice (some ⟨w.heap.size, 0, none⟩) k k]) hbw.size (by simp [maxLen])
    have hG1 := B0.keep hal1 B0.lt
    have hb1 := below_all hbw hal1
    have hM := SetM.made (wo.alloc (.cells #[.slice (some ⟨w.heap.size, 0, none⟩) k k] 22)) k
    have hal2 := Below.alloc (Below.refl (wo.alloc (.cells #[.slice (some ⟨w.heap.size, 0, none⟩) k k] 22)).heap.size (wo.alloc (.cells #[.slice (some ⟨w.heap.size, 0, none⟩) k k] 22))) (Nat.le_refl _) (.map #[] 0)
    have hQ2 := hQ1.below hal2
    have hG2 := hG1.keep hal2 hG1.lt
    have hb2 := below_all hb1 hal2
    have HKY : Hid (∀ V, Blk V w.heap.size 3 (iarr s) → Calls Tryz.prog 60 #[.slice (some ⟨w.heap.size, 0, none⟩) k k] V fun e w' => e = .returned (keyV s) ∧ Below V.heap.size V w') := Lib.hid (fun V h => by
     have := keyOf_any (some ⟨w.heap.size, 0, none⟩) k s V (ints_blk h HSL.out hn) (by have := HSL.out; omega)
     rw [HSL.out] at this
     exact this)
    have hlow := hb1.size
    have hmE : (wo.alloc (.cells #[.slice (some ⟨w.heap.size, 0, none⟩) k k] 22)).heap.size = wo.heap.size + 1 := by simp
    rw [hmE] at hM hlow
    clear hal1 hal2 hQ1 hG1 hb1 hmE
    go_wp2_with (go_at_call 60; refine (HKY.out _ hG2).mono ?_; rintro e w3 ⟨rfl, hb3⟩
                 have hM3 := hM.below hb3 hM.lt
                 have hm3 := hM3.mapB
                 obtain ⟨w4, hrun, hS4, hg4⟩ := hM3.put hn (by omega) HUD.out (by simp))
    have hb4 := bturn (below_all hb2 hb3) hm3 hg4 hlow
    have hG4 := (hG2.keep hb3 hG2.lt).turn hm3 hg4
    have hQ4 := Gp.Que.turn (hQ2.below hb3) hm3 hg4
    go_ret
    have hal5 := Below.alloc (Below.refl w4.heap.size w4) (Nat.le_refl _) (.cells #[.slice (some ⟨wo.heap.size, 0, none⟩) 1 1, .map (some (wo.heap.size + 1))] 66)
    exact ⟨w4.heap.size, wo.heap.size + 1, .slice (some ⟨wo.heap.size, 0, none⟩) 1 1, [(w.heap.size, s)], [s], rfl,
      ⟨Blk.new _ _ _, hQ4.below hal5, fun r hr => by rw [List.mem_singleton.1 hr]; exact hG4.keep hal5 hG4.lt, rfl, hS4.below hal5 hS4.lt, fun x => Iff.rfl, Nat.le_refl _, hb4.size, hlow⟩, hb4.alloc hb4.size _⟩
end Go.Proofs.Tg.Bk
end
