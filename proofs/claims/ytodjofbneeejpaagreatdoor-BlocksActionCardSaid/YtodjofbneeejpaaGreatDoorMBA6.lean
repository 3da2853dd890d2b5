/- Parts of the proof: SM4, SM5, BG1, WG1, BG9, WG3. -/
import Derived.Maps.OwnOps
import Derived.DeepKeys4
import Derived.Test.YtodjofbneeejpaaGreatDoorMBA2
import Derived.Test.YtodjofbneeejpaaGreatDoorMBA3
import Derived.Test.YtodjofbneeejpaaGreatDoorMBA4
import Derived.Test.YtodjofbneeejpaaGreatDoorMBA5
section
/- What stays where a map's block alone has turned. -/
namespace Go.Proofs.Tg
open Go.RowKit Go.Maps
/-- Block b is a map's. -/
def MapB (w : World) (b : Nat) : Prop := ∃ es clock, w.heap[b]? = some (.map es clock)
theorem mapB_own {w : World} {P : Program} {k : TypeId} {R : Value → Option (DataW Unit × List MemPlace)} {b n : Nat} {D : DataW Unit} (h : w.ownsMap P k R b n D) : MapB w b := by
  obtain ⟨es, clock, hb, _⟩ := h
  exact ⟨es, clock, hb⟩
theorem MapB.lt {w : World} {b : Nat} (h : MapB w b) : b < w.heap.size := by
  obtain ⟨es, clock, hb⟩ := h
  exact (Array.getElem?_eq_some_iff.1 hb).1
theorem cell_map {w : World} {b : Nat} (h : MapB w b) {p : Addr} (hp : p.block = b) : w.cell? p = none := by
  obtain ⟨es, clock, hb⟩ := h
  unfold World.cell?
  rw [hp, hb]
theorem cell_turn {w w' : World} {b : Nat} (hm : MapB w b) (hg : w.grownBy w' (some b)) {p : Addr} {v : Value} (h : w.cell? p = some v) : w'.cell? p = some v := by
  have hne : p.block ≠ b := fun e => by rw [cell_map hm e] at h; cases h
  have hl := World.block_lt_of_cell? w p h
  have := hg.block p.block hl (by simp; exact hne)
  unfold World.cell? at h ⊢
  rw [this]
  exact h
theorem Sl.turn {w w' : World} {b : Nat} {A : Option Addr} {n sz : Nat} {xs : List Value} (h : Sl w A n sz xs) (hm : MapB w b) (hg : w.grownBy w' (some b)) : Sl w' A n sz xs :=
  ⟨h.len, fun hn => by
    obtain ⟨ad, e, hl, ha⟩ := h.lies hn
    exact ⟨ad, e, Nat.lt_of_lt_of_le hl hg.size, fun j u hu => cell_turn hm hg (ha j u hu)⟩⟩
theorem Lists.turn {w w' : World} {b : Nat} {V : Option Addr} {ls : List (List Int)} (h : Lists w V ls) (hm : MapB w b) (hg : w.grownBy w' (some b)) : Lists w' V ls := by
  obtain ⟨f, hs, hr⟩ := h
  exact ⟨f, hs.turn hm hg, fun i hi => (hr i hi).turn hm hg⟩
theorem TermsAt.turn {w w' : World} {b : Nat} {T : Option Addr} {tv : List TV} (h : TermsAt w T tv) (hm : MapB w b) (hg : w.grownBy w' (some b)) : TermsAt w' T tv :=
  ⟨h.sl.turn hm hg, fun t ht => (h.ints t ht).turn hm hg⟩
theorem Blk.turn {w w' : World} {b g : Nat} {t : TypeId} {cs : Array Value} (h : Blk w g t cs) (hm : MapB w b) (hg : w.grownBy w' (some b)) : Blk w' g t cs := by
  refine (hg.block g h.lt ?_).trans h
  intro e
  obtain ⟨es, clock, hb⟩ := hm
  have : g = b := by simpa using e
  subst this
  unfold Blk at h
  rw [hb] at h
  cases h
theorem MapB.turn {w' : World} {b : Nat} {P : Program} {k : TypeId} {R : Value → Option (DataW Unit × List MemPlace)} {n : Nat} {D : DataW Unit} (h : w'.ownsMap P k R b n D) : MapB w' b := mapB_own h
end Go.Proofs.Tg
end
section
/- A map to bools as a set whose size is known. -/
namespace Go.Proofs.Tg
open Go.RowKit Go.Maps Go.WideShapes
/-- The map holds true at just the keys of the list, has no other key, and as many as the list is long. -/
structure SetN {α : Type} [DecidableEq α] (kl : α → Lit) (dom : α → Prop) (S : List α) (D : DataW Unit) : Prop where
  tidy : Maps.Tidy D
  at' : ∀ v, dom v → D.atKey (kl v) (.lit (.bool false)) = .lit (.bool (decide (v ∈ S)))
  has : ∀ v, dom v → Maps.has D (kl v) = decide (v ∈ S)
  size : Maps.size D = S.length
theorem SetN.nil {α : Type} [DecidableEq α] (kl : α → Lit) (dom : α → Prop) : SetN kl dom [] (.map []) := ⟨Maps.tidy_empty, fun v _ => by simp [DataW.atKey], fun v _ => by simp [Maps.has], rfl⟩
theorem SetN.put {α : Type} [DecidableEq α] {kl : α → Lit} {dom : α → Prop} {S : List α} {D : DataW Unit} (h : SetN kl dom S D) (hk : ∀ v, dom v → WideAt.IsKeyLit (kl v)) (hi : ∀ u v, dom u → dom v → kl u = kl v → u = v) {x : α} (hx : dom x) (hn : x ∉ S) :
    SetN kl dom (x :: S) (D.put (kl x) (.lit (.bool true))) := by
  refine ⟨h.tidy.put (hk x hx) _, fun v hv => ?_, fun v hv => ?_, ?_⟩
  · by_cases he : v = x
    · subst he
      rw [Maps.atKey_put_same h.tidy.isMap (hk v hv)]
      simp
    · rw [Maps.atKey_put_other (fun e => he (hi v x hv hx e)), h.at' v hv]
      simp [he]
  · by_cases he : v = x
    · subst he
      rw [Maps.has_put_same h.tidy.isMap (hk v hv)]
      simp
    · rw [Maps.has_put_other (fun e => he (hi v x hv hx e)), h.has v hv]
      simp [he]
  · rw [Maps.size_put h.tidy, h.has x hx, h.size]
    simp [hn]
end Go.Proofs.Tg
end
section
/- Permutations as lists of numbers: products, the identity. Plain. -/
namespace Go.Pm
/-- A permutation of n variables. -/
def Perm (n : Nat) (a : List Int) : Prop := a.length = n ∧ (∀ x ∈ a, 0 ≤ x ∧ x < n) ∧ a.Nodup
instance (n : Nat) (a : List Int) : Decidable (Perm n a) := inferInstanceAs (Decidable (_ ∧ _ ∧ _))
def unit (n : Nat) : List Int := (List.range n).map fun i : Nat => (i : Int)
def cmp (a b : List Int) : List Int := b.map fun x => a.getD x.toNat 0
theorem unit_len (n : Nat) : (unit n).length = n := by simp [unit]
theorem cmp_len (a b : List Int) : (cmp a b).length = b.length := by simp [cmp]
theorem unit_get {n i : Nat} (h : i < n) : (unit n).getD i 0 = (i : Int) := by simp [unit, h]
theorem unit_perm (n : Nat) : Perm n (unit n) := by
  refine ⟨unit_len n, fun x hx => ?_, ?_⟩
  · obtain ⟨i, hi, rfl⟩ := List.mem_map.1 hx
    have := List.mem_range.1 hi
    exact ⟨Int.natCast_nonneg _, by exact_mod_cast this⟩
  · refine List.Pairwise.map _ (fun a b (h : a < b) => ?_) (List.pairwise_lt_range)
    intro e
    have : a = b := by exact_mod_cast e
    omega
theorem cmp_get (a b : List Int) {i : Nat} (h : i < b.length) : (cmp a b).getD i 0 = a.getD (b.getD i 0).toNat 0 := by simp [cmp, h]
theorem perm_get {n : Nat} {a : List Int} (h : Perm n a) {i : Nat} (hi : i < n) : 0 ≤ a.getD i 0 ∧ a.getD i 0 < n := by
  have hl : i < a.length := by rw [h.1]; exact hi
  rw [show a.getD i 0 = a[i] by simp [hl]]
  exact h.2.1 _ (List.getElem_mem _)
theorem perm_inj {n : Nat} {a : List Int} (h : Perm n a) {i j : Nat} (hi : i < n) (hj : j < n) (he : a.getD i 0 = a.getD j 0) : i = j := by
  have h1 : i < a.length := by rw [h.1]; exact hi
  have h2 : j < a.length := by rw [h.1]; exact hj
  rw [show a.getD i 0 = a[i] by simp [h1], show a.getD j 0 = a[j] by simp [h2]] at he
  apply Classical.byContradiction
  intro hne
  rcases Nat.lt_or_gt_of_ne hne with hlt | hlt
  · exact List.pairwise_iff_getElem.1 h.2.2 i j h1 h2 hlt he
  · exact List.pairwise_iff_getElem.1 h.2.2 j i h2 h1 hlt he.symm
theorem ext_get {a b : List Int} (hl : a.length = b.length) (h : ∀ i, i < a.length → a.getD i 0 = b.getD i 0) : a = b := by
  refine List.ext_getElem hl fun i h1 h2 => ?_
  have := h i h1
  simpa [h1, h2] using this
theorem cmp_perm {n : Nat} {a b : List Int} (ha : Perm n a) (hb : Perm n b) : Perm n (cmp a b) := by
  refine ⟨by rw [cmp_len, hb.1], fun x hx => ?_, ?_⟩
  · obtain ⟨y, hy, rfl⟩ := List.mem_map.1 hx
    have := hb.2.1 y hy
    exact perm_get ha (by omega)
  · refine List.pairwise_map.2 (hb.2.2.imp_of_mem fun {x y} hx hy hne he => ?_)
    have h1 := hb.2.1 x hx
    have h2 := hb.2.1 y hy
    have := perm_inj ha (by omega) (by omega) he
    omega
theorem unit_cmp {n : Nat} {b : List Int} (hb : Perm n b) : cmp (unit n) b = b := by
  refine ext_get (by rw [cmp_len]) fun i hi => ?_
  rw [cmp_len, hb.1] at hi
  rw [cmp_get _ _ (by rw [hb.1]; exact hi)]
  have := perm_get hb hi
  rw [unit_get (by omega)]
  omega
theorem cmp_unit {n : Nat} {a : List Int} (ha : a.length = n) : cmp a (unit n) = a := by
  refine ext_get (by rw [cmp_len, unit_len, ha]) fun i hi => ?_
  rw [cmp_len, unit_len] at hi
  rw [cmp_get _ _ (by rw [unit_len]; exact hi), unit_get hi]
  rfl
theorem cmp_assoc {n : Nat} {a b c : List Int} (hb : b.length = n) (hc : Perm n c) : cmp (cmp a b) c = cmp a (cmp b c) := by
  refine ext_get (by rw [cmp_len, cmp_len, cmp_len]) fun i hi => ?_
  rw [cmp_len, hc.1] at hi
  have h1 := perm_get hc hi
  rw [cmp_get _ _ (by rw [hc.1]; exact hi), cmp_get _ _ (by omega), cmp_get a _ (by rw [cmp_len, hc.1]; exact hi), cmp_get _ _ (by rw [hc.1]; exact hi)]
theorem cmp_inj {n : Nat} {a b c : List Int} (ha : Perm n a) (hb : Perm n b) (hc : Perm n c) (h : cmp a b = cmp a c) : b = c := by
  refine ext_get (by rw [hb.1, hc.1]) fun i hi => ?_
  rw [hb.1] at hi
  have h1 : (cmp a b).getD i 0 = (cmp a c).getD i 0 := by rw [h]
  rw [cmp_get _ _ (by rw [hb.1]; exact hi), cmp_get _ _ (by rw [hc.1]; exact hi)] at h1
  have h2 := perm_get hb hi
  have h3 := perm_get hc hi
  have := perm_inj ha (by omega) (by omega) h1
  omega
/-- What is below the identity is no permutation. -/
theorem unit_least {n : Nat} {a : List Int} (ha : Perm n a) (hne : a ≠ unit n) : Go.Gr.cmpL (unit n) a < 0 := by
  -- from place k on: the values below k stand ahead
  have key : ∀ m k : Nat, m = n - k → k ≤ n → (∀ i, i < k → a.getD i 0 = i) → a.drop k ≠ (unit n).drop k → Go.Gr.cmpL ((unit n).drop k) (a.drop k) < 0 := by
    intro m
    induction m with
    | zero =>
      intro k hm hk _ hne
      exfalso
      apply hne
      rw [List.drop_eq_nil_of_le (by rw [ha.1]; omega), List.drop_eq_nil_of_le (by rw [unit_len]; omega)]
    | succ m ih =>
      intro k hm hk hlow hne
      have hkn : k < n := by omega
      have h1 : (unit n).drop k = (k : Int) :: (unit n).drop (k + 1) := by
        rw [List.drop_eq_getElem_cons (by rw [unit_len]; exact hkn)]
        simp [unit]
      have hka : k < a.length := by rw [ha.1]; exact hkn
      have h2 : a.drop k = a.getD k 0 :: a.drop (k + 1) := by
        rw [List.drop_eq_getElem_cons hka]
        simp [hka]
      rw [h1, h2] at hne ⊢
      have hge : (k : Int) ≤ a.getD k 0 := by
        apply Int.not_lt.1
        intro hlt
        have hp := perm_get ha hkn
        have h3 := hlow (a.getD k 0).toNat (by omega)
        have h4 : ((a.getD k 0).toNat : Int) = a.getD k 0 := by omega
        rw [h4] at h3
        have := perm_inj ha (by omega) hkn h3
        omega
      unfold Go.Gr.cmpL
      by_cases hlt : (k : Int) < a.getD k 0
      · rw [if_pos hlt]; omega
      · rw [if_neg hlt, if_neg (by omega)]
        have he : a.getD k 0 = (k : Int) := by omega
        refine ih (k + 1) (by omega) (by omega) (fun i hi => ?_) (fun e => hne (by rw [e, he]))
        by_cases hik : i = k
        · rw [hik, he]
        · exact hlow i (by omega)
  have := key n 0 (by omega) (by omega) (fun i hi => by omega) (by simpa using hne)
  simpa using this
end Go.Pm
end
section
/- Keys of permutations and sets of keys, of the package group (printed by wip/tools/mk_keys.py). -/
namespace Go.Proofs.Tg.Gp
open Go.RowKit Go.Gr Go.Sp Go.Ev Go.Maps Go.WideShapes Go.Pm
set_option maxHeartbeats 4000000
set_option maxRecDepth 100000
theorem six {w : World} {g : Nat} {t : TypeId} {a0 a1 a2 a3 a4 a5 : Value} (h : Blk w g t #[a0, a1, a2, a3, a4, a5]) :
    (w.cell? ⟨g, 0, none⟩ = some a0 ∧ w.cell? ⟨g, 1, none⟩ = some a1 ∧ w.cell? ⟨g, 2, none⟩ = some a2 ∧ w.cell? ⟨g, 3, none⟩ = some a3 ∧ w.cell? ⟨g, 4, none⟩ = some a4 ∧ w.cell? ⟨g, 5, none⟩ = some a5) ∧
    (w.frozen? ⟨g, 0, none⟩ = false ∧ w.frozen? ⟨g, 1, none⟩ = false ∧ w.frozen? ⟨g, 2, none⟩ = false ∧ w.frozen? ⟨g, 3, none⟩ = false ∧ w.frozen? ⟨g, 4, none⟩ = false ∧ w.frozen? ⟨g, 5, none⟩ = false) :=
  ⟨⟨h.cell 0, h.cell 1, h.cell 2, h.cell 3, h.cell 4, h.cell 5⟩, h.frozen 0, h.frozen 1, h.frozen 2, h.frozen 3, h.frozen 4, h.frozen 5⟩
theorem below6 {w w' : World} {B g : Nat} (h : Below B w w') (hg : B ≤ g) (a0 a1 a2 a3 a4 a5 : Value) :
    Below B w ((((((w'.setCell ⟨g, 0, none⟩ a0).setCell ⟨g, 1, none⟩ a1).setCell ⟨g, 2, none⟩ a2).setCell ⟨g, 3, none⟩ a3).setCell ⟨g, 4, none⟩ a4).setCell ⟨g, 5, none⟩ a5) :=
  below_far (below_far (below_far (below_far (below_far (below_far h hg _ _) hg _ _) hg _ _) hg _ _) hg _ _) hg _ _
/-- The value of a key. -/
def keyV (el : List Int) : Value := .agg ((kv el).map vi).toArray
def z6 : Array Value := #[.int .i64 0, .int .i64 0, .int .i64 0, .int .i64 0, .int .i64 0, .int .i64 0]
theorem keyV_eq (el : List Int) : keyV el = .agg #[.int .i64 (el.getD 0 0), .int .i64 (el.getD 1 0), .int .i64 (el.getD 2 0), .int .i64 (el.getD 3 0), .int .i64 (el.getD 4 0), .int .i64 (el.getD 5 0)] := rfl
theorem keyOf_any (A : Option Addr) (c : Nat) (el : List Int) (w : World) (hA : Ints w A el) (hl : el.length ≤ 6) :
    Calls Tryz.prog 76 #[.slice A el.length c] w fun e w' => e = .returned (keyV el) ∧ Below w.heap.size w w' := by
  have HK := Lib.hid (keyV_eq el)
  generalize keyV el = kk at *
  obtain ⟨W, hW⟩ : ∃ W, (w.alloc (.cells z6 117)).alloc (.cells z6 117) = W := ⟨_, rfl⟩
  have B2 : Blk W w.heap.size 117 z6 := by rw [← hW]; exact (Blk.new _ _ _).alloc _
  have B3 : Blk W (w.heap.size + 1) 117 z6 := by rw [← hW]; have := Blk.new (w.alloc (.cells z6 117)) 117 z6; simpa using this
  have hbW : Below w.heap.size w W := by rw [← hW]; exact ((Below.refl _ _).alloc (Nat.le_refl _) _).alloc (by simp) _
  have hAW := Sl.keep hA hbW
  have HWW := Lib.hid hW
  clear hW hA
  go_enter Tryz.func76, Tryz.ntmps76
  go_upto_region 2 with (fail)
  have hh := HWW.out
  unfold z6 at hh
  rw [hh]
  clear hh
  go_wp2_with (first
    | (refine wpList_copy6 rfl _ _ rfl (w.heap.size + 1) 117 A c el [] rfl rfl hAW hl B3 ?_
       intro W' E3 hbut
       have E2 := hbut.blk _ _ _ (by omega) B2
       have hb' := hbut.below _ _ hbW (by omega)
       obtain ⟨⟨a0, a1, a2, a3, a4, a5⟩, f0, f1, f2, f3, f4, f5⟩ := six E2
       obtain ⟨⟨j0, j1, j2, j3, j4, j5⟩, k0, k1, k2, k3, k4, k5⟩ := six E3
       have hz := E2.lt
       clear B2 B3 E2 E3 hbut hAW
       generalize el.getD 0 0 = v0 at *
       generalize el.getD 1 0 = v1 at *
       generalize el.getD 2 0 = v2 at *
       generalize el.getD 3 0 = v3 at *
       generalize el.getD 4 0 = v4 at *
       generalize el.getD 5 0 = v5 at *))
  refine bodyPost_ret (v := .agg #[.int .i64 v0, .int .i64 v1, .int .i64 v2, .int .i64 v3, .int .i64 v4, .int .i64 v5]) (by simp [results, Tryz.results76, go_sem, a0, a1, a2, a3, a4, a5]) rfl ⟨by rw [HK.out], ?_⟩
  exact below6 hb' (by omega) _ _ _ _ _ _
theorem laidOut : laidOutB Tryz.prog = true := by kernel_rfl
theorem keyLaw : Keyed Tryz.prog 117 :=
  Keyed.of_law (deep_law_laid laidOut (m := 6) (by decide) (of_decide_eq_true (by kernel_rfl)) (by kernel_rfl) (by kernel_rfl))
theorem key_read {n : Nat} {el : List Int} (h : domK n 48 el) : keyOf Tryz.prog 117 (keyV el) = some (kl6 (kv el)) :=
  keyOf_six (I := 3) (s := Tryz.prog.types.size - 1) Tryz.underlying117 Tryz.underlying3 (by kernel_rfl) (by kernel_rfl) (by kernel_rfl) (by kernel_rfl) (kv el) (kv_len el) (kv_dom h)
theorem zeroB (w : World) : (zeroValue 4).run Tryz.prog w = .ok (.bool false) w := by kernel_rfl
/-- Block mb is a map that holds true at just the elements of S, among lists of n small numbers, and nothing else. -/
def SetM (w : World) (mb cnt n : Nat) (S : List (List Int)) : Prop :=
  ∃ D : DataW Unit, w.ownsMap Tryz.prog 117 (plainElem Tryz.prog 4) mb cnt D ∧ SetN (fun v => kl6 (kv v)) (domK n 48) S D
theorem SetM.mapB {w : World} {mb cnt n : Nat} {S : List (List Int)} (h : SetM w mb cnt n S) : MapB w mb := by
  obtain ⟨D, h, _⟩ := h
  exact mapB_own h
theorem SetM.made (w : World) (n : Nat) : SetM (w.alloc (.map #[] 0)) w.heap.size 0 n [] := ⟨_, World.ownsMap_made _ _ _ _, SetN.nil _ _⟩
theorem SetM.below {w w' : World} {B mb cnt n : Nat} {S : List (List Int)} (h : SetM w mb cnt n S) (hb : Below B w w') (hB : mb < B) : SetM w' mb cnt n S := by
  obtain ⟨D, ⟨es, clock, hh, r⟩, h2⟩ := h
  exact ⟨D, ⟨es, clock, (hb.block mb hB).trans hh, r⟩, h2⟩
theorem SetM.lt {w : World} {mb cnt n : Nat} {S : List (List Int)} (h : SetM w mb cnt n S) : mb < w.heap.size := by
  obtain ⟨es, clock, hh⟩ := h.mapB
  exact (Array.getElem?_eq_some_iff.1 hh).1
theorem SetM.grown {w w' : World} {mb cnt n : Nat} {S : List (List Int)} {r : Option Nat} (h : SetM w mb cnt n S) (hg : w.grownBy w' r) (hr : some mb ≠ r) : SetM w' mb cnt n S := by
  have hlt := h.lt
  obtain ⟨D, ⟨es, clock, hh, r⟩, h2⟩ := h
  exact ⟨D, ⟨es, clock, (hg.block mb hlt hr).trans hh, r⟩, h2⟩
theorem SetM.drew {w : World} {mb cnt n : Nat} {S : List (List Int)} (h : SetM w mb cnt n S) : SetM w.drew mb cnt n S := h
theorem SetM.mono {w : World} {mb cnt cnt' n : Nat} {S : List (List Int)} (h : SetM w mb cnt n S) (hc : cnt ≤ cnt') : SetM w mb cnt' n S := by
  obtain ⟨D, h1, h2⟩ := h
  exact ⟨D, h1.mono hc, h2⟩
theorem SetM.look {w : World} {mb cnt n : Nat} {S : List (List Int)} (h : SetM w mb cnt n S) {v : List Int} (hv : domK n 48 v) {c : Bool} (hc : decide (v ∈ S) = c) :
    (Instr.lookup 115 (.map (some mb)) (keyV v) false).run Tryz.prog w = .ok (.bool c) w := by
  obtain ⟨D, h1, h2⟩ := h
  obtain ⟨v', ps, hrun, hv2⟩ := h1.lookup keyLaw Tryz.underlying115 (zeroB w) (plainElem_bool Tryz.underlying4 false) (key_read hv)
  obtain ⟨c', rfl, e⟩ := plainElem_bool_inv Tryz.underlying4 hv2
  rw [h2.at' v hv, (decide_eq_decide.2 Iff.rfl).trans hc] at e
  injection e with e _
  injection e with e
  injection e with e
  subst e
  exact hrun
theorem SetM.put {w : World} {mb cnt n : Nat} {S : List (List Int)} (h : SetM w mb cnt n S) (hn : n ≤ 6) (hcnt : cnt ≤ 1000000000) {v : List Int} (hv : domK n 48 v) (hnew : v ∉ S) :
    ∃ w', (Instr.mapUpdate 115 (.map (some mb)) (keyV v) (.bool true)).run Tryz.prog w = .ok () w' ∧ SetM w' mb (cnt + 1) n (v :: S) ∧ w.grownBy w' (some mb) := by
  obtain ⟨D, h1, h2⟩ := h
  obtain ⟨w', hrun, h3, h4⟩ := h1.update keyLaw Tryz.underlying115 (by simp only [maxLen]; omega) (key_read hv) (plainElem_bool Tryz.underlying4 true)
  exact ⟨w', hrun, ⟨_, h3, h2.put (fun _ _ => kl6_key _) (fun _ _ hu hv => klv_inj hn hu hv) hv hnew⟩, h4⟩
theorem SetM.len {w : World} {mb cnt n : Nat} {S : List (List Int)} (h : SetM w mb cnt n S) (ty : TypeId) : (Builtin.len_ #[115] ty #[.map (some mb)]).run Tryz.prog w = .ok (.int .i64 S.length) w := by
  obtain ⟨D, h1, h2⟩ := h
  rw [h1.len Tryz.underlying115 ty, h2.size]
theorem bturn {w w1 w2 : World} {B mb : Nat} (h : Below B w w1) (hm : MapB w1 mb) (hg : w1.grownBy w2 (some mb)) (hB : B ≤ mb) : Below B w w2 :=
  h.grown hg (by have := hm.lt; omega) (fun q hq => by injection hq with hq; omega)
theorem perm_dom {n : Nat} (hn : n ≤ 6) {a : List Int} (h : Perm n a) : domK n 48 a := ⟨h.1, fun x hx => by have := h.2.1 x hx; omega⟩
end Go.Proofs.Tg.Gp
end
section
/- Is it a permutation? What the two loops hold. Plain. -/
namespace Go.Pm
/-- The first k elements are in range and different. -/
def GoodP (a : List Int) (k : Nat) : Prop := (∀ x ∈ a.take k, 0 ≤ x ∧ x < a.length) ∧ (a.take k).Nodup
theorem GoodP.zero (a : List Int) : GoodP a 0 := ⟨fun x hx => by simp at hx, by simp⟩
theorem GoodP.succ {a : List Int} {k : Nat} (h : GoodP a k) (hk : k < a.length) (h0 : 0 ≤ a[k]) (h1 : a[k] < a.length) (hn : a[k] ∉ a.take k) : GoodP a (k + 1) := by
  unfold GoodP
  rw [List.take_succ_eq_append_getElem hk]
  refine ⟨fun x hx => ?_, List.nodup_append.2 ⟨h.2, by simp, fun x hx y hy e => ?_⟩⟩
  · rcases List.mem_append.1 hx with hx | hx
    · exact h.1 x hx
    · rw [List.mem_singleton.1 hx]; exact ⟨h0, h1⟩
  · rw [List.mem_singleton.1 hy] at e
    exact hn (by rw [← e]; exact hx)
theorem GoodP.perm {a : List Int} (h : GoodP a a.length) : Perm a.length a := by
  unfold GoodP at h
  rw [List.take_length] at h
  exact ⟨rfl, h.1, h.2⟩
theorem bad_range {a : List Int} {k : Nat} (hk : k < a.length) (h : ¬ (0 ≤ a[k] ∧ a[k] < a.length)) : ¬ Perm a.length a := fun hp => h (hp.2.1 _ (List.getElem_mem _))
theorem bad_twice {a : List Int} {k : Nat} (hk : k < a.length) (h : a[k] ∈ a.take k) : ¬ Perm a.length a := fun hp => by
  obtain ⟨i, hi, he⟩ := List.getElem_of_mem h
  rw [List.length_take] at hi
  rw [List.getElem_take] at he
  exact List.pairwise_iff_getElem.1 hp.2.2 i k (by omega) hk (by omega) he
end Go.Pm
end
section
/- Identities and products of permutations: group, blocks, the reference 18 (printed by wip/tools/mk_perm.py). -/
namespace Go.Proofs.Tg.Gp
open Go.RowKit Go.Gr Go.Sp Go.Ev Go.Pm
set_option maxHeartbeats 4000000
set_option maxRecDepth 100000
theorem take_all_fill {s : List Int} {n : Nat} (h : s.length = n) : s.take n ++ List.replicate (n - n) 0 = s := by
  rw [Nat.sub_self, List.replicate_zero, List.append_nil, List.take_of_length_le (by omega)]
theorem identity_any (n : Nat) (w : World) (hn : n ≤ 6) : Calls Tryz.prog 97 #[.int .i64 n] w fun e w' => e = .returned (.slice (some ⟨w.heap.size, 0, none⟩) n n) ∧ Blk w' w.heap.size 3 (iarr (unit n)) ∧ Below w.heap.size w w' := by
  have HSL : Hid ((unit n).length = n) := Lib.hid (unit_len n)
  have HSA : Hid (∀ k (h : k < (unit n).length), (unit n)[k] = (k : Int)) := Lib.hid (fun k h => by simp [unit])
  have hmk := fun W => make_ints n n (Nat.le_refl _) (by omega) W
  generalize unit n = s at *
  go_enter Tryz.func97, Tryz.ntmps97
  go_wp2
  clear hmk
  go_loopw [9] (fun i wr => ∃ k : Nat, k ≤ n ∧ i = .int .i64 k ∧ Blk wr w.heap.size 3 (iarr (s.take k ++ List.replicate (n - k) 0)) ∧ Below w.heap.size w wr) (fun i _ => n - (intOf i).toNat)
  case atStart =>
    refine ⟨0, Nat.zero_le _, rfl, ?_, (Below.refl _ _).alloc (Nat.le_refl _) _⟩
    have e : iarr (s.take 0 ++ List.replicate (n - 0) 0) = madeCells #[.int .i64 0] n := (iarr_made n).symm
    rw [e]
    exact Blk.new w 3 _
  case round =>
    obtain ⟨wo, rfl⟩ : ∃ wo : World, wo = wr := ⟨_, rfl⟩
    obtain ⟨k, hk, rfl, B0, hbw⟩ := hrel
    by_cases hlt : k < n
    · have hl2 : (s.take k ++ List.replicate (n - k) 0).length = n := by
        have := HSL.out
        rw [List.length_append, List.length_take, List.length_replicate]; omega
      have HST : Hid ((s.take k ++ List.replicate (n - k) 0).set k (k : Int) = s.take (k + 1) ++ List.replicate (n - (k + 1)) 0) := Lib.hid (fill_set _ k _ _ HSL.out hlt (HSA.out k (by rw [HSL.out]; exact hlt)))
      have c0 := B0.cell k
      have f0 := B0.frozen k
      rw [iarr_at _ (by rw [hl2]; exact hlt)] at c0
      generalize (s.take k ++ List.replicate (n - k) 0)[k]'(by rw [hl2]; exact hlt) = old at c0
      have HB0 := Lib.hid B0
      have q0 : (0 : Int) ≤ (k : Int) := by omega
      have q1 : (k : Int) < (n : Int) := by omega
      have q3 : ((k : Int)).toNat = k := by omega
      clear B0 hl2
      go_wp2
      go_roundw
      case rel =>
        refine ⟨k + 1, by omega, by go_num, ?_, below_far hbw (Nat.le_refl _) _ _⟩
        have := HB0.out.set k (.int .i64 (k : Int))
        rw [iarr_set, HST.out] at this
        exact this
      case measure => simp [intOf]; omega
    · obtain rfl : k = n := by omega
      rw [take_all_fill HSL.out] at B0
      have dk : decide ((k : Int) < (k : Int)) = false := by simp
      go_wp2
      go_ret
      exact ⟨rfl, B0, hbw⟩
theorem runit_any (n : Nat) (w : World) (hn : n ≤ 6) : Calls Tryz.prog 52 #[.int .i64 n] w fun e w' => e = .returned (.slice (some ⟨w.heap.size, 0, none⟩) n n) ∧ Blk w' w.heap.size 3 (iarr (unit n)) ∧ Below w.heap.size w w' := by
  have HSL : Hid ((unit n).length = n) := Lib.hid (unit_len n)
  have HSA : Hid (∀ k (h : k < (unit n).length), (unit n)[k] = (k : Int)) := Lib.hid (fun k h => by simp [unit])
  have hmk := fun W => make_ints n n (Nat.le_refl _) (by omega) W
  generalize unit n = s at *
  go_enter Tryz.func52, Tryz.ntmps52
  go_wp2
  clear hmk
  go_loopw [4] (fun i wr => ∃ k : Nat, k ≤ n ∧ i = .int .i64 k ∧ Blk wr w.heap.size 3 (iarr (s.take k ++ List.replicate (n - k) 0)) ∧ Below w.heap.size w wr) (fun i _ => n - (intOf i).toNat)
  case atStart =>
    refine ⟨0, Nat.zero_le _, rfl, ?_, (Below.refl _ _).alloc (Nat.le_refl _) _⟩
    have e : iarr (s.take 0 ++ List.replicate (n - 0) 0) = madeCells #[.int .i64 0] n := (iarr_made n).symm
    rw [e]
    exact Blk.new w 3 _
  case round =>
    obtain ⟨wo, rfl⟩ : ∃ wo : World, wo = wr := ⟨_, rfl⟩
    obtain ⟨k, hk, rfl, B0, hbw⟩ := hrel
    by_cases hlt : k < n
    · have hl2 : (s.take k ++ List.replicate (n - k) 0).length = n := by
        have := HSL.out
        rw [List.length_append, List.length_take, List.length_replicate]; omega
      have HST : Hid ((s.take k ++ List.replicate (n - k) 0).set k (k : Int) = s.take (k + 1) ++ List.replicate (n - (k + 1)) 0) := Lib.hid (fill_set _ k _ _ HSL.out hlt (HSA.out k (by rw [HSL.out]; exact hlt)))
      have c0 := B0.cell k
      have f0 := B0.frozen k
      rw [iarr_at _ (by rw [hl2]; exact hlt)] at c0
      generalize (s.take k ++ List.replicate (n - k) 0)[k]'(by rw [hl2]; exact hlt) = old at c0
      have HB0 := Lib.hid B0
      have q0 : (0 : Int) ≤ (k : Int) := by omega
      have q1 : (k : Int) < (n : Int) := by omega
      have q3 : ((k : Int)).toNat = k := by omega
      clear B0 hl2
      go_wp2
      go_roundw
      case rel =>
        refine ⟨k + 1, by omega, by go_num, ?_, below_far hbw (Nat.le_refl _) _ _⟩
        have := HB0.out.set k (.int .i64 (k : Int))
        rw [iarr_set, HST.out] at this
        exact this
      case measure => simp [intOf]; omega
    · obtain rfl : k = n := by omega
      rw [take_all_fill HSL.out] at B0
      have dk : decide ((k : Int) < (k : Int)) = false := by simp
      go_wp2
      go_ret
      exact ⟨rfl, B0, hbw⟩
theorem compose_any (A B : Option Addr) (c d n : Nat) (a b : List Int) (w : World) (hA : Ints w A a) (hB : Ints w B b) (ha : Perm n a) (hb : Perm n b) (hn : n ≤ 6) :
    Calls Tryz.prog 98 #[.slice A n c, .slice B n d] w fun e w' => e = .returned (.slice (some ⟨w.heap.size, 0, none⟩) n n) ∧ Blk w' w.heap.size 3 (iarr (cmp a b)) ∧ Below w.heap.size w w' := by
  have HA := Lib.hid ha
  have HB := Lib.hid hb
  have HSL : Hid ((cmp a b).length = n) := Lib.hid (cmp_perm ha hb).1
  have HSA : Hid (∀ k (h2 : k < b.length) (h1 : (b[k]).toNat < a.length) (h3 : k < (cmp a b).length), (cmp a b)[k] = a[(b[k]).toNat]) := Lib.hid (fun k h2 h1 h3 => by simp [cmp, h1])
  have HAW := Lib.hid hA
  have HBW := Lib.hid hB
  have hmk := fun W => make_ints n n (Nat.le_refl _) (by omega) W
  clear ha hb hA hB
  generalize cmp a b = s at *
  go_enter Tryz.func98, Tryz.ntmps98
  go_wp2
  clear hmk
  go_loopw [13] (fun i wr => ∃ k : Nat, k ≤ n ∧ i = .int .i64 k ∧ Blk wr w.heap.size 3 (iarr (s.take k ++ List.replicate (n - k) 0)) ∧ Below w.heap.size w wr) (fun i _ => n - (intOf i).toNat)
  case atStart =>
    refine ⟨0, Nat.zero_le _, rfl, ?_, (Below.refl _ _).alloc (Nat.le_refl _) _⟩
    have e : iarr (s.take 0 ++ List.replicate (n - 0) 0) = madeCells #[.int .i64 0] n := (iarr_made n).symm
    rw [e]
    exact Blk.new w 3 _
  case round =>
    obtain ⟨wo, rfl⟩ : ∃ wo : World, wo = wr := ⟨_, rfl⟩
    obtain ⟨k, hk, rfl, B0, hbw⟩ := hrel
    by_cases hlt : k < n
    · have hal : a.length = n := HA.out.1
      have hbl : b.length = n := HB.out.1
      have hr := HB.out.2.1 (b[k]'(by omega)) (List.getElem_mem _)
      obtain ⟨m, hm⟩ : ∃ m : Nat, b[k]'(by omega) = (m : Int) := ⟨(b[k]'(by omega)).toNat, by omega⟩
      have hmn : m < n := by omega
      have hsk := HSA.out k (by omega) (by omega) (by rw [HSL.out]; exact hlt)
      have hmt : (b[k]'(by omega)).toNat = m := by omega
      obtain ⟨bd, rfl, hcb⟩ := Ints.at (HBW.out.keep hbw) (show k < b.length by omega)
      obtain ⟨ad, rfl, hca⟩ := Ints.at (HAW.out.keep hbw) (show m < a.length by omega)
      rw [hm] at hcb
      have hl2 : (s.take k ++ List.replicate (n - k) 0).length = n := by
        have := HSL.out
        rw [List.length_append, List.length_take, List.length_replicate]; omega
      have HST : Hid ((s.take k ++ List.replicate (n - k) 0).set k (a[m]'(by omega)) = s.take (k + 1) ++ List.replicate (n - (k + 1)) 0) := Lib.hid (fill_set _ k _ _ HSL.out hlt (by rw [hsk]; simp only [hmt]))
      have c0 := B0.cell k
      have f0 := B0.frozen k
      rw [iarr_at _ (by rw [hl2]; exact hlt)] at c0
      generalize (s.take k ++ List.replicate (n - k) 0)[k]'(by rw [hl2]; exact hlt) = old at c0
      have HB0 := Lib.hid B0
      have q0 : (0 : Int) ≤ (k : Int) := by omega
      have q1 : (k : Int) < (n : Int) := by omega
      have q3 : ((k : Int)).toNat = k := by omega
      have p0 : (0 : Int) ≤ (m : Int) := by omega
      have p1 : (m : Int) < (n : Int) := by omega
      have p3 : ((m : Int)).toNat = m := by omega
      generalize a[m]'(by omega) = x at *
      clear hsk hmt hm hr
      clear B0 hl2 hal hbl
      go_wp2
      go_roundw
      case rel =>
        refine ⟨k + 1, by omega, by go_num, ?_, below_far hbw (Nat.le_refl _) _ _⟩
        have := HB0.out.set k (.int .i64 x)
        rw [iarr_set, HST.out] at this
        exact this
      case measure => simp [intOf]; omega
    · obtain rfl : k = n := by omega
      rw [take_all_fill HSL.out] at B0
      have dk : decide ((k : Int) < (k : Int)) = false := by simp
      go_wp2
      go_ret
      exact ⟨rfl, B0, hbw⟩
theorem bcompose_any (A B : Option Addr) (c d n : Nat) (a b : List Int) (w : World) (hA : Ints w A a) (hB : Ints w B b) (ha : Perm n a) (hb : Perm n b) (hn : n ≤ 6) :
    Calls Tryz.prog 62 #[.slice A n c, .slice B n d] w fun e w' => e = .returned (.slice (some ⟨w.heap.size, 0, none⟩) n n) ∧ Blk w' w.heap.size 3 (iarr (cmp a b)) ∧ Below w.heap.size w w' := by
  have HA := Lib.hid ha
  have HB := Lib.hid hb
  have HSL : Hid ((cmp a b).length = n) := Lib.hid (cmp_perm ha hb).1
  have HSA : Hid (∀ k (h2 : k < b.length) (h1 : (b[k]).toNat < a.length) (h3 : k < (cmp a b).length), (cmp a b)[k] = a[(b[k]).toNat]) := Lib.hid (fun k h2 h1 h3 => by simp [cmp, h1])
  have HAW := Lib.hid hA
  have HBW := Lib.hid hB
  have hmk := fun W => make_ints n n (Nat.le_refl _) (by omega) W
  clear ha hb hA hB
  generalize cmp a b = s at *
  go_enter Tryz.func62, Tryz.ntmps62
  go_wp2
  clear hmk
  go_loopw [13] (fun i wr => ∃ k : Nat, k ≤ n ∧ i = .int .i64 k ∧ Blk wr w.heap.size 3 (iarr (s.take k ++ List.replicate (n - k) 0)) ∧ Below w.heap.size w wr) (fun i _ => n - (intOf i).toNat)
  case atStart =>
    refine ⟨0, Nat.zero_le _, rfl, ?_, (Below.refl _ _).alloc (Nat.le_refl _) _⟩
    have e : iarr (s.take 0 ++ List.replicate (n - 0) 0) = madeCells #[.int .i64 0] n := (iarr_made n).symm
    rw [e]
    exact Blk.new w 3 _
  case round =>
    obtain ⟨wo, rfl⟩ : ∃ wo : World, wo = wr := ⟨_, rfl⟩
    obtain ⟨k, hk, rfl, B0, hbw⟩ := hrel
    by_cases hlt : k < n
    · have hal : a.length = n := HA.out.1
      have hbl : b.length = n := HB.out.1
      have hr := HB.out.2.1 (b[k]'(by omega)) (List.getElem_mem _)
      obtain ⟨m, hm⟩ : ∃ m : Nat, b[k]'(by omega) = (m : Int) := ⟨(b[k]'(by omega)).toNat, by omega⟩
      have hmn : m < n := by omega
      have hsk := HSA.out k (by omega) (by omega) (by rw [HSL.out]; exact hlt)
      have hmt : (b[k]'(by omega)).toNat = m := by omega
      obtain ⟨bd, rfl, hcb⟩ := Ints.at (HBW.out.keep hbw) (show k < b.length by omega)
      obtain ⟨ad, rfl, hca⟩ := Ints.at (HAW.out.keep hbw) (show m < a.length by omega)
      rw [hm] at hcb
      have hl2 : (s.take k ++ List.replicate (n - k) 0).length = n := by
        have := HSL.out
        rw [List.length_append, List.length_take, List.length_replicate]; omega
      have HST : Hid ((s.take k ++ List.replicate (n - k) 0).set k (a[m]'(by omega)) = s.take (k + 1) ++ List.replicate (n - (k + 1)) 0) := Lib.hid (fill_set _ k _ _ HSL.out hlt (by rw [hsk]; simp only [hmt]))
      have c0 := B0.cell k
      have f0 := B0.frozen k
      rw [iarr_at _ (by rw [hl2]; exact hlt)] at c0
      generalize (s.take k ++ List.replicate (n - k) 0)[k]'(by rw [hl2]; exact hlt) = old at c0
      have HB0 := Lib.hid B0
      have q0 : (0 : Int) ≤ (k : Int) := by omega
      have q1 : (k : Int) < (n : Int) := by omega
      have q3 : ((k : Int)).toNat = k := by omega
      have p0 : (0 : Int) ≤ (m : Int) := by omega
      have p1 : (m : Int) < (n : Int) := by omega
      have p3 : ((m : Int)).toNat = m := by omega
      generalize a[m]'(by omega) = x at *
      clear hsk hmt hm hr
      clear B0 hl2 hal hbl
      go_wp2
      go_roundw
      case rel =>
        refine ⟨k + 1, by omega, by go_num, ?_, below_far hbw (Nat.le_refl _) _ _⟩
        have := HB0.out.set k (.int .i64 x)
        rw [iarr_set, HST.out] at this
        exact this
      case measure => simp [intOf]; omega
    · obtain rfl : k = n := by omega
      rw [take_all_fill HSL.out] at B0
      have dk : decide ((k : Int) < (k : Int)) = false := by simp
      go_wp2
      go_ret
      exact ⟨rfl, B0, hbw⟩
theorem rprod_any (A B : Option Addr) (c d n : Nat) (a b : List Int) (w : World) (hA : Ints w A a) (hB : Ints w B b) (ha : Perm n a) (hb : Perm n b) (hn : n ≤ 6) :
    Calls Tryz.prog 53 #[.slice A n c, .slice B n d] w fun e w' => e = .returned (.slice (some ⟨w.heap.size, 0, none⟩) n n) ∧ Blk w' w.heap.size 3 (iarr (cmp a b)) ∧ Below w.heap.size w w' := by
  have HA := Lib.hid ha
  have HB := Lib.hid hb
  have HSL : Hid ((cmp a b).length = n) := Lib.hid (cmp_perm ha hb).1
  have HSA : Hid (∀ k (h2 : k < b.length) (h1 : (b[k]).toNat < a.length) (h3 : k < (cmp a b).length), (cmp a b)[k] = a[(b[k]).toNat]) := Lib.hid (fun k h2 h1 h3 => by simp [cmp, h1])
  have HAW := Lib.hid hA
  have HBW := Lib.hid hB
  have hmk := fun W => make_ints n n (Nat.le_refl _) (by omega) W
  clear ha hb hA hB
  generalize cmp a b = s at *
  go_enter Tryz.func53, Tryz.ntmps53
  go_wp2
  clear hmk
  go_loopw [6] (fun i wr => ∃ k : Nat, k ≤ n ∧ i = .int .i64 k ∧ Blk wr w.heap.size 3 (iarr (s.take k ++ List.replicate (n - k) 0)) ∧ Below w.heap.size w wr) (fun i _ => n - (intOf i).toNat)
  case atStart =>
    refine ⟨0, Nat.zero_le _, rfl, ?_, (Below.refl _ _).alloc (Nat.le_refl _) _⟩
    have e : iarr (s.take 0 ++ List.replicate (n - 0) 0) = madeCells #[.int .i64 0] n := (iarr_made n).symm
    rw [e]
    exact Blk.new w 3 _
  case round =>
    obtain ⟨wo, rfl⟩ : ∃ wo : World, wo = wr := ⟨_, rfl⟩
    obtain ⟨k, hk, rfl, B0, hbw⟩ := hrel
    by_cases hlt : k < n
    · have hal : a.length = n := HA.out.1
      have hbl : b.length = n := HB.out.1
      have hr := HB.out.2.1 (b[k]'(by omega)) (List.getElem_mem _)
      obtain ⟨m, hm⟩ : ∃ m : Nat, b[k]'(by omega) = (m : Int) := ⟨(b[k]'(by omega)).toNat, by omega⟩
      have hmn : m < n := by omega
      have hsk := HSA.out k (by omega) (by omega) (by rw [HSL.out]; exact hlt)
      have hmt : (b[k]'(by omega)).toNat = m := by omega
      obtain ⟨bd, rfl, hcb⟩ := Ints.at (HBW.out.keep hbw) (show k < b.length by omega)
      obtain ⟨ad, rfl, hca⟩ := Ints.at (HAW.out.keep hbw) (show m < a.length by omega)
      rw [hm] at hcb
      have hl2 : (s.take k ++ List.replicate (n - k) 0).length = n := by
        have := HSL.out
        rw [List.length_append, List.length_take, List.length_replicate]; omega
      have HST : Hid ((s.take k ++ List.replicate (n - k) 0).set k (a[m]'(by omega)) = s.take (k + 1) ++ List.replicate (n - (k + 1)) 0) := Lib.hid (fill_set _ k _ _ HSL.out hlt (by rw [hsk]; simp only [hmt]))
      have c0 := B0.cell k
      have f0 := B0.frozen k
      rw [iarr_at _ (by rw [hl2]; exact hlt)] at c0
      generalize (s.take k ++ List.replicate (n - k) 0)[k]'(by rw [hl2]; exact hlt) = old at c0
      have HB0 := Lib.hid B0
      have q0 : (0 : Int) ≤ (k : Int) := by omega
      have q1 : (k : Int) < (n : Int) := by omega
      have q3 : ((k : Int)).toNat = k := by omega
      have p0 : (0 : Int) ≤ (m : Int) := by omega
      have p1 : (m : Int) < (n : Int) := by omega
      have p3 : ((m : Int)).toNat = m := by omega
      generalize a[m]'(by omega) = x at *
      clear hsk hmt hm hr
      clear B0 hl2 hal hbl
      go_wp2
      go_roundw
      case rel =>
        refine ⟨k + 1, by omega, by go_num, ?_, below_far hbw (Nat.le_refl _) _ _⟩
        have := HB0.out.set k (.int .i64 x)
        rw [iarr_set, HST.out] at this
        exact this
      case measure => simp [intOf]; omega
    · obtain rfl : k = n := by omega
      rw [take_all_fill HSL.out] at B0
      have dk : decide ((k : Int) < (k : Int)) = false := by simp
      go_wp2
      go_ret
      exact ⟨rfl, B0, hbw⟩
end Go.Proofs.Tg.Gp
end
