/- The edges of an adjacency, written out. -/
import Derived.Test.YtamipjpcphghaaaDoorWC
import Derived.Maps.AppendAt
namespace Go.Gr
/-- The edges that go from i to greater vertices. -/
def rowEdges (A : Nat → Nat) (i : Nat) : List (Int × Int) := (verts (andn (A i) (firstN i))).map fun j : Nat => ((i : Int), (j : Int))
def writeEdges (A : Nat → Nat) (n : Nat) : List (Int × Int) := (List.range n).flatMap (rowEdges A)
theorem writeEdges_succ (A : Nat → Nat) (n : Nat) : writeEdges A (n + 1) = writeEdges A n ++ rowEdges A n := by
  simp [writeEdges, List.range_succ]
theorem rowEdges_len (A : Nat → Nat) (i : Nat) : (rowEdges A i).length ≤ 64 := by
  simp only [rowEdges, List.length_map]; exact size_le _
end Go.Gr
namespace Go.Proofs.Tg
open Go.RowKit Go.Gr
def ecells (es : List (Int × Int)) : List Value := es.flatMap fun e => [vi e.1, vi e.2]
theorem ecells_len (es : List (Int × Int)) : (ecells es).length = es.length * 2 := by
  induction es with
  | nil => rfl
  | cons e es ih => simp only [ecells, List.flatMap_cons, List.length_append, List.length_cons, List.length_nil] at ih ⊢; omega
theorem ecells_app (a b : List (Int × Int)) : ecells (a ++ b) = ecells a ++ ecells b := by simp [ecells]
theorem pair_info : (Tryd.prog.info? 46).map (fun i => (i.zero, i.size, i.bytes)) = some (some (.agg #[.int .i64 0, .int .i64 0]), 2, 16) := by kernel_rfl
theorem cell_two_new' (w : World) (a b : Value) (t : TypeId) : ∀ j u, [a, b][j]? = some u → (w.alloc (.cells #[a, b] t)).cell? ((⟨w.heap.size, 0, none⟩ : Addr).add j) = some u := by
  intro j u hu
  rw [add_lit, Nat.zero_add, Blk.cell (Blk.new w t #[a, b]) j]
  simpa using hu
set_option maxHeartbeats 1000000
set_option maxRecDepth 100000
def RetGraph (n : Int) (es : List (Int × Int)) (w : World) (e : Ending) (w' : World) : Prop :=
  ∃ A c, e = .returned (.agg #[.int .i64 n, .slice A es.length c]) ∧ es.length ≤ c ∧ w'.ownsRow w.heap.size 46 2 (.slice A es.length c) es.length (ecells es) ∧ Below w.heap.size w w'
theorem write_any (g n : Nat) (A : Nat → Nat) (w : World) (hA : AdjAt w g A) (hS : Small A) (hn : n ≤ 64) (hT : Tab w) :
    Calls Tryd.prog 41 #[.pointer (some ⟨g, 0, none⟩), .int .i64 n] w (RetGraph n (writeEdges A n) w) := by
  obtain ⟨i0, hi, hz0, hz1, hz2⟩ := info_parts pair_info
  have hgl := Blk.lt hA
  go_enter Tryd.func41, Tryd.ntmps41
  go_wp2
  go_loopw [12] (fun i wr => ∃ (k : Nat) (E : Option Addr) (c : Nat) (es : List (Int × Int)), i = .int .i64 k ∧ k ≤ n ∧ Blk wr w.heap.size 25 #[.int .i64 0, .slice none 0 0] ∧ Blk wr (w.heap.size + 1) 25 #[.int .i64 n, .slice E es.length c] ∧
      wr.ownsRow (w.heap.size + 2) 46 2 (.slice E es.length c) es.length (ecells es) ∧ es.length ≤ c ∧ es.length ≤ 64 * k ∧ Hid (es = writeEdges A k) ∧ Below w.heap.size w wr) (fun i _ => n - (intOf i).toNat)
  case atStart =>
    refine ⟨0, none, 0, [], rfl, Nat.zero_le _, ?_, ?_, World.ownsRow_nil _ _ _ _, by simp, by simp, Lib.hid (by simp [writeEdges]), ?_⟩
    · exact Blk.alloc (Blk.new _ _ _) _
    · have := Blk.new (w.alloc (Obj.cells #[Value.int IntKind.i64 0, Value.slice none 0 0] 25)) 25 #[Value.int IntKind.i64 ↑n, Value.slice none 0 0]
      simpa using this
    · exact ((Below.refl _ _).alloc (Nat.le_refl _) _).alloc (by simp) _
  case round =>
    obtain ⟨wo, rfl⟩ : ∃ wo : World, wo = wr := ⟨_, rfl⟩
    obtain ⟨k, E, c, es, rfl, hk, hb4, hb5, hown, hec, hel, HE, hb⟩ := hrel
    by_cases hlt : k < n
    · have hkl : k < 64 := by omega
      have hc := AdjAt.cell (hA.keep hb hgl) hkl
      have hs := hS k
      have hTr := hT.below hb hT.1
      have hbits := u64_andNot_nat (A k) (firstN k) hs (firstN_lt (by omega))
      have hsm := andn_lt (firstN k) hs
      change _ = ((andn (A k) (firstN k) : Nat) : Int) at hbits
      have HRE : Hid (rowEdges A k = (verts (andn (A k) (firstN k))).map fun j : Nat => ((k : Int), (j : Int))) := rfl
      have hvl : (verts (andn (A k) (firstN k))).length ≤ 64 := size_le _
      have hvb : ∀ x ∈ verts (andn (A k) (firstN k)), x < 64 := fun x hx => by simp [verts] at hx; exact hx.1
      generalize andn (A k) (firstN k) = S at hbits hsm HRE hvl hvb
      go_upto_region 5 with fail
      go_cut [23, 24, 25] (fun s23 s24 s25 wx => ∃ V cv, s23 = .slice V (verts S).length cv ∧ s24 = .int .i64 (verts S).length ∧ s25 = .int .i64 0 ∧ wx.ownsRow wo.heap.size 3 1 (.slice V (verts S).length cv) (verts S).length ((verts S).map vn) ∧ Below wo.heap.size wo wx)
      case first =>
        clear hb4 hb5 hown HE HRE hvb
        have hk0 : (0 : Int) ≤ (k : Int) := by omega
        have hk1 : (k : Int) < 64 := by omega
        have hgr : g < wo.heap.size := Nat.lt_of_lt_of_le hgl hb.size
        go_region_held3 (fun w' => w'.cell? ⟨g, k, none⟩ = some (.int .u64 (A k : Nat))) (first | go_keep | exact (hbV.cell (p := ⟨g, k, none⟩) hgr).trans hc)
          (first | (go_at_call 63; refine (first_any _ _ (by omega)).mono ?_; rintro e w' ⟨rfl, rfl⟩) | (go_at_call 54; refine (verts_any _ _ hsm (by exact hTr)).mono ?_; rintro e w' ⟨V, cv, rfl, hVc, hV, hbV⟩))
        all_goals (go_wp2_with fail; go_meet; exact ⟨V, cv, rfl, rfl, rfl, hV, below_of_drew hbV⟩)
      case rest =>
        obtain ⟨V, cv, rfl, rfl, rfl, hV, hbV⟩ := hcut
        clear hbits hc hs hsm hTr
        have hsz := hb.size
        have hsz2 := hbV.size
        have hb4l := hb4.lt
        have hb5l := hb5.lt
        have hb' : Below w.heap.size w wc := hb.trans (hbV.mono hsz)
        have hb4' := hb4.keep hbV hb4l
        have hb5' := hb5.keep hbV hb5l
        have hown' := own_below hown hbV (Nat.le_refl _)
        clear hb4 hb5 hown hb hbV
        go_wp2
        go_loopw [25] (fun j wx => ∃ (i : Nat) (E2 : Option Addr) (c2 : Nat) (fs : List (Int × Int)), j = .int .i64 i ∧ i ≤ (verts S).length ∧ Blk wx w.heap.size 25 #[.int .i64 0, .slice none 0 0] ∧ Blk wx (w.heap.size + 1) 25 #[.int .i64 n, .slice E2 fs.length c2] ∧
            wx.ownsRow (w.heap.size + 2) 46 2 (.slice E2 fs.length c2) fs.length (ecells fs) ∧ fs.length ≤ c2 ∧ fs.length ≤ 64 * k + i ∧ Hid (fs = es ++ ((verts S).take i).map fun j : Nat => ((k : Int), (j : Int))) ∧
            wx.ownsRow wo.heap.size 3 1 (.slice V (verts S).length cv) (verts S).length ((verts S).map vn) ∧ Below w.heap.size w wx) (fun j _ => (verts S).length - (intOf j).toNat)
        case atStart => exact ⟨0, E, c, es, rfl, Nat.zero_le _, hb4', hb5', hown', hec, hel, Lib.hid (by simp), hV, hb'⟩
        case round =>
          clear hb' hb4' hb5' hown' hV
          obtain ⟨i, E2, c2, fs, rfl, hi2, hb4, hb5, hown, hfc, hfl, HF, hV, hb⟩ := hrel
          by_cases hil : i < (verts S).length
          · obtain ⟨ad, rfl, hcv⟩ := Nats.at (Sl.own hV) hil
            have HF2 : Hid (fs ++ [((k : Int), (((verts S)[i] : Nat) : Int))] = es ++ ((verts S).take (i + 1)).map fun j : Nat => ((k : Int), (j : Int))) := by
              rw [List.take_succ_eq_append_getElem hil, List.map_append, ← List.append_assoc, ← HF.out]; rfl
            generalize (verts S)[i] = q at hcv HF2
            have h51 := hb5.cell 1
            have f51 := hb5.frozen 1
            simp at h51
            have hne := own_blk_ne hown hb5 (by decide)
            have hne4 := own_blk_ne hown hb4 (by decide)
            have hnv := own_ne hV hown (by decide)
            have hszx := hb.size
            have hl4 := hb4.lt
            have hl5 := hb5.lt
            have HB := Lib.hid (And.intro hb4 hb5)
            clear HF HE HRE
            go_wp2_with (at_builtin; go_must (refine wpList_append_own_at _ rfl _ _ 22 rfl (w.heap.size + 2) 46 i0 (.agg #[.int .i64 0, .int .i64 0]) 2 16 Tryd.underlying22 hi hz0 hz1 hz2 rfl (by decide) (.slice E2 fs.length c2) _ _ rfl (hown.alloc _) ⟨wr.heap.size, 0, none⟩ 1 1 [.int .i64 k, .int .i64 q] rfl rfl ?c1 ?c2 ?c3 ?c4 ?c5 ?_)
                         case c1 => exact cell_two_new' _ _ _ _
                         case c2 => simp [Value.oneCell']
                         case c3 => simp only [maxLen]; omega
                         case c4 => omega
                         case c5 => simp; omega
                         intro v' w1 hown1 hg1 _ _
                         obtain ⟨E3, c3, hv, hle3, _⟩ := Sl.of_own hown1
                         subst hv
                         have k51 := (Blk.grown (Blk.alloc HB.out.2 _) hg1 hne).cell 1
                         have g51 := (Blk.grown (Blk.alloc HB.out.2 _) hg1 hne).frozen 1
                         simp at k51)
            have hlen : (fs ++ [((k : Int), ((q : Nat) : Int))]).length = fs.length + 1 := by simp
            have B5 := Blk.grown (Blk.alloc HB.out.2 _) hg1 hne
            have B4 := Blk.grown (Blk.alloc HB.out.1 _) hg1 hne4
            have hV1 := (hV.alloc (.cells #[.int .i64 k, .int .i64 q] 46)).kept hg1 hnv
            go_roundw
            case rel =>
              refine ⟨i + 1, E3, c3, fs ++ [((k : Int), ((q : Nat) : Int))], by go_num, by omega, B4.far (by simp) _, ?_, ?_, by rw [hlen]; exact hle3, by rw [hlen]; omega, HF2, own_far hV1 (own_blk_ne hV1 B5 (by decide)) _, ?_⟩
              · have := B5.set 1 (.slice E3 (fs.length + 1) c3)
                rw [hlen]
                simpa using this
              · rw [hlen, ecells_app]
                exact own_far hown1 (own_blk_ne hown1 B5 (by decide)) _
              · exact ((hb.alloc hb.size _).grown hg1 (by simp; omega) (fun j hj => by have := (hown.lt j hj).1; omega)).setCell (by simp) _
            case measure => simp [intOf]; omega
          · obtain rfl : i = (verts S).length := by omega
            go_wp2
            go_roundw
            case rel =>
              refine ⟨k + 1, E2, c2, fs, by go_num, by omega, hb4, hb5, hown, hfc, by omega, ?_, hb⟩
              refine Lib.hid ?_
              rw [HF.out, List.take_length, ← HRE.out, writeEdges_succ, HE.out]
            case measure => simp [intOf]; omega
    · obtain rfl : k = n := by omega
      have h40 := hb4.cell 0
      have h41 := hb4.cell 1
      have f40 := hb4.frozen 0
      have f41 := hb4.frozen 1
      have h50 := hb5.cell 0
      have h51 := hb5.cell 1
      simp at h40 h41 h50 h51
      go_wp2
      refine bodyPost_ret (v := .agg #[.int .i64 k, .slice E es.length c]) (by simp [results, Tryd.results41, go_sem, h40, h41]) rfl ?_
      rw [← HE.out]
      exact ⟨E, c, rfl, hec, own_base (ownsRow_setCell_below (ownsRow_setCell_below hown (by simp) _) (by simp) _) (by omega), (hb.setCell (by simp) _).setCell (by simp) _⟩
end Go.Proofs.Tg
