/- Parts of the proof: WGF. -/
import Derived.Deep.LoopGhost
import Derived.Deep.Cut
import Derived.Test.YtodjofbneeejpaaGreatDoorMBD8
import Derived.Test.YtodjofbneeejpaaGreatDoorMBD10
import Derived.Test.YtodjofbneeejpaaGreatDoorMBD13
section
/- Closure of the reference 18 (printed by wip/tools/mk_clos.py). -/
namespace Go.Proofs.Tg.Gp
open Go.RowKit Go.Gr Go.Sp Go.Ev Go.Pm
set_option maxHeartbeats 4000000
set_option maxRecDepth 100000
theorem Que.init {w : World} {base : Nat} {e : TypeId} {td : Addr} {n cap : Nat} {x : Value} {xs : List Value} (h : Que w base e (.slice (some td) n cap) (xs ++ [x])) : Que w base e (.slice (some td) xs.length cap) xs ∧ xs.length < cap := by
 obtain ⟨g', o', cap', cur, h1, h2, h3, h4, h5, h6, h7⟩ := h
 injection h1 with h1 _ hc
 injection h1 with h1
 subst h1 hc
 rw [List.length_append, List.length_singleton] at h4
 refine ⟨⟨g', o', cap, cur, rfl, h2, h3, by omega, h5, h6, fun j u hu => h7 j u ?_⟩, by omega⟩
 have hj := (List.getElem?_eq_some_iff.1 hu).1
 rw [List.getElem?_append_left hj]
 exact hu
theorem sl_take {w : World} {od : Addr} {n : Nat} {xs : List Value} (h : Sl w (some od) n 1 xs) {m : Nat} (hm : m ≤ n) : Sl w (some od) m 1 (xs.take m) := by
 have hl := h.len
 refine ⟨by rw [List.length_take]; omega, fun hp => ?_⟩
 obtain ⟨ad, e, h1, h2⟩ := h.lies (by omega)
 refine ⟨ad, e, h1, fun j u hu => h2 j u ?_⟩
 have hj := (List.getElem?_eq_some_iff.1 hu).1
 rw [List.length_take] at hj
 rwa [List.getElem?_take_of_lt (by omega)] at hu
theorem sl_drop {w : World} {od : Addr} {n : Nat} {xs : List Value} (h : Sl w (some od) n 1 xs) {m : Nat} (hm : m ≤ n) : Sl w (some (od.add m)) (n - m) 1 (xs.drop m) := by
 have hl := h.len
 refine ⟨by rw [List.length_drop]; omega, fun hp => ?_⟩
 obtain ⟨ad, e, h1, h2⟩ := h.lies (by omega)
 injection e with e
 subst e
 refine ⟨_, rfl, by rw [add_block]; exact h1, fun j u hu => ?_⟩
 rw [add_add]
 rw [List.getElem?_drop] at hu
 exact h2 _ u hu
theorem sl_zero {w : World} {A : Option Addr} {n : Nat} {xs : List Value} (hx : xs = []) (hn : n = 0) : Sl w A n 1 xs := by
 subst hx hn
 exact Sl.nil _ _ _
theorem sl_one1 {w : World} {g : Nat} {t : TypeId} {x : Value} (h : Blk w g t #[x]) : Sl w (some ⟨g, 0, none⟩) 1 1 [x] :=
  ⟨rfl, fun _ => ⟨_, rfl, h.lt, fun j u hu => by rw [add_lit, Nat.zero_add, h.cell j]; simpa using hu⟩⟩
/-- What the outer loop of Closure holds: the list in order, the stack. -/
structure CoSt (w : World) (n : Nat) (gs : List (List Int)) (wr : World) (os ts : List PRow) (vo vt : Value) : Prop where
  below : Below w.heap.size w wr
  bfs : Bfs n gs (os.map Prod.snd) (ts.map Prod.snd)
  asc : Asc (os.map Prod.snd)
  out : Que wr w.heap.size 22 vo (os.map (cellP n))
  todo : Que wr w.heap.size 22 vt (ts.map (cellP n))
  orows : RowsB wr os
  trows : RowsB wr ts
  dis : vo.ownBlock ≠ vt.ownBlock
/-- .. and the inner one. -/
structure CoMid (w : World) (n : Nat) (gs : List (List Int)) (wr : World) (os ts : List PRow) (vo vt : Value) (ga : Nat) (a : List Int) (j : Nat) : Prop where
  below : Below w.heap.size w wr
  mid : Mid n gs (os.map Prod.snd) (ts.map Prod.snd) a j
  asc : Asc (os.map Prod.snd)
  out : Que wr w.heap.size 22 vo (os.map (cellP n))
  todo : Que wr w.heap.size 22 vt (ts.map (cellP n))
  orows : RowsB wr os
  trows : RowsB wr ts
  dis : vo.ownBlock ≠ vt.ownBlock
  cur : Blk wr ga 3 (iarr a)
theorem CoMid.keep {w wr wz : World} {n ga j : Nat} {gs : List (List Int)} {os ts : List PRow} {vo vt : Value} {a : List Int} (h : CoMid w n gs wr os ts vo vt ga a j) (hb : Below wr.heap.size wr wz) : CoMid w n gs wz os ts vo vt ga a j :=
  ⟨below_all h.below hb, h.mid, h.asc, h.out.below hb, h.todo.below hb, h.orows.keep hb, h.trows.keep hb, h.dis, h.cur.keep hb h.cur.lt⟩
theorem rclosure_any (G : Option Addr) (cG n : Nat) (gs : List (List Int)) (w : World) (hG : Lists w G gs) (hp : ∀ g ∈ gs, Perm n g) (hn : n ≤ 6) (hl : gs.length ≤ 1000000) :
    Calls Tryz.prog 25 #[.int .i64 n, .slice G gs.length cG] w fun e w' => ∃ A c S, e = .returned (.slice A (List.length S) c) ∧ Lists w' A S ∧ IsGen n gs S ∧ Asc S ∧ Below w.heap.size w w' := by
  have HG := Lib.hid hG
  have HP := Lib.hid hp
  have HUN := Lib.hid (fun V => runit_any n V hn)
  have HUL : Hid ((unit n).length = n) := Lib.hid (unit_len n)
  have HBF := Lib.hid (Bfs.start n gs)
  obtain ⟨j0, hj0, hjz0, hjz1, hjz2⟩ := info_parts prow_info
  clear hG hp
  generalize unit n = u at *
  go_enter Tryz.func25, Tryz.ntmps25
  go_upto_region 2 with (go_at_call 52; refine (HUN.out _).mono ?_; rintro e w1 ⟨rfl, hG1, hb1⟩)
  have hal1 := Below.alloc (Below.refl w1.heap.size w1) (Nat.le_refl _) (.cells #[.slice (some ⟨w.heap.size, 0, none⟩) n n] 22)
  have hQ1 := Que.of_blk (base := w.heap.size) (xs := [cellP n (w.heap.size, u)]) (Blk.new w1 22 #[.slice (some ⟨w.heap.size, 0, none⟩) n n]) hb1.size (by simp [maxLen])
  have hG1x := hG1.keep hal1 hG1.lt
  have hbx := below_all hb1 hal1
  have hlt1 : w1.heap.size < (w1.alloc (.cells #[.slice (some ⟨w.heap.size, 0, none⟩) n n] 22)).heap.size := by simp
  clear hG1 hb1 hal1
  generalize w1.alloc (.cells #[.slice (some ⟨w.heap.size, 0, none⟩) n n] 22) = W1 at *
  generalize w1.heap.size = go1 at *
  go_upto_region 3 with (go_at_call 52; refine (HUN.out _).mono ?_; rintro e w2 ⟨rfl, hG2, hb2⟩)
  have hal2 := Below.alloc (Below.refl w2.heap.size w2) (Nat.le_refl _) (.cells #[.slice (some ⟨W1.heap.size, 0, none⟩) n n] 22)
  have hbw2 := below_all hbx hb2
  have hQ2 := Que.of_blk (base := w.heap.size) (xs := [cellP n (W1.heap.size, u)]) (Blk.new w2 22 #[.slice (some ⟨W1.heap.size, 0, none⟩) n n]) hbw2.size (by simp [maxLen])
  have H0 : Hid (CoSt w n gs (w2.alloc (.cells #[.slice (some ⟨W1.heap.size, 0, none⟩) n n] 22)) [(w.heap.size, u)] [(W1.heap.size, u)] (.slice (some ⟨go1, 0, none⟩) 1 1) (.slice (some ⟨w2.heap.size, 0, none⟩) 1 1)) := Lib.hid
    ⟨below_all hbw2 hal2, HBF.out, List.pairwise_singleton _ _, (hQ1.below hb2).below hal2, hQ2, fun r hr => by rw [List.mem_singleton.1 hr]; exact (hG1x.keep hb2 hG1x.lt).keep hal2 (hG1x.keep hb2 hG1x.lt).lt, fun r hr => by rw [List.mem_singleton.1 hr]; exact hG2.keep hal2 hG2.lt, fun e => by
     injection e with e
     change go1 = w2.heap.size at e
     have := hb2.size
     omega⟩
  clear hal2 hQ1 hQ2 hG1x hG2 hbx hb2 hbw2 hlt1 HUN HBF
  generalize w2.alloc (.cells #[.slice (some ⟨W1.heap.size, 0, none⟩) n n] 22) = W2 at *
  generalize w2.heap.size = go2 at *
  generalize W1.heap.size = gu at *
  go_wp2
  go_loopg [5, 6] 46656 (fun m s5 s6 wr => ∃ (os ts : List PRow) (vo vt : Value), s5 = vo ∧ s6 = vt ∧ Hid (CoSt w n gs wr os ts vo vt) ∧ 46656 - os.length + ts.length ≤ m ∧ ts.length ≤ os.length)
  case atStart => exact ⟨_, _, _, _, rfl, rfl, H0, by simp, by simp⟩
  case round =>
   clear H0
   obtain ⟨wo, rfl⟩ : ∃ wo : World, wo = wr := ⟨_, rfl⟩
   obtain ⟨os, ts, vo, vt, rfl, rfl, HST, hm, hts⟩ := hrel
   have hos := HST.out.bfs.few hn HP.out
   rw [List.length_map] at hos
   rcases List.eq_nil_or_concat ts with rfl | ⟨ts', r, hcc⟩
   ·obtain ⟨g, o, cap, cur, rfl, _⟩ := HST.out.todo
    obtain ⟨od, co, rfl, hSl, _⟩ := HST.out.out.sl
    rw [List.length_map] at hSl
    have hgen := HST.out.bfs.fin
    have hrl : ∀ r ∈ os, r.2.length = n := fun r hr => (((hgen.2 r.2).1 (List.mem_map.2 ⟨r, hr, rfl⟩)).perm HP.out).1
    have hLs := lists_rows hSl HST.out.orows hn hrl
    have HF : Hid (∃ A c S, Value.slice (some od) (os.map (cellP n)).length co = .slice A (List.length S) c ∧ Lists wo A S ∧ IsGen n gs S ∧ Asc S) := Lib.hid ⟨some od, co, os.map Prod.snd, by simp, hLs, hgen, HST.out.asc⟩
    have hbF := HST.out.below
    clear hLs hrl hgen hSl
    go_wp2
    go_ret
    obtain ⟨A, c, S, h1, h2, h3, h4⟩ := HF.out
    exact ⟨A, c, S, (by rw [← h1]; rfl), h2, h3, h4, hbF⟩
   ·rw [List.concat_eq_append] at hcc
    subst hcc
    obtain ⟨gr, a⟩ := r
    obtain ⟨td, ct, hvt, hSlt, _, _⟩ := HST.out.todo.sl
    subst hvt
    have htod : Que wo w.heap.size 22 (.slice (some td) ((ts' ++ [(gr, a)]).map (cellP n)).length ct) (ts'.map (cellP n) ++ [cellP n (gr, a)]) := by
     have h := HST.out.todo
     have e : (ts' ++ [(gr, a)]).map (cellP n) = ts'.map (cellP n) ++ [cellP n (gr, a)] := by simp
     rw [← e]
     exact h
    obtain ⟨hinit, hcap⟩ := Go.Proofs.Tg.Gp.Que.init htod
    rw [List.length_map] at hinit hcap
    obtain ⟨td', e1, hcell'⟩ := Sl.at1 hSlt (show ts'.length < ((ts' ++ [(gr, a)]).map (cellP n)).length by simp)
    injection e1 with e1
    subst e1
    have hcell : wo.cell? (td.add ts'.length) = some (.slice (some ⟨gr, 0, none⟩) n n) := by simpa [cellP] using hcell'
    clear hcell'
    have hbfs : Bfs n gs (os.map Prod.snd) (ts'.map Prod.snd ++ [a]) := by have := HST.out.bfs; simpa using this
    have HMI := Lib.hid hbfs.popr
    have HMD := Lib.hid (⟨HST.out.below, HMI.out, HST.out.asc, HST.out.out, hinit, HST.out.orows, fun r hr => HST.out.trows r (List.mem_append_left _ hr), HST.out.dis, HST.out.trows (gr, a) (by simp)⟩ : CoMid w n gs wo os ts' _ (.slice (some td) ts'.length ct) gr a 0)
    have hvl : ((ts' ++ [(gr, a)]).map (cellP n)).length = ts'.length + 1 := by simp
    have q0 : (0 : Int) ≤ (ts'.length : Int) := by omega
    have q3 : ((ts'.length : Int)).toNat = ts'.length := by omega
    have ww : IntKind.i64.wrap (ts'.length : Int) = (ts'.length : Int) := by
     rw [List.length_append, List.length_singleton] at hts
     exact IntWalk.i64_in _ (by omega)
    have hcf : (ct = 0) = False := eq_false (by omega)
    have hts' : ts'.length + 1 ≤ os.length := by simpa using hts
    have hm' : 46656 - os.length + ts'.length < gk := by
     have : (ts' ++ [(gr, a)]).length = ts'.length + 1 := by simp
     omega
    have hcapl : ts'.length ≤ ct := by omega
    rw [hvl]
    clear hinit htod hbfs HMI hSlt HST hvl hm hts
    go_wp2
    go_loopw [8, 5, 6] (fun s8 s5 s6 wr => ∃ (j : Nat) (os ts : List PRow) (vo vt : Value), s8 = .int .i64 j ∧ j ≤ gs.length ∧ s5 = vo ∧ s6 = vt ∧ Hid (CoMid w n gs wr os ts vo vt gr a j) ∧ 46656 - os.length + ts.length < gk ∧ ts.length + 1 ≤ os.length) (fun s8 _ _ _ => gs.length - (intOf s8).toNat)
    case atStart => exact ⟨0, os, ts', _, _, rfl, Nat.zero_le _, rfl, rfl, HMD, hm', hts'⟩
    case round =>
     clear HMD hcell hcf hcap hcapl q0 q3 ww hm' hts'
     obtain ⟨wi, rfl⟩ : ∃ wi : World, wi = wr := ⟨_, rfl⟩
     obtain ⟨j, os, ts, vo, vt, rfl, hj, rfl, rfl, HMD, hm, hts⟩ := hrel
     have hbi := HMD.out.below
     have hos := HMD.out.mid.few hn HP.out
     rw [List.length_map] at hos
     obtain ⟨od, co, hvo, hSlo, _, hspo⟩ := HMD.out.out.sl
     obtain ⟨td, ct, hvt, _, _, _⟩ := HMD.out.todo.sl
     rw [List.length_map] at hvo hvt hSlo
     by_cases hjl : j < gs.length
     ·obtain ⟨ad, E, ce, rfl, hcg, hE⟩ := (HG.out.keep hbi).at hjl
      have hpg := HP.out gs[j] (List.getElem_mem _)
      have hpa : Perm n a := (HMD.out.mid.gen a HMD.out.mid.cur).perm HP.out
      have q0 : (0 : Int) ≤ (j : Int) := by omega
      have q1 : (j : Int) < (gs.length : Int) := by omega
      have q3 : ((j : Int)).toNat = j := by omega
      rw [hpg.1] at hcg
      have HPR := Lib.hid (rprod_any E (some ⟨gr, 0, none⟩) ce n n gs[j] a wi hE (ints_blk HMD.out.cur hpa.1 hn) hpg hpa hn)
      have hpc := cmp_perm hpg hpa
      have hal : ∀ r ∈ os, r.2.length = n := fun r hr => ((HMD.out.mid.gen r.2 (List.mem_map.2 ⟨r, hr, rfl⟩)).perm HP.out).1
      have hLo := lists_rows hSlo HMD.out.orows hn hal
      have HPLC : Hid (∀ V v, Below wi.heap.size wi V → Blk V wi.heap.size 3 (iarr (cmp gs[j] a)) → (v = true ↔ cmp gs[j] a ∈ os.map Prod.snd) → Calls Tryz.prog 54 #[.slice (some od) os.length co, .slice (some ⟨wi.heap.size, 0, none⟩) n n] V fun e w' => ∃ m : Nat, e = .returned (.tuple #[.int .i64 m, .bool v]) ∧ Pm.At (os.map Prod.snd) (cmp gs[j] a) m ∧ Below V.heap.size V w') := Lib.hid (fun V v h hB hv => by
       have := place_any (some od) co (os.map Prod.snd) (some ⟨wi.heap.size, 0, none⟩) n (cmp gs[j] a) v V (hLo.keep h) (ints_blk hB hpc.1 hn) (by simp; omega) (fun x hx => by
        obtain ⟨r, hr, rfl⟩ := List.mem_map.1 hx
        have := hal r hr
        omega) HMD.out.asc hv
       rw [List.length_map, hpc.1] at this
       exact this)
      clear hE hal hLo hSlo
      by_cases hin : cmp gs[j] a ∈ os.map Prod.snd
      ·have HO := Lib.hid (HMD.out.mid.old hjl hin)
       have HPT : Hid (∀ V, Below wi.heap.size wi V → Blk V wi.heap.size 3 (iarr (cmp gs[j] a)) → Calls Tryz.prog 54 #[.slice (some od) os.length co, .slice (some ⟨wi.heap.size, 0, none⟩) n n] V fun e w' => ∃ m : Nat, e = .returned (.tuple #[.int .i64 m, .bool true]) ∧ Below V.heap.size V w') := Lib.hid (fun V h hB => (HPLC.out V true h hB ⟨fun _ => hin, fun _ => rfl⟩).mono fun e w' ⟨m, h1, _, h3⟩ => ⟨m, h1, h3⟩)
       clear hin HPLC hpg hpa hpc
       generalize cmp gs[j] a = z at *
       subst hvo hvt
       go_wp2_with (first
         | (go_at_call 53; refine HPR.out.mono ?_; rintro e w4 ⟨rfl, hG4, hb4⟩)
         | (go_at_call 54; refine (HPT.out _ hb4 hG4).mono ?_; rintro e w5 ⟨m, rfl, hb5⟩))
       go_roundw
       case rel =>
        have hK := HMD.out.keep (below_all hb4 hb5)
        exact ⟨j + 1, os, ts, _, _, by go_num, by omega, rfl, rfl, Lib.hid ⟨hK.below, HO.out, hK.asc, hK.out, hK.todo, hK.orows, hK.trows, hK.dis, hK.cur⟩, hm, hts⟩
       case measure => simp [intOf]; omega
      ·have HPF : Hid (∀ V, Below wi.heap.size wi V → Blk V wi.heap.size 3 (iarr (cmp gs[j] a)) → Calls Tryz.prog 54 #[.slice (some od) os.length co, .slice (some ⟨wi.heap.size, 0, none⟩) n n] V fun e w' => ∃ m : Nat, e = .returned (.tuple #[.int .i64 m, .bool false]) ∧ Pm.At (os.map Prod.snd) (cmp gs[j] a) m ∧ Below V.heap.size V w') := Lib.hid (fun V h hB => HPLC.out V false h hB (Iff.intro (fun h => by cases h) (fun h => absurd h hin)))
       have HPM : Hid (∀ m, Pm.At (os.map Prod.snd) (cmp gs[j] a) m → Asc ((os.map Prod.snd).take m ++ cmp gs[j] a :: (os.map Prod.snd).drop m) ∧ Mid n gs ((os.map Prod.snd).take m ++ cmp gs[j] a :: (os.map Prod.snd).drop m) (ts.map Prod.snd ++ [cmp gs[j] a]) a (j + 1)) := Lib.hid (fun m h => HMD.out.mid.place hjl HMD.out.asc h hin)
       clear hin HPLC hpg hpa hpc
       generalize cmp gs[j] a = z at *
       subst hvo hvt
       go_upto_region 12 with (first
         | (go_at_call 53; refine HPR.out.mono ?_; rintro e w4 ⟨rfl, hG4, hb4⟩)
         | (go_at_call 54; refine (HPF.out _ hb4 hG4).mono ?_; rintro e w5 ⟨m, rfl, hat5, hb5⟩))
       have hb45 := below_all hb4 hb5
       have HK5 := Lib.hid (HMD.out.keep hb45)
       have hZ5 := hG4.keep hb5 hG4.lt
       have hmo : m ≤ os.length := by have := hat5.1; rwa [List.length_map] at this
       obtain ⟨od', co', e1, hSl5, _⟩ := HK5.out.out.sl
       have hcapo : os.length ≤ co := by
        obtain ⟨_, _, cap', _, e2, _, _, e4, _⟩ := HK5.out.out
        injection e2 with _ _ e5
        rw [e5]
        simpa using e4
       injection e1 with e1 e2 e3
       injection e1 with e1
       subst e1
       clear e2 e3
       rw [List.length_map] at hSl5
       have HAT5 := Lib.hid (HPM.out m hat5)
       have hco0 : (co = 0) = False := eq_false (by omega)
       have m0 : (0 : Int) ≤ (m : Int) := by omega
       have m1 : (m : Int) ≤ (os.length : Int) := by omega
       have m2 : (m : Int) ≤ (co : Int) := by omega
       have m3 : ((m : Int)).toNat = m := by omega
       clear hG4 HPR HPF HPM hat5 hcg q0 q1 q3
       have HON1 : Hid (∀ u ∈ (os.map (cellP n)).take m, u.oneCell' = true) := Lib.hid (fun u hu => by
        obtain ⟨r, _, rfl⟩ := List.mem_map.1 (List.mem_of_mem_take hu)
        rfl)
       have HON2 : Hid (∀ u ∈ (os.map (cellP n)).drop m, u.oneCell' = true) := Lib.hid (fun u hu => by
        obtain ⟨r, _, rfl⟩ := List.mem_map.1 (List.mem_of_mem_drop hu)
        rfl)
       go_cut [5] (fun s5 wx => Que wx w5.heap.size 22 s5 ([] ++ (os.map (cellP n)).take m ++ [.slice (some ⟨wi.heap.size, 0, none⟩) n n] ++ (os.map (cellP n)).drop m) ∧ Below w5.heap.size w5 wx)
       case first =>
        by_cases hcm : m = co
        ·subst hcm
         have hfull : os.length ≤ m := hcapo
         have BZ : Below w5.heap.size w5 w5.drew := (Below.refl _ _).drew
         refine wp_region_held_drew (S := (fun w' => True)) (by kernel_rfl) trivial (fun hHeld => ?_)
         generalize w5.drew = Z at *
         refine wpAnyH_get 1 (some 53) (.slice (some od) os.length m) rfl rfl (by kernel_rfl) (by kernel_rfl) (by kernel_rfl) (fun _ _ _ h => h) (by rfl) hHeld ?_ ?_
         ·(intro w hSw; (try dsimp only at hSw); go_simp; all_goals (try with_reducible rfl))
         (try simp only [Act.put, List.setIfInBounds_toArray, List.set_cons_zero, List.set_cons_succ])
         refine wpAnyH_get 2 (some 54) (.int .i64 m) rfl rfl (by kernel_rfl) (by kernel_rfl) (by kernel_rfl) (fun _ _ _ h => h) (by rfl) hHeld ?_ ?_
         ·(intro w hSw; (try dsimp only at hSw); go_simp; all_goals (try with_reducible rfl))
         (try simp only [Act.put, List.setIfInBounds_toArray, List.set_cons_zero, List.set_cons_succ])
         refine wpAnyH_get 3 (some 55) (.slice (some od) m m) rfl rfl (by kernel_rfl) (by kernel_rfl) (by kernel_rfl) (fun _ _ _ h => h) (by rfl) hHeld ?_ ?_
         ·(intro w hSw; (try dsimp only at hSw); go_simp; all_goals (try with_reducible rfl))
         (try simp only [Act.put, List.setIfInBounds_toArray, List.set_cons_zero, List.set_cons_succ])
         refine wpAnyH_get 5 (some 57) (.slice (some ⟨wi.heap.size, 0, none⟩) n n) rfl rfl (by kernel_rfl) (by kernel_rfl) (by kernel_rfl) (fun _ _ _ h => h) (by rfl) hHeld ?_ ?_
         ·(intro w hSw; (try dsimp only at hSw); go_simp; all_goals (try with_reducible rfl))
         (try simp only [Act.put, List.setIfInBounds_toArray, List.set_cons_zero, List.set_cons_succ])
         refine wpAnyH_get 8 (some 60) (.slice (some od) os.length m) rfl rfl (by kernel_rfl) (by kernel_rfl) (by kernel_rfl) (fun _ _ _ h => h) (by rfl) hHeld ?_ ?_
         ·(intro w hSw; (try dsimp only at hSw); go_simp; all_goals (try with_reducible rfl))
         (try simp only [Act.put, List.setIfInBounds_toArray, List.set_cons_zero, List.set_cons_succ])
         refine wpAnyH_get 9 (some 61) (.int .i64 m) rfl rfl (by kernel_rfl) (by kernel_rfl) (by kernel_rfl) (fun _ _ _ h => h) (by rfl) hHeld ?_ ?_
         ·(intro w hSw; (try dsimp only at hSw); go_simp; all_goals (try with_reducible rfl))
         (try simp only [Act.put, List.setIfInBounds_toArray, List.set_cons_zero, List.set_cons_succ])
         refine wpAnyH_get 10 (some 62) (.slice (some (od)) 0 0) rfl rfl (by kernel_rfl) (by kernel_rfl) (by kernel_rfl) (fun _ _ _ h => h) (by rfl) hHeld ?_ ?_
         ·(intro w hSw; (try dsimp only at hSw); go_simp; all_goals (try with_reducible rfl))
         (try simp only [Act.put, List.setIfInBounds_toArray, List.set_cons_zero, List.set_cons_succ])
         refine wpAnyH_ready (rs := [0, 6]) (by kernel_rfl) (by simp) ?_
         refine AllReadyH.cons rfl (fun K hK => ?_) (AllReadyH.cons rfl (fun K hK => ?_) AllReadyH.nil)
         ·go_simp
          have hba : Below Z.heap.size Z (Z.alloc (.cells #[] 22)) := (Below.refl _ _).alloc (Nat.le_refl _) _
          have BZ1 := below_all BZ hba
          have Q0 := Que.of_blk (base := w5.heap.size) (xs := []) (Blk.new Z 22 #[]) BZ.size (by simp [maxLen])
          refine hK.out _ _ trivial (fun hHeld => ?_)
          clear hK K hba
          (try simp only [Act.put, List.setIfInBounds_toArray, List.set_cons_zero, List.set_cons_succ])
          generalize Z.alloc (.cells #[] 22) = Z1 at *
          generalize Z.heap.size = g0 at *
          (try simp only [Act.put, List.setIfInBounds_toArray, List.set_cons_zero, List.set_cons_succ])
          refine wpAnyH_ready (rs := [4, 6]) (by kernel_rfl) (by simp) ?_
          refine AllReadyH.cons rfl (fun K hK => ?_) (AllReadyH.cons rfl (fun K hK => ?_) AllReadyH.nil)
          ·refine step_que_appends _ (.inl rfl) _ _ 23 (by rfl) w5.heap.size 22 j0 (.slice none 0 0) 24 Tryz.underlying23 hj0 hjz0 hjz1 hjz2 rfl (.slice (some ⟨g0, 0, none⟩) 0 0) [] (by simp [Act.eval]) Q0 (.slice (some od) m m) m ((os.map (cellP n)).take m) (by simp [Act.eval]) (src_sl Tryz.underlying23 (sl_take (hSl5.keep BZ1) hmo) HON1.out) (by simp [maxLen]; omega) (by simp; omega) BZ1.size ?_
           intro v4 Z2 Q4 hg _
           have BZ2 := BZ1.grown hg BZ1.size (fun q hq => by
            obtain ⟨_, h1, h2, _⟩ := Q0.blk
            have h3 := h1.symm.trans hq
            injection h3 with h3
            omega)
           (try change K (Act.put _ (some 56) v4) Z2)
           refine hK.out _ _ trivial (fun hHeld => ?_)
           clear hK K hg
           (try simp only [Act.put, List.setIfInBounds_toArray, List.set_cons_zero, List.set_cons_succ])
           refine wpAnyH_ready (rs := [6]) (by kernel_rfl) (by simp) ?_
           refine AllReadyH.cons rfl (fun K hK => ?_) AllReadyH.nil
           go_simp
           have hba : Below Z2.heap.size Z2 (Z2.alloc (.cells #[.slice (some ⟨wi.heap.size, 0, none⟩) n n] 22)) := (Below.refl _ _).alloc (Nat.le_refl _) _
           have BZ3 := below_all BZ2 hba
           have Q4 := Q4.below hba
           have G6 := Blk.new Z2 22 #[.slice (some ⟨wi.heap.size, 0, none⟩) n n]
           refine hK.out _ _ trivial (fun hHeld => ?_)
           clear hK K hba
           (try simp only [Act.put, List.setIfInBounds_toArray, List.set_cons_zero, List.set_cons_succ])
           generalize Z2.alloc (.cells #[.slice (some ⟨wi.heap.size, 0, none⟩) n n] 22) = Z3 at *
           generalize Z2.heap.size = g6 at *
           (try simp only [Act.put, List.setIfInBounds_toArray, List.set_cons_zero, List.set_cons_succ])
           refine wpAnyH_ready (rs := [7]) (by kernel_rfl) (by simp) ?_
           refine AllReadyH.cons rfl (fun K hK => ?_) AllReadyH.nil
           refine step_que_appends _ (.inl rfl) _ _ 23 (by rfl) w5.heap.size 22 j0 (.slice none 0 0) 24 Tryz.underlying23 hj0 hjz0 hjz1 hjz2 rfl v4 ([] ++ (os.map (cellP n)).take m) (by simp [Act.eval]) Q4 (.slice (some ⟨g6, 0, none⟩) 1 1) 1 [.slice (some ⟨wi.heap.size, 0, none⟩) n n] (by simp [Act.eval]) (src_sl Tryz.underlying23 (sl_one1 G6) (by simp [Value.oneCell'])) (by simp [maxLen]; omega) (by simp; omega) BZ3.size ?_
           intro v7 Z4 Q7 hg _
           have BZ4 := BZ3.grown hg BZ3.size (fun q hq => by
            obtain ⟨_, h1, h2, _⟩ := Q4.blk
            have h3 := h1.symm.trans hq
            injection h3 with h3
            omega)
           (try change K (Act.put _ (some 59) v7) Z4)
           refine hK.out _ _ trivial (fun hHeld => ?_)
           clear hK K hg
           (try simp only [Act.put, List.setIfInBounds_toArray, List.set_cons_zero, List.set_cons_succ])
           refine wpAnyH_ready (rs := [11]) (by kernel_rfl) (by simp) ?_
           refine AllReadyH.cons rfl (fun K hK => ?_) AllReadyH.nil
           refine step_que_appends _ (.inl rfl) _ _ 23 (by rfl) w5.heap.size 22 j0 (.slice none 0 0) 24 Tryz.underlying23 hj0 hjz0 hjz1 hjz2 rfl v7 ([] ++ (os.map (cellP n)).take m ++ [.slice (some ⟨wi.heap.size, 0, none⟩) n n]) (by simp [Act.eval]) Q7 (.slice (some (od)) 0 0) 0 ((os.map (cellP n)).drop m) (by simp [Act.eval]) (src_sl Tryz.underlying23 (sl_zero (by rw [List.drop_eq_nil_of_le (by simp; omega)]) rfl) HON2.out) (by simp [maxLen]; omega) (by simp; omega) BZ4.size ?_
           intro v11 Z5 Q11 hg _
           have BZ5 := BZ4.grown hg BZ4.size (fun q hq => by
            obtain ⟨_, h1, h2, _⟩ := Q7.blk
            have h3 := h1.symm.trans hq
            injection h3 with h3
            omega)
           (try change K (Act.put _ (some 63) v11) Z5)
           refine hK.out _ _ trivial (fun hHeld => ?_)
           clear hK K hg
           (try simp only [Act.put, List.setIfInBounds_toArray, List.set_cons_zero, List.set_cons_succ])
           refine wpAnyH_get 12 (some 5) (v11) rfl rfl (by kernel_rfl) (by kernel_rfl) (by kernel_rfl) (fun _ _ _ h => h) (by rfl) hHeld ?_ ?_
           ·(intro w hSw; (try dsimp only at hSw); go_simp; all_goals (try with_reducible rfl))
           (try simp only [Act.put, List.setIfInBounds_toArray, List.set_cons_zero, List.set_cons_succ])
           refine wpAnyH_done (by kernel_rfl) ?_ _
           go_wp2
           go_meet
           exact ⟨Q11, BZ5⟩
          ·go_simp
           have hne6 : Z1.heap.size ≠ g0 := by
            obtain ⟨_, h1, _, h3⟩ := Q0.blk
            injection h1 with h1
            change g0 = _ at h1
            omega
           have hba : Below Z1.heap.size Z1 (Z1.alloc (.cells #[.slice (some ⟨wi.heap.size, 0, none⟩) n n] 22)) := (Below.refl _ _).alloc (Nat.le_refl _) _
           have BZ6 := below_all BZ1 hba
           have Q0 := Q0.below hba
           have G6 := Blk.new Z1 22 #[.slice (some ⟨wi.heap.size, 0, none⟩) n n]
           refine hK.out _ _ trivial (fun hHeld => ?_)
           clear hK K hba
           (try simp only [Act.put, List.setIfInBounds_toArray, List.set_cons_zero, List.set_cons_succ])
           generalize Z1.alloc (.cells #[.slice (some ⟨wi.heap.size, 0, none⟩) n n] 22) = Z6 at *
           generalize Z1.heap.size = g6 at *
           (try simp only [Act.put, List.setIfInBounds_toArray, List.set_cons_zero, List.set_cons_succ])
           refine wpAnyH_ready (rs := [4]) (by kernel_rfl) (by simp) ?_
           refine AllReadyH.cons rfl (fun K hK => ?_) AllReadyH.nil
           refine step_que_appends _ (.inl rfl) _ _ 23 (by rfl) w5.heap.size 22 j0 (.slice none 0 0) 24 Tryz.underlying23 hj0 hjz0 hjz1 hjz2 rfl (.slice (some ⟨g0, 0, none⟩) 0 0) [] (by simp [Act.eval]) Q0 (.slice (some od) m m) m ((os.map (cellP n)).take m) (by simp [Act.eval]) (src_sl Tryz.underlying23 (sl_take (hSl5.keep BZ6) hmo) HON1.out) (by simp [maxLen]; omega) (by simp; omega) BZ6.size ?_
           intro v4 Z7 Q4 hg _
           have BZ7 := BZ6.grown hg BZ6.size (fun q hq => by
            obtain ⟨_, h1, h2, _⟩ := Q0.blk
            have h3 := h1.symm.trans hq
            injection h3 with h3
            omega)
           have G6 := G6.grown hg (by simpa [Value.ownBlock] using hne6)
           (try change K (Act.put _ (some 56) v4) Z7)
           refine hK.out _ _ trivial (fun hHeld => ?_)
           clear hK K hg
           (try simp only [Act.put, List.setIfInBounds_toArray, List.set_cons_zero, List.set_cons_succ])
           refine wpAnyH_ready (rs := [7]) (by kernel_rfl) (by simp) ?_
           refine AllReadyH.cons rfl (fun K hK => ?_) AllReadyH.nil
           refine step_que_appends _ (.inl rfl) _ _ 23 (by rfl) w5.heap.size 22 j0 (.slice none 0 0) 24 Tryz.underlying23 hj0 hjz0 hjz1 hjz2 rfl v4 ([] ++ (os.map (cellP n)).take m) (by simp [Act.eval]) Q4 (.slice (some ⟨g6, 0, none⟩) 1 1) 1 [.slice (some ⟨wi.heap.size, 0, none⟩) n n] (by simp [Act.eval]) (src_sl Tryz.underlying23 (sl_one1 G6) (by simp [Value.oneCell'])) (by simp [maxLen]; omega) (by simp; omega) BZ7.size ?_
           intro v7 Z8 Q7 hg _
           have BZ8 := BZ7.grown hg BZ7.size (fun q hq => by
            obtain ⟨_, h1, h2, _⟩ := Q4.blk
            have h3 := h1.symm.trans hq
            injection h3 with h3
            omega)
           (try change K (Act.put _ (some 59) v7) Z8)
           refine hK.out _ _ trivial (fun hHeld => ?_)
           clear hK K hg
           (try simp only [Act.put, List.setIfInBounds_toArray, List.set_cons_zero, List.set_cons_succ])
           refine wpAnyH_ready (rs := [11]) (by kernel_rfl) (by simp) ?_
           refine AllReadyH.cons rfl (fun K hK => ?_) AllReadyH.nil
           refine step_que_appends _ (.inl rfl) _ _ 23 (by rfl) w5.heap.size 22 j0 (.slice none 0 0) 24 Tryz.underlying23 hj0 hjz0 hjz1 hjz2 rfl v7 ([] ++ (os.map (cellP n)).take m ++ [.slice (some ⟨wi.heap.size, 0, none⟩) n n]) (by simp [Act.eval]) Q7 (.slice (some (od)) 0 0) 0 ((os.map (cellP n)).drop m) (by simp [Act.eval]) (src_sl Tryz.underlying23 (sl_zero (by rw [List.drop_eq_nil_of_le (by simp; omega)]) rfl) HON2.out) (by simp [maxLen]; omega) (by simp; omega) BZ8.size ?_
           intro v11 Z9 Q11 hg _
           have BZ9 := BZ8.grown hg BZ8.size (fun q hq => by
            obtain ⟨_, h1, h2, _⟩ := Q7.blk
            have h3 := h1.symm.trans hq
            injection h3 with h3
            omega)
           (try change K (Act.put _ (some 63) v11) Z9)
           refine hK.out _ _ trivial (fun hHeld => ?_)
           clear hK K hg
           (try simp only [Act.put, List.setIfInBounds_toArray, List.set_cons_zero, List.set_cons_succ])
           refine wpAnyH_get 12 (some 5) (v11) rfl rfl (by kernel_rfl) (by kernel_rfl) (by kernel_rfl) (fun _ _ _ h => h) (by rfl) hHeld ?_ ?_
           ·(intro w hSw; (try dsimp only at hSw); go_simp; all_goals (try with_reducible rfl))
           (try simp only [Act.put, List.setIfInBounds_toArray, List.set_cons_zero, List.set_cons_succ])
           refine wpAnyH_done (by kernel_rfl) ?_ _
           go_wp2
           go_meet
           exact ⟨Q11, BZ9⟩
         ·go_simp
          have hba : Below Z.heap.size Z (Z.alloc (.cells #[.slice (some ⟨wi.heap.size, 0, none⟩) n n] 22)) := (Below.refl _ _).alloc (Nat.le_refl _) _
          have BZ10 := below_all BZ hba
          have G6 := Blk.new Z 22 #[.slice (some ⟨wi.heap.size, 0, none⟩) n n]
          refine hK.out _ _ trivial (fun hHeld => ?_)
          clear hK K hba
          (try simp only [Act.put, List.setIfInBounds_toArray, List.set_cons_zero, List.set_cons_succ])
          generalize Z.alloc (.cells #[.slice (some ⟨wi.heap.size, 0, none⟩) n n] 22) = Z10 at *
          generalize Z.heap.size = g6 at *
          (try simp only [Act.put, List.setIfInBounds_toArray, List.set_cons_zero, List.set_cons_succ])
          refine wpAnyH_ready (rs := [0]) (by kernel_rfl) (by simp) ?_
          refine AllReadyH.cons rfl (fun K hK => ?_) AllReadyH.nil
          go_simp
          have hne6 : g6 ≠ Z10.heap.size := by have := G6.lt; omega
          have hba : Below Z10.heap.size Z10 (Z10.alloc (.cells #[] 22)) := (Below.refl _ _).alloc (Nat.le_refl _) _
          have BZ11 := below_all BZ10 hba
          have G6 := G6.keep hba G6.lt
          have Q0 := Que.of_blk (base := w5.heap.size) (xs := []) (Blk.new Z10 22 #[]) BZ10.size (by simp [maxLen])
          refine hK.out _ _ trivial (fun hHeld => ?_)
          clear hK K hba
          (try simp only [Act.put, List.setIfInBounds_toArray, List.set_cons_zero, List.set_cons_succ])
          generalize Z10.alloc (.cells #[] 22) = Z11 at *
          generalize Z10.heap.size = g0 at *
          (try simp only [Act.put, List.setIfInBounds_toArray, List.set_cons_zero, List.set_cons_succ])
          refine wpAnyH_ready (rs := [4]) (by kernel_rfl) (by simp) ?_
          refine AllReadyH.cons rfl (fun K hK => ?_) AllReadyH.nil
          refine step_que_appends _ (.inl rfl) _ _ 23 (by rfl) w5.heap.size 22 j0 (.slice none 0 0) 24 Tryz.underlying23 hj0 hjz0 hjz1 hjz2 rfl (.slice (some ⟨g0, 0, none⟩) 0 0) [] (by simp [Act.eval]) Q0 (.slice (some od) m m) m ((os.map (cellP n)).take m) (by simp [Act.eval]) (src_sl Tryz.underlying23 (sl_take (hSl5.keep BZ11) hmo) HON1.out) (by simp [maxLen]; omega) (by simp; omega) BZ11.size ?_
          intro v4 Z12 Q4 hg _
          have BZ12 := BZ11.grown hg BZ11.size (fun q hq => by
           obtain ⟨_, h1, h2, _⟩ := Q0.blk
           have h3 := h1.symm.trans hq
           injection h3 with h3
           omega)
          have G6 := G6.grown hg (by simpa [Value.ownBlock] using hne6)
          (try change K (Act.put _ (some 56) v4) Z12)
          refine hK.out _ _ trivial (fun hHeld => ?_)
          clear hK K hg
          (try simp only [Act.put, List.setIfInBounds_toArray, List.set_cons_zero, List.set_cons_succ])
          refine wpAnyH_ready (rs := [7]) (by kernel_rfl) (by simp) ?_
          refine AllReadyH.cons rfl (fun K hK => ?_) AllReadyH.nil
          refine step_que_appends _ (.inl rfl) _ _ 23 (by rfl) w5.heap.size 22 j0 (.slice none 0 0) 24 Tryz.underlying23 hj0 hjz0 hjz1 hjz2 rfl v4 ([] ++ (os.map (cellP n)).take m) (by simp [Act.eval]) Q4 (.slice (some ⟨g6, 0, none⟩) 1 1) 1 [.slice (some ⟨wi.heap.size, 0, none⟩) n n] (by simp [Act.eval]) (src_sl Tryz.underlying23 (sl_one1 G6) (by simp [Value.oneCell'])) (by simp [maxLen]; omega) (by simp; omega) BZ12.size ?_
          intro v7 Z13 Q7 hg _
          have BZ13 := BZ12.grown hg BZ12.size (fun q hq => by
           obtain ⟨_, h1, h2, _⟩ := Q4.blk
           have h3 := h1.symm.trans hq
           injection h3 with h3
           omega)
          (try change K (Act.put _ (some 59) v7) Z13)
          refine hK.out _ _ trivial (fun hHeld => ?_)
          clear hK K hg
          (try simp only [Act.put, List.setIfInBounds_toArray, List.set_cons_zero, List.set_cons_succ])
          refine wpAnyH_ready (rs := [11]) (by kernel_rfl) (by simp) ?_
          refine AllReadyH.cons rfl (fun K hK => ?_) AllReadyH.nil
          refine step_que_appends _ (.inl rfl) _ _ 23 (by rfl) w5.heap.size 22 j0 (.slice none 0 0) 24 Tryz.underlying23 hj0 hjz0 hjz1 hjz2 rfl v7 ([] ++ (os.map (cellP n)).take m ++ [.slice (some ⟨wi.heap.size, 0, none⟩) n n]) (by simp [Act.eval]) Q7 (.slice (some (od)) 0 0) 0 ((os.map (cellP n)).drop m) (by simp [Act.eval]) (src_sl Tryz.underlying23 (sl_zero (by rw [List.drop_eq_nil_of_le (by simp; omega)]) rfl) HON2.out) (by simp [maxLen]; omega) (by simp; omega) BZ13.size ?_
          intro v11 Z14 Q11 hg _
          have BZ14 := BZ13.grown hg BZ13.size (fun q hq => by
           obtain ⟨_, h1, h2, _⟩ := Q7.blk
           have h3 := h1.symm.trans hq
           injection h3 with h3
           omega)
          (try change K (Act.put _ (some 63) v11) Z14)
          refine hK.out _ _ trivial (fun hHeld => ?_)
          clear hK K hg
          (try simp only [Act.put, List.setIfInBounds_toArray, List.set_cons_zero, List.set_cons_succ])
          refine wpAnyH_get 12 (some 5) (v11) rfl rfl (by kernel_rfl) (by kernel_rfl) (by kernel_rfl) (fun _ _ _ h => h) (by rfl) hHeld ?_ ?_
          ·(intro w hSw; (try dsimp only at hSw); go_simp; all_goals (try with_reducible rfl))
          (try simp only [Act.put, List.setIfInBounds_toArray, List.set_cons_zero, List.set_cons_succ])
          refine wpAnyH_done (by kernel_rfl) ?_ _
          go_wp2
          go_meet
          exact ⟨Q11, BZ14⟩
        ·have hcmf : (co = m) = False := eq_false (fun e => hcm e.symm)
         have BZ : Below w5.heap.size w5 w5.drew := (Below.refl _ _).drew
         refine wp_region_held_drew (S := (fun w' => True)) (by kernel_rfl) trivial (fun hHeld => ?_)
         generalize w5.drew = Z at *
         refine wpAnyH_get 1 (some 53) (.slice (some od) os.length co) rfl rfl (by kernel_rfl) (by kernel_rfl) (by kernel_rfl) (fun _ _ _ h => h) (by rfl) hHeld ?_ ?_
         ·(intro w hSw; (try dsimp only at hSw); go_simp; all_goals (try with_reducible rfl))
         (try simp only [Act.put, List.setIfInBounds_toArray, List.set_cons_zero, List.set_cons_succ])
         refine wpAnyH_get 2 (some 54) (.int .i64 m) rfl rfl (by kernel_rfl) (by kernel_rfl) (by kernel_rfl) (fun _ _ _ h => h) (by rfl) hHeld ?_ ?_
         ·(intro w hSw; (try dsimp only at hSw); go_simp; all_goals (try with_reducible rfl))
         (try simp only [Act.put, List.setIfInBounds_toArray, List.set_cons_zero, List.set_cons_succ])
         refine wpAnyH_get 3 (some 55) (.slice (some od) m co) rfl rfl (by kernel_rfl) (by kernel_rfl) (by kernel_rfl) (fun _ _ _ h => h) (by rfl) hHeld ?_ ?_
         ·(intro w hSw; (try dsimp only at hSw); go_simp; all_goals (try with_reducible rfl))
         (try simp only [Act.put, List.setIfInBounds_toArray, List.set_cons_zero, List.set_cons_succ])
         refine wpAnyH_get 5 (some 57) (.slice (some ⟨wi.heap.size, 0, none⟩) n n) rfl rfl (by kernel_rfl) (by kernel_rfl) (by kernel_rfl) (fun _ _ _ h => h) (by rfl) hHeld ?_ ?_
         ·(intro w hSw; (try dsimp only at hSw); go_simp; all_goals (try with_reducible rfl))
         (try simp only [Act.put, List.setIfInBounds_toArray, List.set_cons_zero, List.set_cons_succ])
         refine wpAnyH_get 8 (some 60) (.slice (some od) os.length co) rfl rfl (by kernel_rfl) (by kernel_rfl) (by kernel_rfl) (fun _ _ _ h => h) (by rfl) hHeld ?_ ?_
         ·(intro w hSw; (try dsimp only at hSw); go_simp; all_goals (try with_reducible rfl))
         (try simp only [Act.put, List.setIfInBounds_toArray, List.set_cons_zero, List.set_cons_succ])
         refine wpAnyH_get 9 (some 61) (.int .i64 m) rfl rfl (by kernel_rfl) (by kernel_rfl) (by kernel_rfl) (fun _ _ _ h => h) (by rfl) hHeld ?_ ?_
         ·(intro w hSw; (try dsimp only at hSw); go_simp; all_goals (try with_reducible rfl))
         (try simp only [Act.put, List.setIfInBounds_toArray, List.set_cons_zero, List.set_cons_succ])
         refine wpAnyH_get 10 (some 62) (.slice (some (od.add m)) (os.length - m) (co - m)) rfl rfl (by kernel_rfl) (by kernel_rfl) (by kernel_rfl) (fun _ _ _ h => h) (by rfl) hHeld ?_ ?_
         ·(intro w hSw; (try dsimp only at hSw); go_simp; all_goals (try with_reducible rfl))
         (try simp only [Act.put, List.setIfInBounds_toArray, List.set_cons_zero, List.set_cons_succ])
         refine wpAnyH_ready (rs := [0, 6]) (by kernel_rfl) (by simp) ?_
         refine AllReadyH.cons rfl (fun K hK => ?_) (AllReadyH.cons rfl (fun K hK => ?_) AllReadyH.nil)
         ·go_simp
          have hba : Below Z.heap.size Z (Z.alloc (.cells #[] 22)) := (Below.refl _ _).alloc (Nat.le_refl _) _
          have BZ1 := below_all BZ hba
          have Q0 := Que.of_blk (base := w5.heap.size) (xs := []) (Blk.new Z 22 #[]) BZ.size (by simp [maxLen])
          refine hK.out _ _ trivial (fun hHeld => ?_)
          clear hK K hba
          (try simp only [Act.put, List.setIfInBounds_toArray, List.set_cons_zero, List.set_cons_succ])
          generalize Z.alloc (.cells #[] 22) = Z1 at *
          generalize Z.heap.size = g0 at *
          (try simp only [Act.put, List.setIfInBounds_toArray, List.set_cons_zero, List.set_cons_succ])
          refine wpAnyH_ready (rs := [4, 6]) (by kernel_rfl) (by simp) ?_
          refine AllReadyH.cons rfl (fun K hK => ?_) (AllReadyH.cons rfl (fun K hK => ?_) AllReadyH.nil)
          ·refine step_que_appends _ (.inl rfl) _ _ 23 (by rfl) w5.heap.size 22 j0 (.slice none 0 0) 24 Tryz.underlying23 hj0 hjz0 hjz1 hjz2 rfl (.slice (some ⟨g0, 0, none⟩) 0 0) [] (by simp [Act.eval]) Q0 (.slice (some od) m co) m ((os.map (cellP n)).take m) (by simp [Act.eval]) (src_sl Tryz.underlying23 (sl_take (hSl5.keep BZ1) hmo) HON1.out) (by simp [maxLen]; omega) (by simp; omega) BZ1.size ?_
           intro v4 Z2 Q4 hg _
           have BZ2 := BZ1.grown hg BZ1.size (fun q hq => by
            obtain ⟨_, h1, h2, _⟩ := Q0.blk
            have h3 := h1.symm.trans hq
            injection h3 with h3
            omega)
           (try change K (Act.put _ (some 56) v4) Z2)
           refine hK.out _ _ trivial (fun hHeld => ?_)
           clear hK K hg
           (try simp only [Act.put, List.setIfInBounds_toArray, List.set_cons_zero, List.set_cons_succ])
           refine wpAnyH_ready (rs := [6]) (by kernel_rfl) (by simp) ?_
           refine AllReadyH.cons rfl (fun K hK => ?_) AllReadyH.nil
           go_simp
           have hba : Below Z2.heap.size Z2 (Z2.alloc (.cells #[.slice (some ⟨wi.heap.size, 0, none⟩) n n] 22)) := (Below.refl _ _).alloc (Nat.le_refl _) _
           have BZ3 := below_all BZ2 hba
           have Q4 := Q4.below hba
           have G6 := Blk.new Z2 22 #[.slice (some ⟨wi.heap.size, 0, none⟩) n n]
           refine hK.out _ _ trivial (fun hHeld => ?_)
           clear hK K hba
           (try simp only [Act.put, List.setIfInBounds_toArray, List.set_cons_zero, List.set_cons_succ])
           generalize Z2.alloc (.cells #[.slice (some ⟨wi.heap.size, 0, none⟩) n n] 22) = Z3 at *
           generalize Z2.heap.size = g6 at *
           (try simp only [Act.put, List.setIfInBounds_toArray, List.set_cons_zero, List.set_cons_succ])
           refine wpAnyH_ready (rs := [7]) (by kernel_rfl) (by simp) ?_
           refine AllReadyH.cons rfl (fun K hK => ?_) AllReadyH.nil
           refine step_que_appends _ (.inl rfl) _ _ 23 (by rfl) w5.heap.size 22 j0 (.slice none 0 0) 24 Tryz.underlying23 hj0 hjz0 hjz1 hjz2 rfl v4 ([] ++ (os.map (cellP n)).take m) (by simp [Act.eval]) Q4 (.slice (some ⟨g6, 0, none⟩) 1 1) 1 [.slice (some ⟨wi.heap.size, 0, none⟩) n n] (by simp [Act.eval]) (src_sl Tryz.underlying23 (sl_one1 G6) (by simp [Value.oneCell'])) (by simp [maxLen]; omega) (by simp; omega) BZ3.size ?_
           intro v7 Z4 Q7 hg _
           have BZ4 := BZ3.grown hg BZ3.size (fun q hq => by
            obtain ⟨_, h1, h2, _⟩ := Q4.blk
            have h3 := h1.symm.trans hq
            injection h3 with h3
            omega)
           (try change K (Act.put _ (some 59) v7) Z4)
           refine hK.out _ _ trivial (fun hHeld => ?_)
           clear hK K hg
           (try simp only [Act.put, List.setIfInBounds_toArray, List.set_cons_zero, List.set_cons_succ])
           refine wpAnyH_ready (rs := [11]) (by kernel_rfl) (by simp) ?_
           refine AllReadyH.cons rfl (fun K hK => ?_) AllReadyH.nil
           refine step_que_appends _ (.inl rfl) _ _ 23 (by rfl) w5.heap.size 22 j0 (.slice none 0 0) 24 Tryz.underlying23 hj0 hjz0 hjz1 hjz2 rfl v7 ([] ++ (os.map (cellP n)).take m ++ [.slice (some ⟨wi.heap.size, 0, none⟩) n n]) (by simp [Act.eval]) Q7 (.slice (some (od.add m)) (os.length - m) (co - m)) (os.length - m) ((os.map (cellP n)).drop m) (by simp [Act.eval]) (src_sl Tryz.underlying23 (sl_drop (hSl5.keep BZ4) hmo) HON2.out) (by simp [maxLen]; omega) (by simp; omega) BZ4.size ?_
           intro v11 Z5 Q11 hg _
           have BZ5 := BZ4.grown hg BZ4.size (fun q hq => by
            obtain ⟨_, h1, h2, _⟩ := Q7.blk
            have h3 := h1.symm.trans hq
            injection h3 with h3
            omega)
           (try change K (Act.put _ (some 63) v11) Z5)
           refine hK.out _ _ trivial (fun hHeld => ?_)
           clear hK K hg
           (try simp only [Act.put, List.setIfInBounds_toArray, List.set_cons_zero, List.set_cons_succ])
           refine wpAnyH_get 12 (some 5) (v11) rfl rfl (by kernel_rfl) (by kernel_rfl) (by kernel_rfl) (fun _ _ _ h => h) (by rfl) hHeld ?_ ?_
           ·(intro w hSw; (try dsimp only at hSw); go_simp; all_goals (try with_reducible rfl))
           (try simp only [Act.put, List.setIfInBounds_toArray, List.set_cons_zero, List.set_cons_succ])
           refine wpAnyH_done (by kernel_rfl) ?_ _
           go_wp2
           go_meet
           exact ⟨Q11, BZ5⟩
          ·go_simp
           have hne6 : Z1.heap.size ≠ g0 := by
            obtain ⟨_, h1, _, h3⟩ := Q0.blk
            injection h1 with h1
            change g0 = _ at h1
            omega
           have hba : Below Z1.heap.size Z1 (Z1.alloc (.cells #[.slice (some ⟨wi.heap.size, 0, none⟩) n n] 22)) := (Below.refl _ _).alloc (Nat.le_refl _) _
           have BZ6 := below_all BZ1 hba
           have Q0 := Q0.below hba
           have G6 := Blk.new Z1 22 #[.slice (some ⟨wi.heap.size, 0, none⟩) n n]
           refine hK.out _ _ trivial (fun hHeld => ?_)
           clear hK K hba
           (try simp only [Act.put, List.setIfInBounds_toArray, List.set_cons_zero, List.set_cons_succ])
           generalize Z1.alloc (.cells #[.slice (some ⟨wi.heap.size, 0, none⟩) n n] 22) = Z6 at *
           generalize Z1.heap.size = g6 at *
           (try simp only [Act.put, List.setIfInBounds_toArray, List.set_cons_zero, List.set_cons_succ])
           refine wpAnyH_ready (rs := [4]) (by kernel_rfl) (by simp) ?_
           refine AllReadyH.cons rfl (fun K hK => ?_) AllReadyH.nil
           refine step_que_appends _ (.inl rfl) _ _ 23 (by rfl) w5.heap.size 22 j0 (.slice none 0 0) 24 Tryz.underlying23 hj0 hjz0 hjz1 hjz2 rfl (.slice (some ⟨g0, 0, none⟩) 0 0) [] (by simp [Act.eval]) Q0 (.slice (some od) m co) m ((os.map (cellP n)).take m) (by simp [Act.eval]) (src_sl Tryz.underlying23 (sl_take (hSl5.keep BZ6) hmo) HON1.out) (by simp [maxLen]; omega) (by simp; omega) BZ6.size ?_
           intro v4 Z7 Q4 hg _
           have BZ7 := BZ6.grown hg BZ6.size (fun q hq => by
            obtain ⟨_, h1, h2, _⟩ := Q0.blk
            have h3 := h1.symm.trans hq
            injection h3 with h3
            omega)
           have G6 := G6.grown hg (by simpa [Value.ownBlock] using hne6)
           (try change K (Act.put _ (some 56) v4) Z7)
           refine hK.out _ _ trivial (fun hHeld => ?_)
           clear hK K hg
           (try simp only [Act.put, List.setIfInBounds_toArray, List.set_cons_zero, List.set_cons_succ])
           refine wpAnyH_ready (rs := [7]) (by kernel_rfl) (by simp) ?_
           refine AllReadyH.cons rfl (fun K hK => ?_) AllReadyH.nil
           refine step_que_appends _ (.inl rfl) _ _ 23 (by rfl) w5.heap.size 22 j0 (.slice none 0 0) 24 Tryz.underlying23 hj0 hjz0 hjz1 hjz2 rfl v4 ([] ++ (os.map (cellP n)).take m) (by simp [Act.eval]) Q4 (.slice (some ⟨g6, 0, none⟩) 1 1) 1 [.slice (some ⟨wi.heap.size, 0, none⟩) n n] (by simp [Act.eval]) (src_sl Tryz.underlying23 (sl_one1 G6) (by simp [Value.oneCell'])) (by simp [maxLen]; omega) (by simp; omega) BZ7.size ?_
           intro v7 Z8 Q7 hg _
           have BZ8 := BZ7.grown hg BZ7.size (fun q hq => by
            obtain ⟨_, h1, h2, _⟩ := Q4.blk
            have h3 := h1.symm.trans hq
            injection h3 with h3
            omega)
           (try change K (Act.put _ (some 59) v7) Z8)
           refine hK.out _ _ trivial (fun hHeld => ?_)
           clear hK K hg
           (try simp only [Act.put, List.setIfInBounds_toArray, List.set_cons_zero, List.set_cons_succ])
           refine wpAnyH_ready (rs := [11]) (by kernel_rfl) (by simp) ?_
           refine AllReadyH.cons rfl (fun K hK => ?_) AllReadyH.nil
           refine step_que_appends _ (.inl rfl) _ _ 23 (by rfl) w5.heap.size 22 j0 (.slice none 0 0) 24 Tryz.underlying23 hj0 hjz0 hjz1 hjz2 rfl v7 ([] ++ (os.map (cellP n)).take m ++ [.slice (some ⟨wi.heap.size, 0, none⟩) n n]) (by simp [Act.eval]) Q7 (.slice (some (od.add m)) (os.length - m) (co - m)) (os.length - m) ((os.map (cellP n)).drop m) (by simp [Act.eval]) (src_sl Tryz.underlying23 (sl_drop (hSl5.keep BZ8) hmo) HON2.out) (by simp [maxLen]; omega) (by simp; omega) BZ8.size ?_
           intro v11 Z9 Q11 hg _
           have BZ9 := BZ8.grown hg BZ8.size (fun q hq => by
            obtain ⟨_, h1, h2, _⟩ := Q7.blk
            have h3 := h1.symm.trans hq
            injection h3 with h3
            omega)
           (try change K (Act.put _ (some 63) v11) Z9)
           refine hK.out _ _ trivial (fun hHeld => ?_)
           clear hK K hg
           (try simp only [Act.put, List.setIfInBounds_toArray, List.set_cons_zero, List.set_cons_succ])
           refine wpAnyH_get 12 (some 5) (v11) rfl rfl (by kernel_rfl) (by kernel_rfl) (by kernel_rfl) (fun _ _ _ h => h) (by rfl) hHeld ?_ ?_
           ·(intro w hSw; (try dsimp only at hSw); go_simp; all_goals (try with_reducible rfl))
           (try simp only [Act.put, List.setIfInBounds_toArray, List.set_cons_zero, List.set_cons_succ])
           refine wpAnyH_done (by kernel_rfl) ?_ _
           go_wp2
           go_meet
           exact ⟨Q11, BZ9⟩
         ·go_simp
          have hba : Below Z.heap.size Z (Z.alloc (.cells #[.slice (some ⟨wi.heap.size, 0, none⟩) n n] 22)) := (Below.refl _ _).alloc (Nat.le_refl _) _
          have BZ10 := below_all BZ hba
          have G6 := Blk.new Z 22 #[.slice (some ⟨wi.heap.size, 0, none⟩) n n]
          refine hK.out _ _ trivial (fun hHeld => ?_)
          clear hK K hba
          (try simp only [Act.put, List.setIfInBounds_toArray, List.set_cons_zero, List.set_cons_succ])
          generalize Z.alloc (.cells #[.slice (some ⟨wi.heap.size, 0, none⟩) n n] 22) = Z10 at *
          generalize Z.heap.size = g6 at *
          (try simp only [Act.put, List.setIfInBounds_toArray, List.set_cons_zero, List.set_cons_succ])
          refine wpAnyH_ready (rs := [0]) (by kernel_rfl) (by simp) ?_
          refine AllReadyH.cons rfl (fun K hK => ?_) AllReadyH.nil
          go_simp
          have hne6 : g6 ≠ Z10.heap.size := by have := G6.lt; omega
          have hba : Below Z10.heap.size Z10 (Z10.alloc (.cells #[] 22)) := (Below.refl _ _).alloc (Nat.le_refl _) _
          have BZ11 := below_all BZ10 hba
          have G6 := G6.keep hba G6.lt
          have Q0 := Que.of_blk (base := w5.heap.size) (xs := []) (Blk.new Z10 22 #[]) BZ10.size (by simp [maxLen])
          refine hK.out _ _ trivial (fun hHeld => ?_)
          clear hK K hba
          (try simp only [Act.put, List.setIfInBounds_toArray, List.set_cons_zero, List.set_cons_succ])
          generalize Z10.alloc (.cells #[] 22) = Z11 at *
          generalize Z10.heap.size = g0 at *
          (try simp only [Act.put, List.setIfInBounds_toArray, List.set_cons_zero, List.set_cons_succ])
          refine wpAnyH_ready (rs := [4]) (by kernel_rfl) (by simp) ?_
          refine AllReadyH.cons rfl (fun K hK => ?_) AllReadyH.nil
          refine step_que_appends _ (.inl rfl) _ _ 23 (by rfl) w5.heap.size 22 j0 (.slice none 0 0) 24 Tryz.underlying23 hj0 hjz0 hjz1 hjz2 rfl (.slice (some ⟨g0, 0, none⟩) 0 0) [] (by simp [Act.eval]) Q0 (.slice (some od) m co) m ((os.map (cellP n)).take m) (by simp [Act.eval]) (src_sl Tryz.underlying23 (sl_take (hSl5.keep BZ11) hmo) HON1.out) (by simp [maxLen]; omega) (by simp; omega) BZ11.size ?_
          intro v4 Z12 Q4 hg _
          have BZ12 := BZ11.grown hg BZ11.size (fun q hq => by
           obtain ⟨_, h1, h2, _⟩ := Q0.blk
           have h3 := h1.symm.trans hq
           injection h3 with h3
           omega)
          have G6 := G6.grown hg (by simpa [Value.ownBlock] using hne6)
          (try change K (Act.put _ (some 56) v4) Z12)
          refine hK.out _ _ trivial (fun hHeld => ?_)
          clear hK K hg
          (try simp only [Act.put, List.setIfInBounds_toArray, List.set_cons_zero, List.set_cons_succ])
          refine wpAnyH_ready (rs := [7]) (by kernel_rfl) (by simp) ?_
          refine AllReadyH.cons rfl (fun K hK => ?_) AllReadyH.nil
          refine step_que_appends _ (.inl rfl) _ _ 23 (by rfl) w5.heap.size 22 j0 (.slice none 0 0) 24 Tryz.underlying23 hj0 hjz0 hjz1 hjz2 rfl v4 ([] ++ (os.map (cellP n)).take m) (by simp [Act.eval]) Q4 (.slice (some ⟨g6, 0, none⟩) 1 1) 1 [.slice (some ⟨wi.heap.size, 0, none⟩) n n] (by simp [Act.eval]) (src_sl Tryz.underlying23 (sl_one1 G6) (by simp [Value.oneCell'])) (by simp [maxLen]; omega) (by simp; omega) BZ12.size ?_
          intro v7 Z13 Q7 hg _
          have BZ13 := BZ12.grown hg BZ12.size (fun q hq => by
           obtain ⟨_, h1, h2, _⟩ := Q4.blk
           have h3 := h1.symm.trans hq
           injection h3 with h3
           omega)
          (try change K (Act.put _ (some 59) v7) Z13)
          refine hK.out _ _ trivial (fun hHeld => ?_)
          clear hK K hg
          (try simp only [Act.put, List.setIfInBounds_toArray, List.set_cons_zero, List.set_cons_succ])
          refine wpAnyH_ready (rs := [11]) (by kernel_rfl) (by simp) ?_
          refine AllReadyH.cons rfl (fun K hK => ?_) AllReadyH.nil
          refine step_que_appends _ (.inl rfl) _ _ 23 (by rfl) w5.heap.size 22 j0 (.slice none 0 0) 24 Tryz.underlying23 hj0 hjz0 hjz1 hjz2 rfl v7 ([] ++ (os.map (cellP n)).take m ++ [.slice (some ⟨wi.heap.size, 0, none⟩) n n]) (by simp [Act.eval]) Q7 (.slice (some (od.add m)) (os.length - m) (co - m)) (os.length - m) ((os.map (cellP n)).drop m) (by simp [Act.eval]) (src_sl Tryz.underlying23 (sl_drop (hSl5.keep BZ13) hmo) HON2.out) (by simp [maxLen]; omega) (by simp; omega) BZ13.size ?_
          intro v11 Z14 Q11 hg _
          have BZ14 := BZ13.grown hg BZ13.size (fun q hq => by
           obtain ⟨_, h1, h2, _⟩ := Q7.blk
           have h3 := h1.symm.trans hq
           injection h3 with h3
           omega)
          (try change K (Act.put _ (some 63) v11) Z14)
          refine hK.out _ _ trivial (fun hHeld => ?_)
          clear hK K hg
          (try simp only [Act.put, List.setIfInBounds_toArray, List.set_cons_zero, List.set_cons_succ])
          refine wpAnyH_get 12 (some 5) (v11) rfl rfl (by kernel_rfl) (by kernel_rfl) (by kernel_rfl) (fun _ _ _ h => h) (by rfl) hHeld ?_ ?_
          ·(intro w hSw; (try dsimp only at hSw); go_simp; all_goals (try with_reducible rfl))
          (try simp only [Act.put, List.setIfInBounds_toArray, List.set_cons_zero, List.set_cons_succ])
          refine wpAnyH_done (by kernel_rfl) ?_ _
          go_wp2
          go_meet
          exact ⟨Q11, BZ14⟩
       case rest =>
        obtain ⟨hQx, hbx⟩ := hcut
        obtain ⟨wx, rfl⟩ : ∃ wx : World, wx = wc := ⟨_, rfl⟩
        have HKX := Lib.hid (HK5.out.keep hbx)
        have hZx := hZ5.keep hbx hZ5.lt
        have hbX := HKX.out.below
        have hosl : os.length + 1 ≤ 46656 := by
         have h1 := HAT5.out.2.few hn HP.out
         simp at h1
         omega
        obtain ⟨gT, eT, _, ltT⟩ := HK5.out.todo.blk
        obtain ⟨gO, eO, geO, ltO⟩ := hQx.blk
        have hmap : (os.take m ++ (wi.heap.size, z) :: os.drop m).map Prod.snd = (os.map Prod.snd).take m ++ z :: (os.map Prod.snd).drop m := by simp [List.map_take, List.map_drop]
        have hmapc : (os.take m ++ (wi.heap.size, z) :: os.drop m).map (cellP n) = [] ++ (os.map (cellP n)).take m ++ [.slice (some ⟨wi.heap.size, 0, none⟩) n n] ++ (os.map (cellP n)).drop m := by simp [List.map_take, List.map_drop, cellP]
        have HMAP := Lib.hid hmap
        have HMAPC := Lib.hid hmapc
        have hQx' := Lib.hid hQx
        have HEO := Lib.hid eO
        have HET := Lib.hid eT
        have hw5 : w.heap.size ≤ w5.heap.size := by have := HK5.out.below.size; exact this
        have hal := Below.alloc (Below.refl wx.heap.size wx) (Nat.le_refl _) (.cells #[.slice (some ⟨wi.heap.size, 0, none⟩) n n] 22)
        have KX := Lib.hid (HKX.out.keep hal)
        have ZX := Lib.hid (hZx.keep hal hZx.lt)
        have hbs := hbX.size
        have hosl2 : ts.length ≤ 46656 := by omega
        clear hmap hmapc hQx eO eT hSl5 hZ5 hZx m0 m1 m2 m3 hco0 hcapo
        go_wp2_with (at_builtin
                     refine wpList_que_append _ rfl _ _ 23 rfl w.heap.size 22 j0 (.slice none 0 0) 24 Tryz.underlying23 hj0 hjz0 hjz1 hjz2 rfl (.slice (some td) ts.length ct) (ts.map (cellP n)) rfl KX.out.todo ⟨wx.heap.size, 0, none⟩ 1 (.slice (some ⟨wi.heap.size, 0, none⟩) n n) rfl ((Blk.new wx 22 #[.slice (some ⟨wi.heap.size, 0, none⟩) n n]).cell 0) (by simp [Value.oneCell']) (by simp [maxLen]; omega) (by simp; omega) (by have := hal.size; omega) ?_
                     intro v8 w8 hQ8 hg8 hloc8 _)
        go_roundw
        case rel =>
         refine ⟨j + 1, os.take m ++ (wi.heap.size, z) :: os.drop m, ts ++ [(wi.heap.size, z)], _, v8, by go_num, by omega, rfl, rfl, Lib.hid ⟨?_, ?_, ?_, ?_, ?_, ?_, ?_, ?_, ?_⟩, by simp; omega, by simp; omega⟩
         ·exact (hbX.alloc hbs _).grown hg8 (by have := hal.size; omega) (fun q hq => by
           obtain ⟨g9, e9, h9, _⟩ := KX.out.todo.blk
           have h10 := e9.symm.trans hq
           injection h10 with h10
           omega)
         ·rw [HMAP.out, List.map_append]; exact HAT5.out.2
         ·rw [HMAP.out]; exact HAT5.out.1
         ·rw [HMAPC.out]
          obtain ⟨g', o', cap', cur, h1, h2, h3, h4⟩ := hQx'.out.below hal
          refine ⟨g', o', cap', cur, h1, Nat.le_trans hw5 h2, (hg8.block g' (Array.getElem?_eq_some_iff.1 h3).1 (fun e => ?_)).trans h3, h4⟩
          have e2 := e.trans HET.out
          injection e2 with e2
          omega
         ·rw [List.map_append]; exact hQ8
         ·intro r hr
          have hr2 : r ∈ os ∨ r = (wi.heap.size, z) := by
           rcases List.mem_append.1 hr with h | h
           ·exact .inl (List.mem_of_mem_take h)
           ·rcases List.mem_cons.1 h with h | h
            ·exact .inr h
            ·exact .inl (List.mem_of_mem_drop h)
          rcases hr2 with h | h
          ·exact (KX.out.orows.grown KX.out.todo hg8) r h
          ·rw [h]; exact ZX.out.grown hg8 (KX.out.todo.ne ZX.out (by decide))
         ·exact (KX.out.trows.grown KX.out.todo hg8).snoc (ZX.out.grown hg8 (KX.out.todo.ne ZX.out (by decide)))
         ·intro e
          have e3 := HEO.out.symm.trans e
          rcases hloc8 with h | h
          ·have e4 := e3.trans (h.trans HET.out)
           injection e4 with e4
           omega
          ·have e4 := e3.trans h
           injection e4 with e4
           simp at e4
           omega
         ·exact KX.out.cur.grown hg8 (KX.out.todo.ne KX.out.cur (by decide))
        case measure => simp [intOf]; omega
     ·obtain rfl : j = gs.length := by omega
      have HF := Lib.hid (HMD.out.mid.fin)
      have HFS := Lib.hid (⟨HMD.out.below, HF.out, HMD.out.asc, HMD.out.out, HMD.out.todo, HMD.out.orows, HMD.out.trows, HMD.out.dis⟩ : CoSt w n gs wi os ts _ _)
      have dk : decide ((gs.length : Int) < (gs.length : Int)) = false := by simp
      clear hSlo
      go_wp2
      go_roundg (46656 - os.length + ts.length)
      case measure => omega
      case rel => exact ⟨os, ts, _, _, rfl, rfl, HFS, by omega, by omega⟩
end Go.Proofs.Tg.Gp
end
