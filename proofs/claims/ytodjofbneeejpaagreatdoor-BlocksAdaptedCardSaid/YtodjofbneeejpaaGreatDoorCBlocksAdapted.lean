/- BlocksAdapted: for every input the statement returns true and leaves its arguments as they are. No condition of its own. -/
import Derived.Test.YtodjofbneeejpaaGreatDoorMBD3
import Derived.Test.YtodjofbneeejpaaGreatDoorMBD38
namespace Go.Proofs.YtodjofbneeejpaaGreatDoor.blocksAdapted
open Go.ChangeShapes Go.WideShapes Go.ChangeAt Go.RowKit Go.Proofs.Tg Go.Gr
set_option maxRecDepth 100000
theorem readable : ∀ t ∈ Tryz.f3.params.toList, Tryz.prog.readableRec t = true ∧ t < Tryz.prog.types.size := by
 rw [Tryz.params3]
 intro t ht
 simp only [List.mem_cons, List.not_mem_nil, or_false] at ht
 rcases ht with rfl | rfl | rfl | rfl | rfl | rfl | rfl
 ·exact ⟨by kernel_rfl, of_decide_eq_true (by kernel_rfl)⟩
 ·exact ⟨by kernel_rfl, of_decide_eq_true (by kernel_rfl)⟩
 ·exact ⟨by kernel_rfl, of_decide_eq_true (by kernel_rfl)⟩
 ·exact ⟨by kernel_rfl, of_decide_eq_true (by kernel_rfl)⟩
 ·exact ⟨by kernel_rfl, of_decide_eq_true (by kernel_rfl)⟩
 ·exact ⟨by kernel_rfl, of_decide_eq_true (by kernel_rfl)⟩
 ·exact ⟨by kernel_rfl, of_decide_eq_true (by kernel_rfl)⟩
/-- What the walk gives, for every argument and every world that holds the table. -/
theorem contract (H : Type) (enc : TypeId × Value → H) (W : World) (base : Nat) (args : Array Value) (ds gs : List (DataW H)) (before : List MemPlace)
    (hval : ∀ (j : Nat) t v, Tryz.f3.params[j]? = some t → args[j]? = some v → Value.okWide Tryz.prog W .any base t v)
    (hW : DataW.Whole enc Tryz.prog Tryz.f3.params.toList Rows.blocksAdaptedSpec.vars false W args.toList ds gs before) (hL : laidMetH Tryz.prog Rows.blocksAdaptedRow.laid W) :
    Calls Tryz.prog 3 args W fun e W' => ∃ v, e = .returned v ∧ Rows.blocksAdaptedSpec.post enc Tryz.prog Tryz.f3 false true false false W args v W' := by
  have hT : Bk.PT W := Fr.pow_of hL
  have hW' := hW
  have hlt := hW.lt
  obtain ⟨p, q, hA0, hV, rfl, hfz, hnd⟩ := hW
  have hA : DataW.TrodAll enc Tryz.prog W 0 (fun _ => true) true Tryz.f3.params.toList args.toList ds p := hA0
  rw [Tryz.params3] at hA hval
  obtain ⟨v0, vs0, d0, ds0, p0, q0, hargs, rfl, rfl, h0, r0⟩ := trodAll_cons hA
  obtain ⟨v1, vs1, d1, ds1, p1, q1, rfl, rfl, rfl, h1, r1⟩ := trodAll_cons r0
  obtain ⟨v2, vs2, d2, ds2, p2, q2, rfl, rfl, rfl, h2, r2⟩ := trodAll_cons r1
  obtain ⟨v3, vs3, d3, ds3, p3, q3, rfl, rfl, rfl, h3, r3⟩ := trodAll_cons r2
  obtain ⟨v4, vs4, d4, ds4, p4, q4, rfl, rfl, rfl, h4, r4⟩ := trodAll_cons r3
  obtain ⟨v5, vs5, d5, ds5, p5, q5, rfl, rfl, rfl, h5, r5⟩ := trodAll_cons r4
  obtain ⟨v6, vs6, d6, ds6, p6, q6, rfl, rfl, rfl, h6, r6⟩ := trodAll_cons r5
  obtain ⟨rfl, rfl, rfl⟩ := trodAll_nil r6
  obtain rfl : args = #[v0, v1, v2, v3, v4, v5, v6] := by cases args; simp_all
  obtain ⟨rfl, rfl⟩ := trodVars_none hV
  clear hA0
  simp only [List.append_nil] at hW' hlt
  obtain ⟨n0, rfl, rfl, rfl, wf0⟩ := open_int Tryz.underlying3 (hval 0 3 v0 rfl rfl) h0
  obtain ⟨A1, l1, c1, rfl, g1⟩ := Fr.open_nums (hval 1 22 v1 rfl rfl) h1
  obtain ⟨A2, l2, c2, rfl, g2⟩ := Fr.open_nums (hval 2 22 v2 rfl rfl) h2
  obtain ⟨b3, rfl, rfl, rfl⟩ := open_bool Tryz.underlying4 (hval 3 4 v3 rfl rfl) h3
  obtain ⟨A4, l4, c4, rfl, g4, m4, o4⟩ := Fr.open_lists (hval 4 23 v4 rfl rfl) h4
  obtain ⟨A5, l5, c5, rfl, g5, m5, o5⟩ := Fr.open_lists (hval 5 23 v5 rfl rfl) h5
  obtain ⟨b6, rfl, rfl, rfl⟩ := open_bool Tryz.underlying4 (hval 6 4 v6 rfl rfl) h6
  have walk : Calls Tryz.prog 3 #[.int .i64 n0, .slice A1 l1.length c1, .slice A2 l2.length c2, .bool b3, .slice A4 l4.length c4, .slice A5 l5.length c5, .bool b6] W fun e w' => e = .returned (.bool true) ∧ Below W.heap.size W w' := Bk.law_adapted n0 A1 A2 A4 A5 c1 c2 c4 c5 l1 l2 b3 l4 l5 b6 W g1 g2 g4 g5 hT
  refine walk.mono fun e W' ⟨he, hb⟩ => ?_
  subst he
  exact ⟨_, rfl, Fr.post_law hW' rfl (by kernel_rfl) rfl rfl rfl readable hb⟩
/-- The witness. -/
theorem laid_met (os : Os) : laidMet Tryz.prog Rows.blocksAdaptedRow.laid ((Fr.laidWorld os).forCall (fun _ _ => 0) ⟨#[], #[.int .i64 0, .slice none 0 0, .slice none 0 0, .bool false, .slice none 0 0, .slice none 0 0, .bool false], []⟩).memory :=
  laidMet_of_run' 8 (by kernel_rfl) (by kernel_rfl)
theorem reads (os : Os) {H : Type} (enc : TypeId × Value → H) : ∃ places, DataW.whole enc Tryz.prog ((Fr.laidWorld os).forCall (fun _ _ => 0) ⟨#[], #[.int .i64 0, .slice none 0 0, .slice none 0 0, .bool false, .slice none 0 0, .slice none 0 0, .bool false], []⟩).memory Tryz.f3.params.toList Rows.blocksAdaptedSpec.vars false (#[.int .i64 0, .slice none 0 0, .slice none 0 0, .bool false, .slice none 0 0, .slice none 0 0, .bool false] : Array Value).toList 8 = some ([.lit (.int .i64 0), .nil, .nil, .lit (.bool false), .nil, .nil, .lit (.bool false)], [], places) :=
  ⟨[], by kernel_rfl⟩
theorem lifted (os : Os) (started : os.Started) (H : Type) (enc : TypeId × Value → H) (F : Stop.Interp) :
    ReturnsInHanded {} Tryz.checked os 3 .any ((OpenSpec.ofChange Rows.blocksAdaptedSpec).preRow enc Tryz.prog Tryz.f3 Rows.blocksAdaptedRow.domain false Rows.blocksAdaptedRow.laid) (((OpenSpec.ofChange Rows.blocksAdaptedSpec).at F).post enc Tryz.prog Tryz.f3 false true false false) := by
  obtain ⟨places, hx⟩ := reads os enc
  refine returnsInHanded_of_row (C := Tryz.checked) (s := OpenSpec.ofChange Rows.blocksAdaptedSpec) Fr.own started (by kernel_rfl) Tryz.func3
    (witness_row_at (enc := enc) (C := Tryz.checked) false (Fr.laidWorld os) #[.int .i64 0, .slice none 0 0, .slice none 0 0, .bool false, .slice none 0 0, .slice none 0 0, .bool false] rfl (by kernel_rfl) (by kernel_rfl) (by kernel_rfl)
      (OpenSpec.preRow_of_cond 8 hx (by kernel_rfl) (fun k hk => by cases hk) (by kernel_rfl) (laid_met os))) ?_
  intro W base args ds gs before hval hW _ _ _ hL _ _
  exact contract H enc W base args ds gs before hval hW hL
set_option maxHeartbeats 0 in
theorem closed : joinedFacts Tryz.pinned.checked.prog 3 Tryz.f3 (OpenSpec.ofChange Rows.blocksAdaptedSpec).bare Rows.blocksAdaptedRow = true := by
 unfold joinedFacts
 repeat' (with_reducible apply Fr.band)
 all_goals (as_aux_lemma => kernel_rfl)
theorem said : Rows.BlocksAdaptedSaid :=
  OpenClaim.holds_of_cond 3 Tryz.f3 rfl rfl rfl rfl rfl rfl rfl ⟨rfl, rfl, rfl, rfl, rfl⟩ rfl rfl rfl rfl rfl (by as_aux_lemma => kernel_rfl) Tryz.func3 closed
    (of_decide_eq_true (by kernel_rfl)) (by unfold Func.isWrapper; first | (rw [if_pos (by decide +kernel)]; kernel_rfl) | (rw [if_neg (by decide +kernel)]; exact ⟨rfl, rfl⟩))
    (fun os started H enc _ F => by rw [OpenClaim.pre_eq_preRow]; exact lifted os started H enc F)
theorem plain (f : FuncId) (fn : Func) (hf : Tryz.pinned.checked.prog.funcNamed "sosopt/sosoptlaw19.BlocksAdapted" = some f) (hfn : Tryz.pinned.checked.prog.funcs[f]? = some fn) :
    false = Tryz.pinned.checked.prog.looks [] ∧ ∀ (j : Nat) t, fn.params[j]? = some t → Tryz.pinned.checked.prog.wantsStandIn t = false := by
  obtain rfl : f = 3 := Option.some.inj ((show Tryz.prog.funcNamed "sosopt/sosoptlaw19.BlocksAdapted" = some 3 by kernel_rfl).symm.trans hf) |>.symm
  obtain rfl : fn = Tryz.f3 := (Option.some.inj (Tryz.func3.symm.trans hfn)).symm
  refine ⟨by kernel_rfl, fun j t ht => ?_⟩
  rw [Tryz.params3] at ht
  have ht := Array.mem_of_getElem? ht
  simp only [List.mem_toArray, List.mem_cons, List.not_mem_nil, or_false] at ht
  rcases ht with rfl | rfl | rfl | rfl | rfl | rfl | rfl
  ·exact (show Tryz.prog.wantsStandIn 3 = false by kernel_rfl)
  ·exact (show Tryz.prog.wantsStandIn 22 = false by kernel_rfl)
  ·exact (show Tryz.prog.wantsStandIn 22 = false by kernel_rfl)
  ·exact (show Tryz.prog.wantsStandIn 4 = false by kernel_rfl)
  ·exact (show Tryz.prog.wantsStandIn 23 = false by kernel_rfl)
  ·exact (show Tryz.prog.wantsStandIn 23 = false by kernel_rfl)
  ·exact (show Tryz.prog.wantsStandIn 4 = false by kernel_rfl)
/-- The card. -/
theorem card : Rows.BlocksAdaptedCardSaid :=
  Claim7.holds_tied_plain_at .later [] _ _ _ _ said (fun _ h => by cases h) (by kernel_rfl) (fun _ h => by cases h) blocksAdapted_row_tie rfl ⟨rfl, rfl⟩ (by kernel_rfl) rfl plain (by kernel_rfl)
end Go.Proofs.YtodjofbneeejpaaGreatDoor.blocksAdapted
