/- The built-in copy of at most six numbers into an array at a block's head. -/
import Derived.Test.YtapkdofmcchdcaaGreatDoorWL1
import Derived.Laws.CopyOwn
import Derived.Laws.IdiomCopy
namespace Go.Proofs.Tg
open Go.RowKit
theorem int_sz : (Tryz.prog.info? 3).map (·.size) = some 1 := by kernel_rfl
/-- Another world that differs in block g alone. -/
structure But (g : Nat) (W W' : World) : Prop where
  below : ∀ (B : Nat) (w0 : World), Below B w0 W → B ≤ g → Below B w0 W'
  blk : ∀ (g' : Nat) (t : TypeId) (cs : Array Value), g' ≠ g → Blk W g' t cs → Blk W' g' t cs
theorem wpList_copy6 {ops : Array Oper} {rest : List Oper} {o : Oper} {a : Act} {Q : Exit → Act → World → Prop} {W : World} (hgd : o.guard = none) (d s : Operand)
    (ho : o.op = .call { callee := .builtin .copy, args := #[d, s], argTypes := #[31, 31] }) (g : Nat) (t : TypeId) (A : Option Addr) (c : Nat) (el : List Int) (z : List Value)
    (hd : a.eval d = .slice (some ⟨g, 0, none⟩) 6 6) (hs : a.eval s = .slice A el.length c) (hA : Ints W A el) (hl : el.length ≤ 6)
    (hB : Blk W g t ([Value.int .i64 0, Value.int .i64 0, Value.int .i64 0, Value.int .i64 0, Value.int .i64 0, Value.int .i64 0] ++ z).toArray)
    (h : ∀ W', Blk W' g t ([Value.int .i64 (el.getD 0 0), Value.int .i64 (el.getD 1 0), Value.int .i64 (el.getD 2 0), Value.int .i64 (el.getD 3 0), Value.int .i64 (el.getD 4 0), Value.int .i64 (el.getD 5 0)] ++ z).toArray → But g W W' → wpList Tryz.prog ops Q rest (a.put o.dst (goInt el.length)) W') :
    wpList Tryz.prog ops Q (o :: rest) a W := by
  by_cases h0 : el = []
  · subst h0
    refine wpList_plain hgd fun K hK => ?_
    have hrun := run_copy_none (P := Tryz.prog) W 31 31 o.type 3 (some ⟨g, 0, none⟩) A 6 6 0 c Tryz.underlying31 int_sz rfl
    have hs' : a.eval s = .slice A 0 c := hs
    unfold Oper.wp
    simp [execOp, ho, resolve, invoke, builtin, hd, hs', hrun, Result.andThen]
    exact hK _ _ (h W hB ⟨fun _ _ h _ => h, fun _ _ _ _ h => h⟩)
  · have hp : 0 < el.length := List.length_pos_iff.2 h0
    obtain ⟨ad, rfl, _, hc⟩ := hA.lies hp
    refine wpList_copy_own hgd d s 31 31 ho 3 Tryz.underlying31 int_sz g 0 6 6 ad el.length c hd hs _ t hB (el.map vi) (by rw [List.length_map]; exact (Nat.min_eq_left hl).symm) hc (by simp; omega) (by simp [vi, Value.oneCell']) ?_
    have key : (([Value.int .i64 0, Value.int .i64 0, Value.int .i64 0, Value.int .i64 0, Value.int .i64 0, Value.int .i64 0] ++ z).toArray.toList.take 0 ++ (el.map vi ++ ([Value.int .i64 0, Value.int .i64 0, Value.int .i64 0, Value.int .i64 0, Value.int .i64 0, Value.int .i64 0] ++ z).toArray.toList.drop (0 + (el.map vi).length))).toArray
        = ([Value.int .i64 (el.getD 0 0), Value.int .i64 (el.getD 1 0), Value.int .i64 (el.getD 2 0), Value.int .i64 (el.getD 3 0), Value.int .i64 (el.getD 4 0), Value.int .i64 (el.getD 5 0)] ++ z).toArray := by
      match el, hl with
      | [], _ => exact absurd rfl h0
      | [_], _ => simp [vi]
      | [_, _], _ => simp [vi]
      | [_, _, _], _ => simp [vi]
      | [_, _, _, _], _ => simp [vi]
      | [_, _, _, _, _], _ => simp [vi]
      | [_, _, _, _, _, _], _ => simp [vi]
      | _ :: _ :: _ :: _ :: _ :: _ :: _ :: l, hl => simp at hl
    rw [key]
    have hlen : (goInt ((el.map vi).length)) = goInt el.length := by simp
    rw [hlen]
    refine h _ ?_ ⟨fun B w0 hb hg => below_setRow hb hg _, fun g' t' cs hne hb => ?_⟩
    · exact setRow_heap W g _ _ t _ hB
    · exact (setRow_other W g g' _ hne).trans hb
end Go.Proofs.Tg
