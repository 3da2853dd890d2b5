/- Walks: classes of monomials. -/
import Derived.Test.YtapkdofmcchdcaaGreatDoorWD2
import Derived.Test.YtapkdofmcchdcaaGreatDoorWD3
import Derived.Test.YtapkdofmcchdcaaGreatDoorWS1
import Derived.Maps.OwnOps
import Derived.Maps.OwnSet
import Derived.Maps.Views
import Derived.Laws.IdiomStrings
import Derived.Laws.BytesArg
namespace Go.Proofs.Tg
open Go.RowKit Go.Gr Go.Ev Go.Mo
open Go.ChangeShapes Go.WideShapes
set_option maxHeartbeats 4000000
set_option maxRecDepth 100000
/-- A character as a key. -/
def kb (q : List Int) : List UInt8 := q.map fun x => UInt8.ofNat x.toNat
theorem kb_inj : ∀ {p q : List Int}, Bit01 p → Bit01 q → kb p = kb q → p = q
  | [], [], _, _, _ => rfl
  | [], _ :: _, _, _, h => by simp [kb] at h
  | _ :: _, [], _, _, h => by simp [kb] at h
  | x :: p, y :: q, hp, hq, h => by
    simp only [kb, List.map_cons, List.cons.injEq] at h
    have h2 := kb_inj (p := p) (q := q) (fun z hz => hp z (by simp [hz])) (fun z hz => hq z (by simp [hz])) h.2
    have hx := hp x (by simp)
    have hy := hq y (by simp)
    have h1 := h.1
    rw [h2]
    congr 1
    rcases hx with rfl | rfl <;> rcases hy with rfl | rfl
    · rfl
    · exact absurd h1 (by decide)
    · exact absurd h1 (by decide)
    · rfl
def MapOK (K : List (List Int)) (D : DataW Unit) : Prop :=
  Maps.IsMap D ∧ ∀ q, Bit01 q → (Maps.has D (.string (kb q)) = decide (q ∈ K)) ∧ (q ∈ K → D.atKey (.string (kb q)) (.lit (.int .i64 0)) = .lit (.int .i64 (K.idxOf q : Nat)))
theorem MapOK.nil : MapOK [] (.map []) := ⟨Maps.isMap_empty, fun q _ => ⟨by simp [Maps.has_eq], fun h => by cases h⟩⟩
theorem MapOK.put {K : List (List Int)} {D : DataW Unit} (h : MapOK K D) (hK : ∀ k ∈ K, Bit01 k) {q : List Int} (hq : Bit01 q) (hn : q ∉ K) : MapOK (K ++ [q]) (D.put (.string (kb q)) (.lit (.int .i64 (K.length : Nat)))) := by
  refine ⟨h.1.put _ _, fun p hp => ?_⟩
  by_cases e : p = q
  · subst e
    refine ⟨by rw [Maps.has_put_same h.1 (by simp [WideAt.IsKeyLit])]; simp, fun _ => ?_⟩
    rw [Maps.atKey_put_same h.1 (by simp [WideAt.IsKeyLit]), List.idxOf_append, if_neg hn]
    simp
  · have hne : (Lit.string (kb p)) ≠ .string (kb q) := fun e2 => by
      injection e2 with e2
      exact e (kb_inj hp hq e2)
    refine ⟨by rw [Maps.has_put_other hne, (h.2 p hp).1]; simp [e], fun hm => ?_⟩
    have hm' : p ∈ K := by simpa [e] using hm
    rw [Maps.atKey_put_other hne, (h.2 p hp).2 hm', List.idxOf_append, if_pos hm']
theorem own_map_ne {w : World} {base : Nat} {t : TypeId} {sz n : Nat} {v : Value} {xs : List Value} {P : Program} {k : TypeId} {R : Value → Option (DataW Unit × List MemPlace)} {b m : Nat} {D : DataW Unit} (h : w.ownsRow base t sz v n xs) (hm : w.ownsMap P k R b m D) : v.ownBlock = none ∨ v.ownBlock ≠ some b := by
  rcases h.2 with ⟨rfl, _⟩ | ⟨g, cap, cur, rfl, _, hg, _⟩
  · exact .inl rfl
  · right
    intro e
    have : g = b := by simpa [Value.ownBlock] using e
    subst this
    obtain ⟨es, cl, hb, _⟩ := hm
    rw [hg] at hb
    cases hb
theorem map_ne_own {w : World} {base : Nat} {t : TypeId} {sz n : Nat} {v : Value} {xs : List Value} {P : Program} {k : TypeId} {R : Value → Option (DataW Unit × List MemPlace)} {b m : Nat} {D : DataW Unit} (h : w.ownsRow base t sz v n xs) (hm : w.ownsMap P k R b m D) : some b ≠ v.ownBlock := by
  rcases own_map_ne h hm with e | e
  · rw [e]; simp
  · exact fun e2 => e e2.symm
theorem map_keep {w w' : World} {P : Program} {k : TypeId} {R : Value → Option (DataW Unit × List MemPlace)} {b m : Nat} {D : DataW Unit} (hm : w.ownsMap P k R b m D) (hb : Below w.heap.size w w') : w'.ownsMap P k R b m D :=
  hm.kept (row := none) ⟨hb.os, hb.tape, hb.output, hb.size, fun k hk _ => hb.block k hk⟩ (by simp)
def vb (c : UInt8) : Value := .int .u8 (c.toNat : Int)
theorem byte_info : (Tryz.prog.info? 5).map (fun i => (i.zero, i.size, i.bytes)) = some (some (.int .u8 0), 1, 1) := by kernel_rfl
/-- The bytes of a slice as a text. -/
theorem conv_name (w : World) (A : Option Addr) (c : Nat) (l : List UInt8) (h : Sl w A l.length 1 (l.map vb)) : (convert 102 9 (.slice A l.length c)).run Tryz.prog w = .ok (.string (bs l)) w := by
  by_cases h0 : l = []
  · subst h0
    cases A with
    | none => exact run_convert_bytes_nil w _ 5 Tryz.underlying102 Tryz.underlying5 0 c _ Tryz.underlying9
    | some ad => exact run_convert_bytes_back w _ _ 5 ad c [] Tryz.underlying102 Tryz.underlying5 Tryz.underlying9 (fun j hj => by simp at hj)
  · obtain ⟨ad, rfl, _, ha⟩ := h.lies (List.length_pos_iff.2 h0)
    exact run_convert_bytes_back w _ _ 5 ad c l Tryz.underlying102 Tryz.underlying5 Tryz.underlying9 (fun j hj => ha j _ (by simp [hj, vb]))
theorem zero_int (w : World) : (zeroValue 3).run Tryz.prog w = .ok (.int .i64 0) w := by kernel_rfl
end Go.Proofs.Tg
