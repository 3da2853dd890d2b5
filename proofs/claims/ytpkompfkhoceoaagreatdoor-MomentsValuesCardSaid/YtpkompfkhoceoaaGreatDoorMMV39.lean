/- Parts of the proof: TI3. -/
import Derived.Test.YtpkompfkhoceoaaGreatDoorMMV34
import Derived.Test.YtpkompfkhoceoaaGreatDoorMMV38
section
/- The statement MomentsTimes. Printed by mk_ti3.py. -/
namespace Go.Proofs.Tg
open Go.RowKit Go.Gr Go.Bn Go.Rq Go.Mo Go.Rs Go.Mm Go.Ev
open Go.Proofs.Tg.Fi (QsAt Txts vq txts_of known_any PT)
set_option maxHeartbeats 16000000
set_option maxRecDepth 100000
theorem polyOk_le {v d e : Nat} {l : List (Rat × List Int)} (h : PolyOk v d l) (hde : d ≤ e) : PolyOk v e l := ⟨h.desc, fun t ht => ⟨(h.mem t ht).1, mons_le (h.mem t ht).2 hde⟩, h.few⟩
theorem PolyAt.le {w : World} {v d e tn : Nat} {T : Option Addr} {tv : List TV} {l : List (Rat × List Int)} (h : PolyAt w v d T tn tv l) (hde : d ≤ e) : PolyAt w v e T tn tv l := ⟨h.terms, h.pl, h.len, polyOk_le h.ok hde, h.sz⟩
theorem wr_poly (v d : Nat) (out : List TQ) (R : Option Addr) (c no : Nat) (w : World) (hQ : TQs w R out) (hno : out.length = no) (hok : PolyOk v d (out.map TQ.qe)) (hs : ∀ t ∈ out.map TQ.qe, Sh t.1 ∧ t.1 ≠ 0 ∧ (qtx t.1).size ≤ 19) (hv : v ≤ 6) :
    Calls Tryz.prog 30 #[.agg #[.int .i64 (v : Nat), .slice R no c]] w fun e w' => ∃ T cT tv, e = .returned (.agg #[.int .i64 (v : Nat), .slice T no cT]) ∧ PolyAt w' v d T no tv (out.map TQ.qe) ∧ Below w.heap.size w w' := by
  subst hno
  have hfew : out.length ≤ 4096 := by have := hok.few; rwa [List.length_map] at this
  have h := twrite_any (v : Nat) out R c w hQ (fun t ht => ⟨(hs t.qe (qe_mem ht)).1, (hs t.qe (qe_mem ht)).2.1⟩) hfew (fun t ht => by
    have := (mons_mem (hok.mem t.qe (qe_mem ht)).2).1
    have e : t.el.length = v := this
    omega)
  refine h.mono ?_
  rintro e w' ⟨hb, A, c', tv, rfl, hO, hp⟩
  have hl : tv.length = out.length := by have := congrArg List.length hp; simpa using this
  refine ⟨A, c', tv, by rw [hl], ⟨hO.terms, ?_, List.length_map _, hok, fun t ht => (hs t ht).2.2⟩, hb⟩
  rw [hp]; unfold wrT; rw [List.map_map]; rfl
end Go.Proofs.Tg
end
