/- Parts of the proof: GXQ, GXD, RS5. -/
import Derived.WalkSmall
import Derived.Laws.StructEq
import Derived.ChangeKeysEq
import Derived.Test.YtodapfjmgnekkaaGreatDoorMQ6
import Derived.Test.YtodapfjmgnekkaaGreatDoorMQ21
import Derived.Test.YtodapfjmgnekkaaGreatDoorMQ22
section
/- The reference's Parts. -/
namespace Go.Gr
open Go.Jt
structure FInv (t : Nat → Nat → Bool) (n k : Nat) (f : Nat → Bool) (st : List Nat) : Prop where
  start : f k = true
  conn : ∀ v, f v = true → Conn (fun a b => t a b = true) k v
  on : ∀ v ∈ st, v < n ∧ f v = true
  closed : ∀ v, f v = true → v ∉ st → ∀ u, u < n → t v u = true → f u = true
structure FMid (t : Nat → Nat → Bool) (n k : Nat) (f : Nat → Bool) (st : List Nat) (x q : Nat) : Prop where
  start : f k = true
  conn : ∀ v, f v = true → Conn (fun a b => t a b = true) k v
  on : ∀ v ∈ st, v < n ∧ f v = true
  fx : f x = true
  closed : ∀ v, f v = true → v ∉ st → v ≠ x → ∀ u, u < n → t v u = true → f u = true
  px : ∀ u, u < q → t x u = true → f u = true
theorem finv_start (t : Nat → Nat → Bool) {n k : Nat} (hk : k < n) : FInv t n k (updF (fun _ => false) k true) [k] := by
  have h : ∀ v, updF (fun _ => false) k true v = true ↔ v = k := by
    intro v; unfold updF; by_cases e : v = k <;> simp [e]
  refine ⟨(h k).2 rfl, fun v hv => ?_, fun v hv => ?_, fun v hv hn => ?_⟩
  · rw [(h v).1 hv]; exact Conn.refl _
  · simp at hv; subst hv; exact ⟨hk, (h v).2 rfl⟩
  · exact absurd (by rw [(h v).1 hv]; simp) hn
theorem fmid_start {t : Nat → Nat → Bool} {n k : Nat} {f : Nat → Bool} {l : List Nat} {x : Nat} (h : FInv t n k f (l ++ [x])) : FMid t n k f l x 0 :=
  ⟨h.start, h.conn, fun v hv => h.on v (by simp [hv]), (h.on x (by simp)).2, fun v hv h1 h2 => h.closed v hv (by simp [h1, h2]), fun u hu => by omega⟩
theorem fmid_skip {t : Nat → Nat → Bool} {n k : Nat} {f : Nat → Bool} {l : List Nat} {x q : Nat} (h : FMid t n k f l x q) (hq : (t x q && !f q) = false) : FMid t n k f l x (q + 1) :=
  ⟨h.start, h.conn, h.on, h.fx, h.closed, fun u hu ht => by
    by_cases e : u = q
    · subst e
      cases hf : f u
      · rw [ht, hf] at hq; cases hq
      · rfl
    · exact h.px u (by omega) ht⟩
theorem fmid_add {t : Nat → Nat → Bool} {n k : Nat} {f : Nat → Bool} {l : List Nat} {x q : Nat} (h : FMid t n k f l x q) (hqn : q < n) (ht : t x q = true) : FMid t n k (updF f q true) (l ++ [q]) x (q + 1) := by
  have hm : ∀ v, f v = true → updF f q true v = true := by
    intro v hv; unfold updF; by_cases e : v = q <;> simp [e, hv]
  have hu : ∀ v, updF f q true v = true → v = q ∨ f v = true := by
    intro v; unfold updF; by_cases e : v = q <;> simp [e]
  refine ⟨hm _ h.start, fun v hv => ?_, fun v hv => ?_, hm _ h.fx, fun v hv h1 h2 u hun htu => ?_, fun u hun htu => ?_⟩
  · rcases hu v hv with e | e
    · rw [e]; exact (h.conn x h.fx).trans (Conn.step ht)
    · exact h.conn v e
  · rcases List.mem_append.1 hv with e | e
    · exact ⟨(h.on v e).1, hm v (h.on v e).2⟩
    · simp at e; subst e; exact ⟨hqn, by unfold updF; simp⟩
  · have h3 : v ≠ q := fun e => h1 (by simp [e])
    exact hm u (h.closed v ((hu v hv).resolve_left h3) (fun e => h1 (by simp [e])) h2 u hun htu)
  · by_cases e : u = q
    · subst e; unfold updF; simp
    · exact hm u (h.px u (by omega) htu)
theorem finv_of {t : Nat → Nat → Bool} {n k : Nat} {f : Nat → Bool} {l : List Nat} {x : Nat} (h : FMid t n k f l x n) : FInv t n k f l :=
  ⟨h.start, h.conn, h.on, fun v hv h1 u hu ht => by
    by_cases e : v = x
    · subst e; exact h.px u hu ht
    · exact h.closed v hv h1 e u hu ht⟩
theorem finv_end {t : Nat → Nat → Bool} {n k : Nat} {f : Nat → Bool} (hN : Nice t n) (h : FInv t n k f []) : ∀ v, f v = true ↔ Conn (fun a b => t a b = true) k v :=
  fun v => ⟨h.conn v, fun hc => hc (fun x => f x = true) h.start (fun x y hx hxy => h.closed x hx (by simp) y (hN.lt x y hxy).2 hxy)⟩
def unm (f : Nat → Bool) (n : Nat) : Nat := ((List.range n).filter fun i => !f i).length
theorem unm_add {f : Nat → Bool} {n q : Nat} (hq : q < n) (hf : f q = false) : unm (updF f q true) n < unm f n := by
  unfold unm
  refine Go.Chordal.filter_len_lt _ _ _ (fun x _ hx => ?_) q (by simpa using hq) (by simp [hf]) (by simp [updF])
  unfold updF at hx
  by_cases e : x = q
  · simp [e] at hx
  · simpa [e] using hx
theorem snoc_cases (st : List Nat) : st = [] ∨ ∃ l x, st = l ++ [x] := by
  by_cases h : st = []
  · exact .inl h
  · exact .inr ⟨st.dropLast, st.getLast h, (List.dropLast_concat_getLast h).symm⟩
theorem unm_le (f : Nat → Bool) (n : Nat) : unm f n ≤ n := by
  unfold unm
  exact Nat.le_trans (List.length_filter_le _ _) (by simp)
end Go.Gr
namespace Go.Proofs.Tg.Gx
open Go.RowKit Go.Gr
set_option maxHeartbeats 4000000
set_option maxRecDepth 100000
def isF : Option Value → Bool
  | some (.bool false) => true
  | _ => false
def unmW (w : World) (g n : Nat) : Nat := ((List.range n).filter fun i => isF (w.cell? ⟨g, i, none⟩)).length
theorem unmW_blk {w : World} {g n : Nat} {f : Nat → Bool} (h : Blk w g 4 (farr n fun v => .bool (f v))) : unmW w g n = unm f n := by
  unfold unmW unm
  rw [List.filter_congr (fun i hi => ?_)]
  rw [(h.cell i).trans (farr_at n _ (by simpa using hi))]
  cases f i <;> rfl
structure Ph (n base : Nat) (es : List (Int × Int)) (w : World) (k m cr : Nat) (R : Option Addr) (F : Nat → Option Addr × Nat) (ls : Nat → List Int) (seen : Nat → Bool) (wr : World) : Prop where
  mc : m ≤ cr
  mle : m ≤ k
  own : wr.ownsRow base 36 1 (.slice R m cr) m ((List.range m).map (enc F ls))
  rows : RowsIn wr base m F ls
  blk : Blk wr w.heap.size 4 (farr n fun v => .bool (seen v))
  below : Below w.heap.size w wr
  made : MadeL es k ((List.range m).map ls)
  iff : ∀ v, v < n → (seen v = true ↔ ∃ l ∈ (List.range m).map ls, (v : Int) ∈ l)
  few : ∀ l ∈ (List.range m).map ls, l.length ≤ 64
def RetParts (n : Nat) (es : List (Int × Int)) (w : World) (e : Ending) (w' : World) : Prop :=
  ∃ ls V d, MadeL es n ls ∧ e = .returned (.slice V (List.length ls) d) ∧ Lists w' V ls ∧ Below w.heap.size w w'
def RetPartsO (n : Nat) (es : List (Int × Int)) (w : World) (e : Ending) (w' : World) : Prop :=
  ∃ (m : Nat) (V : Option Addr) (d base : Nat) (F : Nat → Option Addr × Nat) (ls : Nat → List Int), MadeL es n ((List.range m).map ls) ∧ e = .returned (.slice V m d) ∧ w.heap.size ≤ base ∧ w'.ownsRow base 36 1 (.slice V m d) m ((List.range m).map (enc F ls)) ∧ RowsIn w' base m F ls ∧ (∀ l ∈ (List.range m).map ls, l.length ≤ 64) ∧ Below w.heap.size w w'
theorem rparts_own (g n : Nat) (es : List (Int × Int)) (w : World) (hT : TableAt w g n (readT es)) (hv : valid n es) :
    Calls Tryz.prog 72 #[.slice (some ⟨g, 0, none⟩) n n] w (RetPartsO n es w) := by
  have hn : n ≤ 64 := by have := hv.2.1; omega
  obtain ⟨j0, hj, hjz0, hjz1, hjz2⟩ := info_parts rows_info
  obtain ⟨i0, hi, hz0, hz1, hz2⟩ := info_parts int_info
  have m1 := fun W => make_bools n (by omega) W
  have HN := Lib.hid (valid_nice hv)
  have HV := Lib.hid hv
  clear hv
  go_enter Tryz.func72, Tryz.ntmps72
  go_wp2
  have hB0 := Blk.new w 4 (farr n fun _ => .bool false)
  have hb0 : Below w.heap.size w (w.alloc (.cells (farr n fun _ => .bool false) 4)) := (Below.refl _ _).alloc (Nat.le_refl _) _
  generalize w.alloc (.cells (farr n fun _ => .bool false) 4) = W at hB0 hb0 ⊢
  have M1 := Lib.hid m1
  clear m1
  go_loopw [5, 3] (fun x v wr => ∃ (k m cr : Nat) (R : Option Addr) (F : Nat → Option Addr × Nat) (ls : Nat → List Int) (seen : Nat → Bool), x = .int .i64 k ∧ k ≤ n ∧ v = .slice R m cr ∧ Hid (Ph n (w.heap.size + 1) es w k m cr R F ls seen wr)) (fun x _ _ => n - (intOf x).toNat)
  case atStart => exact ⟨0, 0, 0, none, fun _ => (none, 0), fun _ => [], fun _ => false, rfl, Nat.zero_le _, rfl, Lib.hid ⟨Nat.le_refl _, Nat.le_refl _, World.ownsRow_nil _ _ _ _, fun i hi => by omega, hB0, hb0, MadeL.zero, fun v _ => by simp, by simp⟩⟩
  case round =>
    clear hB0 hb0
    obtain ⟨wo, rfl⟩ : ∃ wo : World, wo = wr := ⟨_, rfl⟩
    obtain ⟨k, m, cr, R, F, ls, seen, rfl, hk, rfl, HP⟩ := hrel
    have hb := HP.out.below
    have hB := HP.out.blk
    have hTo := hT.keep hb (Nat.le_refl _)
    have hBlt : w.heap.size < wo.heap.size := hB.lt
    by_cases hkn : k < n
    · have hkb : decide ((k : Int) < (n : Int)) = true := by simp; omega
      have ck := (hB.cell k).trans (farr_at n _ hkn)
      have k0 : (0 : Int) ≤ (k : Int) := by omega
      have k1 : (k : Int) < (n : Int) := by omega
      obtain ⟨sk, hsk⟩ : ∃ sk, seen k = sk := ⟨_, rfl⟩
      rw [hsk] at ck
      have HSK := Lib.hid hsk
      clear hsk
      cases sk
      · have m1 := M1.out
        have hC0 := (Blk.new wo 4 (farr n fun _ => .bool false)).alloc (.cells #[.int .i64 k] 3)
        have cc := (hC0.cell k).trans (farr_at n _ hkn)
        have cf := hC0.frozen k
        go_upto_region 10 with fail
        clear m1 cc cf hC0
        have e0 : (farr n fun _ => Value.bool false).setIfInBounds k (Value.bool true) = farr n fun v => .bool (updF (fun _ => false) k true v) := farr_upd (fun x : Bool => Value.bool x) (fun _ => false) k true
        rw [e0]
        clear e0
        have hu : unm (updF (fun _ => false) k true) n + 1 ≤ n := by
          have h1 := unm_add (f := fun _ => false) hkn rfl
          have h2 := unm_le (fun _ => false) n
          omega
        have HF := Lib.hid (finv_start (readT es) hkn)
        generalize updF (fun _ => false) k true = f0 at HF hu ⊢
        have hC := (Blk.new wo 4 (farr n fun v => .bool (f0 v))).alloc (.cells #[.int .i64 k] 3)
        have hS := World.ownsRow_lit (base := wo.heap.size + 1) (e := 3) (size := 1) (wo.alloc (.cells (farr n fun v => .bool (f0 v)) 4)) #[.int .i64 k] 1 (by simp) (by simp [maxLen]) (by simp)
        rw [show (wo.alloc (.cells (farr n fun v => .bool (f0 v)) 4)).heap.size = wo.heap.size + 1 from by simp] at hS
        have hbW : Below wo.heap.size wo ((wo.alloc (.cells (farr n fun v => .bool (f0 v)) 4)).alloc (.cells #[.int .i64 k] 3)) := ((Below.refl _ _).alloc (Nat.le_refl _) _).alloc (by simp) _
        generalize (wo.alloc (.cells (farr n fun v => .bool (f0 v)) 4)).alloc (.cells #[.int .i64 k] 3) = W2 at hC hS hbW ⊢
        go_loopw [7] (fun s wr => ∃ (f : Nat → Bool) (st : List Nat) (V : Option Addr) (d : Nat), s = .slice V st.length d ∧ st.length ≤ d ∧ st.length + unm f n ≤ n ∧ Hid (FInv (readT es) n k f st) ∧ wr.ownsRow (wo.heap.size + 1) 3 1 (.slice V st.length d) st.length (st.map vn) ∧ Blk wr wo.heap.size 4 (farr n fun v => .bool (f v)) ∧ Below wo.heap.size wo wr) (fun s wr => 2 * unmW wr wo.heap.size n + slen s)
        case atStart => exact ⟨f0, [k], some ⟨wo.heap.size + 1, 0, none⟩, 1, rfl, by simp, by simp; omega, HF, hS, hC, hbW⟩
        case round =>
          clear hC hS hbW HF hu
          obtain ⟨wf, rfl⟩ : ∃ wf : World, wf = wr := ⟨_, rfl⟩
          obtain ⟨f, st, V, d, rfl, hsd, hsu, HF, hS, hC, hbr⟩ := hrel
          rcases snoc_cases st with rfl | ⟨l, x, rfl⟩
          · have HE := Lib.hid (finv_end HN.out HF.out)
            have hdb : decide ((0 : Int) < (([] : List Nat).length : Int)) = false := by simp
            have hp := HP.out
            have hRf := own_below hp.own hbr (Nat.le_refl _)
            have hRowsf : RowsIn wf (w.heap.size + 1) m F ls := hp.rows.below hbr (Nat.le_refl _)
            have hBf := hB.keep hbr hBlt
            have hbf : Below w.heap.size w wf := below_all hb hbr
            have hszf := hbr.size
            have HRB : Hid (∀ i, i < m → ∀ p, (enc F ls i).ownBlock = some p → p < wo.heap.size) := Lib.hid (fun i hi p hq => ((hp.rows i hi).lt p hq).2)
            have hmk := hp.mle
            have hmc := hp.mc
            have HPP : Hid (MadeL es k ((List.range m).map ls) ∧ (∀ v, v < n → (seen v = true ↔ ∃ l ∈ (List.range m).map ls, (v : Int) ∈ l)) ∧ ∀ l ∈ (List.range m).map ls, l.length ≤ 64) := Lib.hid ⟨hp.made, hp.iff, hp.few⟩
            clear HF hS hp HP hB hTo
            go_wp2
            go_loopw [11, 10] (fun y s wr => ∃ (q : Nat) (V : Option Addr) (d : Nat) (l2 : List Nat), y = .int .i64 q ∧ q ≤ n ∧ s = .slice V l2.length d ∧ l2.length ≤ d ∧ l2.length ≤ q ∧ Hid (l2 = (List.range q).filter f) ∧ wr.ownsRow (wo.heap.size + 1) 3 1 (.slice V l2.length d) l2.length (l2.map vn) ∧ Blk wr w.heap.size 4 (farr n fun v => .bool (seen v || (decide (v < q) && f v))) ∧ Blk wr wo.heap.size 4 (farr n fun v => .bool (f v)) ∧ Hid (wr.ownsRow (w.heap.size + 1) 36 1 (.slice R m cr) m ((List.range m).map (enc F ls)) ∧ RowsIn wr (w.heap.size + 1) m F ls) ∧ Below w.heap.size w wr) (fun y _ _ => n - (intOf y).toNat)
            case atStart =>
              refine ⟨0, none, 0, [], rfl, Nat.zero_le _, rfl, Nat.le_refl _, Nat.le_refl _, Lib.hid (by simp), World.ownsRow_nil _ _ _ _, ?_, hC, Lib.hid ⟨hRf, hRowsf⟩, hbf⟩
              rw [farr_congr (fun v _ => by simp : ∀ v, v < n → Value.bool (seen v || (decide (v < 0) && f v)) = Value.bool (seen v))]
              exact hBf
            case round =>
              clear hC hRf hRowsf hBf hbf hbr hszf
              obtain ⟨q, V, d, l2, rfl, hq, rfl, hld, hlq, HL, hown, hB, hC, HR, hbr⟩ := hrel
              have hClt := hC.lt
              by_cases hqn : q < n
              · have hqb : decide ((q : Int) < (n : Int)) = true := by simp; omega
                have q0 : (0 : Int) ≤ (q : Int) := by omega
                have q1 : (q : Int) < (n : Int) := by omega
                have cfq := (hC.cell q).trans (farr_at n _ hqn)
                have csq := (hB.cell q).trans (farr_at n _ hqn)
                have fsq := hB.frozen q
                have HSN : Hid ((List.range (q + 1)).filter f = (List.range q).filter f ++ if f q = true then [q] else []) := Lib.hid (by
                  rw [List.range_succ, List.filter_append]
                  cases hh : f q <;> simp [hh])
                obtain ⟨fq, hfq⟩ : ∃ fq, f q = fq := ⟨_, rfl⟩
                rw [hfq] at cfq HSN
                have HFQ := Lib.hid hfq
                clear hfq
                cases fq
                · have HL2 : Hid (l2 = (List.range (q + 1)).filter f) := Lib.hid (by rw [HSN.out, HL.out]; simp)
                  have hB2 : Blk wr w.heap.size 4 (farr n fun v => .bool (seen v || (decide (v < q + 1) && f v))) := by
                    rw [farr_congr (fun v _ => ?_ : ∀ v, v < n → Value.bool (seen v || (decide (v < q + 1) && f v)) = Value.bool (seen v || (decide (v < q) && f v)))]
                    · exact hB
                    · by_cases e : v = q
                      · subst e; rw [HFQ.out]; simp
                      · have : decide (v < q + 1) = decide (v < q) := by rw [Bool.eq_iff_iff]; simp; omega
                        rw [this]
                  clear HSN HL csq fsq
                  go_wp2
                  go_roundw
                  case rel => exact ⟨q + 1, V, d, l2, by go_num, by omega, rfl, hld, by omega, HL2, hown, hB2, hC, HR, hbr⟩
                  case measure => simp [intOf]; omega
                · have HL2 : Hid (l2 ++ [q] = (List.range (q + 1)).filter f) := Lib.hid (by rw [HSN.out, HL.out]; simp)
                  have hB2 := hB.set q (.bool true)
                  rw [farr_upd (fun x : Bool => Value.bool x) (fun v => seen v || (decide (v < q) && f v))] at hB2
                  have hB3 : Blk (wr.setCell ⟨w.heap.size, q, none⟩ (.bool true)) w.heap.size 4 (farr n fun v => .bool (seen v || (decide (v < q + 1) && f v))) := by
                    rw [farr_congr (fun v _ => ?_ : ∀ v, v < n → Value.bool (seen v || (decide (v < q + 1) && f v)) = Value.bool (updF (fun v => seen v || (decide (v < q) && f v)) q true v))]
                    · exact hB2
                    · unfold updF
                      by_cases e : v = q
                      · subst e; rw [HFQ.out]; simp
                      · have : decide (v < q + 1) = decide (v < q) := by rw [Bool.eq_iff_iff]; simp; omega
                        rw [this, if_neg e]
                  have hC3 := hC.far (p := ⟨w.heap.size, q, none⟩) (by simp; omega) (.bool true)
                  have hown3 := ownsRow_setCell_below hown (a := ⟨w.heap.size, q, none⟩) (by simp; omega) (.bool true)
                  have HR3 : Hid ((wr.setCell ⟨w.heap.size, q, none⟩ (.bool true)).ownsRow (w.heap.size + 1) 36 1 (.slice R m cr) m ((List.range m).map (enc F ls)) ∧ RowsIn (wr.setCell ⟨w.heap.size, q, none⟩ (.bool true)) (w.heap.size + 1) m F ls) :=
                    Lib.hid ⟨ownsRow_setCell_below HR.out.1 (by simp) _, fun i hi => ownsRow_setCell_below (HR.out.2 i hi) (by simp) _⟩
                  have hb3 : Below w.heap.size w (wr.setCell ⟨w.heap.size, q, none⟩ (.bool true)) := hbr.setCell (by simp) _
                  have hsz3 := hC3.lt
                  clear HSN HL hB2
                  go_upto_region 25 with fail
                  generalize wr.setCell ⟨w.heap.size, q, none⟩ (.bool true) = W3 at hB3 hC3 hown3 HR3 hb3 hsz3 ⊢
                  go_wp2_with (at_builtin; refine wpList_append_own _ rfl _ _ 36 rfl (wo.heap.size + 1) 3 i0 (.int .i64 0) 1 8 Tryz.underlying36 hi hz0 hz1 hz2 rfl (by decide) (.slice V l2.length d) l2.length (l2.map vn) rfl (hown3.alloc _) ⟨W3.heap.size, 0, none⟩ 1 1 [.int .i64 q] rfl rfl ?c1 ?c2 ?c3 ?c4 ?c5 ?_
                               case c1 => exact cell_one_new _ _ _
                               case c2 => simp [Value.oneCell']
                               case c3 => simp only [maxLen]; omega
                               case c4 => omega
                               case c5 => simp; omega
                               intro v' w2 hown' hgrow _
                               obtain ⟨V2, c2, hv2, hle2, _⟩ := Sl.of_own hown'
                               subst hv2)
                  have hlen : (l2 ++ [q]).length = l2.length + 1 := by simp
                  go_roundw
                  case rel =>
                    (repeat apply Exists.intro)
                    refine ⟨⟨q + 1, V2, c2, l2 ++ [q], by go_num, by omega, by rw [hlen], by rw [hlen]; exact hle2, by rw [hlen]; omega, HL2, ?_, ?_, ?_, Lib.hid ⟨?_, ?_⟩, ?_⟩, rfl⟩
                    · rw [hlen]; simpa [vn] using hown'
                    · exact (hB3.alloc _).grown hgrow (own_blk_ne hown3 hB3 (by decide))
                    · exact (hC3.alloc _).grown hgrow (own_blk_ne hown3 hC3 (by decide))
                    · exact (HR3.out.1.alloc _).kept hgrow (own_ne HR3.out.1 hown3 (by decide))
                    · refine (HR3.out.2.alloc _).kept hgrow (fun i hi => ?_)
                      cases hq : (enc F ls i).ownBlock with
                      | none => exact .inl rfl
                      | some p =>
                        refine .inr (fun e => ?_)
                        have h1 := HRB.out i hi p hq
                        have h2 := (hown3.lt p e.symm).1
                        omega
                    · exact (hb3.alloc hb3.size _).grown hgrow (by simp; omega) (fun p hp => by have := (hown3.lt p hp).1; omega)
                  case measure => simp [intOf]; omega
              · obtain rfl : q = n := by omega
                have hqb : decide ((q : Int) < (q : Int)) = false := by simp
                have hR6 := HR.out.1
                have hRw0 := HR.out.2
                have hsz := hC.lt
                go_wp2_with (at_builtin; refine wpList_append_own _ rfl _ _ 25 rfl (w.heap.size + 1) 36 j0 (.slice none 0 0) 1 24 Tryz.underlying25 hj hjz0 hjz1 hjz2 rfl (by decide) (.slice R m cr) m _ rfl (hR6.alloc _) ⟨wr.heap.size, 0, none⟩ 1 1 [.slice V l2.length d] rfl rfl ?c1 ?c2 ?c3 ?c4 ?c5 ?_
                             case c1 => exact cell_one_new _ _ _
                             case c2 => simp [Value.oneCell']
                             case c3 => simp only [maxLen]; omega
                             case c4 => omega
                             case c5 => simp; omega
                             intro v' w7 hR7 hg7 _
                             obtain ⟨R2, cr2, hv2, hle2, _⟩ := Sl.of_own hR7
                             subst hv2)
                go_roundw
                case rel =>
                  have hvl : l2.length = (natsI l2).length := by simp [natsI]
                  have hV7 : w7.ownsRow (w.heap.size + 1) 3 1 (.slice V (natsI l2).length d) (natsI l2).length ((natsI l2).map vi) := by
                    rw [← hvl, ← nats_vi]
                    exact own_base ((hown.alloc (.cells #[.slice V l2.length d] 36)).kept hg7 (own_ne hown hR6 (by decide))) (by omega)
                  have hRw : RowsIn w7 (w.heap.size + 1) m F ls := (hRw0.alloc (.cells #[.slice V l2.length d] 36)).kept hg7 (fun i hi => own_ne (hRw0 i hi) hR6 (by decide))
                  have hRs : RowsIn w7 (w.heap.size + 1) (m + 1) (snocF F m (V, d)) (snocF ls m (natsI l2)) := RowsIn.snoc (x := (V, d)) hRw hV7
                  have hls : (List.range (m + 1)).map (snocF ls m (natsI l2)) = (List.range m).map ls ++ [natsI l2] := by
                    rw [List.range_succ, List.map_append]
                    congr 1
                    · apply List.map_congr_left
                      intro i hi
                      have : i < m := by simpa using hi
                      simp [snocF]; omega
                    · simp [snocF]
                  have hmem : ∀ x : Int, x ∈ natsI l2 ↔ ∃ v : Nat, x = v ∧ Go.Jt.Conn (Rel es) k v := by
                    intro x
                    unfold natsI
                    rw [List.mem_map, HL.out]
                    constructor
                    · rintro ⟨v, hv, rfl⟩
                      exact ⟨v, rfl, (HE.out v).1 (List.mem_filter.1 hv).2⟩
                    · rintro ⟨v, rfl, hv⟩
                      refine ⟨v, List.mem_filter.2 ⟨?_, (HE.out v).2 hv⟩, rfl⟩
                      rw [List.mem_range]
                      exact conn_lt HV.out hkn hv
                  have hmemN : ∀ v : Nat, (v : Int) ∈ natsI l2 ↔ f v = true := by
                    intro v
                    rw [hmem, HE.out v]
                    constructor
                    · rintro ⟨u, h1, h2⟩
                      have : v = u := by omega
                      rw [this]; exact h2
                    · exact fun h => ⟨v, rfl, h⟩
                  refine ⟨k + 1, m + 1, cr2, R2, snocF F m (V, d), snocF ls m (natsI l2), fun v => seen v || (decide (v < q) && f v), by go_num, by omega, rfl, Lib.hid ⟨hle2, by omega, ?_, hRs, ?_, ?_, ?_, ?_, ?_⟩⟩
                  · rw [map_snoc, ← hvl]; exact hR7
                  · exact (hB.alloc _).grown hg7 (own_blk_ne hR6 hB (by decide))
                  · exact (hbr.alloc hbr.size _).grown hg7 (by simp; omega) (fun p hp => by have := (hR6.lt p hp).1; omega)
                  · rw [hls]
                    refine .add HPP.out.1 (fun l hl hkl => ?_) ?_ hmem
                    · have := (HPP.out.2.1 k hkn).2 ⟨l, hl, hkl⟩
                      rw [HSK.out] at this; cases this
                    · unfold natsI
                      rw [List.pairwise_map, HL.out]
                      exact (List.Pairwise.filter _ List.pairwise_lt_range).imp (fun h => by omega)
                  · intro v hv
                    rw [hls, Bool.or_eq_true, HPP.out.2.1 v hv]
                    simp only [hv, decide_true, Bool.true_and]
                    constructor
                    · rintro (⟨l, h1, h2⟩ | h)
                      · exact ⟨l, List.mem_append_left _ h1, h2⟩
                      · exact ⟨natsI l2, by simp, (hmemN v).2 h⟩
                    · rintro ⟨l, h1, h2⟩
                      rcases List.mem_append.1 h1 with h1 | h1
                      · exact .inl ⟨l, h1, h2⟩
                      · rw [List.mem_singleton] at h1
                        subst h1
                        exact .inr ((hmemN v).1 h2)
                  · rw [hls]
                    intro l hl
                    rcases List.mem_append.1 hl with h1 | h1
                    · exact HPP.out.2.2 l h1
                    · rw [List.mem_singleton] at h1
                      subst h1
                      omega
                case measure => simp [intOf]; omega
          · have hl1 : (l ++ [x]).length = l.length + 1 := by simp
            rw [hl1] at hS hsd hsu ⊢
            obtain ⟨hxn, hxf⟩ := HF.out.on x (by simp)
            have HM0 := Lib.hid (fmid_start HF.out)
            clear HF hxf hl1
            obtain ⟨gs, cap, hveq⟩ : ∃ gs cap, Value.slice V (l.length + 1) d = .slice (some ⟨gs, 0, none⟩) (l.length + 1) cap := by
              rcases hS.2 with ⟨_, h1⟩ | ⟨gs, cap, _, hveq, _⟩
              · omega
              · exact ⟨gs, cap, hveq⟩
            injection hveq with hV1 _ hcap
            subst hV1 hcap
            have hcx : wf.cell? ⟨gs, l.length, none⟩ = some (.int .i64 x) := by
              rw [hS.cellAt l.length (by omega)]; simp [vn]
            have hS2 : wf.ownsRow (wo.heap.size + 1) 3 1 (.slice (some ⟨gs, 0, none⟩) l.length d) l.length (l.map vn) := by
              have h := hS
              rw [List.map_append] at h
              exact ownsRow_pop (by simp) h
            have hdb : decide ((0 : Int) < ((l.length + 1 : Nat) : Int)) = true := by simp <;> omega
            have hsub : ((l.length + 1 : Nat) : Int) - 1 = (l.length : Int) := by omega
            clear hS
            go_wp2
            clear hcx hdb hsub
            have x0 : (0 : Int) ≤ (x : Int) := by omega
            have x1 : (x : Int) < (n : Int) := by omega
            go_loopw [9, 7] (fun y s wr => ∃ (q : Nat) (f' : Nat → Bool) (st : List Nat) (V : Option Addr) (d : Nat), y = .int .i64 q ∧ q ≤ n ∧ s = .slice V st.length d ∧ st.length ≤ d ∧ st.length + unm f' n + 1 ≤ n ∧ Hid (FMid (readT es) n k f' st x q) ∧ 2 * unm f' n + st.length ≤ 2 * unm f n + l.length ∧ wr.ownsRow (wo.heap.size + 1) 3 1 (.slice V st.length d) st.length (st.map vn) ∧ Blk wr wo.heap.size 4 (farr n fun v => .bool (f' v)) ∧ Below wo.heap.size wo wr) (fun y _ _ => n - (intOf y).toNat)
            case atStart => exact ⟨0, f, l, some ⟨gs, 0, none⟩, d, rfl, Nat.zero_le _, rfl, by omega, by omega, HM0, Nat.le_refl _, hS2, hC, hbr⟩
            case round =>
              clear HM0 hS2
              have hCf := hC
              clear hC hbr
              obtain ⟨q, f', st, V, d, rfl, hq, rfl, hstd, hstu, HM, hme, hS, hC, hbr⟩ := hrel
              have hT2 := hTo.keep hbr (Nat.le_refl _)
              by_cases hqn : q < n
              · have hqb : decide ((q : Int) < (n : Int)) = true := by simp; omega
                have q0 : (0 : Int) ≤ (q : Int) := by omega
                have q1 : (q : Int) < (n : Int) := by omega
                have cx := (hT2.head.cell x).trans (farr_at n _ hxn)
                unfold rowV at cx
                have cxq := ((hT2.row x hxn).cell q).trans (farr_at n _ hqn)
                have cfq := (hC.cell q).trans (farr_at n _ hqn)
                have ffq := hC.frozen q
                have HSK2 : Hid ((readT es x q && !f' q) = false → FMid (readT es) n k f' st x (q + 1)) := Lib.hid (fun h => fmid_skip HM.out h)
                have HAD : Hid (readT es x q = true → FMid (readT es) n k (updF f' q true) (st ++ [q]) x (q + 1)) := Lib.hid (fun h => fmid_add HM.out hqn h)
                have HUN : Hid (f' q = false → unm (updF f' q true) n < unm f' n) := Lib.hid (fun h => unm_add hqn h)
                clear HM
                generalize readT es x q = txq at cxq HSK2 HAD
                obtain ⟨fq, hfq⟩ : ∃ fq, f' q = fq := ⟨_, rfl⟩
                rw [hfq] at cfq HSK2 HUN
                clear hfq hT2
                cases txq
                · have HM2 := Lib.hid (HSK2.out rfl)
                  clear HSK2 HAD HUN
                  go_wp2
                  go_roundw
                  case rel => exact ⟨q + 1, f', st, V, d, by go_num, by omega, rfl, hstd, hstu, HM2, hme, hS, hC, hbr⟩
                  case measure => simp [intOf]; omega
                · cases fq
                  · have HM2 := Lib.hid (HAD.out rfl)
                    have hun := HUN.out rfl
                    clear HSK2 HAD HUN
                    have hC3 := hC.set q (.bool true)
                    rw [farr_upd (fun x : Bool => Value.bool x)] at hC3
                    have hS3 := ownsRow_setCell_below hS (a := ⟨wo.heap.size, q, none⟩) (by simp) (.bool true)
                    have hb3 : Below wo.heap.size wo (wr.setCell ⟨wo.heap.size, q, none⟩ (.bool true)) := hbr.setCell (by simp) _
                    have hsz3 := hC3.lt
                    go_upto_region 18 with fail
                    generalize wr.setCell ⟨wo.heap.size, q, none⟩ (.bool true) = W3 at hC3 hS3 hb3 hsz3 ⊢
                    go_wp2_with (at_builtin; refine wpList_append_own _ rfl _ _ 36 rfl (wo.heap.size + 1) 3 i0 (.int .i64 0) 1 8 Tryz.underlying36 hi hz0 hz1 hz2 rfl (by decide) (.slice V st.length d) st.length (st.map vn) rfl (hS3.alloc _) ⟨W3.heap.size, 0, none⟩ 1 1 [.int .i64 q] rfl rfl ?c1 ?c2 ?c3 ?c4 ?c5 ?_
                                 case c1 => exact cell_one_new _ _ _
                                 case c2 => simp [Value.oneCell']
                                 case c3 => simp only [maxLen]; omega
                                 case c4 => omega
                                 case c5 => simp; omega
                                 intro v' w2 hown' hgrow _
                                 obtain ⟨V2, c2, hv2, hle2, _⟩ := Sl.of_own hown'
                                 subst hv2)
                    have hlen : (st ++ [q]).length = st.length + 1 := by simp
                    go_roundw
                    case rel =>
                      refine ⟨q + 1, updF f' q true, st ++ [q], V2, c2, by go_num, by omega, by rw [hlen], by rw [hlen]; exact hle2, by rw [hlen]; omega, HM2, by rw [hlen]; omega, ?_, ?_, ?_⟩
                      · rw [hlen]; simpa [vn] using hown'
                      · exact (hC3.alloc _).grown hgrow (own_blk_ne hS3 hC3 (by decide))
                      · exact (hb3.alloc hb3.size _).grown hgrow (by simp; omega) (fun p hp => by have := (hS3.lt p hp).1; omega)
                    case measure => simp [intOf]; omega
                  · have HM2 := Lib.hid (HSK2.out rfl)
                    clear HSK2 HAD HUN
                    go_wp2
                    go_roundw
                    case rel => exact ⟨q + 1, f', st, V, d, by go_num, by omega, rfl, hstd, hstu, HM2, hme, hS, hC, hbr⟩
                    case measure => simp [intOf]; omega
              · obtain rfl : q = n := by omega
                have hqb : decide ((q : Int) < (q : Int)) = false := by simp
                have HF2 := Lib.hid (finv_of HM.out)
                have u1 := unmW_blk hC
                have u2 := unmW_blk hCf
                clear HM
                go_wp2
                go_roundw
                case rel => exact ⟨f', st, V, d, rfl, hstd, by omega, HF2, hS, hC, hbr⟩
                case measure => rw [u1, u2]; simp [slen]; omega
      · go_wp2
        go_roundw
        case rel =>
          have hp := HP.out
          exact ⟨k + 1, m, cr, R, F, ls, seen, by go_num, by omega, rfl, Lib.hid ⟨hp.mc, by have := hp.mle; omega, hp.own, hp.rows, hp.blk, hp.below, .skip hp.made ((hp.iff k hkn).1 HSK.out), hp.iff, hp.few⟩⟩
        case measure => simp [intOf]; omega
    · obtain rfl : k = n := by omega
      have hkb : decide ((k : Int) < (k : Int)) = false := by simp
      go_wp2
      go_ret
      have hp := HP.out
      exact ⟨m, R, cr, _, F, ls, hp.made, rfl, by omega, hp.own, hp.rows, hp.few, hp.below⟩
theorem rparts_any (g n : Nat) (es : List (Int × Int)) (w : World) (hT : TableAt w g n (readT es)) (hv : valid n es) :
    Calls Tryz.prog 72 #[.slice (some ⟨g, 0, none⟩) n n] w (RetParts n es w) := by
  refine (rparts_own g n es w hT hv).mono ?_
  rintro e w' ⟨m, V, d, base, F, ls, h1, h2, _, h4, h5, _, h7⟩
  refine ⟨(List.range m).map ls, V, d, h1, ?_, lists_of_rows h4 h5, h7⟩
  rw [List.length_map, List.length_range]
  exact h2
end Go.Proofs.Tg.Gx
end
section
/- The statements' Graphs: two graphs are alike. -/
namespace Go.Proofs.Tg.Gx
open Go.RowKit Go.Gr
set_option maxHeartbeats 2000000
set_option maxRecDepth 100000
theorem pair_guard : Tryz.prog.eqGuardType Tryz.prog.depth 83 = false := by kernel_rfl
theorem pair_eq (w : World) (x y x' y' : Int) : (Op.equalIn 10000 83 (.agg #[.int .i64 x, .int .i64 y]) (.agg #[.int .i64 x', .int .i64 y'])).run Tryz.prog w = .ok (decide (x = x' ∧ y = y')) w := by
  obtain ⟨i0, hi, _, hz1, _⟩ := info_parts int_info
  rw [show (10000 : Nat) = 9998 + 1 + 1 from rfl, run_equalIn_array w _ _ _ Tryz.underlying83 hi]
  have hc : Tryz.prog.cellsOf 3 = 1 := by simp [Program.cellsOf, hi, hz1]
  rw [hc, show List.range 2 = [0, 1] from rfl]
  simp only [Op.eqItems, Sem.run_bind]
  simp [go_sem, Tryz.underlying3]
  by_cases h1 : x = x' <;> by_cases h2 : y = y' <;> simp [h1, h2]
theorem graphs_any (n m : Int) (E F : Option Addr) (es fs : List (Int × Int)) (c d : Nat) (w : World) (hE : EdgesAt w E es) (hF : EdgesAt w F fs) (hl : es.length ≤ 1000000) :
    Calls Tryz.prog 18 #[.agg #[.int .i64 n, .slice E es.length c], .agg #[.int .i64 m, .slice F fs.length d]] w fun e w' => e = .returned (.bool (decide (n = m ∧ es = fs))) ∧ Below w.heap.size w w' := by
  generalize hbv : decide (n = m ∧ es = fs) = bv
  have HBV := Lib.hid hbv
  clear hbv
  by_cases hnm : n = m
  · subst hnm
    have hb0 : (n != n) = false := by simp
    have hpe := fun W a b a' b' => pair_eq W a b a' b'
    have hpg := pair_guard
    by_cases hlen : es.length = fs.length
    · have hb : ((es.length : Int) != (fs.length : Int)) = false := by simp [hlen]
      have HL := Lib.hid hlen; clear hlen
      have hbw : Below w.heap.size w ((w.alloc (.cells #[.int .i64 n, .slice E es.length c] 40)).alloc (.cells #[.int .i64 n, .slice F fs.length d] 40)) := ((Below.refl _ _).alloc (Nat.le_refl _) _).alloc (by simp) _
      have hB1 := (Blk.new w 40 #[.int .i64 n, .slice E es.length c]).alloc (.cells #[.int .i64 n, .slice F fs.length d] 40)
      have hB2 := Blk.new (w.alloc (.cells #[.int .i64 n, .slice E es.length c] 40)) 40 #[.int .i64 n, .slice F fs.length d]
      rw [show (w.alloc (.cells #[.int .i64 n, .slice E es.length c] 40)).heap.size = w.heap.size + 1 from by simp] at hB2
      go_enter Tryz.func18, Tryz.ntmps18
      go_wp2
      generalize (w.alloc (.cells #[.int .i64 n, .slice E es.length c] 40)).alloc (.cells #[.int .i64 n, .slice F fs.length d] 40) = W at hbw hB1 hB2 ⊢
      go_loopw [5] (fun i wr => ∃ k : Nat, k ≤ es.length ∧ i = .int .i64 k ∧ Hid (es.take k = fs.take k) ∧ Blk wr w.heap.size 40 #[.int .i64 n, .slice E es.length c] ∧ Blk wr (w.heap.size + 1) 40 #[.int .i64 n, .slice F fs.length d] ∧ Below w.heap.size w wr) (fun i _ => es.length - (intOf i).toNat)
      case atStart => exact ⟨0, Nat.zero_le _, rfl, Lib.hid (by simp), hB1, hB2, hbw⟩
      case round =>
        clear hB1 hB2 hbw
        obtain ⟨k, hk, rfl, HT, hB1, hB2, hbw⟩ := hrel
        have b0 := hB1.cell 1
        have b1 := hB2.cell 1
        simp at b0 b1
        by_cases hlt : k < es.length
        · have hky : k < fs.length := by have := HL.out; omega
          have k0 : (0 : Int) ≤ (k : Int) := by omega
          have k1 : (k : Int) < (es.length : Int) := by omega
          have k2 : (k : Int) < (fs.length : Int) := by omega
          obtain ⟨ad, rfl, hc1, hc2⟩ := EdgesAt.at (hE.keep hbw) hlt
          obtain ⟨bd, rfl, hd1, hd2⟩ := EdgesAt.at (hF.keep hbw) hky
          have HX : Hid (es.take (k + 1) = es.take k ++ [es[k]]) := Lib.hid (List.take_succ_eq_append_getElem hlt)
          have HY : Hid (fs.take (k + 1) = fs.take k ++ [fs[k]]) := Lib.hid (List.take_succ_eq_append_getElem hky)
          have HNE : Hid (es = fs → es[k] = fs[k]) := Lib.hid (fun e => by subst e; rfl)
          clear hE hF
          obtain ⟨x, y, hp⟩ : ∃ x y, es[k] = (x, y) := ⟨_, _, rfl⟩
          obtain ⟨x', y', hp'⟩ : ∃ x y, fs[k] = (x, y) := ⟨_, _, rfl⟩
          rw [hp] at hc1 hc2 HX HNE
          rw [hp'] at hd1 hd2 HY HNE
          clear hp hp'
          simp only at hc1 hc2 hd1 hd2
          by_cases heq : x = x' ∧ y = y'
          · obtain ⟨rfl, rfl⟩ := heq
            go_wp2
            have hq : ∀ W, (Op.equalIn 10000 83 (.agg #[.int .i64 x, .int .i64 y]) (.agg #[.int .i64 x, .int .i64 y])).run Tryz.prog W = .ok true W := fun W => by rw [pair_eq]; simp
            clear hpe
            go_quiet (fail)
            go_wp2
            go_roundw
            case rel => exact ⟨k + 1, by omega, by go_num, Lib.hid (by rw [HX.out, HY.out, HT.out]), hB1, hB2, below_drewN hbw _⟩
            case measure => simp [intOf]; omega
          · have HF : Hid (bv = false) := Lib.hid (HBV.out.symm.trans <| decide_eq_false (fun e => heq (by have := HNE.out e.2; simpa using this)))
            have hq : ∀ W, (Op.equalIn 10000 83 (.agg #[.int .i64 x, .int .i64 y]) (.agg #[.int .i64 x', .int .i64 y'])).run Tryz.prog W = .ok false W := fun W => by rw [pair_eq, decide_eq_false heq]
            clear hpe heq
            go_wp2
            go_quiet (fail)
            go_wp2
            go_ret
            exact ⟨by rw [HF.out]; rfl, below_drewN hbw _⟩
        · have HF : Hid (bv = true) := Lib.hid (HBV.out.symm.trans <| decide_eq_true ⟨by simp, by
            have := HT.out
            rwa [List.take_of_length_le (by omega), List.take_of_length_le (by have := HL.out; omega)] at this⟩)
          go_wp2
          go_ret
          exact ⟨by rw [HF.out]; rfl, hbw⟩
    · have hb : ((es.length : Int) != (fs.length : Int)) = true := by simp; omega
      have HF : Hid (bv = false) := Lib.hid (HBV.out.symm.trans <| decide_eq_false (fun e => hlen (by rw [e.2])))
      clear hlen
      go_enter Tryz.func18, Tryz.ntmps18
      go_wp2
      go_ret
      exact ⟨by rw [HF.out]; rfl, ((Below.refl _ _).alloc (Nat.le_refl _) _).alloc (by simp) _⟩
  · have hb : (n != m) = true := by simp [hnm]
    have HF : Hid (bv = false) := Lib.hid (HBV.out.symm.trans <| decide_eq_false (fun e => hnm e.1))
    clear hnm
    go_enter Tryz.func18, Tryz.ntmps18
    go_wp2
    go_ret
    exact ⟨by rw [HF.out]; rfl, ((Below.refl _ _).alloc (Nat.le_refl _) _).alloc (by simp) _⟩
end Go.Proofs.Tg.Gx
end
section
/- The reference's table of a set of monomials. -/
namespace Go.Proofs.Tg.Sx
open Go.RowKit Go.Gr Go.Sp Go.Ev Go.Mo Go.Qn
set_option maxHeartbeats 4000000
set_option maxRecDepth 100000
theorem drBelow {w a b : World} (h : Below w.heap.size w a) (hd : Dr a b) : Below w.heap.size w b := below_all h hd.below
theorem rtable_any (A B : Option Addr) (ca cb n : Nat) (s b : List (List Int)) (w : World) (hA : Lists w A s) (hB : Lists w B b) (hn : n ≤ 6) (hbl : b.length ≤ 64) (hdb : ∀ m ∈ b, domK n 24 m) (hls : s.length ≤ 1000000000) (hs : ∀ m ∈ s, m.length ≤ 1000000) :
    Calls Tryz.prog 42 #[.slice A s.length ca, .slice B b.length cb] w fun e w' => ∃ g, e = .returned (.slice (some ⟨g, 0, none⟩) b.length b.length) ∧ Gx.TableAt w' g b.length (tP b s b.length 0) ∧ w.heap.size ≤ g ∧ Below w.heap.size w w' := by
  have HDB := Lib.hid hdb
  have HBW := Lib.hid hB
  have HHS : Hid (∀ W g m q, Below w.heap.size w W → Blk W g 3 (iarr m) → m.length = n → decide (m ∈ s) = q → Calls Tryz.prog 70 #[.slice A s.length ca, .slice (some ⟨g, 0, none⟩) n n] W fun e w' => e = .returned (.bool q) ∧ Dr W w') := Lib.hid (fun W g m q h1 h2 h3 h4 => by
    have := rhas_any A (some ⟨g, 0, none⟩) ca n s m q W (hA.keep h1) (Sl.own (base := 0) (by have := own_iarr (b := 0) h2 (by omega) h3 (by omega); rwa [← h3] at this)) hls hs h4
    rwa [h3] at this)
  have HBL := Lib.hid (Gx.blank_any b.length w (by omega))
  have HZ := Lib.hid (tP_zero b s)
  clear hdb hB hA
  go_enter Tryz.func42, Tryz.ntmps42
  go_wp2_with (go_at_call 59; refine HBL.out.mono ?_; rintro e w1 ⟨rfl, hT1, hb1⟩)
  have hT1 : Gx.TableAt w1 w.heap.size b.length (tP b s 0 0) := by rw [HZ.out]; exact hT1
  go_loopw [6] (fun s6 wr => ∃ i : Nat, s6 = .int .i64 i ∧ i ≤ b.length ∧ Gx.TableAt wr w.heap.size b.length (tP b s i 0) ∧ Below w.heap.size w wr) (fun s6 _ => b.length - (intOf s6).toNat)
  case atStart => exact ⟨0, rfl, Nat.zero_le _, hT1, hb1⟩
  case round =>
    clear hT1 hb1
    obtain ⟨wo, rfl⟩ : ∃ wo : World, wo = wr := ⟨_, rfl⟩
    obtain ⟨i, rfl, hi, hT, hb⟩ := hrel
    by_cases hlt : i < b.length
    · obtain ⟨bd, E1, c1, rfl, hc1w, hI1⟩ := HBW.out.at hlt
      have hd1 := HDB.out b[i] (List.getElem_mem _)
      have HG1 : Hid (b.getD i [] = b[i]) := Lib.hid (by simp [hlt])
      have w1' : IntKind.i64.wrap ((i : Int) + 1) = (i : Int) + 1 := IntWalk.i64_in _ (by omega)
      go_wp2
      go_loopw [7] (fun s7 wr => ∃ k : Nat, s7 = .int .i64 k ∧ k ≤ i ∧ Gx.TableAt wr w.heap.size b.length (tP b s i k) ∧ Below w.heap.size w wr) (fun s7 _ => i - (intOf s7).toNat)
      case atStart => exact ⟨0, rfl, Nat.zero_le _, hT, hb⟩
      case round =>
        clear hT hb
        obtain ⟨wp, rfl⟩ : ∃ wp : World, wp = wr := ⟨_, rfl⟩
        obtain ⟨k, rfl, hk, hT, hb⟩ := hrel
        by_cases hkl : k < i
        · have hkb : k < b.length := by omega
          obtain ⟨bd2, E2, c2, he, hc2w, hI2⟩ := HBW.out.at hkb
          injection he with he
          subst he
          have hd2 := HDB.out b[k] (List.getElem_mem _)
          have h1 := keep_cell hb hc1w
          have h2 := keep_cell hb hc2w
          have HG2 : Hid (b.getD k [] = b[k]) := Lib.hid (by simp [hkb])
          have HNO : Hid (addL b[i] b[k] ∉ s → tP b s i (k + 1) = tP b s i k) := Lib.hid (fun h => tP_no hkl (by rw [HG1.out, HG2.out]; exact h))
          have HYES : Hid (addL b[i] b[k] ∈ s → tP b s i (k + 1) = setT (setT (tP b s i k) i k) k i) := Lib.hid (fun h => tP_yes hkl (by rw [HG1.out, HG2.out]; exact h))
          have HSL : Hid ((addL b[i] b[k]).length = n) := Lib.hid (addL_dom hd1 hd2).1
          have HPR : Hid (∀ W, Below wp.heap.size wp W → Calls Tryz.prog 71 #[.slice E1 b[i].length c1, .slice E2 b[k].length c2] W fun e w' => ∃ g, e = .returned (.slice (some ⟨g, 0, none⟩) n n) ∧ Blk w' g 3 (iarr (addL b[i] b[k])) ∧ Below wp.heap.size wp w') := Lib.hid (fun W h =>
            (rprod_any E1 E2 c1 c2 n b[i] b[k] W (hI1.keep (below_all hb h)) (hI2.keep (below_all hb h)) hd1 hd2 hn).mono fun e w' h2 => ⟨W.heap.size, h2.1, h2.2.1, below_all h h2.2.2⟩)
          have p0 : (0 : Int) ≤ (i : Int) := by omega
          have p1 : (i : Int) < (b.length : Int) := by omega
          have p3 : ((i : Int)).toNat = i := by omega
          have q0 : (0 : Int) ≤ (k : Int) := by omega
          have q1 : (k : Int) < (b.length : Int) := by omega
          have q3 : ((k : Int)).toNat = k := by omega
          have hbe : Below wp.heap.size wp wp.drew := (Below.refl _ _).drew
          clear hc2w hI2 hd2 HG2
          generalize hxe : addL b[i] b[k] = xy at *
          clear hxe
          generalize hye : b[k] = y at *
          clear hye
          obtain ⟨x, hx⟩ : ∃ x, b[i] = x := ⟨_, rfl⟩
          rw [hx] at h1 HPR
          clear hx
          by_cases hin : xy ∈ s
          · have hdec : decide (xy ∈ s) = true := decide_eq_true hin
            have HT2 := Lib.hid (HYES.out hin)
            clear hin
            go_upto_region 8 with (fail)
            go_region_held3 (fun w' => w'.cell? (bd.add i) = some (.slice E1 x.length c1) ∧ w'.cell? (bd.add k) = some (.slice E2 y.length c2))
              (first | exact ⟨keep_cell hbe h1, keep_cell hbe h2⟩)
              (first
                | (go_at_call 71; with_reducible refine Calls.mono (HPR.out _ (by assumption)) ?_; rintro e w2 ⟨g, rfl, hG, hb2⟩
                   have hbe := hb2)
                | (go_at_call 70; with_reducible refine Calls.mono (HHS.out _ _ _ _ (below_all hb hb2) hG HSL.out hdec) ?_; rintro e w3 ⟨rfl, hd3⟩
                   have hbe := drBelow hb2 hd3))
            all_goals
              have hTc := hT.keep hbe (Nat.le_refl _)
              have hbc := below_all hb hbe
              have ci := (hTc.head.cell i).trans (Gx.farr_at _ _ hlt)
              have ck := (hTc.head.cell k).trans (Gx.farr_at _ _ hkb)
              unfold Gx.rowV at ci ck
              have cij := ((hTc.row i hlt).cell k).trans (Gx.farr_at _ _ hkb)
              have cji := ((hTc.row k hkb).cell i).trans (Gx.farr_at _ _ hlt)
              have fij := (hTc.row i hlt).frozen k
              have fji := (hTc.row k hkb).frozen i
              have hT3 := Lib.hid ((hTc.set (b := k) hlt).set (b := i) hkb)
              generalize tP b s i k i k = tij at cij
              generalize tP b s i k k i = tji at cji
              have hik : i ≠ k := by omega
              have HIK := Lib.hid hik
              have HKL := Lib.hid hkl
              clear hTc hT hik
              go_wp2_with (fail)
              go_region
              go_wp2
              go_roundw
              case rel =>
                refine ⟨k + 1, by go_num, by have := HKL.out; omega, ?_, ?_⟩
                · rw [HT2.out]; exact hT3.out.drew
                · exact ((hbc.setCell (by simp; omega) _).setCell (by simp; omega) _).drew
              case measure => simp [intOf]; omega
          · have hdec : decide (xy ∈ s) = false := decide_eq_false hin
            have HT2 := Lib.hid (HNO.out hin)
            clear hin
            go_upto_region 8 with (fail)
            go_region_held3 (fun w' => w'.cell? (bd.add i) = some (.slice E1 x.length c1) ∧ w'.cell? (bd.add k) = some (.slice E2 y.length c2))
              (first | exact ⟨keep_cell hbe h1, keep_cell hbe h2⟩)
              (first
                | (go_at_call 71; with_reducible refine Calls.mono (HPR.out _ (by assumption)) ?_; rintro e w2 ⟨g, rfl, hG, hb2⟩
                   have hbe := hb2)
                | (go_at_call 70; with_reducible refine Calls.mono (HHS.out _ _ _ _ (below_all hb hb2) hG HSL.out hdec) ?_; rintro e w3 ⟨rfl, hd3⟩
                   have hbe := drBelow hb2 hd3))
            all_goals
              go_wp2_with (fail)
              go_roundw
              case rel => exact ⟨k + 1, by go_num, by omega, by rw [HT2.out]; exact hT.keep hbe (Nat.le_refl _), below_all hb hbe⟩
              case measure => simp [intOf]; omega
        · obtain rfl : k = i := by omega
          have dk : decide ((k : Int) < (k : Int)) = false := by simp
          have hT2 : Gx.TableAt wp w.heap.size b.length (tP b s (k + 1) 0) := by rw [← tP_row]; exact hT
          go_wp2
          go_roundw
          case rel => exact ⟨k + 1, by go_num, by omega, hT2, hb⟩
          case measure => simp [intOf]; omega
    · obtain rfl : i = b.length := by omega
      have dk : decide ((b.length : Int) < (b.length : Int)) = false := by simp
      go_wp2
      go_ret
      exact ⟨w.heap.size, rfl, hT, Nat.le_refl _, hb⟩
end Go.Proofs.Tg.Sx
end
