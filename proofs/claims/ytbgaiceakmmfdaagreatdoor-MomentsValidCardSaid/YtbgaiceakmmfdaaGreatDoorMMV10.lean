/- Parts of the proof: BN34, BN33, BN35, BN36. -/
import Derived.Deep.DeepCutAuto
import Derived.Test.YtbgaiceakmmfdaaGreatDoorMMV1
import Derived.Test.YtbgaiceakmmfdaaGreatDoorMMV5
import Derived.Test.YtbgaiceakmmfdaaGreatDoorMMV8
import Derived.Test.YtbgaiceakmmfdaaGreatDoorMMV9
section
/- The harness's numbers: division by one digit: its quotient lies in a block of its own. -/
namespace Go.Proofs.Tg
open Go.RowKit Go.Gr Go.Bn
set_option maxHeartbeats 4000000
set_option maxRecDepth 100000
def RetSQN (n d : Nat) (w : World) (e : Ending) (w' : World) : Prop := ∃ cr, e = .returned (.tuple #[.slice (some ⟨w.heap.size, 0, none⟩) (dg (n / d)).length cr, .int .u32 ((n % d : Nat))]) ∧ ND w' (some ⟨w.heap.size, 0, none⟩) cr (n / d) ∧ Below w.heap.size w w'
theorem sdivloop_n (X : Option Addr) (cx : Nat) (us : List Nat) (d : Nat) (w : World) (hX : Digs w X us) (hu : Dig us) (hd : d < B) (hd0 : 0 < d) (hn : us.length ≤ 400000) :
    Calls Tryz.prog 81 #[.slice X us.length cx, .int .u32 (d : Nat)] w (RetSQN (val us) d w) := by
  have HU := Lib.hid hu
  have HX := Lib.hid hX
  have hdB : d < 4294967296 := hd
  have hmk := fun W => make_digs us.length (by omega) W
  clear hu hX hd
  go_enter Tryz.func81, Tryz.ntmps81
  go_upto_region 2 with (fail)
  obtain ⟨W, hW⟩ : ∃ W, w.alloc (.cells (madeCells #[.int .u32 0] us.length) 103) = W := ⟨_, rfl⟩
  have G5 : Blk W w.heap.size 103 (darr (List.replicate us.length 0 ++ [])) := by
   rw [← hW, List.append_nil, ← darr_made]
   exact Blk.new _ _ _
  have hbW : Below w.heap.size w W := by rw [← hW]; exact (Below.refl _ _).alloc (Nat.le_refl _) _
  rw [hW]
  clear hW hmk
  go_wp2
  go_loopw [7, 8] (fun s7 s8 wr => ∃ (k r : Nat) (zs : List Nat), s7 = .int .u64 r ∧ s8 = .int .i64 ((k : Int) - 1) ∧ k ≤ us.length ∧ Hid (DivSt us d w.heap.size w wr k r zs)) (fun _ s8 _ => (intOf s8 + 1).toNat)
  case atStart => exact ⟨us.length, 0, [], rfl, rfl, Nat.le_refl _, Lib.hid (DivSt.mk (by simp) (fun x hx => absurd hx (by simp)) hd0 (by simp [val]) G5 hbW)⟩
  case round =>
   clear G5 hbW
   obtain ⟨wo, rfl⟩ : ∃ wo : World, wo = wr := ⟨_, rfl⟩
   obtain ⟨k, r, zs, rfl, rfl, hk, HST⟩ := hrel
   have hrl := HST.out.lt
   cases k with
   | succ k =>
     have hku : k < us.length := hk
     obtain ⟨ad, rfl, hcx⟩ := Digs.at (HX.out.keep HST.out.below) hku
     have hxB : us[k] < 4294967296 := HU.out us[k] (List.getElem_mem _)
     have HTX := Lib.hid (val_drop hku)
     generalize us[k] = x at *
     have hkk : ((k + 1 : Nat) : Int) - 1 = (k : Int) := by omega
     rw [hkk]
     have q0 : (0 : Int) ≤ (k : Int) := by omega
     have q0' : decide ((0 : Int) ≤ (k : Int)) = true := decide_eq_true q0
     have q1 : (k : Int) < (us.length : Int) := by omega
     have q3 : ((k : Int)).toNat = k := by omega
     have w1 : IntKind.u64.wrap ((r : Int) * 4294967296) = ((r * B : Nat) : Int) := by have := wrap_nat (r * B) (by simp only [B]; omega); simpa [B] using this
     have w2 := u64_or_nat (r * B) x (by simp only [B]; omega) (by omega)
     rw [or_low hxB] at w2
     have c0 := HST.out.blk.cell k
     have f0 := HST.out.blk.frozen k
     have hzl : (List.replicate (k + 1) 0 ++ zs).length = us.length := by rw [List.length_append, List.length_replicate, HST.out.len]; omega
     rw [darr_at _ (by rw [hzl]; omega)] at c0
     generalize (List.replicate (k + 1) 0 ++ zs)[k]'(by rw [hzl]; omega) = old at c0
     go_wp2
     go_roundw
     case rel =>
      have hs := HST.out.step hku (Nat.le_refl _) hxB HTX.out
      have hq := div_dig hrl hxB
      have w3 : bits BinOp.or IntKind.u64 ((r : Int) * 4294967296) (x : Int) = ((r * B + x : Nat) : Int) := by rw [← w2]; congr 1
      have w4 : (((r * B + x : Nat) : Int)).tmod (d : Int) = (((r * B + x) % d : Nat) : Int) := rfl
      have w5 : (((r * B + x : Nat) : Int)).tdiv (d : Int) = (((r * B + x) / d : Nat) : Int) := rfl
      rw [w3, w4, w5]
      generalize (r * B + x) / d = q at hs hq ⊢
      generalize (r * B + x) % d = r' at hs ⊢
      simp only [B] at hq
      rw [wrap_nat q (by omega), Int.emod_eq_of_lt (by omega) (by omega)]
      exact ⟨k, r', _, rfl, rfl, by omega, Lib.hid hs⟩
     case measure => simp [intOf]
   | zero =>
     have hb1 := HST.out.blk
     rw [List.replicate_zero, List.nil_append] at hb1
     have hlen := HST.out.len
     rw [Nat.sub_zero] at hlen
     have hsum := HST.out.sum
     rw [List.drop_zero] at hsum
     have hdig := HST.out.dig
     have hvz : val zs = val us / d := by
      rw [← hsum, Nat.mul_comm, Nat.mul_add_div hd0, Nat.div_eq_of_lt hrl, Nat.add_zero]
     have hvr : r = val us % d := by
      rw [← hsum, Nat.mul_comm, Nat.mul_add_mod, Nat.mod_eq_of_lt hrl]
     have HT := Lib.hid (trim_dg (some ⟨w.heap.size, 0, none⟩) us.length zs _ (digs_of hb1) hdig (by omega) (by omega))
     have hdl := dg_val_len hdig
     rw [hlen, hvz] at HT
     rw [hlen, hvz] at hdl
     have hrB : (r : Int) % 4294967296 = (r : Int) := by omega
     have hz : ((0 : Nat) : Int) - 1 = -1 := rfl
     rw [hz]
     clear hsum hb1 hdig hlen hvz
     go_wp2_with (go_at_call 58; refine HT.out.mono ?_; rintro e w' ⟨rfl, rfl, hD⟩)
     go_ret2
     exact ⟨_, rfl, ND.some hD hdl, HST.out.below⟩
theorem sdiv_new (X : Option Addr) (cx a d : Nat) (w : World) (hX : Digs w X (dg a)) (hd : d < B) (hd0 : 0 < d) (hn : (dg a).length ≤ 400000) :
    Calls Tryz.prog 81 #[.slice X (dg a).length cx, .int .u32 (d : Nat)] w (RetSQN a d w) := by
  have := sdivloop_n X cx (dg a) d w hX (dg_dig a) hd hd0 hn
  rwa [val_dg] at this
end Go.Proofs.Tg
end
section
/- The harness's numbers: the decimal digits of any number. -/
namespace Go.Proofs.Tg
open Go.RowKit Go.Gr Go.Bn Go.Qn
set_option maxHeartbeats 4000000
set_option maxRecDepth 100000
theorem part_digit {v i j p : Nat} (hp : p = v / 10 ^ (9 * i) % 10 ^ 9) (hj : j < 9) : v / 10 ^ (9 * i + j) % 10 = p / 10 ^ j % 10 := by
 have e1 : v / 10 ^ (9 * i + j) = v / 10 ^ (9 * i) / 10 ^ j := by rw [Nat.pow_add, Nat.div_div_eq_div_mul]
 have e2 : (10 : Nat) ^ 9 = 10 ^ j * 10 ^ (9 - j) := by rw [← Nat.pow_add]; congr 1; omega
 rw [e1, hp, e2, Nat.mod_mul_right_div_self]
 refine (Nat.mod_mod_of_dvd _ ?_).symm
 obtain ⟨m, hm⟩ : ∃ m, 9 - j = m + 1 := ⟨8 - j, by omega⟩
 rw [hm, Nat.pow_succ]
 exact ⟨10 ^ m, Nat.mul_comm _ _⟩
theorem parts_bound {v k : Nat} (h : v / 10 ^ (9 * k) ≠ 0) (hn : (dg v).length ≤ 40000) : k ≤ 50000 := by
 have hp : 0 < 10 ^ (9 * k) := Nat.pow_pos (by decide)
 have h1 : 10 ^ (9 * k) ≤ v := by
  rcases Nat.lt_or_ge v (10 ^ (9 * k)) with h2 | h2
  ·exact absurd (Nat.div_eq_of_lt h2) h
  ·exact h2
 have h2 := val_lt (dg_dig v)
 rw [val_dg] at h2
 have h3 : B ^ (dg v).length ≤ (10 ^ 10) ^ (dg v).length := Nat.pow_le_pow_left (by decide) _
 rw [← Nat.pow_mul] at h3
 have h4 : 9 * k < 10 * (dg v).length := (Nat.pow_lt_pow_iff_right (by decide : 1 < 10)).1 (Nat.lt_of_le_of_lt h1 (Nat.lt_of_lt_of_le h2 h3))
 omega
theorem nd_grown {w w' : World} {g c n : Nat} {r : Option Nat} (h : ND w (some ⟨g, 0, none⟩) c n) (hg : w.grownBy w' r) (hne : some g ≠ r) : ND w' (some ⟨g, 0, none⟩) c n := by
 refine ⟨⟨⟨h.digs.sl.len, fun hn => ?_⟩, fun hp ad e => ?_⟩, h.cap, h.nilc⟩
 ·obtain ⟨ad, e, hl, ha⟩ := h.digs.sl.lies hn
  injection e with e
  subst e
  refine ⟨_, rfl, Nat.lt_of_lt_of_le hl hg.size, fun j x hx => ?_⟩
  have hcf : w'.cell? ((⟨g, 0, none⟩ : Addr).add j) = w.cell? ((⟨g, 0, none⟩ : Addr).add j) := World.cell?_of_block (by
   have hb : ((⟨g, 0, none⟩ : Addr).add j).block = g := by unfold Addr.add; split <;> rfl
   rw [hb]; exact hg.block g hl hne)
  rw [hcf]
  exact ha j x hx
 ·obtain ⟨cs, fz, hc⟩ := h.digs.u32 hp ad e
  injection e with e
  subst e
  exact ⟨cs, fz, (hg.block g (Array.getElem?_eq_some_iff.1 hc).1 hne).trans hc⟩
/-- The parts found so far. -/
structure DgP (base : Nat) (w wr : World) (v : Nat) (P : Option Addr) (cp k : Nat) (ps : List Nat) : Prop where
  own : wr.ownsRow base 103 1 (.slice P k cp) k (ps.map vd)
  len : ps.length = k
  dig : ∀ i (h : i < ps.length), ps[i] = v / 10 ^ (9 * i) % 10 ^ 9
  below : Below base w wr
theorem digits_w (b : Bool) (A : Option Addr) (c v : Nat) (w : World) (hA : ND w A c v) (hv0 : v ≠ 0) (hn : (dg v).length ≤ 40000) :
    Calls Tryz.prog 63 #[.agg #[.bool b, .slice A (dg v).length c]] w fun e w' => e = .returned (.string (bs (Lib.decDigits v))) ∧ Below w.heap.size w w' := by
  obtain ⟨la, hla⟩ : ∃ n, (dg v).length = n := ⟨_, rfl⟩
  have hla0 : 0 < la := by rw [← hla]; exact dg_len_pos.2 hv0
  rw [hla]
  rw [hla] at hn
  have HLA := Lib.hid hla
  have HV0 := Lib.hid hv0
  have HDV : Hid (ddg v = Lib.decDigits v) := Lib.hid (by unfold ddg; rw [if_neg hv0])
  have hbA : Below w.heap.size w (w.alloc (.cells #[.bool b, .slice A la c] 52)) := (Below.refl _ _).alloc (Nat.le_refl _) _
  have HA1 : Hid (ND (w.alloc (.cells #[.bool b, .slice A la c] 52)) A c v) := Lib.hid (hA.keep hbA)
  have HS : Hid (∀ (M : Option Addr) (cm m lm : Nat) (W : World), ND W M cm m → (dg m).length = lm → lm ≤ 40000 → Calls Tryz.prog 81 #[.slice M lm cm, .int .u32 1000000000] W fun e w' => ∃ cr, e = .returned (.tuple #[.slice (some ⟨W.heap.size, 0, none⟩) (dg (m / 10 ^ 9)).length cr, .int .u32 ((m % 10 ^ 9 : Nat))]) ∧ ND w' (some ⟨W.heap.size, 0, none⟩) cr (m / 10 ^ 9) ∧ Below W.heap.size W w') := Lib.hid (fun M cm m lm W hM hl hle => by
   have := sdiv_new M cm m 1000000000 W hM.digs (by decide) (by omega) (by omega)
   rw [hl] at this
   exact this)
  obtain ⟨i0, hi, hz0, hz1, hz2⟩ := info_parts dig_info
  obtain ⟨ib, hib, hbz0, hbz1, hbz2⟩ := info_parts byte_info
  have hlb : ((la : Int) == 0) = false := beq_eq_false_iff_ne.2 (by omega)
  clear hA hv0 hla
  go_enter Tryz.func63, Tryz.ntmps63
  go_upto_block 0 with (fail)
  have hs1 : w.heap.size ≤ (w.alloc (.cells #[.bool b, .slice A la c] 52)).heap.size := hbA.size
  have HBA := Lib.hid hbA
  generalize w.alloc (.cells #[.bool b, .slice A la c] 52) = w1 at *
  go_wp2
  go_loopw [3, 4] (fun s3 s4 wr => ∃ (m lm cm cp k : Nat) (M P : Option Addr) (ps : List Nat), s3 = .slice P k cp ∧ s4 = .slice M lm cm ∧ lm ≤ 40000 ∧ k ≤ 60000 ∧ Hid ((dg m).length = lm ∧ m = v / 10 ^ (9 * k) ∧ ND wr M cm m ∧ DgP w.heap.size w wr v P cp k ps)) (fun _ s4 wr => nmes s4 wr)
  case atStart => exact ⟨v, la, c, 0, 0, A, none, [], rfl, rfl, hn, by omega, Lib.hid ⟨HLA.out, by simp, HA1.out, World.ownsRow_nil _ _ _ _, rfl, fun i h => absurd h (by simp), HBA.out⟩⟩
  case round =>
   obtain ⟨wo, rfl⟩ : ∃ wo : World, wo = wr := ⟨_, rfl⟩
   obtain ⟨m, lm, cm, cp, k, M, P, ps, rfl, rfl, hlm, hk, HM⟩ := hrel
   obtain ⟨h1, h2, h3, h4⟩ := HM.out
   by_cases hm0 : lm = 0
   ·subst hm0
    have hvz : v / 10 ^ (9 * k) = 0 := by rw [← h2]; by_cases hm : m = 0; exact hm; have := dg_len_pos.2 hm; omega
    have HP := Lib.hid h4
    have hk0 : 0 < k := by
     rcases Nat.eq_zero_or_pos k with h | h
     ·subst h; exact absurd (by simpa using hvz) HV0.out
     ·exact h
    have HVZ := Lib.hid hvz
    have hPl : ∃ pd, P = some pd := by
     obtain ⟨P', c', e, _, hS⟩ := Sl.of_own h4.own
     injection e with e1 e2 e3
     subst e1 e3
     obtain ⟨pd, e, _⟩ := hS.lies hk0
     exact ⟨pd, e⟩
    obtain ⟨pd, rfl⟩ := hPl
    have hPc : Hid (∀ (i : Nat) (h : i < ps.length) (V : World), Below wo.heap.size wo V → V.cell? (pd.add i) = some (.int .u32 (ps[i] : Nat))) := Lib.hid (fun i h V hV => by
     obtain ⟨P', c', e, _, hS⟩ := Sl.of_own h4.own
     injection e with e1 e2 e3
     subst e1 e3
     obtain ⟨pd', e, _, ha⟩ := hS.lies hk0
     injection e with e
     subst e
     exact keep_cell hV (ha i _ (by rw [List.getElem?_map, List.getElem?_eq_getElem h]; rfl)))
    have HLN := Lib.hid h4.len
    clear h1 h2 h3 h4 hvz HM
    go_upto_block 2 with (fail)
    go_wp2
    go_loopw [7, 8] (fun s7 s8 wr => ∃ (i co : Nat) (O : Option Addr) (L : List UInt8), s7 = .slice O L.length co ∧ s8 = .int .i64 ((i : Int) - 1) ∧ i ≤ k ∧ L.length + 9 * i ≤ 9 * k ∧ Hid (L = ddg (v / 10 ^ (9 * i))) ∧ wr.ownsRow wo.heap.size 5 1 (.slice O L.length co) L.length (L.map vb) ∧ Below wo.heap.size wo wr) (fun _ s8 _ => (intOf s8 + 1).toNat)
    case atStart => exact ⟨k, 0, none, [], rfl, rfl, Nat.le_refl _, by simp, Lib.hid (by rw [HVZ.out]; rfl), World.ownsRow_nil _ _ _ _, Below.refl _ _⟩
    case round =>
     obtain ⟨wp, rfl⟩ : ∃ wp : World, wp = wr := ⟨_, rfl⟩
     obtain ⟨i, co, O, L, rfl, rfl, hik, hLi, HL, hown, hbr⟩ := hrel
     cases i with
     | zero =>
       obtain ⟨O', co', hvv, hcc, hS⟩ := Sl.of_own hown
       injection hvv with e1 e2 e3
       subst e1 e3
       have hconv := conv_name wp O co L hS
       have HF : Hid (L = Lib.decDigits v) := Lib.hid (by rw [HL.out, Nat.mul_zero, Nat.pow_zero, Nat.div_one, HDV.out])
       have HBE := Lib.hid (below_all HP.out.below hbr)
       clear hown hS hcc HP hPc HLN HVZ
       go_wp2
       go_ret
       have hf := HF.out
       subst hf
       exact ⟨rfl, HBE.out⟩
     | succ i =>
       have hkk : ((i + 1 : Nat) : Int) - 1 = (i : Int) := by omega
       rw [hkk]
       have q0 : (0 : Int) ≤ (i : Int) := by omega
       have q0' : decide ((0 : Int) ≤ (i : Int)) = true := decide_eq_true q0
       have q1 : (i : Int) < (k : Int) := by omega
       have q3 : ((i : Int)).toNat = i := by omega
       have hil : i < ps.length := by rw [HLN.out]; omega
       obtain ⟨p, hp⟩ : ∃ p, ps[i] = p := ⟨_, rfl⟩
       have HPD : Hid (p = v / 10 ^ (9 * i) % 10 ^ 9) := Lib.hid (by rw [← hp]; exact HP.out.dig i hil)
       have hpB : p < 1000000000 := by rw [HPD.out]; exact Nat.mod_lt _ (by decide)
       have HPC : Hid (∀ V, Below wo.heap.size wo V → V.cell? (pd.add i) = some (.int .u32 (p : Nat))) := Lib.hid (fun V hV => by
        have := hPc.out i hil V hV
        rwa [hp] at this)
       have HBP := Lib.hid (below_all HP.out.below hbr)
       have HBR := Lib.hid hbr
       have hsz0 := hbr.size
       have hLi9 : L.length ≤ 9 * (k - i - 1) := by omega
       have HL9 : Hid (L = ddg (v / 10 ^ (9 * i + 9))) := HL
       have HO := Lib.hid hown
       clear hp hil HL hbr hown
       go_upto_block 4 with (fail)
       go_wp2
       go_loopw [7, 9] (fun s7 s9 wr => ∃ (j dv : Nat) (O : Option Addr) (co : Nat) (L : List UInt8), s7 = .slice O L.length co ∧ s9 = .int .u32 dv ∧ j ≤ 9 ∧ dv ≤ 100000000 ∧ Hid (dv = 10 ^ j / 10) ∧ Hid (L = ddg (v / 10 ^ (9 * i + j))) ∧ L.length + j + 9 * i ≤ 9 * k ∧ wr.ownsRow wo.heap.size 5 1 (.slice O L.length co) L.length (L.map vb) ∧ Below wo.heap.size wo wr) (fun _ s9 _ => (intOf s9).toNat)
       case atStart => exact ⟨9, 100000000, O, co, L, rfl, rfl, by omega, by omega, Lib.hid (by decide), HL9, by omega, HO.out, HBR.out⟩
       case round =>
        clear HO HL9
        obtain ⟨wq, rfl⟩ : ∃ wq : World, wq = wr := ⟨_, rfl⟩
        obtain ⟨j, dv, O, co, L, rfl, rfl, hj, hdv, HDD, HL, hLj, hown, hbr⟩ := hrel
        cases j with
        | zero =>
          obtain rfl : dv = 0 := HDD.out
          have HL0 : Hid (L = ddg (v / 10 ^ (9 * i))) := HL
          have m1 : IntKind.i64.wrap ((i : Int) - 1) = (i : Int) - 1 := IntWalk.i64_in _ (by omega)
          clear HL HDD
          go_wp2
          go_roundw
          case rel => exact ⟨i, co, O, L, rfl, rfl, by omega, by omega, HL0, hown, hbr⟩
          case measure => simp [intOf]
        | succ j =>
          have e10 : 10 ^ (j + 1) / 10 = 10 ^ j := by rw [Nat.pow_succ]; omega
          have hpos : 0 < 10 ^ j := Nat.pow_pos (by omega)
          have hdv' := HDD.out
          rw [e10] at hdv'
          have hdp : 0 < dv := by omega
          obtain ⟨x, hx⟩ : ∃ x, v / 10 ^ (9 * i + (j + 1)) = x := ⟨_, rfl⟩
          have HPS : Hid (v / 10 ^ (9 * i + j) = 10 * x + p / dv % 10) := Lib.hid (by
           have h1 := pow_split v (9 * i + j)
           rw [part_digit HPD.out (by omega)] at h1
           rw [← hx, hdv']
           exact h1)
          rw [hx] at HL
          have hrl : p / dv % 10 < 10 := Nat.mod_lt _ (by omega)
          have hql : p / dv ≤ p := Nat.div_le_self _ _
          have HDV2 := Lib.hid hdv'
          clear hdv' hpos e10 hx
          obtain ⟨q, hq⟩ : ∃ q, p / dv = q := ⟨_, rfl⟩
          obtain ⟨r, hr⟩ : ∃ r, q % 10 = r := ⟨_, rfl⟩
          have hq1 : (p : Int) / (dv : Int) = (q : Int) := by rw [← hq]; simp
          have hr1 : (q : Int) % 10 = (r : Int) := by rw [← hr]; simp
          rw [hq, hr] at HPS hrl
          rw [hq] at hql
          clear hq hr
          have hcp := HPC.out wq hbr
          have hwr : ((48 : Int) + (r : Int)) % 4294967296 = 48 + (r : Int) := by omega
          have hw8 : ((48 : Int) + (r : Int)) % 256 = 48 + (r : Int) := by omega
          obtain ⟨dn, hdn⟩ : ∃ dn, dv / 10 = dn := ⟨_, rfl⟩
          have HDN : Hid (dn = 10 ^ j / 10) := Lib.hid (by rw [← hdn, HDV2.out])
          have hdn1 : (dv : Int).tdiv 10 = (dn : Int) := by rw [← hdn]; exact (Int.ofNat_tdiv dv 10).symm
          have hdn2 : (dv : Int) / 10 = (dn : Int) := by rw [← hdn]; simp
          have hdnl : dn < dv := by omega
          clear hdn
          have HX0 : Hid (L = [] ↔ x = 0) := Lib.hid (by
           rw [HL.out]
           unfold ddg
           by_cases h : x = 0
           ·simp [h]
           ·simp only [h, iff_false]
            exact Qn.dec_ne x)
          have hsz := hbr.size
          by_cases hz : x = 0 ∧ r = 0
          ·have HL2 : Hid (L = ddg (v / 10 ^ (9 * i + j))) := Lib.hid (by rw [HPS.out, HL.out, hz.1, hz.2])
           have hL0 := HX0.out.2 hz.1
           have hd0 : decide ((0 : Int) < (L.length : Int)) = false := by rw [hL0]; rfl
           have hd0' : decide (0 < L.length) = false := by rw [hL0]; rfl
           have hr0 : ((48 : Int) + (r : Int) != 48) = false := by rw [hz.2]; rfl
           clear HL HPS hL0 hz
           go_wp2
           go_roundw
           case rel => exact ⟨j, dn, O, co, L, rfl, rfl, by omega, by omega, HDN, HL2, by omega, hown, hbr⟩
           case measure => simp [intOf]; omega
          ·have HL2 : Hid (L ++ [UInt8.ofNat (48 + r)] = ddg (v / 10 ^ (9 * i + j))) := Lib.hid (by rw [HPS.out, ddg_step x r hrl hz, HL.out])
           have hvb : Value.int .u8 (48 + (r : Int)) = vb (UInt8.ofNat (48 + r)) := by
            have : (UInt8.ofNat (48 + r)).toNat = 48 + r := Qn.toNat_ofNat _ (by omega)
            unfold vb; rw [this]; simp
           have HVB := Lib.hid hvb
           clear hvb
           by_cases hL0 : L = []
           ·have hr0 : ((48 : Int) + (r : Int) != 48) = true := by
             have hx0 := HX0.out.1 hL0
             simp; omega
            have hd0 : decide ((0 : Int) < (L.length : Int)) = false := by rw [hL0]; rfl
            have hd0' : decide (0 < L.length) = false := by rw [hL0]; rfl
            clear HL HPS hz hL0
            go_wp2_with (at_builtin; refine wpList_append_own _ rfl _ _ 91 rfl wo.heap.size 5 ib (.int .u8 0) 1 1 Tryz.underlying91 hib hbz0 hbz1 hbz2 rfl (by decide) (.slice O L.length co) L.length (L.map vb) rfl (hown.alloc _) ⟨wq.heap.size, 0, none⟩ 1 1 [.int .u8 (48 + (r : Int))] rfl rfl ?c1 ?c2 ?c3 ?c4 ?c5 ?_
                         case c1 => exact cell_one_new _ _ _
                         case c2 => simp [Value.oneCell']
                         case c3 => simp only [maxLen]; omega
                         case c4 => omega
                         case c5 => simp; omega
                         intro v' w3 hown' hgrow _)
            obtain ⟨R, cr2, hvv, hcr2, hS⟩ := Sl.of_own hown'
            subst hvv
            go_roundw
            case rel =>
             refine ⟨j, dn, R, cr2, L ++ [UInt8.ofNat (48 + r)], by simp, rfl, by omega, by omega, HDN, HL2, by simp; omega, ?_, ?_⟩
             ·rw [HVB.out] at hown'
              simpa using hown'
             ·exact (hbr.alloc hbr.size _).grown hgrow (by simp; omega) (fun j hj => (hown.lt j hj).1)
            case measure => simp [intOf]; omega
           ·have hLp : 0 < L.length := List.length_pos_iff.2 hL0
            have hd0 : decide ((0 : Int) < (L.length : Int)) = true := by simp; omega
            have hd0' : decide (0 < L.length) = true := by simp; omega
            clear HL HPS hz hL0
            go_wp2_with (at_builtin; refine wpList_append_own _ rfl _ _ 91 rfl wo.heap.size 5 ib (.int .u8 0) 1 1 Tryz.underlying91 hib hbz0 hbz1 hbz2 rfl (by decide) (.slice O L.length co) L.length (L.map vb) rfl (hown.alloc _) ⟨wq.heap.size, 0, none⟩ 1 1 [.int .u8 (48 + (r : Int))] rfl rfl ?c1 ?c2 ?c3 ?c4 ?c5 ?_
                         case c1 => exact cell_one_new _ _ _
                         case c2 => simp [Value.oneCell']
                         case c3 => simp only [maxLen]; omega
                         case c4 => omega
                         case c5 => simp; omega
                         intro v' w3 hown' hgrow _)
            obtain ⟨R, cr2, hvv, hcr2, hS⟩ := Sl.of_own hown'
            subst hvv
            go_roundw
            case rel =>
             refine ⟨j, dn, R, cr2, L ++ [UInt8.ofNat (48 + r)], by simp, rfl, by omega, by omega, HDN, HL2, by simp; omega, ?_, ?_⟩
             ·rw [HVB.out] at hown'
              simpa using hown'
             ·exact (hbr.alloc hbr.size _).grown hgrow (by simp; omega) (fun j hj => (hown.lt j hj).1)
            case measure => simp [intOf]; omega
   ·have d1 : decide ((0 : Int) < (lm : Int)) = true := decide_eq_true (by omega)
    have d2 : decide (0 < lm) = true := decide_eq_true (by omega)
    have hm : m ≠ 0 := fun e => hm0 (by rw [← h1, e, dg_zero]; rfl)
    have hkb : k ≤ 50000 := parts_bound (by rw [← h2]; exact hm) (by rw [HLA.out]; exact hn)
    have HSD := Lib.hid (HS.out M cm m lm wo h3 h1 hlm)
    obtain ⟨m2, hm2⟩ : ∃ t, m / 10 ^ 9 = t := ⟨_, rfl⟩
    obtain ⟨r, hr⟩ : ∃ t, m % 10 ^ 9 = t := ⟨_, rfl⟩
    obtain ⟨lm2, hlm2⟩ : ∃ t, (dg m2).length = t := ⟨_, rfl⟩
    rw [hm2, hr, hlm2] at HSD
    have hlm2' : lm2 ≤ 40000 := by
     rw [← hlm2, ← hm2]
     exact Nat.le_trans (dg_len_mono (Nat.div_le_self _ _)) (by omega)
    have HNX : Hid ((dg m2).length = lm2 ∧ m2 = v / 10 ^ (9 * (k + 1)) ∧ (ps ++ [r]).length = k + 1 ∧ (∀ i (h : i < (ps ++ [r]).length), (ps ++ [r])[i] = v / 10 ^ (9 * i) % 10 ^ 9) ∧ m2 < m) := Lib.hid (by
     refine ⟨hlm2, ?_, by simp [h4.len], fun i h => ?_, ?_⟩
     ·rw [← hm2, h2, Nat.div_div_eq_div_mul, ← Nat.pow_add]; rfl
     ·by_cases hi : i < ps.length
      ·rw [List.getElem_append_left hi]; exact h4.dig i hi
      ·have : i = ps.length := by simp at h; omega
       subst this
       rw [List.getElem_append_right (Nat.le_refl _)]
       simp only [Nat.sub_self, List.getElem_cons_zero]
       rw [← hr, h2, h4.len]
     ·rw [← hm2]; exact Nat.div_lt_self (Nat.pos_of_ne_zero hm) (by decide))
    have HMS : Hid (nmes (.slice M lm cm) wo = m) := Lib.hid (by rw [← h1]; exact nmes_eq h3.digs)
    have hown := h4.own
    have HBO := Lib.hid h4.below
    have hbw := h4.below.size
    have HLN := Lib.hid h4.len
    clear h1 h2 h3 h4 hm hm2 hr hlm2 HM
    go_wp2_with (first
      | (go_at_call 81; refine HSD.out.mono ?_; rintro e w2 ⟨cr, rfl, hR, hb2⟩; have hs2 := hb2.size; have HR := Lib.hid hR; have HB2 := Lib.hid hb2; have hown2 := own_below hown hb2 (Nat.le_refl _); clear hR hb2)
      | (at_builtin; refine wpList_append_own _ rfl _ _ 50 rfl w.heap.size 103 i0 (.int .u32 0) 1 4 Tryz.underlying50 hi hz0 hz1 hz2 rfl (by decide) (.slice P k cp) k (ps.map vd) rfl (hown2.alloc _) ⟨w2.heap.size, 0, none⟩ 1 1 [.int .u32 (r : Nat)] rfl rfl ?c1 ?c2 ?c3 ?c4 ?c5 ?_
         case c1 => exact cell_one_new _ _ _
         case c2 => simp [Value.oneCell']
         case c3 => simp only [maxLen]; omega
         case c4 => omega
         case c5 => simp; omega
         intro v' w3 hown' hgrow _
         obtain ⟨P2, cp2, hvv, hcr, hS⟩ := Sl.of_own hown'
         subst hvv))
    have hfar : some wo.heap.size ≠ (Value.slice P k cp).ownBlock := fun e => by have := (hown.lt _ e.symm).2; omega
    have hN3 : ND w3 (some ⟨wo.heap.size, 0, none⟩) cr m2 := nd_grown (HR.out.keep ((Below.refl _ _).alloc (Nat.le_refl _) _)) hgrow hfar
    have hb3 : Below w.heap.size w w3 := by
     have h2 := below_all HBO.out HB2.out
     exact (h2.alloc h2.size _).grown hgrow (by simp; omega) (fun j hj => (hown.lt j hj).1)
    refine ⟨⟨m2, lm2, cr, cp2, k + 1, _, P2, ps ++ [r], rfl, rfl, hlm2', by omega, Lib.hid ⟨HNX.out.1, HNX.out.2.1, hN3, ⟨?_, HNX.out.2.2.1, HNX.out.2.2.2.1, hb3⟩⟩⟩, ?_⟩
    ·rw [List.map_append]; exact hown'
    ·rw [HMS.out]
     have := nmes_eq (c := cr) hN3.digs
     rw [HNX.out.1] at this
     rw [this]
     exact HNX.out.2.2.2.2
end Go.Proofs.Tg
end
section
/- The harness's numbers: the text of any fraction. -/
namespace Go.Proofs.Tg
open Go.RowKit Go.Gr Go.Bn Go.Qn
set_option maxHeartbeats 4000000
set_option maxRecDepth 100000
theorem len_250 {n : Nat} (h : n < 10 ^ 250) : (dg n).length ≤ 250 :=
  dg_len_lt (Nat.lt_of_lt_of_le h (Nat.pow_le_pow_left (by decide) _))
theorem dig_w (b : Bool) (A : Option Addr) (c v : Nat) (w : World) (hA : ND w A c v) (hv : v < 10 ^ 250) :
    Calls Tryz.prog 63 #[.agg #[.bool b, .slice A (dg v).length c]] w fun e w' => e = .returned (.string (bs (Lib.decDigits v))) ∧ Below w.heap.size w w' := by
  by_cases h0 : v = 0
  ·subst h0
   rw [dec_zero, dg_zero]
   exact digits_nil b A c w
  ·exact digits_w b A c v w hA h0 (by have := len_250 hv; omega)
theorem text_w (p q : Bool) (N D : Option Addr) (cn cd n m : Nat) (w : World) (hN : ND w N cn n) (hD : ND w D cd (dnz m)) (hn : n < 10 ^ 250) (hm : m < 10 ^ 250) (hm0 : m ≠ 0) :
    Calls Tryz.prog 35 #[.agg #[.bool p, .slice N (dg n).length cn, .bool q, .slice D (dg (dnz m)).length cd]] w fun e w' => e = .returned (.string (bs (text p n m))) ∧ Below w.heap.size w w' := by
  have H1 : Hid (∀ W, Below w.heap.size w W → Calls Tryz.prog 63 #[.agg #[.bool p, .slice N (dg n).length cn]] W fun e w' => e = .returned (.string (bs (Lib.decDigits n))) ∧ Below W.heap.size W w') := Lib.hid (fun W h => dig_w p N cn n W (hN.keep h) hn)
  obtain ⟨nn, hnn⟩ : ∃ nn, (dg n).length = nn := ⟨_, rfl⟩
  rw [hnn] at H1 ⊢
  have HT : Hid (bs (text p n m) = (if p = true then ⟨#[45]⟩ ++ bs (Lib.decDigits n) else bs (Lib.decDigits n)) ++ (if m = 1 then ByteArray.empty else ⟨#[47]⟩ ++ bs (Lib.decDigits m))) := Lib.hid (by
   unfold text
   rw [bs_app, bs_app]
   have e1 : bs (if p = true then [45] else []) ++ (bs (Lib.decDigits n) ++ bs (if m = 1 then [] else 47 :: Lib.decDigits m)) = (if p = true then ⟨#[45]⟩ ++ bs (Lib.decDigits n) else bs (Lib.decDigits n)) ++ bs (if m = 1 then [] else 47 :: Lib.decDigits m) := by
    rw [← bs_app, ← bs_app, ← List.append_assoc, bs_app]
    congr 1
    cases p with
    | true => rw [if_pos rfl, if_pos rfl, bs_app]; rfl
    | false => simp
   rw [e1]
   congr 1
   by_cases h : m = 1
   ·rw [if_pos h, if_pos h]; rfl
   ·rw [if_neg h, if_neg h, show (47 :: Lib.decDigits m) = [47] ++ Lib.decDigits m from rfl, bs_app]; rfl)
  have l1 : (bs (Lib.decDigits n)).size ≤ 250 := by rw [bs_size]; exact dec_len 249 n hn
  have l2 : (bs (Lib.decDigits m)).size ≤ 250 := by rw [bs_size]; exact dec_len 249 m hm
  obtain ⟨SN, hSN⟩ : ∃ SN, bs (Lib.decDigits n) = SN := ⟨_, rfl⟩
  obtain ⟨SM, hSM⟩ : ∃ SM, bs (Lib.decDigits m) = SM := ⟨_, rfl⟩
  obtain ⟨ST, hST⟩ : ∃ ST, bs (text p n m) = ST := ⟨_, rfl⟩
  rw [hST] at HT ⊢
  rw [hSN] at H1 HT l1
  rw [hSM] at HT l2
  have HSM := Lib.hid hSM
  clear hSN hSM hST
  have BA := Blk.new w 54 #[.bool p, .slice N nn cn, .bool q, .slice D (dg (dnz m)).length cd]
  have hbA : Below w.heap.size w (w.alloc (.cells #[.bool p, .slice N nn cn, .bool q, .slice D (dg (dnz m)).length cd] 54)) := (Below.refl _ _).alloc (Nat.le_refl _) _
  clear hnn
  by_cases h1 : m = 1
  ·subst h1
   rw [dnz_one, dg_zero] at BA hbA ⊢
   simp only [List.length_nil] at BA hbA ⊢
   rw [if_pos rfl] at HT
   cases p with
   | false =>
     go_enter Tryz.func35, Tryz.ntmps35
     go_wp2_with (go_at_call 63; refine (H1.out _ hbA).mono ?_; rintro e w2 ⟨rfl, hb2⟩
                  have B2 := BA.keep hb2 BA.lt
                  obtain ⟨a0, a1, a2, a3, _, _, _, _⟩ := B2.four)
     go_ret
     refine ⟨?_, below_all hbA hb2⟩
     rw [HT.out, if_neg (by simp)]
     simp
   | true =>
     go_enter Tryz.func35, Tryz.ntmps35
     go_wp2_with (go_at_call 63; refine (H1.out _ hbA).mono ?_; rintro e w2 ⟨rfl, hb2⟩
                  have B2 := BA.keep hb2 BA.lt
                  obtain ⟨a0, a1, a2, a3, _, _, _, _⟩ := B2.four)
     go_ret
     refine ⟨?_, below_all hbA hb2⟩
     rw [HT.out, if_pos trivial]
     simp
  ·rw [dnz_pos h1] at hD BA hbA ⊢
   obtain ⟨nm, hnm⟩ : ∃ nm, (dg m).length = nm := ⟨_, rfl⟩
   have hnm0 : 0 < nm := by rw [← hnm]; exact dg_len_pos.2 hm0
   have H2 : Hid (∀ W, Below w.heap.size w W → Calls Tryz.prog 63 #[.agg #[.bool q, .slice D nm cd]] W fun e w' => e = .returned (.string SM) ∧ Below W.heap.size W w') := Lib.hid (fun W h => by
    have := dig_w q D cd m W (hD.keep h) hm
    rw [hnm, HSM.out] at this
    exact this)
   rw [hnm] at BA hbA ⊢
   have dn1 : decide ((0 : Int) < (nm : Int)) = true := decide_eq_true (by omega)
   have dn2 : decide (0 < nm) = true := decide_eq_true hnm0
   clear hnm
   rw [if_neg h1] at HT
   clear hD
   cases p with
   | false =>
     go_enter Tryz.func35, Tryz.ntmps35
     go_wp2_with (fail)
     refine (H1.out _ hbA).mono ?_
     rintro e w2 ⟨rfl, hb2⟩
     have B2 := BA.keep hb2 BA.lt
     obtain ⟨a0, a1, a2, a3, _, _, _, _⟩ := B2.four
     have hbz := below_all hbA hb2
     go_wp2_with (fail)
     refine (H2.out _ hbz).mono ?_
     rintro e w3 ⟨rfl, hb3⟩
     go_wp2_with (fail)
     go_ret
     refine ⟨?_, below_all hbz hb3⟩
     rw [HT.out, if_neg (by simp)]
     rfl
   | true =>
     go_enter Tryz.func35, Tryz.ntmps35
     go_wp2_with (fail)
     refine (H1.out _ hbA).mono ?_
     rintro e w2 ⟨rfl, hb2⟩
     have B2 := BA.keep hb2 BA.lt
     obtain ⟨a0, a1, a2, a3, _, _, _, _⟩ := B2.four
     have hbz := below_all hbA hb2
     go_wp2_with (fail)
     refine (H2.out _ hbz).mono ?_
     rintro e w3 ⟨rfl, hb3⟩
     go_wp2_with (fail)
     go_ret
     refine ⟨?_, below_all hbz hb3⟩
     rw [HT.out, if_pos trivial]
     rfl
end Go.Proofs.Tg
end
section
/- The harness's numbers: decimal digits read, of any text of at most 64 bytes. -/
namespace Go.Proofs.Tg
open Go.RowKit Go.Gr Go.Bn Go.Qn
set_option maxHeartbeats 4000000
set_option maxRecDepth 100000
def RetFDw (l : List UInt8) (w : World) (e : Ending) (w' : World) : Prop :=
  Below w.heap.size w w' ∧ ((numOk l = false ∧ ∃ n A c, e = .returned (.tuple #[.agg #[.bool false, .slice A n c], .bool false])) ∨
    (numOk l = true ∧ ∃ A c, e = .returned (.tuple #[.agg #[.bool false, .slice A (dg (Qn.val l)).length c], .bool true]) ∧ ND w' A c (Qn.val l)))
theorem qval_app (q r : List UInt8) : Qn.val (q ++ r) = Qn.val q * 10 ^ r.length + Qn.val r := by
 refine Qn.snoc_ind (P := fun r => Qn.val (q ++ r) = Qn.val q * 10 ^ r.length + Qn.val r) ?_ ?_ r
 ·simp [Qn.val]
 ·intro r c ih
  rw [← List.append_assoc, Qn.val_snoc, ih, Qn.val_snoc, List.length_append, List.length_singleton, Nat.pow_succ, Nat.mul_add]
  have e : 10 * (Qn.val q * 10 ^ r.length) = Qn.val q * (10 ^ r.length * 10) := by rw [Nat.mul_comm, Nat.mul_assoc]
  omega
theorem qval_len {q : List UInt8} (h : ∀ c ∈ q, isD c = true) : (dg (Qn.val q)).length ≤ q.length :=
  dg_len_lt (Nat.lt_of_lt_of_le (Qn.val_lt q h) (Nat.pow_le_pow_left (by decide) _))
/-- The number read so far. -/
structure FdM (w wr : World) (l : List UInt8) (M : Option Addr) (cm lm n i : Nat) : Prop where
  len : (dg n).length = lm
  eq : n = Qn.val (l.take i)
  nd : ND wr M cm n
  dig : ∀ c ∈ l.take i, isD c = true
  b2 : Blk wr w.heap.size 52 #[.bool false, .slice none 0 0]
  below : Below w.heap.size w wr
theorem fdig_w (s : ByteArray) (w : World) (h0 : 0 < s.size) (hs : s.size ≤ 64) :
    Calls Tryz.prog 31 #[.string s] w (RetFDw s.data.toList w) := by
  have HL := Lib.hid (len_size s)
  have hbA : Below w.heap.size w (w.alloc (.cells #[.bool false, .slice none 0 0] 52)) := (Below.refl _ _).alloc (Nat.le_refl _) _
  have K2 := Blk.new w 52 #[.bool false, .slice none 0 0]
  have H0 : Hid (FdM w (w.alloc (.cells #[.bool false, .slice none 0 0] 52)) s.data.toList none 0 0 0 0) := Lib.hid ⟨by rw [dg_zero]; rfl, rfl, ND.zero _, by simp, K2, hbA⟩
  have hne : s.toList.isEmpty = false := by
   rw [Lib.toList_data]
   cases h : s.data.toList with
   | nil => have h2 := HL.out; rw [h] at h2; simp at h2; omega
   | cons _ _ => rfl
  have hne' : ¬ s.toList = [] := by
   rw [Lib.toList_data]
   intro h
   have h2 := HL.out
   rw [h] at h2; simp at h2; omega
  clear K2 hbA
  go_enter Tryz.func31, Tryz.ntmps31
  go_upto_block 0 with (fail)
  generalize w.alloc (.cells #[.bool false, .slice none 0 0] 52) = w1 at *
  go_wp2
  go_loopw [4, 5] (fun s4 s5 wr => ∃ (n lm cm i : Nat) (M : Option Addr), s4 = .slice M lm cm ∧ s5 = .int .i64 (i : Nat) ∧ i ≤ s.size ∧ Hid (FdM w wr s.data.toList M cm lm n i)) (fun _ s5 _ => s.size - (intOf s5).toNat)
  case atStart => exact ⟨0, 0, 0, 0, none, rfl, rfl, Nat.zero_le _, H0⟩
  case round =>
   clear H0
   obtain ⟨wo, rfl⟩ : ∃ wo : World, wo = wr := ⟨_, rfl⟩
   obtain ⟨n, lm, cm, i, M, rfl, rfl, hi, HM⟩ := hrel
   have hlm : lm ≤ 64 := by
    rw [← HM.out.len, HM.out.eq]
    refine Nat.le_trans (qval_len HM.out.dig) ?_
    rw [List.length_take]; omega
   have HBW := Lib.hid HM.out.below
   have HB2 := Lib.hid HM.out.b2
   have hglt := HM.out.b2.lt
   obtain ⟨a0, a1, a2, a3⟩ := HM.out.b2.two
   by_cases his : i = s.size
   ·have d1 : decide ((i : Int) < (s.size : Int)) = false := decide_eq_false (by omega)
    have d2 : decide (i < s.size) = false := decide_eq_false (by omega)
    have hok : Hid (numOk s.data.toList = true) := Lib.hid (by
     rw [numOk_iff]
     have h := HM.out.dig
     rw [List.take_of_length_le (by rw [HL.out]; omega)] at h
     exact ⟨h, fun e => by have := HL.out; rw [e] at this; simp at this; omega⟩)
    have HN : Hid ((dg (Qn.val s.data.toList)).length = lm ∧ ND wo M cm (Qn.val s.data.toList)) := Lib.hid (by
     have e : n = Qn.val s.data.toList := by rw [HM.out.eq, List.take_of_length_le (by rw [HL.out]; omega)]
     rw [← e]
     exact ⟨HM.out.len, HM.out.nd⟩)
    have HMK := Lib.hid (fun W => make1_any false M lm cm W false rfl (by omega))
    clear his HM a0 a1 a2 a3
    go_wp2_with (go_at_call 32; refine (HMK.out _).mono ?_; rintro e w3 ⟨rfl, hb3⟩; have K3 := HB2.out.keep hb3 HB2.out.lt; obtain ⟨j0, j1, j2, j3⟩ := K3.two)
    have hN3 := HN.out.2.keep hb3
    refine bodyPost_ret (v := .tuple #[.agg #[.bool false, .slice M lm cm], .bool true]) (by simp [results, Tryz.results31, go_sem, j0, j1]) rfl ⟨?_, .inr ⟨hok.out, M, cm, by rw [HN.out.1], ?_⟩⟩
    ·exact below_far (below_far (below_all HBW.out hb3) (Nat.le_refl _) _ _) (Nat.le_refl _) _ _
    ·exact (hN3.far K3 (by decide) _ _).far (K3.set _ _) (by decide) _ _
   ·have hil : i < s.size := by omega
    have d1 : decide ((i : Int) < (s.size : Int)) = true := decide_eq_true (by omega)
    have d2 : decide (i < s.size) = true := decide_eq_true hil
    clear his
    go_upto_block 2 with (fail)
    go_cut [5, 6, 7] (fun s5 s6 s7 wx => wx = wo ∧ ∃ m k x y : Nat, s5 = .int .i64 (m : Nat) ∧ s6 = .int .u32 (x : Nat) ∧ s7 = .int .u32 (y : Nat) ∧ i < m ∧ m ≤ s.size ∧ x < 1000000000 ∧ 0 < y ∧ y ≤ 1000000000 ∧ Hid (m = i + k ∧ x = Qn.val ((s.data.toList.drop i).take k) ∧ y = 10 ^ k ∧ ∀ c ∈ (s.data.toList.drop i).take k, isD c = true))
    case first =>
     go_wp2
     go_loop [5, 6, 7, 8] (fun s5 s6 s7 s8 => ∃ m k x y : Nat, s5 = .int .i64 (m : Nat) ∧ s6 = .int .u32 (x : Nat) ∧ s7 = .int .u32 (y : Nat) ∧ s8 = .int .i64 (k : Nat) ∧ m ≤ s.size ∧ k ≤ 9 ∧ x < 1000000000 ∧ 0 < y ∧ y ≤ 1000000000 ∧ Hid (m = i + k ∧ x = Qn.val ((s.data.toList.drop i).take k) ∧ y = 10 ^ k ∧ x < 10 ^ k ∧ ∀ c ∈ (s.data.toList.drop i).take k, isD c = true)) (fun _ _ _ s8 => 9 - (intOf s8).toNat)
     case atStart => exact ⟨i, 0, 0, 1, rfl, rfl, rfl, rfl, hi, by omega, by omega, by omega, by omega, Lib.hid ⟨rfl, rfl, rfl, by decide, by simp⟩⟩
     case round =>
      obtain ⟨m, k, x, y, rfl, rfl, rfl, rfl, hm, hk, hx, hy0, hy, HV⟩ := hrel
      by_cases hk9 : k < 9
      rotate_left
      ·have h9 : decide ((k : Int) < 9) = false := decide_eq_false (by omega)
       have him : i < m := by have := HV.out.1; omega
       have HV2 : Hid (m = i + k ∧ x = Qn.val ((s.data.toList.drop i).take k) ∧ y = 10 ^ k ∧ ∀ c ∈ (s.data.toList.drop i).take k, isD c = true) := Lib.hid ⟨HV.out.1, HV.out.2.1, HV.out.2.2.1, HV.out.2.2.2.2⟩
       clear HV hk9
       go_wp2
       go_meet
       exact ⟨rfl, m, k, x, y, rfl, rfl, rfl, him, hm, hx, hy0, hy, HV2⟩
      have h9 : decide ((k : Int) < 9) = true := decide_eq_true (by omega)
      by_cases hms : m < s.size
      rotate_left
      ·have g0 : decide ((m : Int) < (s.size : Int)) = false := decide_eq_false (by omega)
       have g0' : decide (m < s.size) = false := decide_eq_false hms
       have him : i < m := by omega
       have HV2 : Hid (m = i + k ∧ x = Qn.val ((s.data.toList.drop i).take k) ∧ y = 10 ^ k ∧ ∀ c ∈ (s.data.toList.drop i).take k, isD c = true) := Lib.hid ⟨HV.out.1, HV.out.2.1, HV.out.2.2.1, HV.out.2.2.2.2⟩
       clear HV hms
       go_wp2
       go_meet
       exact ⟨rfl, m, k, x, y, rfl, rfl, rfl, him, hm, hx, hy0, hy, HV2⟩
      have g0 : decide ((m : Int) < (s.size : Int)) = true := decide_eq_true (by omega)
      have g0' : decide (m < s.size) = true := decide_eq_true hms
      have hlt' : m < s.data.toList.length := by rw [HL.out]; exact hms
      have hltd : k < (s.data.toList.drop i).length := by rw [List.length_drop]; have := HV.out.1; omega
      have hel : (s.data.toList.drop i)[k] = s[m] := by
       rw [List.getElem_drop]
       have e := HV.out.1
       subst e
       rfl
      have HX : Hid (Qn.val ((s.data.toList.drop i).take (k + 1)) = 10 * Qn.val ((s.data.toList.drop i).take k) + (s[m].toNat - 48)) := Lib.hid (by rw [val_take _ _ hltd, hel])
      have HT : Hid ((s.data.toList.drop i).take (k + 1) = (s.data.toList.drop i).take k ++ [s[m]]) := Lib.hid (by rw [List.take_succ_eq_append_getElem hltd, hel])
      have HMEM : Hid (s[m] ∈ s.data.toList) := Lib.hid (List.getElem_mem hlt')
      have hb8 : 10 ^ k ≤ 100000000 := by
       have : 10 ^ k ≤ 10 ^ 8 := Nat.pow_le_pow_right (by omega) (by omega)
       exact Nat.le_trans this (by decide)
      have hx8 : x < 100000000 := Nat.lt_of_lt_of_le HV.out.2.2.2.1 hb8
      have hy8 : y ≤ 100000000 := by rw [HV.out.2.2.1]; exact hb8
      clear hb8 hel
      by_cases hD : isD s[m] = true
      ·obtain ⟨e1, e2⟩ := isD_int hD
       have e1' : (48 : Int) ≤ (s[m].toNat : Int) := e1
       have e2' : (s[m].toNat : Int) ≤ 57 := e2
       have HDD := Lib.hid hD
       have g1 : decide ((s[m].toNat : Int) < 48) = false := by simp; omega
       have g2 : decide ((57 : Int) < (s[m].toNat : Int)) = false := by simp; omega
       clear e1 e2 hD
       go_wp2
       go_round
       case rel =>
        have h1 := HX.out
        have h2 := HV.out
        rw [← h2.2.1] at h1
        refine ⟨m + 1, k + 1, 10 * x + (s[m].toNat - 48), y * 10, by go_num, by go_num, by go_num, by go_num, by omega, by omega, by omega, by omega, by omega, Lib.hid ⟨by omega, h1.symm, by rw [h2.2.2.1, Nat.pow_succ], ?_, ?_⟩⟩
        ·rw [Nat.pow_succ]; omega
        ·rw [HT.out]
         intro c hc
         rcases List.mem_append.1 hc with h | h
         ·exact h2.2.2.2.2 c h
         ·simp at h; subst h; exact HDD.out
       case measure => simp [intOf]; omega
      ·have hno : Hid (numOk s.data.toList = false) := Lib.hid (by
        apply eq_false_of_ne_true
        rw [numOk_iff]
        exact fun h => hD (h.1 _ HMEM.out))
       by_cases hl : s[m].toNat < 48
       ·have g1 : decide ((s[m].toNat : Int) < 48) = true := by simp; omega
        clear hD
        go_wp2
        refine bodyPost_ret (v := .tuple #[.agg #[.bool false, .slice none 0 0], .bool false]) (by simp [results, Tryz.results31, go_sem, a0, a1]) rfl ⟨?_, .inl ⟨hno.out, 0, none, 0, rfl⟩⟩
        exact below_far (below_far HBW.out (Nat.le_refl _) _ _) (Nat.le_refl _) _ _
       ·have g1 : decide ((s[m].toNat : Int) < 48) = false := by simp; omega
        have g2 : decide ((57 : Int) < (s[m].toNat : Int)) = true := by
         simp
         rw [isD_iff] at hD
         omega
        clear hD hl
        go_wp2
        refine bodyPost_ret (v := .tuple #[.agg #[.bool false, .slice none 0 0], .bool false]) (by simp [results, Tryz.results31, go_sem, a0, a1]) rfl ⟨?_, .inl ⟨hno.out, 0, none, 0, rfl⟩⟩
        exact below_far (below_far HBW.out (Nat.le_refl _) _ _) (Nat.le_refl _) _ _
    case rest =>
     obtain ⟨rfl, m, k, x, y, rfl, rfl, rfl, him, hm, hx, hy0, hy, HV⟩ := hcut
     have HDM : Hid (∀ c ∈ s.data.toList.take m, isD c = true) := Lib.hid (by
      rw [HV.out.1, List.take_add]
      intro c hc
      rcases List.mem_append.1 hc with h | h
      ·exact HM.out.dig c h
      ·exact HV.out.2.2.2 c h)
     have HEQ : Hid (n * y + x = Qn.val (s.data.toList.take m)) := Lib.hid (by
      have hl : ((s.data.toList.drop i).take k).length = k := by
       rw [List.length_take, List.length_drop, HL.out]
       have := HV.out.1
       omega
      have e := HV.out.1
      rw [e, List.take_add, qval_app, hl, ← HM.out.eq, ← HV.out.2.1, ← HV.out.2.2.1])
     have hml : (dg (n * y + x)).length ≤ 64 := by
      rw [HEQ.out]
      refine Nat.le_trans (qval_len HDM.out) ?_
      rw [List.length_take]; omega
     have hml1 : (dg (n * y)).length ≤ 64 := Nat.le_trans (dg_len_mono (Nat.le_add_right _ _)) hml
     obtain ⟨l1, hl1⟩ : ∃ t, (dg (n * y)).length = t := ⟨_, rfl⟩
     obtain ⟨l2, hl2⟩ : ∃ t, (dg (n * y + x)).length = t := ⟨_, rfl⟩
     obtain ⟨lx, hlx⟩ : ∃ t, (dg x).length = t := ⟨_, rfl⟩
     have hlx1 : lx ≤ 1 := by rw [← hlx]; exact dg_len_lt (by rw [Nat.pow_one]; simp only [B]; omega)
     have hyB : y < 4294967296 := by omega
     have hxB : x < 4294967296 := by omega
     have hdy : dg y = [y] := dg_small (by omega) hyB
     have hbW : Below wc.heap.size wc (wc.alloc (.cells #[.int .u32 (y : Nat)] 103)) := (Below.refl _ _).alloc (Nat.le_refl _) _
     have HMU : Hid (Calls Tryz.prog 57 #[.slice M lm cm, .slice (some ⟨wc.heap.size, 0, none⟩) 1 1] (wc.alloc (.cells #[.int .u32 (y : Nat)] 103)) fun e w' => ∃ R cr, e = .returned (.slice R l1 cr) ∧ Hid (ND w' R cr (n * y)) ∧ Hid (Below wc.heap.size wc w')) := Lib.hid (by
      have := nmul_any M (some ⟨wc.heap.size, 0, none⟩) cm 1 n y (wc.alloc (.cells #[.int .u32 (y : Nat)] 103)) (HM.out.nd.keep hbW).digs (by rw [hdy]; exact digs_blk (Blk.new wc 103 #[.int .u32 (y : Nat)])) (by rw [HM.out.len]; omega) (by rw [hdy]; simp)
      rw [hdy, HM.out.len] at this
      unfold RetDg at this
      rw [hl1] at this
      exact this.mono fun e w' ⟨R, cr, h1, h2, h3⟩ => ⟨R, cr, h1, Lib.hid h2, Lib.hid (below_all hbW h3)⟩)
     have HTR : Hid (∀ V : World, Calls Tryz.prog 58 #[.slice (some ⟨V.heap.size, 0, none⟩) 1 1] (V.alloc (.cells #[.int .u32 (x : Nat)] 103)) fun e w' => e = .returned (.slice (some ⟨V.heap.size, 0, none⟩) lx 1) ∧ (V.alloc (.cells #[.int .u32 (x : Nat)] 103)) = w') := Lib.hid (fun V => by
      have := trim_dg (some ⟨V.heap.size, 0, none⟩) 1 [x] (V.alloc (.cells #[.int .u32 (x : Nat)] 103)) (digs_blk (Blk.new V 103 #[.int .u32 (x : Nat)])) (by intro z hz; simp at hz; subst hz; exact hxB) (by simp) (by simp)
      have e : Go.Bn.val [x] = x := by simp [Go.Bn.val]
      rw [e, hlx] at this
      exact this.mono fun e w' h => ⟨h.1, h.2.1⟩)
     have HAD : Hid (∀ (V : World) (R : Option Addr) (cr : Nat), ND V R cr (n * y) → Calls Tryz.prog 56 #[.slice R l1 cr, .slice (some ⟨V.heap.size, 0, none⟩) lx 1] (V.alloc (.cells #[.int .u32 (x : Nat)] 103)) fun e w' => ∃ R2 cr2, e = .returned (.slice R2 l2 cr2) ∧ Hid (ND w' R2 cr2 (n * y + x)) ∧ Hid (Below V.heap.size V w')) := Lib.hid (fun V R cr hR => by
      have hbV : Below V.heap.size V (V.alloc (.cells #[.int .u32 (x : Nat)] 103)) := (Below.refl _ _).alloc (Nat.le_refl _) _
      have hdx : Digs (V.alloc (.cells #[.int .u32 (x : Nat)] 103)) (some ⟨V.heap.size, 0, none⟩) (dg x) := by
       have h1 := digs_blk (v := x) (Blk.new V 103 #[.int .u32 (x : Nat)])
       by_cases h0 : x = 0
       ·rw [h0, dg_zero]; exact Digs.nil _ _
       ·rw [dg_small h0 hxB]; exact h1
      have := nadd_any R (some ⟨V.heap.size, 0, none⟩) cr 1 (n * y) x (V.alloc (.cells #[.int .u32 (x : Nat)] 103)) (hR.keep hbV).digs hdx (by omega) (by omega)
      unfold RetDg at this
      rw [hl1, hlx, hl2] at this
      exact this.mono fun e w' ⟨R2, cr2, h1, h2, h3⟩ => ⟨R2, cr2, h1, Lib.hid h2, Lib.hid (below_all hbV h3)⟩)
     have HL2 := Lib.hid hl2
     have HV1 : Hid (i < m) := Lib.hid him
     clear hl1 hl2 hlx hdy hbW hml hml1 hyB hxB HV a0 a1 a2 a3
     go_wp2_with (first
       | (go_at_call 57; refine HMU.out.mono ?_; rintro e w2 ⟨R, cr, rfl, HR, HB3⟩; have HAD2 := Lib.hid (HAD.out w2 R cr HR.out); have HTR2 := Lib.hid (HTR.out w2))
       | (go_at_call 58; refine HTR2.out.mono ?_; rintro e w3 ⟨rfl, rfl⟩)
       | (go_at_call 56; refine HAD2.out.mono ?_; rintro e w4 ⟨R2, cr2, rfl, HR2, HB4⟩))
     have HBZ := below_all HB3.out HB4.out
     go_roundw
     case rel => exact ⟨n * y + x, l2, cr2, m, R2, rfl, rfl, hm, Lib.hid ⟨HL2.out, HEQ.out, HR2.out, HDM.out, HB2.out.keep HBZ HB2.out.lt, below_all HBW.out HBZ⟩⟩
     case measure => simp [intOf]; omega
theorem fdigs_w (s : ByteArray) (w : World) (hs : s.size ≤ 64) :
    Calls Tryz.prog 31 #[.string s] w (RetFDw s.data.toList w) := by
  by_cases h0 : s.size = 0
  ·have e : s = ByteArray.empty := by
    rw [← bs_self s, List.eq_nil_of_length_eq_zero (l := s.data.toList) (by rw [len_size]; exact h0)]; rfl
   subst e
   refine (fdig_nil w).mono ?_
   rintro e w' ⟨hb, ⟨h1, h2⟩ | ⟨h1, _⟩⟩
   ·exact ⟨hb, .inl ⟨h1, h2⟩⟩
   ·exact absurd h1 (by decide)
  ·exact fdig_w s w (by omega) hs
end Go.Proofs.Tg
end
