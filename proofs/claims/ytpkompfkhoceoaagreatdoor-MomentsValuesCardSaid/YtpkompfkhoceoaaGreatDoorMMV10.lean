/- Parts of the proof: BN8, BN14, BN17, BN22, BN19, BN23. -/
import Derived.Laws.BitsAllLaws
import Derived.Laws.AppendOwnNone
import Derived.Deep.Cut
import Derived.Deep.RegionHeld3
import Derived.Test.YtpkompfkhoceoaaGreatDoorMMV9
section
/- The harness's shift to the left by less than 32 bits, whatever the length. -/
namespace Go.Proofs.Tg
open Go.RowKit Go.Gr Go.Bn
set_option maxHeartbeats 4000000
set_option maxRecDepth 100000
/-- The digits shifted so far: the carry lies in the next place already. -/
structure ShSt (us : List Nat) (s g : Nat) (w0 wr : World) (k c : Nat) (zs : List Nat) : Prop where
  len : zs.length = k
  dig : Dig zs
  lt : c < 2 ^ s
  sum : val zs + B ^ k * c = val (us.take k) * 2 ^ s
  blk : Blk wr g 137 (darr (zs ++ c :: List.replicate (us.length - k) 0))
  below : Below w0.heap.size w0 wr
theorem sh_split {s : Nat} (hs : s < 32) : B = 2 ^ s * 2 ^ (32 - s) := by
  rw [← Nat.pow_add, show s + (32 - s) = 32 by omega]
theorem sh_low {s c x : Nat} (hs : s < 32) (hc : c < 2 ^ s) : c ||| (x * 2 ^ s) % B = (x * 2 ^ s) % B + c ∧ (x * 2 ^ s) % B + c < B := by
  have e : (x * 2 ^ s) % B = 2 ^ s * (x % 2 ^ (32 - s)) := by rw [sh_split hs, Nat.mul_comm x, Nat.mul_mod_mul_left]
  rw [e]
  refine ⟨by rw [Nat.or_comm]; exact (Nat.two_pow_add_eq_or_of_lt hc _).symm, ?_⟩
  have h1 : x % 2 ^ (32 - s) < 2 ^ (32 - s) := Nat.mod_lt _ (Nat.two_pow_pos _)
  have h2 : 2 ^ s * (x % 2 ^ (32 - s) + 1) ≤ 2 ^ s * 2 ^ (32 - s) := Nat.mul_le_mul_left _ h1
  rw [← sh_split hs, Nat.mul_add] at h2
  omega
theorem sh_high {s x : Nat} (hx : x < B) : x * 2 ^ s / B < 2 ^ s := by
  rw [Nat.div_lt_iff_lt_mul (by decide), Nat.mul_comm (2 ^ s)]
  exact Nat.mul_lt_mul_of_pos_right hx (Nat.two_pow_pos _)
theorem ShSt.step {us : List Nat} {s g : Nat} {w0 wo : World} {k c : Nat} {zs : List Nat} (h : ShSt us s g w0 wo k c zs) (hs : s < 32) (hk : k < us.length) (hg : w0.heap.size ≤ g) {x : Nat} (hx : x < B) (h1 : val (us.take (k + 1)) = val (us.take k) + B ^ k * x) :
    ShSt us s g w0 ((wo.setCell ⟨g, k, none⟩ (.int .u32 ((x * 2 ^ s % B + c : Nat) : Int))).setCell ⟨g, k + 1, none⟩ (.int .u32 ((x * 2 ^ s / B : Nat) : Int))) (k + 1) (x * 2 ^ s / B) (zs ++ [x * 2 ^ s % B + c]) := by
  obtain ⟨_, hlo⟩ := sh_low (x := x) hs h.lt
  refine ⟨by rw [List.length_append, h.len]; rfl, fun z hz => ?_, sh_high hx, ?_, ?_, below_far (below_far h.below hg _ _) hg _ _⟩
  · rcases List.mem_append.1 hz with hz | hz
    · exact h.dig z hz
    · rw [List.mem_singleton.1 hz]; exact hlo
  · have hsm := h.sum
    have hm := Nat.mod_add_div (x * 2 ^ s) B
    rw [val_app, h.len, h1, Nat.add_mul, ← hsm, Nat.pow_succ, Nat.mul_assoc (B ^ k) B, Nat.mul_assoc (B ^ k) x, ← hm, Nat.mul_add (B ^ k), hm]
    simp only [val, Nat.mul_zero, Nat.add_zero, Nat.mul_add]
    omega
  · have hb := (h.blk.set k (.int .u32 ((x * 2 ^ s % B + c : Nat) : Int))).set (k + 1) (.int .u32 ((x * 2 ^ s / B : Nat) : Int))
    have e : ((zs ++ c :: List.replicate (us.length - k) 0).set k (x * 2 ^ s % B + c)).set (k + 1) (x * 2 ^ s / B) = (zs ++ [x * 2 ^ s % B + c]) ++ (x * 2 ^ s / B) :: List.replicate (us.length - (k + 1)) 0 := by
      rw [List.set_append_right _ _ (by rw [h.len]; exact Nat.le_refl _), h.len, Nat.sub_self, List.set_cons_zero, List.set_append_right _ _ (by rw [h.len]; omega), h.len, show k + 1 - k = 1 by omega, List.set_cons_succ, show us.length - k = (us.length - (k + 1)) + 1 by omega, List.replicate_succ, List.set_cons_zero]
      simp
    rwa [darr_set, darr_set, e] at hb
end Go.Proofs.Tg
end
section
/- The harness's numbers as they lie in memory; divMag where the first is the lesser, and by one digit. -/
namespace Go.Proofs.Tg
open Go.RowKit Go.Gr Go.Bn
set_option maxHeartbeats 4000000
set_option maxRecDepth 100000
def RetDM (q r : Nat) (w : World) (e : Ending) (w' : World) : Prop :=
  ∃ Q cq R cr, e = .returned (.tuple #[.slice Q (dg q).length cq, .slice R (dg r).length cr]) ∧ ND w' Q cq q ∧ ND w' R cr r ∧ Below w.heap.size w w'
theorem div_less (X Y : Option Addr) (cx cy a b : Nat) (w : World) (hX : ND w X cx a) (hY : ND w Y cy b) (hab : a < b) (hn : (dg a).length ≤ 400000) :
    Calls Tryz.prog 115 #[.slice X (dg a).length cx, .slice Y (dg b).length cy] w (RetDM 0 a w) := by
  have HC := Lib.hid (ncmp_any X Y cx cy a b w hX.digs hY.digs (by omega))
  rw [if_pos hab] at HC
  have HX := Lib.hid hX
  obtain ⟨i0, hi, hz0, hz1, hz2⟩ := info_parts dig_info
  obtain ⟨l, hl⟩ : ∃ l, (dg a).length = l := ⟨_, rfl⟩
  have HF : Hid (∀ (R : Option Addr) (c : Nat) (w2 : World), Digs w2 R (dg a) → l ≤ c → (R = none → c = 0) → Below w.heap.size w w2 → RetDM 0 a w (.returned (.tuple #[.slice none 0 0, .slice R l c])) w2) := Lib.hid (fun R c w2 h1 h2 h3 h4 => ⟨none, 0, R, c, by rw [dg_zero, hl]; rfl, ND.zero _, ⟨h1, by omega, h3⟩, h4⟩)
  have HL := Lib.hid hl
  rw [hl] at HC hn ⊢
  clear hX hY hab hl
  go_enter Tryz.func115, Tryz.ntmps115
  go_wp2_with (fail)
  refine HC.out.mono ?_
  rintro e w1 ⟨rfl, hdr⟩
  have hb1 := hdr.below
  clear hdr
  by_cases h0 : 0 < l
  · obtain ⟨ad, e, hlt, ha⟩ := (HX.out.keep hb1).digs.sl.lies (by rw [HL.out]; exact h0)
    subst e
    have hnew : ∀ j u, ((dg a).map vd)[j]? = some u → (w1.alloc (.cells #[] 137)).cell? (ad.add j) = some u := fun j u hu => cell_alloc (ha j u hu) _
    have HN := Lib.hid hnew
    clear hnew ha
    go_wp2_with (at_builtin; refine wpList_append_own _ rfl _ _ 48 rfl w1.heap.size 137 i0 (.int .u32 0) 1 4 Tryz.underlying48 hi hz0 hz1 hz2 rfl (by decide) (.slice (some ⟨w1.heap.size, 0, none⟩) 0 0) 0 [] rfl (World.ownsRow_made w1 #[] 0 (Nat.le_refl _) (by simp [maxLen]) rfl) ad l cx ((dg a).map vd) rfl ?c1 HN.out ?c2 ?c3 ?c4 ?c5 ?_
                 case c1 => rw [List.length_map, HL.out, Nat.mul_one]
                 case c2 => exact fun u hu => by (obtain ⟨x, _, rfl⟩ := List.mem_map.1 hu; rfl)
                 case c3 => simp only [maxLen]; omega
                 case c4 => omega
                 case c5 => simp
                 intro v' w2 hown' hgrow _; rw [Nat.zero_add] at hown')
    obtain ⟨R, cr, hv, hcr, hS⟩ := Sl.of_own hown'
    subst hv
    have hb2 : Below w1.heap.size w1 w2 := ((Below.refl _ _).alloc (Nat.le_refl _) _).grown hgrow (by simp) (fun k hk => by simp [Value.ownBlock] at hk; omega)
    go_ret2
    refine HF.out R cr w2 (digs_own (xs := dg a) hown' (by exact HL.out.symm)) hcr (fun e => ?_) (below_all hb1 hb2)
    subst e
    obtain ⟨_, e, _⟩ := hS.lies h0
    cases e
  · obtain rfl : l = 0 := by omega
    have HG : Hid (∀ (R : Option Addr) (c : Nat) (w2 : World), (R = none → c = 0) → Below w.heap.size w w2 → RetDM 0 a w (.returned (.tuple #[.slice none 0 0, .slice R 0 c])) w2) := Lib.hid (fun R c w2 h3 h4 => HF.out R c w2 (by
      have : dg a = [] := List.eq_nil_of_length_eq_zero HL.out
      rw [this]; exact Digs.nil _ _) (Nat.zero_le _) h3 h4)
    have HCX := Lib.hid HX.out.nilc
    have hbA : Below w1.heap.size w1 (w1.alloc (.cells #[] 137)) := (Below.refl _ _).alloc (Nat.le_refl _) _
    cases X with
    | none =>
      obtain rfl : cx = 0 := HCX.out rfl
      go_wp2_with (at_builtin; refine wpList_append_own_none rfl _ _ 48 rfl w1.heap.size 137 i0 1 Tryz.underlying48 hi (.slice (some ⟨w1.heap.size, 0, none⟩) 0 0) 0 [] rfl (World.ownsRow_made w1 #[] 0 (Nat.le_refl _) (by simp [maxLen]) rfl) rfl ?_)
      go_ret2
      exact HG.out _ 0 _ (fun e => by cases e) (below_all hb1 hbA)
    | some ad =>
      go_wp2_with (at_builtin; refine wpList_append_own _ rfl _ _ 48 rfl w1.heap.size 137 i0 (.int .u32 0) 1 4 Tryz.underlying48 hi hz0 hz1 hz2 rfl (by decide) (.slice (some ⟨w1.heap.size, 0, none⟩) 0 0) 0 [] rfl (World.ownsRow_made w1 #[] 0 (Nat.le_refl _) (by simp [maxLen]) rfl) ad 0 cx [] rfl rfl (fun j u hu => by simp at hu) ?c2 ?c3 ?c4 ?c5 ?_
                   case c2 => simp [Value.oneCell']
                   case c3 => simp only [maxLen]; omega
                   case c4 => omega
                   case c5 => simp
                   intro v' w2 hown' hgrow hnil)
      obtain ⟨R, cr, hv, hcr, hS⟩ := Sl.of_own hown'
      subst hv
      have hb2 : Below w1.heap.size w1 w2 := ((Below.refl _ _).alloc (Nat.le_refl _) _).grown hgrow (by simp) (fun k hk => by simp [Value.ownBlock] at hk; omega)
      have HR : Hid (R = none → cr = 0) := Lib.hid (fun e => by
        subst e
        rcases hown'.2 with ⟨h1, h2⟩ | ⟨g, cap, cur, h1, _⟩
        · injection h1
        · injection h1 with h1; cases h1)
      clear hnil
      go_ret2
      exact HG.out R cr w2 HR.out (below_all hb1 hb2)
theorem ntrim_one (r : Nat) (w : World) (g : Nat) (hB : Blk w g 137 #[.int .u32 (r : Nat)]) (hr : r < B) :
    Calls Tryz.prog 79 #[.slice (some ⟨g, 0, none⟩) 1 1] w fun e w' => e = .returned (.slice (some ⟨g, 0, none⟩) (dg r).length 1) ∧ w = w' ∧ ND w' (some ⟨g, 0, none⟩) 1 r := by
  have hd : Digs w (some ⟨g, 0, none⟩) [r] := digs_of (xs := [r]) hB
  have h := trim_dg (some ⟨g, 0, none⟩) 1 [r] w hd (fun x hx => by rw [List.mem_singleton.1 hx]; exact hr) (by simp) (by simp)
  have e : val [r] = r := by simp [val]
  have hl := dg_val_len (xs := [r]) (fun x hx => by rw [List.mem_singleton.1 hx]; exact hr)
  rw [e] at h hl
  refine h.mono ?_
  rintro e w' ⟨rfl, rfl, h1⟩
  exact ⟨rfl, rfl, h1, hl, fun h => by cases h⟩
theorem div_digit (X Y : Option Addr) (cx cy a b : Nat) (w : World) (hX : ND w X cx a) (hY : ND w Y cy b) (hab : b ≤ a) (hb0 : b ≠ 0) (hbB : b < B) (hn : (dg a).length ≤ 400000) :
    Calls Tryz.prog 115 #[.slice X (dg a).length cx, .slice Y (dg b).length cy] w (RetDM (a / b) (a % b) w) := by
  obtain ⟨z, hz⟩ : ∃ z : Int, (if a < b then (-1 : Int) else if a = b then 0 else 1) = z := ⟨_, rfl⟩
  have HC := Lib.hid (ncmp_any X Y cx cy a b w hX.digs hY.digs (by omega))
  rw [hz] at HC
  have hzb : decide (z < 0) = false := by
    rw [← hz, if_neg (by omega)]
    split <;> simp
  clear hz
  have HD := Lib.hid (fun W (h : Below w.heap.size w W) => sdiv_any X cx a b W (hX.keep h).digs hbB (by omega) hn)
  have HR := Lib.hid (Nat.lt_trans (Nat.mod_lt a (show 0 < b by omega)) hbB)
  have HY := Lib.hid hY
  have hdb := dg_small hb0 hbB
  have HDB := Lib.hid hdb
  rw [hdb]
  unfold RetDM
  obtain ⟨q, hq⟩ : ∃ q, a / b = q := ⟨_, rfl⟩
  obtain ⟨r, hr⟩ : ∃ r, a % b = r := ⟨_, rfl⟩
  rw [hr] at HR
  rw [hq, hr]
  unfold RetSQ at HD
  rw [hq, hr] at HD
  clear hq hr hdb hX hY
  go_enter Tryz.func115, Tryz.ntmps115
  go_wp2_with (fail)
  rw [HDB.out] at HC
  refine HC.out.mono ?_
  rintro e w1 ⟨rfl, hdr⟩
  have hb1 := hdr.below
  clear hdr
  have hYd := (HY.out.keep hb1).digs
  rw [HDB.out] at hYd
  obtain ⟨bd, rfl, hbd⟩ := Digs.at hYd (k := 0) (by simp)
  have hbd : w1.cell? bd = some (.int .u32 (b : Nat)) := by simpa [Addr.add] using hbd
  clear hYd
  go_wp2_with (fail)
  refine (HD.out _ hb1).mono ?_
  rintro e w2 ⟨Q, cq, rfl, hQ, hb2⟩
  go_wp2_with (fail)
  have B3 := Blk.new w2 137 #[.int .u32 (r : Nat)]
  have hbA : Below w2.heap.size w2 (w2.alloc (.cells #[.int .u32 (r : Nat)] 137)) := (Below.refl _ _).alloc (Nat.le_refl _) _
  refine (ntrim_one r _ _ B3 HR.out).mono ?_
  rintro e _ ⟨rfl, rfl, hR⟩
  have hbq := below_all (below_all hb1 hb2) hbA
  have HQ2 := Lib.hid (hQ.keep hbA)
  clear hQ
  go_wp2
  go_ret2
  exact ⟨_, _, _, _, rfl, HQ2.out, hR, hbq⟩
end Go.Proofs.Tg
end
section
/- The harness's divMag: every dividend, a divisor that DvOk allows. -/
namespace Go.Proofs.Tg
open Go.RowKit Go.Gr Go.Bn
/-- The divisors for which divMag is walked. -/
def DvOk (b : Nat) : Prop := b < B
theorem DvOk.mono {a b : Nat} (h : DvOk b) (hab : a ≤ b) : DvOk a := Nat.lt_of_le_of_lt hab h
theorem dm_any (X Y : Option Addr) (cx cy a b : Nat) (w : World) (hX : ND w X cx a) (hY : ND w Y cy b) (hb0 : b ≠ 0) (hb : DvOk b) (hn : (dg a).length ≤ 200000) :
    Calls Tryz.prog 115 #[.slice X (dg a).length cx, .slice Y (dg b).length cy] w (RetDM (a / b) (a % b) w) := by
  rcases Nat.lt_or_ge a b with h | h
  · have := div_less X Y cx cy a b w hX hY h (by omega)
    rwa [Nat.div_eq_of_lt h, Nat.mod_eq_of_lt h]
  · exact div_digit X Y cx cy a b w hX hY h hb0 hb (by omega)
end Go.Proofs.Tg
end
section
/- The harness's numbers: the greatest common divisor, any size of the first number, a second one that DvOk allows. -/
namespace Go.Proofs.Tg
open Go.RowKit Go.Gr Go.Bn
set_option maxHeartbeats 2000000
set_option maxRecDepth 100000
theorem digs_det {w : World} {A : Option Addr} {xs ys : List Nat} (h : Digs w A xs) (g : Digs w A ys) (hl : xs.length = ys.length) : xs = ys := by
  apply List.ext_getElem hl
  intro k h1 h2
  obtain ⟨ad, rfl, c1⟩ := h.at h1
  obtain ⟨ad2, e2, c2⟩ := g.at h2
  injection e2 with e2
  subst e2
  rw [c1] at c2
  injection c2 with c2
  injection c2 with _ c2
  omega
open Classical in
/-- The number that a slice of digits holds. -/
noncomputable def nmes (s : Value) (w : World) : Nat := if h : ∃ y, ∃ (Y : Option Addr) (c : Nat), s = .slice Y (dg y).length c ∧ Digs w Y (dg y) then h.choose else 0
theorem nmes_eq {w : World} {Y : Option Addr} {y c : Nat} (h : Digs w Y (dg y)) : nmes (.slice Y (dg y).length c) w = y := by
  have hex : ∃ y', ∃ (Y' : Option Addr) (c' : Nat), (Value.slice Y (dg y).length c) = .slice Y' (dg y').length c' ∧ Digs w Y' (dg y') := ⟨y, Y, c, rfl, h⟩
  unfold nmes
  rw [dif_pos hex]
  obtain ⟨Y', c', e, hd⟩ := hex.choose_spec
  injection e with e1 e2 _
  subst e1
  have := digs_det h hd e2
  rw [← val_dg hex.choose, ← this, val_dg]
theorem dg_len_mono {a b : Nat} (h : a ≤ b) : (dg a).length ≤ (dg b).length := by
  rcases Nat.lt_or_ge (dg b).length (dg a).length with h1 | h1
  · exact absurd (dg_lt_of_len h1) (by omega)
  · exact h1
def RetGc (g : Nat) (w : World) (e : Ending) (w' : World) : Prop :=
  ∃ G cg, e = .returned (.agg #[.bool false, .slice G (dg g).length cg]) ∧ ND w' G cg g ∧ Below w.heap.size w w'
theorem gcd_num (p q : Bool) (A B : Option Addr) (c d a b : Nat) (w : World) (hA : ND w A c a) (hB : ND w B d b) (ha : (dg a).length ≤ 200000) (hb : DvOk b) (hbl : (dg b).length ≤ 200000) :
    Calls Tryz.prog 76 #[.agg #[.bool p, .slice A (dg a).length c], .agg #[.bool q, .slice B (dg b).length d]] w (RetGc (Nat.gcd a b) w) := by
  obtain ⟨g, hg⟩ : ∃ g, Nat.gcd a b = g := ⟨_, rfl⟩
  rw [hg]
  have HG := Lib.hid ((Nat.gcd_comm b a).trans hg)
  obtain ⟨na, hna⟩ : ∃ na, (dg a).length = na := ⟨_, rfl⟩
  obtain ⟨nb, hnb⟩ : ∃ nb, (dg b).length = nb := ⟨_, rfl⟩
  rw [hna, hnb]
  have HNA := Lib.hid hna
  have HNB := Lib.hid hnb
  have HDB := Lib.hid hb
  have hal : na ≤ 200000 := by omega
  have hbl' : nb ≤ 200000 := by omega
  clear hg hna hnb hb ha hbl
  obtain ⟨W, hW⟩ : ∃ W, ((w.alloc (.cells #[.bool p, .slice A na c] 50)).alloc (.cells #[.bool q, .slice B nb d] 50)).alloc (.cells #[.bool false, .slice none 0 0] 50) = W := ⟨_, rfl⟩
  have B0 : Blk W w.heap.size 50 #[.bool p, .slice A na c] := by rw [← hW]; exact ((Blk.new _ _ _).alloc _).alloc _
  have B1 : Blk W (w.heap.size + 1) 50 #[.bool q, .slice B nb d] := by
    rw [← hW]; have := (Blk.new (w.alloc (.cells #[.bool p, .slice A na c] 50)) 50 #[.bool q, .slice B nb d]).alloc (.cells #[.bool false, .slice none 0 0] 50)
    simpa using this
  have B2 : Blk W (w.heap.size + 1 + 1) 50 #[.bool false, .slice none 0 0] := by
    rw [← hW]; have := (Blk.new ((w.alloc (.cells #[.bool p, .slice A na c] 50)).alloc (.cells #[.bool q, .slice B nb d] 50)) 50 #[.bool false, .slice none 0 0])
    simpa using this
  have hbW : Below w.heap.size w W := by rw [← hW]; exact (((Below.refl _ _).alloc (Nat.le_refl _) _).alloc (by simp) _).alloc (by simp; omega) _
  have hWs : W.heap.size = w.heap.size + 3 := by rw [← hW]; simp
  have HX : Hid (ND W A c a) := Lib.hid (hA.keep hbW)
  have HY : Hid (ND W B d b) := Lib.hid (hB.keep hbW)
  obtain ⟨a0, a1, _, _⟩ := B0.two
  obtain ⟨b0, b1, _, _⟩ := B1.two
  go_enter Tryz.func76, Tryz.ntmps76
  go_upto_region 1 with (fail)
  clear hW hA hB
  go_quiet (fail)
  go_wp2
  go_loopw [5, 6] (fun s5 s6 wr => ∃ (x y nx ny : Nat) (X : Option Addr) (cx : Nat) (Y : Option Addr) (cy : Nat), s5 = .slice X nx cx ∧ s6 = .slice Y ny cy ∧ nx ≤ 200000 ∧ ny ≤ 200000 ∧ Hid (DvOk y) ∧ Hid (nx = (dg x).length) ∧ Hid (ny = (dg y).length) ∧ Hid (ND wr X cx x) ∧ Hid (ND wr Y cy y) ∧ Hid (Nat.gcd y x = g) ∧ Below W.heap.size W wr) (fun _ s6 wr => nmes s6 wr)
  case atStart => exact ⟨a, b, na, nb, A, c, B, d, rfl, rfl, hal, hbl', HDB, Lib.hid HNA.out.symm, Lib.hid HNB.out.symm, Lib.hid (HX.out.keep (below_drewN (Below.refl _ _) _)), Lib.hid (HY.out.keep (below_drewN (Below.refl _ _) _)), HG, below_drewN (Below.refl _ _) _⟩
  case round =>
    obtain ⟨wo, rfl⟩ : ∃ wo : World, wo = wr := ⟨_, rfl⟩
    obtain ⟨x, y, nx, ny, X, cx, Y, cy, rfl, rfl, hnx, hny, HDV, HNX, HNY, HXD, HYD, HGG, hbr⟩ := hrel
    by_cases hy0 : y = 0
    · subst hy0
      obtain rfl : ny = 0 := by have := HNY.out; rwa [dg_zero] at this
      obtain rfl : x = g := by have := HGG.out; rwa [Nat.gcd_zero_left] at this
      have K2 := B2.keep hbr (by omega)
      obtain ⟨k0, k1, k2, k3⟩ := K2.two
      have HM := Lib.hid (make1_any false X nx cx wo false rfl (by omega))
      have HBR := Lib.hid hbr
      go_wp2_with (go_at_call 73; refine HM.out.mono ?_; rintro e w2 ⟨rfl, hb2⟩
                   have K3 := K2.keep hb2 K2.lt
                   obtain ⟨j0, j1, j2, j3⟩ := K3.two)
      have hlt3 := K3.lt
      refine bodyPost_ret (v := .agg #[.bool false, .slice X nx cx]) (by simp [results, Tryz.results76, go_sem, j0, j1]) rfl ⟨X, cx, by rw [HNX.out], ⟨?_, HXD.out.cap, HXD.out.nilc⟩, ?_⟩
      · have h1 := HXD.out.digs.keep hb2
        have h4 := Digs.put h1 j0 (by simp [vd]) (.bool false)
        exact Digs.put h4 (v := .slice none 0 0) (by rw [World.cell?_setCell_other _ _ _ _ (by simp)]; exact j1) (by simp [vd]) _
      · have h1 := below_all (below_all hbW hbr) hb2
        exact (h1.setCell (by simp; omega) _).setCell (by simp; omega) _
    · have hny0 : 0 < ny := by
        rw [HNY.out, dg_pos hy0]; simp
      have hnyI : decide ((0 : Int) < (ny : Int)) = true := decide_eq_true (by omega)
      have hnyN : decide (0 < ny) = true := decide_eq_true hny0
      have HD := Lib.hid (dm_any X Y cx cy x y wo HXD.out HYD.out hy0 HDV.out (by rw [← HNX.out]; exact hnx))
      rw [← HNX.out, ← HNY.out] at HD
      unfold RetDM at HD
      have hml : x % y < y := Nat.mod_lt _ (by omega)
      have HN : Hid (Nat.gcd (x % y) y = g) := Lib.hid (by rw [← Nat.gcd_rec]; exact HGG.out)
      have HDR : Hid (DvOk (x % y)) := Lib.hid (HDV.out.mono (by omega))
      have HLR : Hid ((dg (x % y)).length ≤ 200000) := Lib.hid (Nat.le_trans (dg_len_mono (Nat.le_of_lt hml)) (by rw [← HNY.out]; exact hny))
      have HM := Lib.hid (nmes_eq (c := cy) HYD.out.digs)
      rw [← HNY.out] at HM
      generalize x % y = r at *
      generalize x / y = qq at *
      have HML := Lib.hid hml
      clear hy0 hml
      go_wp2_with (go_at_call 115; refine HD.out.mono ?_; rintro e w2 ⟨Q, cq, R, cr, rfl, hQ, hR, hb2⟩)
      go_roundw
      case rel => exact ⟨y, r, ny, _, Y, cy, R, cr, rfl, rfl, hny, HLR.out, HDR, HNY, Lib.hid rfl, Lib.hid (HYD.out.keep hb2), Lib.hid hR, HN, below_all hbr hb2⟩
      case measure =>
        have h1 := HM.out
        have h2 := nmes_eq (c := cr) hR.digs
        have h3 := HML.out
        simp at h1 h2 ⊢
        omega
end Go.Proofs.Tg
end
section
/- The harness's numbers with a sign: FromInt. -/
namespace Go.Proofs.Tg
open Go.RowKit Go.Gr Go.Bn
set_option maxHeartbeats 4000000
set_option maxRecDepth 100000
/-- What a call returns for a number with a sign. -/
def RetZ (z : Int) (w : World) (e : Ending) (w' : World) : Prop :=
  ∃ R c, e = .returned (.agg #[.bool (decide (z < 0)), .slice R (dg z.natAbs).length c]) ∧ ND w' R c z.natAbs ∧ Below w.heap.size w w'
theorem dg_len_pos {u : Nat} : 0 < (dg u).length ↔ u ≠ 0 := by
  by_cases h : u = 0
  · subst h; rw [dg_zero]; simp
  · rw [dg_pos h]; simp [h]
theorem dg_two {u : Nat} (h : u < 18446744073709551616) : val [u % B, u / B] = u ∧ Dig [u % B, u / B] := by
  refine ⟨?_, fun x hx => ?_⟩
  · simp only [val]; have := Nat.mod_add_div u B; omega
  · simp only [List.mem_cons, List.not_mem_nil, or_false] at hx
    simp only [B] at *
    rcases hx with rfl | rfl <;> omega
theorem ND.put {w : World} {A : Option Addr} {c n : Nat} (h : ND w A c n) {p : Addr} {v : Value} (hp : w.cell? p = Option.some v) (hv : v ∉ (dg n).map vd) (u : Value) : ND (w.setCell p u) A c n := ⟨h.digs.put hp hv u, h.cap, h.nilc⟩
theorem ND.far {w : World} {A : Option Addr} {c n g : Nat} {t : TypeId} {cs : Array Value} (h : ND w A c n) (B : Blk w g t cs) (hne : t ≠ 137) (i : Nat) (u : Value) : ND (w.setCell ⟨g, i, none⟩ u) A c n := ⟨h.digs.far (h.digs.off_ty B hne) i u, h.cap, h.nilc⟩
theorem fromint_num (n : Int) (h1 : -9223372036854775808 ≤ n) (h2 : n < 9223372036854775808) (w : World) :
    Calls Tryz.prog 47 #[.int .i64 n] w (RetZ n w) := by
  obtain ⟨u, hu⟩ : ∃ u : Nat, n.natAbs = u := ⟨_, rfl⟩
  have huB : u ≤ 9223372036854775808 := by omega
  obtain ⟨hv, hd⟩ := dg_two (u := u) (by omega)
  have hdl := dg_val_len hd
  rw [hv] at hdl
  have HL : Hid ((decide (n < 0) && decide (0 < (dg u).length)) = decide (n < 0)) := Lib.hid (by
    by_cases h : n < 0
    · simp [h]; exact dg_len_pos.2 (by omega)
    · simp [h])
  have hB0 := Blk.new w 50 #[.bool false, .slice none 0 0]
  have hcells : (#[.int .u32 ((u : Int) % 4294967296), .int .u32 ((u : Int) / 4294967296)] : Array Value) = darr [u % B, u / B] := by simp [darr, vd, B]
  have hB1 := Blk.new (w.alloc (.cells #[.bool false, .slice none 0 0] 50)) 137 (#[.int .u32 ((u : Int) % 4294967296), .int .u32 ((u : Int) / 4294967296)])
  have hB0 := hB0.alloc (.cells #[.int .u32 ((u : Int) % 4294967296), .int .u32 ((u : Int) / 4294967296)] 137)
  obtain ⟨W2, hW2⟩ : ∃ W2, (w.alloc (.cells #[.bool false, .slice none 0 0] 50)).alloc (.cells #[.int .u32 ((u : Int) % 4294967296), .int .u32 ((u : Int) / 4294967296)] 137) = W2 := ⟨_, rfl⟩
  have hbW2 : Below w.heap.size w W2 := by rw [← hW2]; exact ((Below.refl _ _).alloc (Nat.le_refl _) _).alloc (by simp) _
  rw [hW2, hcells, World.size_alloc] at hB1
  rw [hW2] at hB0
  have hdg : Digs W2 (Option.some ⟨w.heap.size + 1, 0, none⟩) (dg u) := by
    have h := (digs_of hB1).take (tzl [u % B, u / B] 2) (tzl_le _ _)
    have e := (tzl_dg hd).1
    rw [hv] at e
    rw [← e]; exact h
  have HT := Lib.hid (trim_dg (some ⟨w.heap.size + 1, 0, none⟩) 2 [u % B, u / B] W2 (digs_of hB1) hd (by simp) (by simp))
  rw [hv] at HT
  have HM := Lib.hid (fun V => make1_any (decide (n < 0)) (some ⟨w.heap.size + 1, 0, none⟩) (dg u).length 2 V (decide (n < 0)) HL.out (by simp at hdl; omega))
  unfold RetZ
  rw [hu]
  have HDL := Lib.hid hdl
  have HW2 := Lib.hid hW2
  have HND : Hid (∀ w', Digs w' (Option.some ⟨w.heap.size + 1, 0, none⟩) (dg u) → ND w' (Option.some ⟨w.heap.size + 1, 0, none⟩) 2 u) := Lib.hid (fun w' h => ND.some h hdl)
  obtain ⟨nl, hnl⟩ : ∃ nl, (dg u).length = nl := ⟨_, rfl⟩
  rw [hnl] at HT HM HL ⊢
  have hu64 : u < 18446744073709551616 := by omega
  have hw : ∃ v : Int, IntKind.u64.wrap n = v ∧ (n < 0 → IntKind.u64.wrap (-v) = (u : Int)) ∧ (¬ n < 0 → v = (u : Int)) := ⟨_, rfl, fun h => by rw [IntKind.wrap_u64, IntKind.wrap_u64]; omega, fun h => by rw [IntKind.wrap_u64]; omega⟩
  obtain ⟨v, w1, w2, w3⟩ := hw
  have hlast : ∀ W3 : World, Below W2.heap.size W2 W3 → ∀ q : Bool, q = decide (n < 0) → ∃ R c, Ending.returned (.agg #[.bool q, .slice (Option.some ⟨w.heap.size + 1, 0, none⟩) nl 2]) = .returned (.agg #[.bool (decide (n < 0)), .slice R nl c]) ∧ ND ((W3.setCell ⟨w.heap.size, 0, none⟩ (.bool q)).setCell ⟨w.heap.size, 1, none⟩ (.slice (Option.some ⟨w.heap.size + 1, 0, none⟩) nl 2)) R c u ∧ Below w.heap.size w ((W3.setCell ⟨w.heap.size, 0, none⟩ (.bool q)).setCell ⟨w.heap.size, 1, none⟩ (.slice (Option.some ⟨w.heap.size + 1, 0, none⟩) nl 2)) := fun W3 h q hq => by
    subst hq
    have hb0 := hB0.keep h hB0.lt
    have hd3 : ND W3 (Option.some ⟨w.heap.size + 1, 0, none⟩) 2 u := ND.some (hdg.keep h) hdl
    exact ⟨_, _, rfl, (hd3.far hb0 (by decide) _ _).far (hb0.set 0 _) (by decide) _ _, below_far (below_far (below_all hbW2 h) (Nat.le_refl _) _ _) (Nat.le_refl _) _ _⟩
  have HLS := Lib.hid hlast
  have HB0 := Lib.hid hB0
  clear hW2 hv hd hdl hnl hu huB hlast hB0 hB1 hcells hbW2
  by_cases hn : n < 0
  · have w4 := w2 hn
    have d1 : decide (n < 0) = true := decide_eq_true hn
    rw [d1] at HM HL HLS ⊢
    clear w2 w3
    go_enter Tryz.func47, Tryz.ntmps47
    go_wp2_with (fail)
    rw [HW2.out]
    refine HT.out.mono ?_
    rintro e _ ⟨rfl, rfl, hD⟩
    go_wp2_with (fail)
    refine (HM.out _).mono ?_
    rintro e W3 ⟨rfl, hb3⟩
    have hb0 := HB0.out.keep hb3 HB0.out.lt
    obtain ⟨k0, k1, k2, k3⟩ := hb0.two
    go_wp2
    exact bodyPost_ret (v := .agg #[.bool true, .slice (Option.some ⟨w.heap.size + 1, 0, none⟩) nl 2]) (by simp [results, Tryz.results47, go_sem, k0, k1]) rfl (HLS.out _ hb3 true rfl)
  · have w4 := w3 hn
    subst w4
    have d1 : decide (n < 0) = false := decide_eq_false hn
    rw [d1] at HM HL HLS ⊢
    clear w2 w3
    go_enter Tryz.func47, Tryz.ntmps47
    go_wp2_with (fail)
    rw [HW2.out]
    refine HT.out.mono ?_
    rintro e _ ⟨rfl, rfl, hD⟩
    go_wp2_with (fail)
    refine (HM.out _).mono ?_
    rintro e W3 ⟨rfl, hb3⟩
    have hb0 := HB0.out.keep hb3 HB0.out.lt
    obtain ⟨k0, k1, k2, k3⟩ := hb0.two
    go_wp2
    exact bodyPost_ret (v := .agg #[.bool false, .slice (Option.some ⟨w.heap.size + 1, 0, none⟩) nl 2]) (by simp [results, Tryz.results47, go_sem, k0, k1]) rfl (HLS.out _ hb3 false rfl)
end Go.Proofs.Tg
end
section
/- The harness's numbers: quotient and remainder with signs, any size. -/
namespace Go.Proofs.Tg
open Go.RowKit Go.Gr Go.Bn
set_option maxHeartbeats 4000000
set_option maxRecDepth 100000
theorem dg_sgn (b : Bool) (v : Nat) : (b && decide (0 < (dg v).length)) = (b && decide (v ≠ 0)) := by
  by_cases h : v = 0
  · subst h; rw [dg_zero]; simp
  · have := dg_len_pos.2 h
    simp [h, this]
def RetQn (p q : Bool) (a b : Nat) (w : World) (e : Ending) (w' : World) : Prop :=
  ∃ Q cq R cr, e = .returned (.tuple #[.agg #[.bool ((p != q) && decide (a / b ≠ 0)), .slice Q (dg (a / b)).length cq], .agg #[.bool (p && decide (a % b ≠ 0)), .slice R (dg (a % b)).length cr]]) ∧ ND w' Q cq (a / b) ∧ ND w' R cr (a % b) ∧ Below w.heap.size w w'
theorem quorem_num (p q : Bool) (A B : Option Addr) (c d a b : Nat) (w : World) (hA : ND w A c a) (hB : ND w B d b) (ha : (dg a).length ≤ 200000) (hb : b ≠ 0) (hd : DvOk b) :
    Calls Tryz.prog 78 #[.agg #[.bool p, .slice A (dg a).length c], .agg #[.bool q, .slice B (dg b).length d]] w (RetQn p q a b w) := by
  obtain ⟨na, hna⟩ : ∃ na, (dg a).length = na := ⟨_, rfl⟩
  obtain ⟨nb, hnb⟩ : ∃ nb, (dg b).length = nb := ⟨_, rfl⟩
  have HD : Hid (∀ W, Below w.heap.size w W → Calls Tryz.prog 115 #[.slice A na c, .slice B nb d] W (RetDM (a / b) (a % b) W)) := Lib.hid (fun W h => by
    rw [← hna, ← hnb]; exact dm_any A B c d a b W (hA.keep h) (hB.keep h) hb hd ha)
  rw [hna, hnb]
  unfold RetDM at HD
  unfold RetQn
  have hqs := fun bb => dg_sgn bb (a / b)
  have hrs := dg_sgn p (a % b)
  obtain ⟨s1, hs1⟩ : ∃ s1, ((p != q) && decide (a / b ≠ 0)) = s1 := ⟨_, rfl⟩
  rw [hs1]
  rw [← hqs] at hs1
  have l1 : (dg (a / b)).length ≤ 200000 := Nat.le_trans (dg_len_mono (Nat.div_le_self _ _)) ha
  have l2 : (dg (a % b)).length ≤ 200000 := Nat.le_trans (dg_len_mono (Nat.mod_le _ _)) ha
  rw [← hrs]
  clear hrs
  generalize a / b = qq at *
  generalize a % b = rr at *
  have HM1 : Hid (∀ W Q cq, Calls Tryz.prog 73 #[.bool (p != q), .slice Q (dg qq).length cq] W fun e w' => e = .returned (.agg #[.bool s1, .slice Q (dg qq).length cq]) ∧ Below W.heap.size W w') := Lib.hid (fun W Q cq => make1_any (p != q) Q (dg qq).length cq W s1 hs1 (by omega))
  obtain ⟨s2, hs2⟩ : ∃ s2, (p && decide (0 < (dg rr).length)) = s2 := ⟨_, rfl⟩
  rw [hs2]
  have HM2 : Hid (∀ W R cr, Calls Tryz.prog 73 #[.bool p, .slice R (dg rr).length cr] W fun e w' => e = .returned (.agg #[.bool s2, .slice R (dg rr).length cr]) ∧ Below W.heap.size W w') := Lib.hid (fun W Q cq => make1_any p Q (dg rr).length cq W s2 hs2 (by omega))
  obtain ⟨n1, hn1⟩ : ∃ n1, (dg qq).length = n1 := ⟨_, rfl⟩
  obtain ⟨n2, hn2⟩ : ∃ n2, (dg rr).length = n2 := ⟨_, rfl⟩
  rw [hn1, hn2] at HD
  rw [hn1] at HM1
  rw [hn2] at HM2
  rw [hn1, hn2]
  clear hqs hs1 hs2 hna hnb hn1 hn2 hA hB hd l1 l2 ha hb
  obtain ⟨W, hW⟩ : ∃ W, (((w.alloc (.cells #[.bool p, .slice A na c] 50)).alloc (.cells #[.bool q, .slice B nb d] 50)).alloc (.cells #[.bool false, .slice none 0 0] 50)).alloc (.cells #[.bool false, .slice none 0 0] 50) = W := ⟨_, rfl⟩
  have B0 : Blk W w.heap.size 50 #[.bool p, .slice A na c] := by rw [← hW]; exact (((Blk.new _ _ _).alloc _).alloc _).alloc _
  have B1 : Blk W (w.heap.size + 1) 50 #[.bool q, .slice B nb d] := by
    rw [← hW]; have := ((Blk.new (w.alloc (.cells #[.bool p, .slice A na c] 50)) 50 #[.bool q, .slice B nb d]).alloc (.cells #[.bool false, .slice none 0 0] 50)).alloc (.cells #[.bool false, .slice none 0 0] 50)
    simpa using this
  have B2 : Blk W (w.heap.size + 1 + 1) 50 #[.bool false, .slice none 0 0] := by
    rw [← hW]; have := (Blk.new ((w.alloc (.cells #[.bool p, .slice A na c] 50)).alloc (.cells #[.bool q, .slice B nb d] 50)) 50 #[.bool false, .slice none 0 0]).alloc (.cells #[.bool false, .slice none 0 0] 50)
    simpa using this
  have B3 : Blk W (w.heap.size + 1 + 1 + 1) 50 #[.bool false, .slice none 0 0] := by
    rw [← hW]; have := (Blk.new (((w.alloc (.cells #[.bool p, .slice A na c] 50)).alloc (.cells #[.bool q, .slice B nb d] 50)).alloc (.cells #[.bool false, .slice none 0 0] 50)) 50 #[.bool false, .slice none 0 0])
    simpa using this
  have hbW : Below w.heap.size w W := by rw [← hW]; exact ((((Below.refl _ _).alloc (Nat.le_refl _) _).alloc (by simp) _).alloc (by simp; omega) _).alloc (by simp; omega) _
  have hWs : W.heap.size = w.heap.size + 4 := by rw [← hW]; simp
  obtain ⟨a0, a1, _, _⟩ := B0.two
  obtain ⟨b0, b1, _, _⟩ := B1.two
  go_enter Tryz.func78, Tryz.ntmps78
  go_upto_region 1 with (fail)
  clear hW
  go_upto_region 2 with (go_at_call 115; refine (HD.out _ hbW).mono ?_; rintro e w2 ⟨Q, cq, R, cr, rfl, hQ, hR, hb2⟩)
  have C0 := B0.keep hb2 B0.lt
  have C1 := B1.keep hb2 B1.lt
  have C2 := B2.keep hb2 B2.lt
  have C3 := B3.keep hb2 B3.lt
  have hbe : Below w2.heap.size w2 w2.drew := (Below.refl _ _).drew
  have HM1' : Hid (∀ V, Below w2.heap.size w2 V → Calls Tryz.prog 73 #[.bool (!(p == q)), .slice Q n1 cq] V fun e w' => e = .returned (.agg #[.bool s1, .slice Q n1 cq]) ∧ Below w2.heap.size w2 w') := Lib.hid (fun V h => (HM1.out V Q cq).mono fun e w' ⟨x, y⟩ => ⟨x, below_all h y⟩)
  have HM2' : Hid (∀ V, Below w2.heap.size w2 V → Calls Tryz.prog 73 #[.bool p, .slice R n2 cr] V fun e w' => e = .returned (.agg #[.bool s2, .slice R n2 cr]) ∧ Below w2.heap.size w2 w') := Lib.hid (fun V h => (HM2.out V R cr).mono fun e w' ⟨x, y⟩ => ⟨x, below_all h y⟩)
  have hbw2 := below_all hbW hb2
  have HC2 := Lib.hid C2
  have HC3 := Lib.hid C3
  obtain ⟨e0, e1, _, _⟩ := C0.two
  obtain ⟨g0, g1, _, _⟩ := C1.two
  obtain ⟨i0, i1, i2, i3⟩ := C2.two
  obtain ⟨k0, k1, k2, k3⟩ := C3.two
  clear HM1 HM2 HD B0 B1 B2 B3 a0 a1 b0 b1 hb2 C2 C3
  have HC0 := Lib.hid C0
  have HC1 := Lib.hid C1
  clear C0 C1
  go_region_with
    (first
      | (go_at_call 73; with_reducible refine (HM1'.out _ (by assumption)).mono ?_; rintro e w' ⟨rfl, hbe⟩; have D0 := HC0.out.keep hbe HC0.out.lt; have D1 := HC1.out.keep hbe HC1.out.lt; obtain ⟨e0, e1, _, _⟩ := D0.two; obtain ⟨g0, g1, _, _⟩ := D1.two; have D2 := HC2.out.keep hbe HC2.out.lt; have D3 := HC3.out.keep hbe HC3.out.lt; obtain ⟨i0, i1, i2, i3⟩ := D2.two; obtain ⟨k0, k1, k2, k3⟩ := D3.two)
      | (go_at_call 73; with_reducible refine (HM2'.out _ (by assumption)).mono ?_; rintro e w' ⟨rfl, hbe⟩; have D0 := HC0.out.keep hbe HC0.out.lt; have D1 := HC1.out.keep hbe HC1.out.lt; obtain ⟨e0, e1, _, _⟩ := D0.two; obtain ⟨g0, g1, _, _⟩ := D1.two; have D2 := HC2.out.keep hbe HC2.out.lt; have D3 := HC3.out.keep hbe HC3.out.lt; obtain ⟨i0, i1, i2, i3⟩ := D2.two; obtain ⟨k0, k1, k2, k3⟩ := D3.two))
  all_goals
    go_wp2
    have hQ' : ND w' Q cq qq := hQ.keep hbe
    have hR' : ND w' R cr rr := hR.keep hbe
    refine bodyPost_ret (v := .tuple #[.agg #[.bool s1, .slice Q n1 cq], .agg #[.bool s2, .slice R n2 cr]]) (by simp [results, Tryz.results78, go_sem, i0, i1, k0, k1]) rfl ⟨Q, cq, R, cr, rfl, ?_, ?_, ?_⟩
    · exact (((hQ'.far D2 (by decide) _ _).far (D2.set _ _) (by decide) _ _).far ((D3.far (by simp) _).far (by simp) _) (by decide) _ _).far (((D3.far (by simp) _).far (by simp) _).set _ _) (by decide) _ _
    · exact (((hR'.far D2 (by decide) _ _).far (D2.set _ _) (by decide) _ _).far ((D3.far (by simp) _).far (by simp) _) (by decide) _ _).far (((D3.far (by simp) _).far (by simp) _).set _ _) (by decide) _ _
    · exact below_far (below_far (below_far (below_far (below_all hbw2 hbe) (by omega) _ _) (by omega) _ _) (by omega) _ _) (by omega) _ _
end Go.Proofs.Tg
end
