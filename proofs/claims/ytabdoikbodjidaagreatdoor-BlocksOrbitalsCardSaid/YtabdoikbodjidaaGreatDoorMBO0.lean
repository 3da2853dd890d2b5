/- Parts of the proof. -/
import Derived.BigQuiet
import Derived.Deep.RegionHeld
import Derived.Lib.Hide
import Derived.ProofKit
import Derived.Test.YtabdoikbodjidaaGreatDoorProg
import Derived.WalkLawsBesides
import Derived.WalkSpells
set_option maxHeartbeats 64000000
set_option maxRecDepth 100000
namespace Go
open RowKit
theorem eqx {α:Sort _}(a:α):∃x,a=x:=⟨a,rfl⟩
theorem jA:(∀(a:Act) (t:Tmp) (v:Value),a.put (some t) v={a with tmps:=a.tmps.setIfInBounds t v})/\(∀(l:List Value) (i:Nat) (v:Value),l.toArray.setIfInBounds i v=(l.set i v).toArray)/\(∀(x v:Value) (l:List Value),(x::l).set 0 v=v::l)/\(∀(x v:Value) (l:List Value) (i:Nat),(x::l).set (i+1) v=x::l.set i v):=
  ⟨λ_ _ _=>rfl,λ_ _ _=>by simp,λ_ _ _=>rfl,λ_ _ _ _=>rfl⟩
theorem zh {p:Prop}(h:p):Hid p:=Lib.hid h
theorem dT {p:Prop}[Decidable p](h:p):decide p=true:=decide_eq_true h
theorem dF {p:Prop}[Decidable p](h:¬p):decide p=false:=decide_eq_false h
theorem brf {n:Nat}{w:World}:Below n w w:=Below.refl _ _
theorem bal {w:World}{o:Obj}:Below w.heap.size w (w.alloc o):=(Below.refl _ _).alloc (Nat.le_refl _) _
theorem RowKit.Hid.o {p : Prop} (h : Hid p) : p := h
theorem Shut.o {p : Prop} (h : Shut p) : p := h
abbrev aA := @Nat.le_refl
abbrev aB := @List.getElem_mem
abbrev aC := @List.length_append
abbrev aD := @List.take_succ_eq_append_getElem
abbrev aE := @List.getD_eq_getElem?_getD
abbrev aF := @List.getElem?_eq_getElem
abbrev aG := @beq_eq_false_iff_ne
abbrev aH := @Nat.lt_of_lt_of_le
abbrev aI := @List.length_map
abbrev aJ := @if_neg
abbrev aK := @List.mem_append
abbrev aM := @List.mem_map
abbrev aN := @List.mem_singleton
abbrev aO := @Go.bodyPost_ret
abbrev aP := @Nat.pow_le_pow_right
abbrev aQ := @if_pos
abbrev aR := @Nat.le_trans
abbrev aS := @List.length_take
abbrev aT := @Nat.mul_comm
abbrev aU := @Int.natAbs_natCast
abbrev aV := @Nat.mul_assoc
abbrev aW := @Nat.zero_le
abbrev aX := @List.getElem?_eq_some_iff
abbrev aY := @Nat.mul_le_mul_right
abbrev aZ := @Nat.mul_add
abbrev bA := @List.mem_cons
abbrev bB := @Nat.lt_of_le_of_lt
abbrev bC := @List.getElem?_append_right
abbrev bD := @List.mem_range
abbrev bE := @Go.Calls.mono
abbrev bF := @List.take_of_length_le
abbrev bG := @List.drop_eq_getElem_cons
abbrev bH := @List.map_append
abbrev bI := @List.getElem_of_mem
abbrev bJ := @Nat.mul_le_mul_left
abbrev bK := @congrArg
abbrev bL := @Nat.mod_lt
abbrev bM := @Go.RowKit.Below.refl
abbrev bN := @Nat.zero_add
abbrev bO := @List.pairwise_iff_getElem
abbrev bP := @List.length_cons
abbrev bQ := @Go.World.block_lt_of_cell?
abbrev bR := @Go.World.cell?_setCell_other
abbrev bS := @Nat.pow_succ
abbrev bT := @List.range_succ
abbrev bU := @List.length_replicate
abbrev bV := @List.eq_nil_of_length_eq_zero
abbrev bW := @Nat.add_zero
abbrev bX := @eq_false
abbrev bY := @List.getElem?_append_left
abbrev bZ := @List.mem_append_left
abbrev cC := @Nat.eq_zero_or_pos
abbrev cE := @Nat.mul_le_mul
abbrev cF := @Nat.div_le_self
abbrev cJ := @List.append_assoc
abbrev cK := @List.getElem?_map
abbrev cM := @List.mem_filter
abbrev cP := @Nat.sub_self
abbrev cQ := @Nat.add_mul
abbrev cR := @Array.getElem?_eq_some_iff
abbrev cS := @List.drop_of_length_le
abbrev cT := @Nat.div_eq_of_lt
abbrev cU := @Nat.mod_eq_of_lt
abbrev cV := @eq_false_of_ne_true
abbrev cW := @Classical.byContradiction
abbrev cX := @List.set_append_right
abbrev cY := @List.take_append_drop
abbrev cZ := @List.length_drop
abbrev dA := @Nat.min_eq_left
abbrev dB := @List.nil_append
abbrev dC := @List.length_singleton
abbrev dD := @Nat.div_add_mod
abbrev dE := @Nat.two_pow_pos
abbrev dG := @Go.wp_region_held_drew
abbrev dH := @decide_eq_decide
abbrev dI := @Nat.mul_one
abbrev dJ := @List.ext_getElem
abbrev dK := @List.map_congr_left
abbrev dL := @List.set_cons_zero
abbrev dM := @Go.AllReadyH.nil
abbrev dN := @Nat.mul_zero
abbrev dO := @List.replicate_succ
abbrev dP := @List.getElem_map
abbrev dQ := @of_decide_eq_true
abbrev dR := @Go.World.ownsRow_nil
abbrev dS := @List.length_range
abbrev dU := @List.pairwise_map
abbrev dV := @Nat.div_lt_of_lt_mul
abbrev dX := @Go.RowKit.Below.alloc
abbrev dY := @Int.toNat_natCast
abbrev dZ := @Nat.mul_left_comm
abbrev eA := @List.append_nil
abbrev eB := @List.getElem?_toArray
abbrev eC := @Nat.div_lt_iff_lt_mul
abbrev eD := @Nat.dvd_mul_left
abbrev eE := @List.take_length
abbrev eF := @List.mem_append_right
abbrev eG := @Nat.pos_of_ne_zero
abbrev eH := @List.not_mem_nil
abbrev eI := @List.getElem?_eq_none
abbrev eJ := @Nat.div_div_eq_div_mul
abbrev eK := @Nat.pow_pos
abbrev eL := @List.nodup_append
abbrev eM := @Nat.le_of_lt
abbrev eN := @Nat.lt_or_ge
abbrev eP := @Nat.lt_of_mul_lt_mul_right
abbrev eQ := @List.takeWhile_append_dropWhile
abbrev eR := @List.foldl_append
abbrev eS := @List.mem_of_mem_take
abbrev eU := @Nat.pow_add
abbrev eV := @Nat.succ_mul
abbrev eW := @Go.wpList_plain
abbrev eX := @Nat.mul_add_div
abbrev eY := @List.getElem_append_left
abbrev eZ := @Go.RowKit.Below.heap_setCell
abbrev fA := @Int.natAbs_mul
abbrev fB := @List.flatMap_cons
abbrev fC := @Go.AllReadyH.cons
abbrev fD := @Go.wpAnyH_done
abbrev fE := @List.replicate_zero
abbrev fF := @List.length_pos_iff
abbrev fG := @Nat.mul_add_mod
abbrev fH := @List.map_cons
abbrev fI := @Nat.gcd_pos_of_pos_right
abbrev fJ := @Nat.one_mul
abbrev fK := @List.nodup_cons
abbrev fL := @Nat.lt_of_mul_lt_mul_left
abbrev fM := @Nat.pos_iff_ne_zero
abbrev fN := @Nat.gcd_comm
abbrev fO := @List.eq_of_mem_replicate
abbrev fP := @List.mem_cons_of_mem
abbrev fQ := @Nat.add_assoc
abbrev fR := @Go.wpList_append_own
abbrev fS := @Nat.gcd_one_right
abbrev fT := @List.setIfInBounds_toArray
abbrev fU := @List.getElem?_take
abbrev fV := @Nat.div_one
abbrev fW := @Nat.dvd_trans
abbrev fX := @List.replicate_succ'
abbrev fY := @beq_iff_eq
abbrev fZ := @List.flatMap_append
abbrev gC := @Nat.add_comm
abbrev gD := @List.length_set
abbrev gE := @Nat.mod_add_div
abbrev gF := @Go.size_madeCells
abbrev gG := @Option.some.injEq
abbrev gH := @Nat.add_mul_div_left
abbrev gI := @Nat.add_mul_mod_self_left
abbrev gJ := @List.getElem?_take_of_lt
abbrev gK := @Array.getElem?_toList
abbrev gM := @Array.getElem?_modify
abbrev gP := @Nat.mul_lt_mul_of_pos_right
abbrev gQ := @Nat.sub_zero
abbrev gR := @decide_eq_true_iff
abbrev gS := @List.drop_zero
abbrev gU := @Array.size_replicate
abbrev gV := @List.mem_or_eq_of_mem_set
abbrev gW := @List.mem_map_of_mem
abbrev gX := @Nat.pow_le_pow_left
abbrev gY := @List.drop_append_of_le_length
abbrev gZ := @Option.map_some
abbrev iA := @of_decide_eq_false
abbrev iB := @List.getElem?_drop
abbrev iC := @or_false
abbrev iD := @List.getElem?_replicate
abbrev iE := @Nat.gcd_le_right
abbrev iF := @Nat.and_le_right
abbrev iG := @Int.ofNat_tdiv
abbrev iH := @Nat.mul_lt_mul_of_pos_left
abbrev iI := @Go.run_firstCells_some
abbrev iJ := @Nat.mul_pos
abbrev iK := @Nat.div_lt_self
abbrev iM := @Go.grownCap_le_maxLen
abbrev iN := @List.drop_length
abbrev iO := @Go.wpAnyH_ready
abbrev iP := @List.mem_of_mem_drop
abbrev iQ := @Nat.add_sub_cancel_left
abbrev iR := @Int.natCast_add
abbrev iS := @Int.natCast_mul
abbrev iT := @UInt8.toNat_inj
abbrev iU := @Nat.two_pow_add_eq_or_of_lt
abbrev iV := @Nat.le_add_right
abbrev iW := @Nat.add_sub_cancel
abbrev iX := @List.drop_drop
abbrev iY := @Nat.gcd_zero_right
abbrev iZ := @Go.growslice_fits
abbrev jB := @Nat.mul_mod_mul_right
abbrev jC := @Array.getElem?_eq_getElem
abbrev jD := @Nat.pow_zero
abbrev jE := @Nat.gcd_dvd_right
abbrev jF := @List.flatten_append
abbrev jG := @Array.length_toList
abbrev jH := @List.cons_append
abbrev jI := @Nat.le_mul_of_pos_right
abbrev jJ := @Nat.gcd_dvd_left
abbrev jK := @Nat.mul_div_cancel_left
abbrev jL := @Go.wp_region_list
abbrev jM := @Go.grownCap_ge
abbrev jN := @List.drop_eq_nil_of_le
abbrev jO := @Nat.le_add_left
abbrev jP := @dif_pos
abbrev jQ := @List.map_take
abbrev jR := @List.map_drop
end Go
namespace Go.Proofs.Tg
open Go.RowKit

theorem kK (a:Addr)(n:Nat):(a.add n).block=a.block:=by unfold Addr.add;split<;>rfl
theorem aGu (a:Addr)(i j:Nat):(a.add i).add j=a.add (i+j):=by
 unfold Addr.add
 by_cases hi:i=0<;>by_cases hj:j=0<;>simp[hi,hj,fQ]
theorem kI (b o j:Nat):(⟨b,o,none⟩:Addr).add j=⟨b,o+j,none⟩:=by
 unfold Addr.add
 by_cases hj:j=0<;>simp[hj]

def At (w:World)(ad:Addr)(xs:List Value):Prop:=∀j u,xs[j]?=some u->w.cell? (ad.add j)=some u
structure Sl (w:World)(A:Option Addr)(n sz:Nat)(xs:List Value):Prop where
  len:xs.length=n*sz
  lies:0<n->∃ad,A=some ad/\ad.block<w.heap.size/\At w ad xs

theorem At.keep {w w':World}{ad:Addr}{xs:List Value}{B:Nat}(h:At w ad xs)(hb:Below B w w')(hB:ad.block<B):At w' ad xs:=
  λj u hu=>(hb.cell (p:=ad.add j) (by rw[kK];exact hB)).trans (h j u hu)
theorem Sl.keep {w w':World}{A:Option Addr}{n sz:Nat}{xs:List Value}(h:Sl w A n sz xs)(hb:Below w.heap.size w w'):Sl w' A n sz xs:=
  ⟨h.len,λhn=>by
   obtain⟨ad,e,hl,ha⟩:=h.lies hn
   exact⟨ad,e,aH hl hb.size,ha.keep hb hl⟩⟩
theorem Sl.drewN {w:World}{A:Option Addr}{n sz:Nat}{xs:List Value}(h:Sl w A n sz xs)(k:Nat):Sl (w.drewN k) A n sz xs:=⟨h.len,h.lies⟩
theorem Sl.nil (w:World)(A:Option Addr)(sz:Nat):Sl w A 0 sz []:=⟨by simp,λh=>absurd h (by omega)⟩
theorem Sl.at1 {w:World}{A:Option Addr}{n:Nat}{xs:List Value}(h:Sl w A n 1 xs){k:Nat}(hk:k<n):∃ad,A=some ad/\w.cell? (ad.add k)=some (xs[k]'(by have:=h.len;omega)):=by
 obtain⟨ad,rfl,_,hc⟩:=h.lies (by omega)
 exact⟨ad,rfl,hc k _ (aF _)⟩
theorem Sl.of_own {w:World}{base:Nat}{e:TypeId}{sz n:Nat}{v:Value}{xs:List Value}(h:w.ownsRow base e sz v n xs):∃A c,v=.slice A n c/\n<=c/\Sl w A n sz xs:=by
 rcases h.2 with⟨rfl,rfl⟩|⟨g,cap,cur,rfl,hb,hg,hn,_,_,_⟩
 ·have hx:xs=[]:=bV (by simpa using h.1)
  subst hx;exact⟨none,0,rfl,aA _,Sl.nil _ _ _⟩
 refine⟨_,_,rfl,hn,h.1,λ_=>⟨_,rfl,?_,h.cells (g:=g) rfl⟩⟩
 exact(cR.1 hg).1
def aPG (n sz:Nat)(xs:List Value)(w:World)(e:Ending)(w':World):Prop:=
  ∃A c,e=.returned (.slice A n c)/\n<=c/\Sl w' A n sz xs/\Below w.heap.size w w'
theorem Sl.own {w:World}{base:Nat}{t:TypeId}{sz n c:Nat}{A:Option Addr}{xs:List Value}(h:w.ownsRow base t sz (.slice A n c) n xs):Sl w A n sz xs:=by
 obtain⟨A',c',hv,_,hS⟩:=Sl.of_own h
 injection hv with h1 h2 h3
 subst h1
 exact hS
theorem tY {w:World}{b b':Nat}{t t':TypeId}{sz sz' n n':Nat}{v v':Value}{xs xs':List Value}(h:w.ownsRow b t sz v n xs)(h':w.ownsRow b' t' sz' v' n' xs')(hne:t≠t'):
    v.ownBlock=none∨v.ownBlock≠v'.ownBlock:=by
  rcases h.2 with⟨rfl,_⟩|⟨g,cap,cur,rfl,_,hg,_⟩
  ·exact .inl rfl
  refine .inr ?_
  rcases h'.2 with⟨rfl,_⟩|⟨g',cap',cur',rfl,_,hg',_⟩
  ·simp[Value.ownBlock]
  intro e
  have:g=g':=by simpa[Value.ownBlock]using e
  subst this;rw[hg]at hg'
  injection hg' with hg'
  injection hg' with _ ht
  exact hne ht
def vi (x:Int):Value:=.int .i64 x
def vn (x:Nat):Value:=.int .i64 x
def vs (x:Nat):Value:=.int .u64 x
abbrev kP (w:World)(A:Option Addr)(xs:List Int):Prop:=Sl w A xs.length 1 (xs.map vi)
abbrev lU (w:World)(A:Option Addr)(xs:List Nat):Prop:=Sl w A xs.length 1 (xs.map vs)
theorem kP.at {w:World}{A:Option Addr}{xs:List Int}(h:kP w A xs){k:Nat}(hk:k<xs.length):∃ad,A=some ad/\w.cell? (ad.add k)=some (.int .i64 xs[k]):=by
 obtain⟨ad,rfl,hc⟩:=Sl.at1 h hk
 exact⟨ad,rfl,by simpa[vi]using hc⟩
theorem lU.at {w:World}{A:Option Addr}{xs:List Nat}(h:lU w A xs){k:Nat}(hk:k<xs.length):∃ad,A=some ad/\w.cell? (ad.add k)=some (.int .u64 (xs[k]:Nat)):=by
 obtain⟨ad,rfl,hc⟩:=Sl.at1 h hk
 exact⟨ad,rfl,by simpa[vs]using hc⟩

def Blk (w:World)(g:Nat)(t:TypeId)(cs:Array Value):Prop:=w.heap[g]?=some (.cells cs t (0,0))
theorem Blk.lt {w:World}{g:Nat}{t:TypeId}{cs:Array Value}(h:Blk w g t cs):g<w.heap.size:=(cR.1 h).1
theorem Blk.cell {w:World}{g:Nat}{t:TypeId}{cs:Array Value}(h:Blk w g t cs)(i:Nat):w.cell? ⟨g,i,none⟩=cs[i]?:=cell_of_row w g i cs t (0,0) h
theorem Blk.frozen {w:World}{g:Nat}{t:TypeId}{cs:Array Value}(h:Blk w g t cs)(i:Nat):w.frozen? ⟨g,i,none⟩=false:=by
 unfold Blk at h
 simp[World.frozen?,h]
theorem kQ {w:World}{b g:Nat}{t t':TypeId}{sz n:Nat}{v:Value}{xs:List Value}{cs:Array Value}(h:w.ownsRow b t sz v n xs)(hg:Blk w g t' cs)(hne:t≠t'):some g≠v.ownBlock:=by
 rcases h.2 with⟨rfl,_⟩|⟨g',cap,cur,rfl,_,hh,_⟩
 ·simp[Value.ownBlock]
 intro e
 have:g=g':=by simpa[Value.ownBlock]using e
 subst this;unfold Blk at hg;rw[hh]at hg
 injection hg with hg
 injection hg with _ ht
 exact hne ht
theorem Blk.keep {w w':World}{g:Nat}{t:TypeId}{cs:Array Value}{B:Nat}(h:Blk w g t cs)(hb:Below B w w')(hg:g<B):Blk w' g t cs:=(hb.block g hg).trans h
theorem Blk.grown {w w':World}{g:Nat}{t:TypeId}{cs:Array Value}{row:Option Nat}(h:Blk w g t cs)(hb:w.grownBy w' row)(hg:some g≠row):Blk w' g t cs:=(hb.block g h.lt hg).trans h
theorem Blk.alloc {w:World}{g:Nat}{t:TypeId}{cs:Array Value}(h:Blk w g t cs)(o:Obj):Blk (w.alloc o) g t cs:=(Below.heap_alloc w o g h.lt).trans h
theorem Blk.drew {w:World}{g:Nat}{t:TypeId}{cs:Array Value}(h:Blk w g t cs):Blk w.drew g t cs:=h
theorem Blk.new (w:World)(t:TypeId)(cs:Array Value):Blk (w.alloc (.cells cs t)) w.heap.size t cs:=heap_alloc_new w _
theorem Blk.set {w:World}{g:Nat}{t:TypeId}{cs:Array Value}(h:Blk w g t cs)(i:Nat)(u:Value):Blk (w.setCell ⟨g,i,none⟩ u) g t (cs.setIfInBounds i u):=by
 unfold Blk at h ⊢
 simp[World.setCell,gM,h]
theorem Blk.far {w:World}{g:Nat}{t:TypeId}{cs:Array Value}(h:Blk w g t cs){p:Addr}(hp:g≠p.block)(u:Value):Blk (w.setCell p u) g t cs:=(eZ w p u g hp).trans h
theorem kL {w w':World}{b B:Nat}{t:TypeId}{sz n:Nat}{v:Value}{xs:List Value}(h:w.ownsRow b t sz v n xs)(hb:Below B w w')(hB:w.heap.size<=B):w'.ownsRow b t sz v n xs:=
  h.kept (row:=none) ⟨hb.os,hb.tape,hb.output,hb.size,λk hk _=>hb.block k (by omega)⟩ (by cases hv:v.ownBlock<;>simp)
theorem pE {w:World}{b:Nat}{t:TypeId}{sz n:Nat}{v:Value}{xs:List Value}(h:w.ownsRow b t sz v n xs){p:Addr}(hp:some p.block≠v.ownBlock)(u:Value):(w.setCell p u).ownsRow b t sz v n xs:=
  h.kept (row:=some p.block) ⟨rfl,rfl,rfl,by simp[World.setCell],λk _ hk=>eZ w p u k (λe=>hk (by rw[e]))⟩ (by cases hv:v.ownBlock<;>simp_all;exact λe=>hp e.symm)
theorem pJ {w:World}{b b':Nat}{t:TypeId}{sz n:Nat}{v:Value}{xs:List Value}(h:w.ownsRow b t sz v n xs)(hb:b'<=b):w.ownsRow b' t sz v n xs:=by
 refine⟨h.1,?_⟩
 rcases h.2 with h2|⟨g,cap,cur,hv,hg,r⟩
 ·exact .inl h2
 exact .inr ⟨g,cap,cur,hv,aR hb hg,r⟩
theorem jX {B:Nat}{a w:World}(h:Below B a w)(n:Nat):Below B a (w.drewN n):=⟨h.os,h.tape,h.output,h.size,h.block⟩
theorem gL {W w':World}(hb:Below W.heap.size W w'){p:Addr}{v:Value}(h:W.cell? p=some v):w'.cell? p=some v:=(hb.cell (bQ W p h)).trans h
theorem oG {W:World}{p:Addr}{v:Value}(h:W.cell? p=some v)(o:Obj):(W.alloc o).cell? p=some v:=(World.cell?_alloc_lt W o p (bQ W p h)).trans h
theorem aBa {B n:Nat}{w w':World}(h:Below B (w.drewN n) w'):Below B w w':=⟨h.os,h.tape,h.output,h.size,h.block⟩
theorem dW {a w w':World}(h:Below a.heap.size a w)(k:Below w.heap.size w w'):Below a.heap.size a w':=h.trans (k.mono h.size)
theorem Sl.put {w:World}{A:Option Addr}{n sz:Nat}{xs:List Value}(h:Sl w A n sz xs){p:Addr}{v:Value}(hp:w.cell? p=some v)(hv:v∉xs)(u:Value):Sl (w.setCell p u) A n sz xs:=
  ⟨h.len,λhn=>by
   obtain⟨ad,e,hl,ha⟩:=h.lies hn;refine⟨ad,e,by simpa[World.setCell]using hl,λj x hx=>?_⟩;have hj:=ha j x hx
   have hne:p≠ad.add j:=by
    rintro rfl;rw[hp]at hj
    injection hj with hj
    subst hj;exact hv (List.mem_of_getElem? hx)
   rw[bR _ _ _ _ hne]
   exact hj⟩
theorem aDN {P:Program}{f:FuncId}{args:Array Value}{w:World}{n:Nat}{v:Value}(h:Calls P f args (w.drewN n) λe w'=>e=.returned v/\w.drewN n=w'):
    Calls P f args (w.drewN n) λe w''=>e=.returned v/\∃m,w''=w.drewN m:=h.mono λ_ _ ⟨he,hm⟩=>⟨he,n,hm.symm⟩
theorem Blk.two {w:World}{g:Nat}{t:TypeId}{a b:Value}(h:Blk w g t #[a,b]):w.cell? ⟨g,0,none⟩=some a/\w.cell? ⟨g,1,none⟩=some b/\w.frozen? ⟨g,0,none⟩=false/\w.frozen? ⟨g,1,none⟩=false:=
  ⟨h.cell 0,h.cell 1,h.frozen 0,h.frozen 1⟩
theorem Blk.three {w:World}{g:Nat}{t:TypeId}{a b c:Value}(h:Blk w g t #[a,b,c]):w.cell? ⟨g,0,none⟩=some a/\w.cell? ⟨g,1,none⟩=some b/\w.cell? ⟨g,2,none⟩=some c/\w.frozen? ⟨g,0,none⟩=false/\w.frozen? ⟨g,1,none⟩=false/\w.frozen? ⟨g,2,none⟩=false:=
  ⟨h.cell 0,h.cell 1,h.cell 2,h.frozen 0,h.frozen 1,h.frozen 2⟩
theorem Blk.four {w:World}{g:Nat}{t:TypeId}{a b c d:Value}(h:Blk w g t #[a,b,c,d]):w.cell? ⟨g,0,none⟩=some a/\w.cell? ⟨g,1,none⟩=some b/\w.cell? ⟨g,2,none⟩=some c/\w.cell? ⟨g,3,none⟩=some d/\
    w.frozen? ⟨g,0,none⟩=false/\w.frozen? ⟨g,1,none⟩=false/\w.frozen? ⟨g,2,none⟩=false/\w.frozen? ⟨g,3,none⟩=false:=
  ⟨h.cell 0,h.cell 1,h.cell 2,h.cell 3,h.frozen 0,h.frozen 1,h.frozen 2,h.frozen 3⟩
def Off (A:Option Addr)(n g:Nat):Prop:=0<n->∀ad,A=some ad->ad.block≠g
theorem Sl.off {w:World}{A:Option Addr}{n sz g:Nat}{t:TypeId}{xs:List Value}{cs:Array Value}(h:Sl w A n sz xs)(hsz:0<sz)(B:Blk w g t cs)(hd:∀v∈cs.toList,v∉xs):Off A n g:=by
 intro hn ad he hg
 obtain⟨ad',e,_,ha⟩:=h.lies hn
 rw[he]at e
 injection e with e
 subst e
 have hl:0<xs.length:=by rw[h.len];exact iJ hn hsz
 have hc:=ha 0 xs[0] (aF hl)
 have hb:(ad.add 0).block=g:=by rw[kK];exact hg
 unfold Blk at B
 unfold World.cell? at hc
 rw[hb,B]at hc
 simp only at hc
 split at hc
 ·cases hc
 have:=Array.mem_of_getElem? hc
 exact hd _ (by simpa using this) (aB hl)
theorem Sl.far {w:World}{A:Option Addr}{n sz g:Nat}{xs:List Value}(h:Sl w A n sz xs)(ho:Off A n g)(i:Nat)(u:Value):Sl (w.setCell ⟨g,i,none⟩ u) A n sz xs:=
  ⟨h.len,λhn=>by
   obtain⟨ad,e,hl,ha⟩:=h.lies hn;refine⟨ad,e,by simpa[World.setCell]using hl,λj x hx=>?_⟩;rw[bR _ _ _ _ (λe'=>ho hn ad e (by rw[<-kK ad j,<-e']))]
   exact ha j x hx⟩
theorem hJ {w w':World}{B g:Nat}(h:Below B w w')(hg:B<=g)(i:Nat)(u:Value):Below B w (w'.setCell ⟨g,i,none⟩ u):=h.setCell hg u
end Go.Proofs.Tg
section
namespace Go.Gr
def sN (a b:Int):Int:=if a<b then -1 else if b<a then 1 else 0
end Go.Gr
namespace Go.Proofs.Tg
open Go.RowKit Go.Gr
def jV (w:World)(V:Option Addr)(ls:List (List Int)):Prop:=
  ∃f:Nat->Option Addr×Nat,Sl w V ls.length 1 ((List.range ls.length).map λi=>.slice (f i).1 (ls.getD i []).length (f i).2)/\∀i,i<ls.length->kP w (f i).1 (ls.getD i [])
theorem jV.keep {w w':World}{V:Option Addr}{ls:List (List Int)}(h:jV w V ls)(hb:Below w.heap.size w w'):jV w' V ls:=by
 obtain⟨f,hs,hr⟩:=h
 exact⟨f,hs.keep hb,λi hi=>(hr i hi).keep hb⟩
theorem jV.at {w:World}{V:Option Addr}{ls:List (List Int)}(h:jV w V ls){k:Nat}(hk:k<ls.length):∃ad A c,V=some ad/\w.cell? (ad.add k)=some (.slice A ls[k].length c)/\kP w A ls[k]:=by
 obtain⟨f,hs,hr⟩:=h
 obtain⟨ad,rfl,hc⟩:=Sl.at1 hs hk
 have e:ls.getD k []=ls[k]:=by simp[hk]
 have hi:=hr k hk
 rw[e]at hi
 refine⟨ad,(f k).1,(f k).2,rfl,?_,hi⟩
 rw[hc]
 simp[hk]
def kU (l:List Int):Array Value:=(l.map vi).toArray
theorem mD (n:Nat):madeCells #[.int .i64 0] n=kU (List.replicate n 0):=by
 apply Array.ext
 ·simp[kU,gF]
 intro i h1 h2
 simp[madeCells,kU,vi,Nat.mod_one]
theorem nL (l:List Int)(k:Nat)(s:Int):(kU l).setIfInBounds k (.int .i64 s)=kU (l.set k s):=by
 simp[kU,List.map_set,vi]
theorem nW (l:List Int){k:Nat}(hk:k<l.length):(kU l)[k]?=some (.int .i64 l[k]):=by simp[kU,hk,vi]
theorem aLF {w:World}{b g n:Nat}{l:List Int}(h:Blk w g 3 (kU l))(hb:b<=g)(hn:l.length=n)(hm:n<=1000000):w.ownsRow b 3 1 (.slice (some ⟨g,0,none⟩) n n) n (l.map vi):=
  ⟨by simp[hn],.inr ⟨g,n,_,rfl,hb,h,aA _,by simp only[maxLen];omega,by simp[kU,hn],by rw[<-hn];simp only[kU,dI];exact bF (by simp)⟩⟩
theorem sW (a:Int)(w:World):Calls Tryz.prog 117 #[.int .i64 a] w λe w'=>e=.returned (.bool false)/\w=w':=by
 go_enter Tryz.func117,Tryz.ntmps117
 go_wp2
 go_ret
 exact⟨by simp,rfl⟩
theorem aCt (a b:Int)(w:World):Calls Tryz.prog 66 #[.int .i64 a,.int .i64 b] w λe w'=>e=.returned (.int .i64 (sN a b))/\w=w':=by
 by_cases h1:a<b
 ·have e:sN a b=-1:=by unfold sN;rw[aQ h1]
  rw[e];clear e;go_enter Tryz.func66,Tryz.ntmps66
  go_wp2_with (go_at_call 117;refine(sW _ _).mono ?_;rintro e w' ⟨rfl,rfl⟩)
  go_ret;exact⟨rfl,rfl⟩
 by_cases h2:b<a
 ·have e:sN a b=1:=by unfold sN;rw[aJ h1,aQ h2]
  rw[e];clear e;go_enter Tryz.func66,Tryz.ntmps66
  go_wp2_with (go_at_call 117;refine(sW _ _).mono ?_;rintro e w' ⟨rfl,rfl⟩)
  go_ret;exact⟨rfl,rfl⟩
 have e:sN a b=0:=by unfold sN;rw[aJ h1,aJ h2]
 rw[e];clear e;go_enter Tryz.func66,Tryz.ntmps66
 go_wp2_with (go_at_call 117;refine(sW _ _).mono ?_;rintro e w' ⟨rfl,rfl⟩)
 go_ret;exact⟨rfl,rfl⟩
def Dr (w w':World):Prop:=∃n,w'=w.drewN n
theorem Dr.refl (w:World):Dr w w:=⟨0,rfl⟩
theorem Dr.below {w w':World}(h:Dr w w'):Below w.heap.size w w':=by
 obtain⟨n,rfl⟩:=h
 exact jX brf n
theorem Dr.drewN {w w':World}(h:Dr w w')(k:Nat):Dr w (w'.drewN k):=by
 obtain⟨n,rfl⟩:=h
 exact⟨n+k,by rw[World.drewN_drewN]⟩
theorem aLG (A B:Option Addr)(xs ys:List Int)(c d:Nat)(w:World)(hx:kP w A xs)(hy:kP w B ys)(hn:xs.length<=1000000):
    Calls Tryz.prog 47 #[.slice A xs.length c,.slice B ys.length d] w λe w'=>e=.returned (.bool (decide (xs=ys)))/\Dr w w':=by
  by_cases hl:xs.length=ys.length
  ·have hb:((xs.length:Int)!=(ys.length:Int))=false:=by simp[hl]
   have HL:=zh hl;clear hl;go_enter Tryz.func47,Tryz.ntmps47;go_wp2
   go_loopw [5] (λi wr=>∃k:Nat,k<=xs.length/\i=.int .i64 k/\Hid (xs.take k=ys.take k)/\Dr w wr) (λi _=>xs.length-(intOf i).toNat)
   case atStart=>exact⟨0,aW _,rfl,zh (by simp),Dr.refl _⟩
   case round=>
    obtain⟨k,hk,rfl,HT,hbw⟩:=hrel
    by_cases hlt:k<xs.length
    ·have hky:k<ys.length:=by have:=HL.o;omega
     obtain⟨ad,rfl,hc⟩:=kP.at (hx.keep hbw.below) hlt;obtain⟨bd,rfl,hd⟩:=kP.at (hy.keep hbw.below) hky;have HX:Hid (xs.take (k+1)=xs.take k++[xs[k]]):=zh (aD hlt);have HY:Hid (ys.take (k+1)=ys.take k++[ys[k]]):=zh (aD hky);have HNE:Hid (xs=ys->xs[k]=ys[k]):=zh (λe=>by subst e;rfl);clear hx hy;generalize xs[k]=x at hc HX HNE;generalize ys[k]=y at hd HY HNE
     by_cases heq:x=y
     ·have hbb:(x !=y)=false:=by simp[heq]
      have HE:=zh heq;clear heq;go_wp2
      go_quiet (fail)
      go_wp2;go_roundw
      case rel=>exact⟨k+1,by omega,by go_num,zh (by rw[HX.o,HY.o,HT.o,HE.o]),hbw.drewN _⟩
      case measure=>simp[intOf];omega
     have hbb:(x !=y)=true:=by simp[heq]
     have HF:Hid (decide (xs=ys)=false):=zh (dF (λe=>heq (HNE.o e)));clear heq;go_wp2
     go_quiet (fail)
     go_wp2;go_ret;exact⟨by rw[HF.o];rfl,hbw.drewN _⟩
    have HF:Hid (decide (xs=ys)=true):=zh (dT (by
     have:=HT.o
     rwa [bF (by omega),bF (by have:=HL.o;omega)]at this))
    go_wp2;go_ret;exact⟨by rw[HF.o];rfl,hbw⟩
  have hb:((xs.length:Int)!=(ys.length:Int))=true:=by simp;omega
  have HF:Hid (decide (xs=ys)=false):=zh (dF (λe=>hl (by rw[e])));clear hl;go_enter Tryz.func47,Tryz.ntmps47;go_wp2;go_ret;exact⟨by rw[HF.o];rfl,Dr.refl _⟩
theorem aIr (A B:Option Addr)(xs ys:List (List Int))(c d:Nat)(w:World)(hx:jV w A xs)(hy:jV w B ys)(hn:xs.length<=1000000)(hi:∀l∈xs,l.length<=1000000):
    Calls Tryz.prog 19 #[.slice A xs.length c,.slice B ys.length d] w λe w'=>e=.returned (.bool (decide (xs=ys)))/\Dr w w':=by
  have HI:=zh hi;clear hi
  by_cases hl:xs.length=ys.length
  ·have hb:((xs.length:Int)!=(ys.length:Int))=false:=by simp[hl]
   have HL:=zh hl;clear hl;go_enter Tryz.func19,Tryz.ntmps19;go_wp2
   go_loopw [5] (λi wr=>∃k:Nat,k<=xs.length/\i=.int .i64 k/\Hid (xs.take k=ys.take k)/\Dr w wr) (λi _=>xs.length-(intOf i).toNat)
   case atStart=>exact⟨0,aW _,rfl,zh (by simp),Dr.refl _⟩
   case round=>
    obtain⟨k,hk,rfl,HT,hbw⟩:=hrel
    by_cases hlt:k<xs.length
    ·have hky:k<ys.length:=by have:=HL.o;omega
     obtain⟨ad,A1,c1,rfl,hc,hA1⟩:=jV.at (hx.keep hbw.below) hlt;obtain⟨bd,B1,d1,rfl,hd,hB1⟩:=jV.at (hy.keep hbw.below) hky;have HX:Hid (xs.take (k+1)=xs.take k++[xs[k]]):=zh (aD hlt);have HY:Hid (ys.take (k+1)=ys.take k++[ys[k]]):=zh (aD hky);have HNE:Hid (xs=ys->xs[k]=ys[k]):=zh (λe=>by subst e;rfl);have hlen:=HI.o xs[k] (aB _);clear hx hy;generalize xs[k]=x at hc HX HNE hA1 hlen;generalize ys[k]=y at hd HY HNE hB1
     have hq:=λW (h:Dr wr W)=>aLG A1 B1 x y c1 d1 W (hA1.keep h.below) (hB1.keep h.below) hlen
     by_cases heq:x=y
     ·have HQ:Hid (∀W,Dr wr W->Calls Tryz.prog 47 #[.slice A1 x.length c1,.slice B1 y.length d1] W λe w'=>e=.returned (.bool true)/\∃m,w'=W.drewN m):=zh (λW h=>(hq W h).mono λe w' h2=>⟨by rw[h2.1,dT heq],h2.2⟩);have HE:=zh heq;clear heq hq;go_wp2
      go_quiet ((go_at_call 47;exact Calls.quiet_of (HQ.o _ ⟨_,rfl⟩)))
      go_wp2;go_roundw
      case rel=>exact⟨k+1,by omega,by go_num,zh (by rw[HX.o,HY.o,HT.o,HE.o]),hbw.drewN _⟩
      case measure=>simp[intOf];omega
     have HF:Hid (decide (xs=ys)=false):=zh (dF (λe=>heq (HNE.o e)));have HQ:Hid (∀W,Dr wr W->Calls Tryz.prog 47 #[.slice A1 x.length c1,.slice B1 y.length d1] W λe w'=>e=.returned (.bool false)/\∃m,w'=W.drewN m):=zh (λW h=>(hq W h).mono λe w' h2=>⟨by rw[h2.1,dF heq],h2.2⟩);clear heq hq;go_wp2
     go_quiet ((go_at_call 47;exact Calls.quiet_of (HQ.o _ ⟨_,rfl⟩)))
     go_wp2;go_ret;exact⟨by rw[HF.o];rfl,hbw.drewN _⟩
    have HF:Hid (decide (xs=ys)=true):=zh (dT (by
     have:=HT.o
     rwa [bF (by omega),bF (by have:=HL.o;omega)]at this))
    go_wp2;go_ret;exact⟨by rw[HF.o];rfl,hbw⟩
  have hb:((xs.length:Int)!=(ys.length:Int))=true:=by simp;omega
  have HF:Hid (decide (xs=ys)=false):=zh (dF (λe=>hl (by rw[e])));clear hl;go_enter Tryz.func19,Tryz.ntmps19;go_wp2;go_ret;exact⟨by rw[HF.o];rfl,Dr.refl _⟩
end Go.Proofs.Tg
end
namespace Go.Gr

theorem aHg (k a b:Nat):a&&& b=(a%2^k&&& b%2^k)+2^k*(a/2^k&&& b/2^k):=by
 rw[<-Nat.and_mod_two_pow,<-Nat.and_div_two_pow]
 exact(gE _ _).symm
theorem qH (a b:Nat):a&&& b=(a%256&&& b%256)+256*(a/256&&& b/256):=aHg 8 a b

def tP (b:Nat):Nat:=(b/2&&& 85)+(b&&& 85)
def wL (b:Nat):Nat:=(b/4&&& 51)+(b&&& 51)
def aFW (b:Nat):Nat:=(b/16+b)&&& 15
def wM (b:Nat):Nat:=b%2+b/2%2+b/4%2+b/8%2+b/16%2+b/32%2+b/64%2+b/128%2
theorem aDl:∀b:Fin 256,aFW (wL (tP b.val))=wM b.val/\tP b.val<=170/\wL (tP b.val)<=68/\wL (tP b.val)/16<=4/\wL (tP b.val)%16<=4/\wM b.val<=8:=by decide+kernel
theorem aPp:∀b:Fin 128,∀c:Fin 2,(b.val+128*c.val)&&& 85=b.val&&& 85:=by decide+kernel
theorem aPq:∀b:Fin 64,∀c:Fin 4,(b.val+64*c.val)&&& 51=b.val&&& 51:=by decide+kernel

def nY (m:Nat):Nat->Nat
  |0=>0
  |k+1=>m+256*nY m k
def kV (f:Nat->Nat):Nat->Nat->Nat
  |0,_=>0
  |k+1,x=>f (x%256)+256*kV f k (x/256)
def aDm (p:Nat->Prop):Nat->Nat->Prop
  |0,_=>True
  |k+1,x=>p (x%256)/\aDm p k (x/256)

theorem vH (m k:Nat)(h:m<256):nY m (k+1)%256=m/\nY m (k+1)/256=nY m k:=by
 simp only[nY];omega

theorem aNy:∀k x,(x/2&&& nY 85 k)+(x&&& nY 85 k)=kV tP k x
  |0,x=>by simp[nY,kV]
  |k+1,x=>by
   obtain⟨h1,h2⟩:=vH 85 k (by omega);rw[qH (x/2),qH x,h1,h2]
   have e1:x/2/256=x/256/2:=by omega
   have e2:x/2%256=x%256/2+128*(x/256%2):=by omega
   have:=aPp ⟨x%256/2,by omega⟩ ⟨x/256%2,by omega⟩;simp only at this;rw[e1,e2,this];have ih:=aNy k (x/256);simp only[kV,<-ih,tP];omega
theorem aNz:∀k x,(x/4&&& nY 51 k)+(x&&& nY 51 k)=kV wL k x
  |0,x=>by simp[nY,kV]
  |k+1,x=>by
   obtain⟨h1,h2⟩:=vH 51 k (by omega);rw[qH (x/4),qH x,h1,h2]
   have e1:x/4/256=x/256/4:=by omega
   have e2:x/4%256=x%256/4+64*(x/256%4):=by omega
   have:=aPq ⟨x%256/4,by omega⟩ ⟨x/256%4,by omega⟩;simp only at this;rw[e1,e2,this];have ih:=aNz k (x/256);simp only[kV,<-ih,wL];omega
def nib (b:Nat):Prop:=b<=68/\b/16<=4/\b%16<=4
theorem aNA (a:Nat):a&&& 15=a%16:=Nat.and_two_pow_sub_one_eq_mod a 4
theorem aNB:∀k x,aDm nib k x->x<256^k->((x/16+x)&&& nY 15 k)=kV aFW k x
  |0,x,_,hx=>by simp[nY,kV]
  |k+1,x,⟨hn,hr⟩,hx=>by
   obtain⟨h1,h2⟩:=vH 15 k (by omega);unfold nib at hn
   have hlt:x/256<256^k:=by rw[bS]at hx;omega
   have hc:x/256%16<=4:=by
    cases k with
    |zero=>simp at hlt;omega
    |succ k=>have:=hr.1;unfold nib at this;omega
   rw[qH,h1,h2]
   have e1:(x/16+x)/256=x/256/16+x/256:=by omega
   have e2:(x/16+x)%256%16=(x%256/16+x%256)%16:=by omega
   rw[e1,aNB k (x/256) hr hlt,aNA,e2,kV,aFW,aNA]

theorem aAy (f:Nat->Nat)(k x:Nat)(h:f (x%256)<256):kV f (k+1) x%256=f (x%256)/\kV f (k+1) x/256=kV f k (x/256):=by
 simp only[kV];omega
theorem sU (f g:Nat->Nat)(hg:∀b,b<256->g b<256):∀k x,kV f k (kV g k x)=kV (λb=>f (g b)) k x
  |0,_=>rfl
  |k+1,x=>by
   obtain⟨h1,h2⟩:=aAy g k x (hg _ (by omega));rw[kV,h1,h2,sU f g hg k]
   rfl
theorem vA (f g:Nat->Nat)(h:∀b,b<256->f b=g b):∀k x,kV f k x=kV g k x
  |0,_=>rfl
  |k+1,x=>by simp only[kV,h (x%256) (by omega),vA f g h k]
theorem aAz (f:Nat->Nat)(h:∀b,b<256->f b<256):∀k x,kV f k x<256^k
  |0,_=>by simp[kV]
  |k+1,x=>by
   have h1:=h (x%256) (by omega);have h2:=aAz f h k (x/256);simp only[kV,bS];omega
theorem vB (f:Nat->Nat)(p:Nat->Prop)(h:∀b,b<256->f b<256/\p (f b)):∀k x,aDm p k (kV f k x)
  |0,_=>trivial
  |k+1,x=>by
   obtain⟨h1,h2⟩:=aAy f k x (h _ (by omega)).1;refine⟨?_,?_⟩
   ·rw[h1];exact(h _ (by omega)).2
   rw[h2];exact vB f p h k _

def zH:Nat->Nat->Nat
  |0,_=>0
  |k+1,x=>x%2+zH k (x/2)
theorem aFX:∀k x,zH k x<=k
  |0,_=>by simp[zH]
  |k+1,x=>by have:=aFX k (x/2);simp only[zH];omega
theorem tQ (k x:Nat):zH (k+8) x=wM (x%256)+zH k (x/256):=by
 have e:x/2/2/2/2/2/2/2/2=x/256:=by omega
 have e7:x/2/2/2/2/2/2/2%2=x%256/128%2:=by omega
 have e6:x/2/2/2/2/2/2%2=x%256/64%2:=by omega
 have e5:x/2/2/2/2/2%2=x%256/32%2:=by omega
 have e4:x/2/2/2/2%2=x%256/16%2:=by omega
 have e3:x/2/2/2%2=x%256/8%2:=by omega
 have e2:x/2/2%2=x%256/4%2:=by omega
 have e1:x/2%2=x%256/2%2:=by omega
 have e0:x%2=x%256%2:=by omega
 simp only[zH,wM]
 rw[e,e7,e6,e5,e4,e3,e2,e1,e0]
 simp only[fQ]
def aJr (x:Nat):Nat:=
  let a:=(x/2&&& 6148914691236517205)+(x&&& 6148914691236517205)
  let b:=(a/4&&& 3689348814741910323)+(a&&& 3689348814741910323)
  (b/16+b)&&& 1085102592571150095
theorem aEG (x:Nat):aJr x=kV wM 8 x:=by
 have l1:∀b,b<256->tP b<256:=λb hb=>by have:=(aDl ⟨b,hb⟩).2.1;simp only at this;omega
 have l2:∀b,b<256->wL (tP b)<256/\nib (wL (tP b)):=λb hb=>by
  have:=aDl ⟨b,hb⟩;simp only at this;exact⟨by omega,by unfold nib;omega⟩
 have e1:(6148914691236517205:Nat)=nY 85 8:=by decide+kernel
 have e2:(3689348814741910323:Nat)=nY 51 8:=by decide+kernel
 have e3:(1085102592571150095:Nat)=nY 15 8:=by decide+kernel
 unfold aJr
 rw[e1,e2,e3]
 dsimp only
 rw[aNy,aNz,sU wL tP l1,aNB 8 _ (vB _ _ l2 8 x) (aAz _ (λb hb=>(l2 b hb).1) 8 x),sU aFW _ (λb hb=>(l2 b hb).1)]
 exact vA _ _ (λb hb=>(aDl ⟨b,hb⟩).1) 8 x
theorem aHh (x:Nat):∃c0 c1 c2 c3 c4 c5 c6 c7:Nat,c0<=8/\c1<=8/\c2<=8/\c3<=8/\c4<=8/\c5<=8/\c6<=8/\c7<=8/\zH 64 x=c0+c1+c2+c3+c4+c5+c6+c7/\
    aJr x=c0+256*c1+65536*c2+16777216*c3+4294967296*c4+1099511627776*c5+281474976710656*c6+72057594037927936*c7:=by
  have h8:∀y:Nat,wM (y%256)<=8:=λy=>(aDl ⟨y%256,by omega⟩).2.2.2.2.2
  refine⟨_,_,_,_,_,_,_,_,h8 x,h8 (x/256),h8 (x/256/256),h8 (x/256/256/256),h8 (x/256/256/256/256),h8 (x/256/256/256/256/256),h8 (x/256/256/256/256/256/256),h8 (x/256/256/256/256/256/256/256),?_,?_⟩
  ·have h:zH 64 x=wM (x%256)+(wM (x/256%256)+(wM (x/256/256%256)+(wM (x/256/256/256%256)+(wM (x/256/256/256/256%256)+(wM (x/256/256/256/256/256%256)+
       (wM (x/256/256/256/256/256/256%256)+(wM (x/256/256/256/256/256/256/256%256)+0))))))):=by
     exact(tQ 56 x).trans (bK _ ((tQ 48 _).trans (bK _ ((tQ 40 _).trans (bK _ ((tQ 32 _).trans (bK _ ((tQ 24 _).trans (bK _ ((tQ 16 _).trans (bK _ ((tQ 8 _).trans (bK _ (tQ 0 _))))))))))))))
   rw[h];simp only[bW,fQ]
  rw[aEG];simp only[kV];omega

def aPr (s:Nat):List Nat:=(List.range 64).filter s.testBit
def size (s:Nat):Nat:=(aPr s).length
theorem aBt (x i:Nat):x.testBit (i+1)=(x/2).testBit i:=by rw[Nat.testBit_succ]
theorem yT:∀k x,((List.range k).filter x.testBit).length=zH k x
  |0,_=>rfl
  |k+1,x=>by
   rw[List.range_succ_eq_map,List.filter_cons,zH,<-yT k (x/2)]
   have e:((List.map Nat.succ (List.range k)).filter x.testBit).length=((List.range k).filter (x/2).testBit).length:=by
    rw[List.filter_map,aI]
    congr 1
    apply List.filter_congr;intro i _;exact aBt x i
   have h0:x.testBit 0=decide (x%2=1):=by rw[Nat.testBit_zero]
   rcases Nat.mod_two_eq_zero_or_one x with h|h
   ·simp[h,e,h0]
   simp[h,e,h0];omega
theorem aBG (s:Nat):size s=zH 64 s:=yT 64 s
theorem aMk (s:Nat):size s<=64:=by rw[aBG];exact aFX _ _

end Go.Gr
