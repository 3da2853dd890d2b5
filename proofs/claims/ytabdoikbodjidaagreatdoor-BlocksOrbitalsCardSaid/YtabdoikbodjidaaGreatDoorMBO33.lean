/- Parts of the proof. -/
import Derived.Test.YtabdoikbodjidaaGreatDoorMBO32
set_option maxHeartbeats 64000000
set_option maxRecDepth 100000
namespace Go.Proofs.Tg.Iw
open Go.RowKit Go.Bw Go.Gr Go.Proofs.Tg Go.Rq
open Go.Proofs.Tg.Fi (PT mX)
theorem aMO (q:Rat)(w:World)(bn:(dg q.num.natAbs).length<=28)(bd:(dg q.den).length<=28)(hT:Tab w):
    Calls Tryz.prog 68 #[.string (qtx q)] w λe w'=>e=.returned (.bool true)/\Below w.heap.size w w':=by
  by_cases hs:Sh q
  ·have H1:=zh (λW=>Go.Proofs.Tg.Fi.wO q hs W);clear hs bn bd hT;generalize qtx q=S at*;generalize q.num=a at*;generalize q.den=b at*;go_enter Tryz.func68,Tryz.ntmps68;go_wp2_with (fail);refine(H1.o _).mono ?_;rintro e w1 ⟨rfl,hb1⟩;go_wp2;go_ret;exact⟨rfl,hb1.alloc hb1.size _⟩
  have H1:=zh (λW=>aFe q hs W);have ln1:=pD bn;have ln2:=pD bd
  have htl:(Go.Qn.lN (decide (q.num<0)) q.num.natAbs q.den).length<=4000:=by
   unfold Go.Qn.lN;simp only[aC]
   split<;>(try split)<;>simp<;>omega
  obtain⟨sg,hsg⟩:=eqx (decide (q.num<0))
  by_cases h1:q.den=1
  ·have HSP:Hid (∀V,Calls Tryz.prog 118 #[.string (qtx q)] V λe w'=>e=.returned (.tuple #[.agg #[.bool sg,.string (bs (Lib.decDigits q.num.natAbs)),.string (bs [])],.bool true])/\Below V.heap.size V w'):=zh (λV=>by
    have:=rR (decide (q.num<0)) q.num.natAbs q.den V (aBm q) htl;unfold qD at this;rw[aQ h1]at this;unfold qtx;rw[hsg]at this ⊢
    exact this)
   obtain⟨SN,hSN⟩:=eqx (bs (Lib.decDigits q.num.natAbs));rw[hSN]at HSP;have hS0e:bs []=ByteArray.empty:=rfl;rw[hS0e]at HSP;clear hs bn bd hT ln1 ln2 htl hsg h1 hSN hS0e;generalize qtx q=S at*;go_enter Tryz.func68,Tryz.ntmps68;go_wp2_with (fail);refine(H1.o _).mono ?_;rintro e w1 ⟨rfl,hb1⟩;have hbA:Below w.heap.size w (w1.alloc (.cells #[.int .i64 0,.int .i64 0] 112)):=hb1.alloc hb1.size _;clear hb1;go_upto_region 4 with(fail);generalize w1.alloc (.cells #[.int .i64 0,.int .i64 0] 112)=W1 at*;go_wp2_with (fail);refine(HSP.o _).mono ?_;rintro e w2 ⟨rfl,hb2⟩;have hbB:=dW hbA hb2;clear hbA hb2 H1 HSP;go_upto_region 5 with(fail);obtain⟨W2,hW2⟩:=eqx (w2.alloc (.cells #[.bool sg,.string SN,.string ByteArray.empty] 173))
   have C4:Blk W2 w2.heap.size 173 #[.bool sg,.string SN,.string ByteArray.empty]:=by rw[<-hW2];exact Blk.new _ _ _
   have hbC:Below w.heap.size w W2:=by rw[<-hW2];exact hbB.alloc hbB.size _
   rw[hW2];clear hW2 hbB;generalize w2.heap.size=gf at*;obtain⟨p0,p1,p2,_,_,_⟩:=C4.three;go_wp2;go_ret;exact⟨rfl,hbC⟩
  have HSP:Hid (∀V,Calls Tryz.prog 118 #[.string (qtx q)] V λe w'=>e=.returned (.tuple #[.agg #[.bool sg,.string (bs (Lib.decDigits q.num.natAbs)),.string (bs (Lib.decDigits q.den))],.bool true])/\Below V.heap.size V w'):=zh (λV=>by
   have:=rR (decide (q.num<0)) q.num.natAbs q.den V (aBm q) htl;unfold qD at this;rw[aJ h1]at this;unfold qtx;rw[hsg]at this ⊢
   exact this)
  obtain⟨la,hla⟩:=eqx ((dg q.num.natAbs).length);obtain⟨lb,hlb⟩:=eqx ((dg q.den).length);obtain⟨lg,hlg⟩:=eqx ((dg 1).length)
  have K1:Hid (∀V,Calls Tryz.prog 119 #[.string (bs (Lib.decDigits q.num.natAbs))] V λe w'=>∃R c,e=.returned (.agg #[.bool false,.slice R la c])/\NW w' R c q.num.natAbs/\Below V.heap.size V w'):=zh (λV=>by
   have:=zS (bs (Lib.decDigits q.num.natAbs)) V (by rw[kA];omega) (by rw[kG];exact Go.Qn.mK _);rw[kG,Go.Qn.mS]at this;unfold zK at this;rw[hla]at this
   exact this)
  have K2:Hid (∀V,Calls Tryz.prog 119 #[.string (bs (Lib.decDigits q.den))] V λe w'=>∃R c,e=.returned (.agg #[.bool false,.slice R lb c])/\NW w' R c q.den/\Below V.heap.size V w'):=zh (λV=>by
   have:=zS (bs (Lib.decDigits q.den)) V (by rw[kA];omega) (by rw[kG];exact Go.Qn.mK _);rw[kG,Go.Qn.mS]at this;unfold zK at this;rw[hlb]at this
   exact this)
  have K3:Hid (∀V A B c d,Below w.heap.size w V->NW V A c q.num.natAbs->NW V B d q.den->Calls Tryz.prog 97 #[.agg #[.bool false,.slice A la c],.agg #[.bool false,.slice B lb d]] V λe w'=>∃R c,e=.returned (.agg #[.bool false,.slice R lg c])/\NW w' R c 1/\Below V.heap.size V w'):=zh (λV A B c d hV hA hB=>by
   have:=aAJ A B c d _ _ false false V hA hB (by omega) (by omega) (by omega) (hT.below hV hT.1);unfold zK at this;rw[q.reduced,hla,hlb,hlg]at this
   exact this)
  have K4:Hid (∀V A c,NW V A c 1->Calls Tryz.prog 99 #[.agg #[.bool false,.slice A lg c]] V λe w'=>e=.returned (.bool true)/\Below V.heap.size V w'):=zh (λV A c hA=>by
   have:=sZ A c 1 V hA;rw[hlg]at this
   exact this)
  have hbe:(bs (Lib.decDigits q.den)).toList.isEmpty=false:=by
   rw[jW];have:=Go.Qn.pS q.den
   cases h:Lib.decDigits q.den with
   |nil=>exact absurd h this
   |cons=>rfl
  have hbe':¬(bs (Lib.decDigits q.den)).toList=[]:=by rw[jW];exact Go.Qn.pS _
  obtain⟨SN,hSN⟩:=eqx (bs (Lib.decDigits q.num.natAbs));obtain⟨SD,hSD⟩:=eqx (bs (Lib.decDigits q.den));rw[hSN]at HSP K1;rw[hSD]at HSP K2 hbe hbe';clear hs bn bd hT ln1 ln2 htl hsg h1 hSN hSD hla hlb hlg;generalize qtx q=S at*;generalize q.num.natAbs=a at*;generalize q.den=b at*;go_enter Tryz.func68,Tryz.ntmps68;go_wp2_with (fail);refine(H1.o _).mono ?_;rintro e w1 ⟨rfl,hb1⟩;have hbA:Below w.heap.size w (w1.alloc (.cells #[.int .i64 0,.int .i64 0] 112)):=hb1.alloc hb1.size _;clear hb1;go_upto_region 4 with(fail);generalize w1.alloc (.cells #[.int .i64 0,.int .i64 0] 112)=W1 at*;go_wp2_with (fail);refine(HSP.o _).mono ?_;rintro e w2 ⟨rfl,hb2⟩;have hbB:=dW hbA hb2;clear hbA hb2 H1 HSP;go_upto_region 5 with(fail);obtain⟨W2,hW2⟩:=eqx (w2.alloc (.cells #[.bool sg,.string SN,.string SD] 173))
  have C4:Blk W2 w2.heap.size 173 #[.bool sg,.string SN,.string SD]:=by rw[<-hW2];exact Blk.new _ _ _
  have hbC:Below w.heap.size w W2:=by rw[<-hW2];exact hbB.alloc hbB.size _
  rw[hW2];clear hW2 hbB;generalize w2.heap.size=gf at*;obtain⟨p0,p1,p2,_,_,_⟩:=C4.three;go_upto_region 7 with(fail);have hbw:Below w.heap.size w W2.drew:=hbC.drew;have hbv:Below W2.heap.size W2 W2.drew:=brf.drew
  go_region_held3 (λw'=>w'.cell? ⟨gf,1,none⟩=some (.string SN)/\w'.cell? ⟨gf,2,none⟩=some (.string SD)) (first|go_keep|exact⟨gL hbv p1,gL hbv p2⟩)
    (first
      |(go_at_call 97;with_reducible refine bE (K3.o _ _ _ _ _ (by assumption) (by assumption) (by assumption)) ?_;rintro e w' ⟨A3,c3,rfl,hN3,hb9⟩;have hbw:=dW hbw hb9;have hbv:=dW hbv hb9;clear hb9)
      |(go_at_call 99;with_reducible refine bE (K4.o _ _ _ (by assumption)) ?_;rintro e w' ⟨rfl,hb9⟩;have hbw:=dW hbw hb9;have hbv:=dW hbv hb9;clear hb9)
      |(go_at_call 119;with_reducible refine bE (K1.o _) ?_;rintro e w' ⟨A1,c1,rfl,hN1,hb9⟩;have hbw:=dW hbw hb9;have hbv:=dW hbv hb9;(try have hN2:=hN2.keep hb9);clear hb9)
      |(go_at_call 119;with_reducible refine bE (K2.o _) ?_;rintro e w' ⟨A2,c2,rfl,hN2,hb9⟩;have hbw:=dW hbw hb9;have hbv:=dW hbv hb9;(try have hN1:=hN1.keep hb9);clear hb9))
  all_goals
    go_wp2;go_ret;exact⟨rfl,hbw⟩
end Go.Proofs.Tg.Iw
namespace Go.Rq
open Go.Qn Go.Proofs.Tg
def qv (s:ByteArray):Rat:=match rd s.data.toList with
 |some (b,n,d)=>mkRat (if b=true then -(n:Int)else(n:Int)) d
 |none=>0
theorem aFZ {s:ByteArray}(h:rd s.data.toList=none):qv s=0:=by unfold qv;rw[h]
theorem aGa {s:ByteArray}{b:Bool}{n d:Nat}(h:rd s.data.toList=some (b,n,d)):(qv s).num=(if b=true then -(n:Int)else(n:Int))/\(qv s).den=d/\s=qtx (qv s):=by
 obtain⟨hc,ht⟩:=zY h
 have hz:(if b=true then -(n:Int)else(n:Int)).natAbs=n:=by cases b<;>simp
 have hb:decide ((if b=true then -(n:Int)else(n:Int))<0)=b:=by
  cases b with
  |false=>exact dF (by simp)
  |true=>
   refine dT ?_
   have:n≠0:=λh0=>by have:=hc.2.2 h0;cases this
   simp;omega
 have e:qv s=⟨if b=true then -(n:Int)else(n:Int),d,by have:=hc.1;omega,by rw[hz];exact hc.2.1⟩:=by
  unfold qv;rw[h];exact Rat.mkRat_self ⟨if b=true then -(n:Int)else(n:Int),d,by have:=hc.1;omega,by rw[hz];exact hc.2.1⟩
 rw[e]
 refine⟨rfl,rfl,?_⟩
 unfold qtx
 simp only[hz,hb]
 rw[<-ht]
 apply ByteArray.ext
 apply Array.ext'
 rw[kG]
theorem aJI {s:ByteArray}{b:Bool}{n d:Nat}(h:rd s.data.toList=some (b,n,d)):decide ((qv s).num<0)=b/\(qv s).num.natAbs=n/\(qv s).den=d:=by
 obtain⟨e1,e2,_⟩:=aGa h
 obtain⟨hc,_⟩:=zY h
 rw[e1,e2]
 refine⟨?_,by cases b<;>simp,rfl⟩
 cases b with
 |false=>exact dF (by simp)
 |true=>
  refine dT ?_
  have:n≠0:=λh0=>by have:=hc.2.2 h0;cases this
  simp;omega
theorem aJJ {s:ByteArray}{k:Nat}(hs:s.size<=k):(qv s).num.natAbs<=10^k/\(qv s).den<=10^k:=by
 have h1k:1<=10^k:=Nat.one_le_pow _ _ (by decide)
 cases h:rd s.data.toList with
 |none=>rw[aFZ h];exact⟨aW _,h1k⟩
 |some x=>
  obtain⟨b,n,d⟩:=x;obtain⟨e1,e2,_⟩:=aGa h;obtain⟨hc,ht⟩:=zY h
  have hl:(lN b n d).length<=k:=by
   rw[<-ht]
   have:s.data.toList.length=s.size:=by rw[jG];rfl
   omega
  have h1:=kR (Lib.decDigits n) (mK n);have h2:=kR (Lib.decDigits d) (mK d);rw[mS]at h1 h2;unfold lN at hl;rw[aC,aC]at hl;refine⟨?_,?_⟩
  ·rw[e1]
   have hz:(if b=true then -(n:Int)else(n:Int)).natAbs=n:=by cases b<;>simp
   rw[hz];exact aR (eM h1) (aP (by decide) (by omega))
  rw[e2]
  by_cases h4:d=1
  ·rw[h4];exact h1k
  rw[aJ h4,bP]at hl;exact aR (eM h2) (aP (by decide) (by omega))
theorem aGb {m:Nat}:∀(qs:List Rat),(∀q∈qs,q.num.natAbs<=m/\q.den<=m)->∃D,0<D/\D<=m^qs.length/\∀q∈qs,Bd D (m*D) q
  |[],_=>⟨1,by decide,aA _,λq h=>by cases h⟩
  |q::qs,h=>by
   obtain⟨D,h0,h1,h2⟩:=aGb qs λx hx=>h x (by simp[hx])
   obtain⟨a1,a2⟩:=h q (by simp);have hd:=q.den_pos;refine⟨D*q.den,iJ h0 hd,?_,λx hx=>?_⟩
   ·rw[bP,bS];exact cE h1 a2
   rcases bA.1 hx with rfl|hx
   ·have h3:=(Bd.self x).over (E:=D*x.den) (eD _ _) (iJ h0 hd);rw[Nat.mul_div_cancel _ hd]at h3;refine h3.mono ?_;rw[<-aV];exact aR (aY D a1) (jI _ hd)
   have h3:=(h2 x hx).scale hd;rw[aV]at h3;exact h3
theorem Bd.div_nat {D K c:Nat}{q:Rat}(h:Bd D K q)(_hc:0<c):Bd (D*c) K (q/(c:Rat)):=by
 have h2:=h.mul (q:=mkRat 1 c) (E:=c) (L:=1) ⟨1,rfl,by decide⟩
 rw[dI]at h2
 have e:q/(c:Rat)=q*mkRat 1 c:=by
  rw[Rat.div_def]
  congr 1
  rw[Rat.inv_def]
  show Rat.divInt (c:Rat).den (c:Rat).num=_
  rw[show(c:Rat).den=1 from rfl,show(c:Rat).num=(c:Int)from rfl]
  rfl
 rw[e]
 exact h2
end Go.Rq
section
namespace Go.Rq
theorem aCF {n i k:Nat}(h:n<=10^i)(hi:i<19*k):(Go.Bw.dg n).length<=k:=by
 refine Go.Bw.mC ?_
 have h1:10^i<10^(19*k):=Nat.pow_lt_pow_right (by decide) hi
 have h2:(10^19)^k<=Go.Bw.B^k:=gX (by decide) k
 rw[<-Nat.pow_mul]at h2
 exact bB h (aH h1 h2)
def Pd (i:Nat)(q:Rat):Prop:=q.num.natAbs<=10^i/\q.den<=10^i
theorem Bd.pd {D K i:Nat}{q:Rat}(h:Bd D K q)(h0:0<D)(hD:D<=10^i)(hK:K<=10^i):Pd i q:=⟨aR h.num hK,aR (h.denle h0) hD⟩
theorem Pd.mono {i j:Nat}{q:Rat}(h:Pd i q)(hj:i<=j):Pd j q:=⟨aR h.1 (aP (by decide) hj),aR h.2 (aP (by decide) hj)⟩
theorem Pd.words {i k:Nat}{q:Rat}(h:Pd i q)(hi:i<19*k):(Go.Bw.dg q.num.natAbs).length<=k/\(Go.Bw.dg q.den).length<=k:=⟨aCF h.1 hi,aCF h.2 hi⟩
end Go.Rq
namespace Go.Proofs.Tg.Iw
open Go.RowKit Go.Bw Go.Gr Go.Proofs.Tg Go.Rq
open Go.Proofs.Tg.Fi (PT mX)
theorem yH (p q:Rat)(w:World)(hp:Pd 500 p)(hq:Pd 500 q)(hs:Pd 500 (p+q))(ht:PT w)(hT:Tab w):
    Calls Tryz.prog 30 #[.string (qtx p),.string (qtx q)] w (mX (p+q) w):=by
  obtain⟨a1,a2⟩:=hp.words (k:=27) (by decide);obtain⟨b1,b2⟩:=hq.words (k:=27) (by decide);obtain⟨c1,c2⟩:=hs.words (k:=27) (by decide);exact aPD p q w (by omega) (by omega) (by omega) (by omega) (by omega) (by omega) ht hT
theorem aKO (q:Rat)(w:World)(hq:Pd 500 q)(hT:Tab w):
    Calls Tryz.prog 68 #[.string (qtx q)] w λe w'=>e=.returned (.bool true)/\Below w.heap.size w w':=by
  obtain⟨a1,a2⟩:=hq.words (k:=27) (by decide);exact aMO q w (by omega) (by omega) hT
end Go.Proofs.Tg.Iw
end
namespace Go.Proofs.Tg
open Go.RowKit Go.Gr Go.Bn Go.Rq
structure kO where
  q:Rat
  N:Option Addr
  cn:Nat
  D:Option Addr
  cd:Nat
def kO.cells (r:kO):List Value:=[.bool (decide (r.q.num<0)),.slice r.N (dg r.q.num.natAbs).length r.cn,.bool false,.slice r.D (dg (dnz r.q.den)).length r.cd]
def kO.val (r:kO):Value:=.agg #[.bool (decide (r.q.num<0)),.slice r.N (dg r.q.num.natAbs).length r.cn,.bool false,.slice r.D (dg (dnz r.q.den)).length r.cd]
structure kO.Ok (w:World)(r:kO):Prop where
  num:ND w r.N r.cn r.q.num.natAbs
  den:ND w r.D r.cd (dnz r.q.den)
theorem kO.cells_len (r:kO):r.cells.length=4:=rfl
theorem QAt.rval {w:World}{v:Value}{q:Rat}(h:QAt w v q):∃r:kO,r.q=q/\v=r.val/\r.Ok w:=by
 obtain⟨N,cn,D,cd,e,h1,h2⟩:=h
 exact⟨⟨q,N,cn,D,cd⟩,rfl,e,h1,h2⟩
theorem kO.Ok.at {w:World}{r:kO}(h:r.Ok w):QAt w r.val r.q:=⟨r.N,r.cn,r.D,r.cd,rfl,h.num,h.den⟩
theorem kO.Ok.keep {w w':World}{r:kO}(h:r.Ok w)(hb:Below w.heap.size w w'):r.Ok w':=⟨h.num.keep hb,h.den.keep hb⟩
theorem ND.grown {w w':World}{A:Option Addr}{c k b sz n:Nat}{ys:List Value}{t:TypeId}{v:Value}(h:ND w A c k)(ho:w.ownsRow b t sz v n ys)(hg:w.grownBy w' v.ownBlock)(hne:t≠168):ND w' A c k:=⟨h.digs.grown ho hg hne,h.cap,h.nilc⟩
theorem kO.Ok.grown {w w':World}{r:kO}{b sz n:Nat}{ys:List Value}{t:TypeId}{v:Value}(h:r.Ok w)(ho:w.ownsRow b t sz v n ys)(hg:w.grownBy w' v.ownBlock)(hne:t≠168):r.Ok w':=⟨h.num.grown ho hg hne,h.den.grown ho hg hne⟩
structure pX (base:Nat)(w:World)(A:Option Addr)(c:Nat)(rs:List kO):Prop where
  own:w.ownsRow base 69 4 (.slice A rs.length c) rs.length (rs.flatMap kO.cells)
  ok:∀r∈rs,r.Ok w
theorem pX.keep {base:Nat}{w w':World}{A:Option Addr}{c:Nat}{rs:List kO}(h:pX base w A c rs)(hb:Below w.heap.size w w'):pX base w' A c rs:=
  ⟨kL h.own hb (aA _),λr hr=>(h.ok r hr).keep hb⟩
theorem pX.mono {base base':Nat}{w:World}{A:Option Addr}{c:Nat}{rs:List kO}(h:pX base w A c rs)(hb:base'<=base):pX base' w A c rs:=⟨pJ h.own hb,h.ok⟩
theorem pX.other {base b sz n:Nat}{w w':World}{A:Option Addr}{c:Nat}{rs:List kO}{ys:List Value}{t:TypeId}{v:Value}(h:pX base w A c rs)(ho:w.ownsRow b t sz v n ys)(hg:w.grownBy w' v.ownBlock)(hne:t≠168)(hne2:69≠t):pX base w' A c rs:=
  ⟨h.own.kept hg (tY h.own ho hne2),λr hr=>(h.ok r hr).grown ho hg hne⟩
theorem aLs:(Tryz.prog.info? 69).map (λi=>(i.zero,i.size,i.bytes))=some (some (.agg #[.bool false,.slice none 0 0,.bool false,.slice none 0 0]),4,64):=by kernel_rfl
theorem aHZ:(Tryz.prog.info? 62).map (λi=>(i.zero,i.size,i.bytes))=some (some (.slice none 0 0),1,24):=by kernel_rfl
theorem pX.apart {base:Nat}{w w':World}{A:Option Addr}{c:Nat}{rs:List kO}{b sz n:Nat}{ys:List Value}{v:Value}(h:pX base w A c rs)(ho:w.ownsRow b 69 sz v n ys)(hg:w.grownBy w' v.ownBlock)(hne:(Value.slice A rs.length c).ownBlock=none∨(Value.slice A rs.length c).ownBlock≠v.ownBlock):pX base w' A c rs:=
  ⟨h.own.kept hg hne,λr hr=>(h.ok r hr).grown ho hg (by decide)⟩
end Go.Proofs.Tg
namespace Go.Proofs.Tg.Fi
open Go.RowKit Go.Rq Go.Qn Go.Proofs.Tg
def vq (q:Rat):Value:=.string (qtx q)
end Go.Proofs.Tg.Fi
namespace Go.Proofs.Tg.Iw
open Go.RowKit Go.Bw Go.Gr Go.Proofs.Tg Go.Rq
open Go.Proofs.Tg.Fi (vq)
theorem aAX (E:Option Addr)(m L q c:Nat)(qs:List Rat)(w:World)(hm0:0<m)(hm:m<=64)(hL0:0<L)(hL:L<=64)(hq:q=m*L)(hxs:qs.length=q)(hE:Sl w E q 1 (qs.map vq))(hs:∀x∈qs,Pd 500 x)(hT:Tab w):
    Calls Tryz.prog 36 #[.agg #[.int .i64 m,.int .i64 L,.slice E q c]] w λe w'=>e=.returned (.bool true)/\Below w.heap.size w w':=by
  have HSH:=zh (λW=>Go.Proofs.Tg.Bk.aBw E m L q c W hm0 hm hL0 hL hq)
  have hq4:q<=4096:=by rw[hq];exact cE hm hL
  have HE:=zh hE;have HS:=zh hs;have HX:=zh hxs;have HTT:=zh hT;obtain⟨W,hW⟩:=eqx (w.alloc (.cells #[.int .i64 m,.int .i64 L,.slice E q c] 31))
  have B0:Blk W w.heap.size 31 #[.int .i64 m,.int .i64 L,.slice E q c]:=by rw[<-hW];exact Blk.new _ _ _
  have hb0:Below w.heap.size w W:=by rw[<-hW];exact bal
  obtain⟨a0,a1,a2,f0,f1,f2⟩:=B0.three;have HW:=zh hW;have hlt:=B0.lt;clear hW hE hs hxs hq hT;go_enter Tryz.func36,Tryz.ntmps36;go_upto_region 1 with(fail);rw[HW.o];clear HW
  go_wp2_with (go_at_call 67;refine(HSH.o _).mono ?_;rintro e w1 ⟨rfl,hb1⟩
               have a2':=gL hb1 a2)
  go_loopw [11] (λs11 wr=>∃k:Nat,s11=.int .i64 k/\k<=q/\Below w.heap.size w wr) (λs11 _=>q-(intOf s11).toNat)
  case atStart=>exact⟨0,rfl,aW _,dW hb0 hb1⟩
  case round=>
   clear hb0 a0 a1 a2 f0 f1 f2 B0 hb1 a2' hlt;obtain⟨wo,rfl⟩:∃wo:World,wo=wr:=⟨_,rfl⟩;obtain⟨k,rfl,hk,hbo⟩:=hrel
   by_cases hkq:k<q
   ·obtain⟨ad,rfl,hc0⟩:=Sl.at1 (HE.o.keep hbo) hkq
    have hkx:k<qs.length:=by rw[HX.o];exact hkq
    have hc:wo.cell? (ad.add k)=some (.string (qtx qs[k])):=by simpa[vq]using hc0
    have HV:=zh (aKO qs[k] wo (HS.o _ (aB hkx)) (HTT.o.below hbo HTT.o.1))
    have q0:(0:Int)<=(k:Int):=by omega
    have q1:(k:Int)<(q:Int):=by omega
    have q3:((k:Int)).toNat=k:=by omega
    clear hc0;generalize qtx qs[k]=s at*
    go_wp2_with (go_at_call 68;refine HV.o.mono ?_;rintro e w3 ⟨rfl,hb3⟩)
    go_roundw
    case rel=>exact⟨k+1,by go_num,by omega,dW hbo hb3⟩
    case measure=>simp[intOf];omega
   obtain rfl:k=q:=by omega
   have dk:decide ((k:Int)<(k:Int))=false:=by simp
   go_wp2;go_ret;exact⟨rfl,hbo⟩
theorem aAY (E:Option Addr)(m L q c i j:Nat)(qs:List Rat)(w:World)(hm0:0<m)(hm:m<=64)(hL0:0<L)(hL:L<=64)(hq:q=m*L)(hxs:qs.length=q)(hE:Sl w E q 1 (qs.map vq))(hs:∀x∈qs,Pd 500 x)(hT:Tab w)(hi:i<m)(hj:j<L)(h:i*L+j<qs.length):
    Calls Tryz.prog 13 #[.agg #[.int .i64 m,.int .i64 L,.slice E q c],.int .i64 (i:Nat),.int .i64 (j:Nat)] w λe w'=>e=.returned (.string (qtx qs[i*L+j]))/\Below w.heap.size w w':=by
  have HMV:=zh (λW (hb:Below w.heap.size w W)=>aAX E m L q c qs W hm0 hm hL0 hL hq hxs (hE.keep hb) hs (hT.below hb hT.1))
  have hq4:q<=4096:=by rw[hq];exact cE hm hL
  obtain⟨ad,hE2,hc0⟩:=Sl.at1 hE (k:=i*L+j) (by rw[<-hxs];exact h);subst hE2
  have hc:w.cell? (ad.add (i*L+j))=some (.string (qtx qs[i*L+j])):=by simpa[vq]using hc0
  obtain⟨W,hW⟩:=eqx (w.alloc (.cells #[.int .i64 m,.int .i64 L,.slice (some ad) q c] 31))
  have B0:Blk W w.heap.size 31 #[.int .i64 m,.int .i64 L,.slice (some ad) q c]:=by rw[<-hW];exact Blk.new _ _ _
  have hb0:Below w.heap.size w W:=by rw[<-hW];exact bal
  obtain⟨a0,a1,a2,f0,f1,f2⟩:=B0.three;have HW:=zh hW;have hlt:=B0.lt
  have hij:i*L+j<q:=by rw[<-hxs];exact h
  have ec:(i:Int)*(L:Int)=((i*L:Nat):Int):=by push_cast;rfl
  have wm:IntKind.i64.wrap ((i:Int)*(L:Int))=(i:Int)*(L:Int):=IntWalk.i64_in _ (by rw[ec];omega);have wa:IntKind.i64.wrap ((i:Int)*(L:Int)+(j:Int))=(i:Int)*(L:Int)+(j:Int):=IntWalk.i64_in _ (by rw[ec];omega)
  have tn:((i:Int)*(L:Int)+(j:Int)).toNat=i*L+j:=by rw[ec];omega
  have r0:(0:Int)<=(i:Int)*(L:Int)+(j:Int):=by rw[ec];omega
  have r1:(i:Int)*(L:Int)+(j:Int)<(q:Int):=by rw[ec];omega
  have g1:decide ((i:Int)<0)=false:=dF (by omega);have g2:decide ((m:Int)<=(i:Int))=false:=dF (by omega);have g3:decide ((j:Int)<0)=false:=dF (by omega);have g4:decide ((L:Int)<=(j:Int))=false:=dF (by omega);have g2':decide (m<=i)=false:=dF (by omega);have g4':decide (L<=j)=false:=dF (by omega);have hcW:=gL hb0 hc;clear hW hE hs hxs hq hT hc0 hc ec hij;generalize qtx qs[i*L+j]=s at*;go_enter Tryz.func13,Tryz.ntmps13;go_upto_region 1 with(fail);rw[HW.o];clear HW
  go_wp2_with (go_at_call 36;refine(HMV.o _ hb0).mono ?_;rintro e w1 ⟨rfl,hb1⟩
               have a0:=gL hb1 a0;have a1:=gL hb1 a1;have a2:=gL hb1 a2
               have hcW:=gL hb1 hcW)
  go_ret;exact⟨rfl,dW hb0 hb1⟩
end Go.Proofs.Tg.Iw
section
namespace Go.Pm
open Classical in
noncomputable def rE (g l:List (List Int)):Int:=if IsG g/\∀m∈l,Go.Mo.oU m=true then Go.Proofs.Tg.Bk.rB (g.headD []).length g l else 1
end Go.Pm
namespace Go.Proofs.Tg.Bk
open Go.RowKit Go.Gr Go.Sp Go.Ev Go.Maps Go.WideShapes Go.Pm Go.Mo
open Go.Proofs.Tg.Gp (lQ jU lF kS nG)
def aBu (g l:List (List Int))(w:World)(e:Ending)(w':World):Prop:=Below w.heap.size w w'/\
  ((rE g l≠0/\e=.returned (.tuple #[.slice none 0 0,.int .i64 (rE g l)]))∨(rE g l=0/\∃q,e=.returned (.tuple #[.slice (some ⟨q,0,none⟩) g.length g.length,.int .i64 0])/\jV w' (some ⟨q,0,none⟩) (g.map λa=>img (g.headD []).length a l)))
theorem aFH {g:List (List Int)}(h:IsG g):0<g.length:=fF.2 h.2.1
theorem aAh (G L:Option Addr)(cG cL:Nat)(g l:List (List Int))(w:World)(hG:jV w G g)(hgl:g.length<=1000)(hgg:∀x∈g,x.length<=1000)(hL:jV w L l)(hll:∀x∈l,x.length<=1000)(hl:l.length<=1000):
    Calls Tryz.prog 15 #[.slice G g.length cG,.slice L l.length cL] w (aBu g l w):=by
  have HG:=zh hG;have HL:=zh hL;have HGG:=zh hgg;have HLL:=zh hll;clear hG hL hgg hll
  by_cases hI:IsG g
  ·have HIS:Hid (∀V,jV V G g->Calls Tryz.prog 37 #[.slice G g.length cG] V λe w'=>e=.returned (.bool true)/\Below V.heap.size V w'):=zh (λV h=>nG G cG g true V h (by omega) HGG.o ⟨λ_=>hI,λ_=>rfl⟩);have HI:=zh hI;clear hI
   by_cases hv:∀m∈l,oU m=true
   ·have HVM:Hid (∀V,jV V L l->Calls Tryz.prog 38 #[.slice L l.length cL] V λe w'=>e=.returned (.bool true)/\V=w'):=zh (λV h=>sO L cL l true V h (by omega) HLL.o ⟨λ_=>hv,λ_=>rfl⟩)
    have HACT:Hid (∀V,jV V G g->jV V L l->Calls Tryz.prog 39 #[.slice G g.length cG,.slice L l.length cL] V (aIx (g.headD []).length g l V)):=zh (λV h h2=>
     aFG G L cG cL (g.headD []).length g l V h HI.o.2.2.1 (aFH HI.o) hgl h2 hv HI.o.1 hl)
    have HE:Hid (rE g l=rB (g.headD []).length g l):=zh (by unfold rE;rw[aQ ⟨HI.o,hv⟩]);clear hv;unfold aBu;generalize (g.headD []).length=n at*
    by_cases hz:rB n g l=0
    ·have HZ:=zh hz
     have HACT:Hid (∀V,jV V G g->jV V L l->Calls Tryz.prog 39 #[.slice G g.length cG,.slice L l.length cL] V λe w'=>∃q,e=.returned (.tuple #[.slice (some ⟨q,0,none⟩) g.length g.length,.int .i64 0])/\jV w' (some ⟨q,0,none⟩) (g.map λa=>img n a l)/\Below V.heap.size V w'):=
       zh (λV h h2=>(HACT.o V h h2).mono (λe w' hor=>by
        obtain⟨_,q,h3,h4⟩:=hor.2.resolve_left (λh=>h.1 HZ.o)
        exact⟨q,h3,h4,hor.1⟩))
     clear hz;go_enter Tryz.func15,Tryz.ntmps15
     go_wp2_with (first
       |(go_at_call 37;refine(HIS.o _ HG.o).mono ?_;rintro e w1 ⟨rfl,hb1⟩)
       |(go_at_call 38;refine(HVM.o _ (HL.o.keep hb1)).mono ?_;rintro e w2 ⟨rfl,rfl⟩)
       |(go_at_call 39;refine(HACT.o _ (HG.o.keep hb1) (HL.o.keep hb1)).mono ?_;rintro e w3 ⟨q,rfl,hLS,hb3⟩))
     go_ret2
     exact⟨dW hb1 hb3,.inr ⟨by rw[HE.o];exact HZ.o,q,rfl,hLS⟩⟩
    have HACT:Hid (∀V,jV V G g->jV V L l->Calls Tryz.prog 39 #[.slice G g.length cG,.slice L l.length cL] V λe w'=>e=.returned (.tuple #[.slice none 0 0,.int .i64 (rB n g l)])/\Below V.heap.size V w'):=
      zh (λV h h2=>(HACT.o V h h2).mono (λe w' hor=>⟨(hor.2.resolve_right (λh=>hz h.1)).2,hor.1⟩))
    have HZ:=zh hz;clear hz;generalize rB n g l=z at*;go_enter Tryz.func15,Tryz.ntmps15
    go_wp2_with (first
      |(go_at_call 37;refine(HIS.o _ HG.o).mono ?_;rintro e w1 ⟨rfl,hb1⟩)
      |(go_at_call 38;refine(HVM.o _ (HL.o.keep hb1)).mono ?_;rintro e w2 ⟨rfl,rfl⟩)
      |(go_at_call 39;refine(HACT.o _ (HG.o.keep hb1) (HL.o.keep hb1)).mono ?_;rintro e w3 ⟨rfl,hb3⟩))
    go_ret2
    exact⟨dW hb1 hb3,.inl ⟨by rw[HE.o];exact HZ.o,by rw[HE.o];rfl⟩⟩
   have HVM:Hid (∀V,jV V L l->Calls Tryz.prog 38 #[.slice L l.length cL] V λe w'=>e=.returned (.bool false)/\V=w'):=zh (λV h=>sO L cL l false V h (by omega) HLL.o ⟨λh=>(by cases h),λh=>absurd h hv⟩);have HE:Hid (rE g l=1):=zh (by unfold rE;rw[aJ (λh=>hv h.2)]);clear hv;go_enter Tryz.func15,Tryz.ntmps15
   go_wp2_with (first
     |(go_at_call 37;refine(HIS.o _ HG.o).mono ?_;rintro e w1 ⟨rfl,hb1⟩)
     |(go_at_call 38;refine(HVM.o _ (HL.o.keep hb1)).mono ?_;rintro e w2 ⟨rfl,rfl⟩))
   go_ret2
   exact⟨hb1,.inl ⟨by rw[HE.o];decide,by rw[HE.o];rfl⟩⟩
  have HIS:Hid (∀V,jV V G g->Calls Tryz.prog 37 #[.slice G g.length cG] V λe w'=>e=.returned (.bool false)/\Below V.heap.size V w'):=zh (λV h=>nG G cG g false V h (by omega) HGG.o ⟨λh=>(by cases h),λh=>absurd h hI⟩);have HE:Hid (rE g l=1):=zh (by unfold rE;rw[aJ (λh=>hI h.1)]);clear hI;go_enter Tryz.func15,Tryz.ntmps15
  go_wp2_with (go_at_call 37;refine(HIS.o _ HG.o).mono ?_;rintro e w1 ⟨rfl,hb1⟩)
  go_ret2
  exact⟨hb1,.inl ⟨by rw[HE.o];decide,by rw[HE.o];rfl⟩⟩
end Go.Proofs.Tg.Bk
end
namespace Go.Proofs.Tg.Bk
open Go.RowKit Go.Gr Go.Sp Go.Ev Go.Maps Go.WideShapes Go.Pm Go.Mo
open Go.Proofs.Tg.Gp (lQ jU lF kS nG)
open Go.Proofs.Tg.Fi (vq)
open Go.Proofs.Tg.Iw (aAX)
def aAo (n:Nat)(g l:List (List Int))(w:World)(e:Ending)(w':World):Prop:=∃q,e=.returned (.tuple #[.slice (some ⟨q,0,none⟩) g.length g.length,.int .i64 0])/\jV w' (some ⟨q,0,none⟩) (g.map λa=>img n a l)/\Below w.heap.size w w'
theorem aDa (G L E:Option Addr)(cG cL c:Nat)(g l:List (List Int))(qs:List Rat)(w:World)(hG:jV w G g)(hgl:g.length<=1000)(hgg:∀x∈g,x.length<=1000)(hL:jV w L l)(hll:∀x∈l,x.length<=1000)(hl0:0<l.length)(hl:l.length<=64)
    (hI:IsG g) (hv:∀m∈l,oU m=true) (hz:rB (g.headD []).length g l=0) (hqs:qs.length=l.length*l.length) (hE:Sl w E (l.length*l.length) 1 (qs.map vq)) (hs:∀x∈qs,Go.Rq.Pd 500 x) (hT:Tab w):
    Calls Tryz.prog 29 #[.agg #[.int .i64 l.length,.int .i64 l.length,.slice E (l.length*l.length) c],.slice G g.length cG,.slice L l.length cL] w (aAo (g.headD []).length g l w):=by
  have HIS:Hid (∀V,jV V G g->Calls Tryz.prog 37 #[.slice G g.length cG] V λe w'=>e=.returned (.bool true)/\Below V.heap.size V w'):=zh (λV h=>nG G cG g true V h (by omega) hgg ⟨λ_=>hI,λ_=>rfl⟩);have HVM:Hid (∀V,jV V L l->Calls Tryz.prog 38 #[.slice L l.length cL] V λe w'=>e=.returned (.bool true)/\V=w'):=zh (λV h=>sO L cL l true V h (by omega) hll ⟨λ_=>hv,λ_=>rfl⟩);have HMV:Hid (∀V,Below w.heap.size w V->Calls Tryz.prog 36 #[.agg #[.int .i64 l.length,.int .i64 l.length,.slice E (l.length*l.length) c]] V λe w'=>e=.returned (.bool true)/\Below V.heap.size V w'):=zh (λV h=>aAX E l.length l.length _ c qs V hl0 hl hl0 hl rfl hqs (hE.keep h) hs (hT.below h hT.1))
  have HACT:Hid (∀V,jV V G g->jV V L l->Calls Tryz.prog 39 #[.slice G g.length cG,.slice L l.length cL] V (aAo (g.headD []).length g l V)):=zh (λV h h2=>
   (aFG G L cG cL (g.headD []).length g l V h hI.2.2.1 (aFH hI) hgl h2 hv hI.1 (by omega)).mono (λe w' hor=>by
    obtain⟨_,q,h3,h4⟩:=hor.2.resolve_left (λh=>h.1 hz)
    exact⟨q,h3,h4,hor.1⟩))
  have HG:=zh hG;have HL:=zh hL;unfold aAo at*;obtain⟨W,hW⟩:=eqx (w.alloc (.cells #[.int .i64 l.length,.int .i64 l.length,.slice E (l.length*l.length) c] 31))
  have B0:Blk W w.heap.size 31 #[.int .i64 l.length,.int .i64 l.length,.slice E (l.length*l.length) c]:=by rw[<-hW];exact Blk.new _ _ _
  have hb0:Below w.heap.size w W:=by rw[<-hW];exact bal
  obtain⟨a0,a1,a2,f0,f1,f2⟩:=B0.three;have HW:=zh hW;generalize (g.headD []).length=n at*;generalize l.length*l.length=q at*;clear hG hgl hgg hL hll hl0 hl hI hv hz hqs hE hs hT hW;go_enter Tryz.func29,Tryz.ntmps29;go_upto_region 1 with(fail);rw[HW.o];clear HW
  go_wp2_with (first
    |(go_at_call 37;refine(HIS.o _ (HG.o.keep hb0)).mono ?_;rintro e w1 ⟨rfl,hc1⟩;have hb1:=dW hb0 hc1;have a0:=gL hc1 a0;have a1:=gL hc1 a1;have a2:=gL hc1 a2)
    |(go_at_call 38;refine(HVM.o _ (HL.o.keep hb1)).mono ?_;rintro e w2 ⟨rfl,rfl⟩)
    |(go_at_call 36;refine(HMV.o _ hb1).mono ?_;rintro e w3 ⟨rfl,hc3⟩;have hb3:=dW hb1 hc3;have a0:=gL hc3 a0;have a1:=gL hc3 a1;have a2:=gL hc3 a2)
    |(go_at_call 39;refine(HACT.o _ (HG.o.keep hb3) (HL.o.keep hb3)).mono ?_;rintro e w4 ⟨q4,rfl,hLS,hb4⟩))
  go_ret2
  exact⟨q4,rfl,hLS,dW hb3 hb4⟩
end Go.Proofs.Tg.Bk
section
namespace Go.Proofs.Tg
open Go.RowKit Go.Maps Go.WideShapes
theorem aFr {P:Program}{T I:TypeId}(hT:P.underlying T=some (.array 2 I))(hI:P.underlying I=some (.int .i64))(hk:P.keyType T=true)(c1:P.cellsOf I=1)(c6:P.cellsOf T=2){s:Nat}(hs:P.types.size=s+1)
    (a b:Int) (ha:-1000000<=a/\a<=1000000) (hb:-1000000<=b/\b<=1000000):keyOf P T (.agg #[.int .i64 a,.int .i64 b])=some (kl6 [a,b]):=by
  have ha:=nK ha;have hb:=nK hb;have hr:List.range 2=[0,1]:=rfl;unfold keyOf;simp[hT,hk,Value.formed,c6,Value.cells,hs,Program.keyLits,hI,c1,hr,ha,hb,kl6]
end Go.Proofs.Tg
namespace Go.Proofs.Tg.Bk
open Go.RowKit Go.Gr Go.Sp Go.Ev Go.Maps Go.WideShapes Go.Pm
def aCb (p:Nat×Nat):Value:=.agg #[.int .i64 p.1,.int .i64 p.2]
def kp (p:Nat×Nat):Lit:=kl6 [(p.1:Int),(p.2:Int)]
def aEa (p:Nat×Nat):Prop:=p.1<=1000/\p.2<=1000
theorem aOW {p q:Nat×Nat}(hp:aEa p)(hq:aEa q)(e:kp p=kp q):p=q:=by
 have h:=aGD (l:=[(p.1:Int),(p.2:Int)]) (m:=[(q.1:Int),(q.2:Int)]) rfl (λx hx=>by
  simp only[bA,eH,iC]at hx;have:=hp.1;have:=hp.2
  rcases hx with rfl|rfl<;>omega) (λx hx=>by
  simp only[bA,eH,iC]at hx;have:=hq.1;have:=hq.2
  rcases hx with rfl|rfl<;>omega) e
 injection h with h1 h2
 injection h2 with h2 _
 obtain⟨a,b⟩:=p
 obtain⟨c,d⟩:=q
 simp only at h1 h2
 congr 1<;>omega
theorem aGB:Keyed Tryz.prog 45:=
  Keyed.of_law (deep_law_laid uP (m:=2) (by decide) (dQ (by kernel_rfl)) (by kernel_rfl) (by kernel_rfl))
theorem aCc {p:Nat×Nat}(h:aEa p):keyOf Tryz.prog 45 (aCb p)=some (kp p):=
  aFr (I:=3) (s:=Tryz.prog.types.size-1) Tryz.underlying45 Tryz.underlying3 (by kernel_rfl) (by kernel_rfl) (by kernel_rfl) (by kernel_rfl) p.1 p.2 (by have:=h.1;omega) (by have:=h.2;omega)
def qS (w:World)(mb cnt:Nat)(S:List (Nat×Nat)):Prop:=
  ∃D:DataW Unit,w.ownsMap Tryz.prog 45 (plainElem Tryz.prog 4) mb cnt D/\yN kp aEa S D
theorem qS.mapB {w:World}{mb cnt:Nat}{S:List (Nat×Nat)}(h:qS w mb cnt S):qU w mb:=by
 obtain⟨D,h,_⟩:=h
 exact uG h
theorem qS.made (w:World):qS (w.alloc (.map #[] 0)) w.heap.size 0 []:=⟨_,World.ownsMap_made _ _ _ _,yN.nil _ _⟩
theorem qS.below {w w':World}{B mb cnt:Nat}{S:List (Nat×Nat)}(h:qS w mb cnt S)(hb:Below B w w')(hB:mb<B):qS w' mb cnt S:=by
 obtain⟨D,⟨es,clock,hh,r⟩,h2⟩:=h
 exact⟨D,⟨es,clock,(hb.block mb hB).trans hh,r⟩,h2⟩
theorem qS.lt {w:World}{mb cnt:Nat}{S:List (Nat×Nat)}(h:qS w mb cnt S):mb<w.heap.size:=by
 obtain⟨es,clock,hh⟩:=h.mapB
 exact(cR.1 hh).1
theorem qS.same {w w':World}{mb cnt:Nat}{S:List (Nat×Nat)}(h:qS w mb cnt S)(hs:w'.heap[mb]?=w.heap[mb]?):qS w' mb cnt S:=by
 obtain⟨D,⟨es,clock,hh,r⟩,h2⟩:=h
 exact⟨D,⟨es,clock,hs.trans hh,r⟩,h2⟩
theorem qS.grown {w w':World}{mb cnt:Nat}{S:List (Nat×Nat)}{r:Option Nat}(h:qS w mb cnt S)(hg:w.grownBy w' r)(hr:some mb≠r):qS w' mb cnt S:=h.same (hg.block mb h.lt hr)
theorem qS.look {w:World}{mb cnt:Nat}{S:List (Nat×Nat)}(h:qS w mb cnt S){p:Nat×Nat}(hp:aEa p){c:Bool}(hc:decide (p∈S)=c):
    (Instr.lookup 79 (.map (some mb)) (aCb p) false).run Tryz.prog w=.ok (.bool c) w:=by
  obtain⟨D,h1,h2⟩:=h;obtain⟨v',ps,hrun,hv2⟩:=h1.lookup aGB Tryz.underlying79 (aEi w) (plainElem_bool Tryz.underlying4 false) (aCc hp);obtain⟨c',rfl,e⟩:=nF Tryz.underlying4 hv2;rw[h2.at' p hp,(dH.2 Iff.rfl).trans hc]at e
  injection e with e _
  injection e with e
  injection e with e
  subst e;exact hrun
theorem qS.put {w:World}{mb cnt:Nat}{S:List (Nat×Nat)}(h:qS w mb cnt S)(hcnt:cnt<=1000000000){p:Nat×Nat}(hp:aEa p)(hnew:p∉S):
    ∃w',(Instr.mapUpdate 79 (.map (some mb)) (aCb p) (.bool true)).run Tryz.prog w=.ok () w'/\qS w' mb (cnt+1) (p::S)/\w.grownBy w' (some mb):=by
  obtain⟨D,h1,h2⟩:=h;obtain⟨w',hrun,h3,h4⟩:=h1.update aGB Tryz.underlying79 (by simp only[maxLen];omega) (aCc hp) (plainElem_bool Tryz.underlying4 true);exact⟨w',hrun,⟨_,h3,h2.put (λ_ _=>aAc _) (λ_ _ hu hv=>aOW hu hv) hp hnew⟩,h4⟩
end Go.Proofs.Tg.Bk
end
