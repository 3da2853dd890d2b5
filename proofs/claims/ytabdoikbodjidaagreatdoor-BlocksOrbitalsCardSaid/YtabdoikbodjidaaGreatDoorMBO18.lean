/- Parts of the proof. -/
import Derived.Test.YtabdoikbodjidaaGreatDoorMBO17
set_option maxHeartbeats 64000000
set_option maxRecDepth 100000
section
namespace Go.Bw
theorem aGf {k s t:Nat}(hk:k<64)(hs:s<B)(ht:t*2^k<B):s/2^(64-k)<2^k/\t*2^k|||s/2^(64-k)=t*2^k+s/2^(64-k)/\t*2^k+s/2^(64-k)<B:=by
 have hB:B=2^k*2^(64-k):=mH hk
 have h1:s/2^(64-k)<2^k:=by
  rw[eC (eK (by decide)),<-hB];exact hs
 refine⟨h1,?_,?_⟩
 ·rw[aT];exact(iU h1 t).symm
 rw[hB]at ht ⊢
 rw[aT t]at ht ⊢;have h2:=fL ht;have h3:=bJ (2^k) (show t+1<=2^(64-k)from h2);rw[aZ,dI]at h3;omega
theorem aBK {x s t k n:Nat}{lo:List Nat}(hx:dg x=lo++[s,t])(hl:lo.length=n-2)(hk:k<64):x/(B^(n-2)*2^(64-k))=t*2^k+s/2^(64-k):=by
 have hv:=kE x
 have hd:Dig lo:=λz hz=>kH x z (by rw[hx];simp[hz])
 rw[hx,aGj hl]at hv
 have hlo:=kR hd
 rw[hl]at hlo
 have hp:0<B^(n-2):=eK (by decide)
 rw[<-eJ,<-hv,aT (t*B+s),gH _ _ hp,cT hlo,bN]
 have e:t*B+s=s+2^(64-k)*(t*2^k):=by
  rw[mH hk,<-aV,aT (t*2^k)];omega
 rw[e,gH _ _ (eK (by decide))]
 omega
theorem aHo {x s k n:Nat}{lo:List Nat}(hx:dg x=lo++[s])(hl:lo.length=n-2):x/(B^(n-2)*2^(64-k))=s/2^(64-k):=by
 have hv:=kE x
 have hd:Dig lo:=λz hz=>kH x z (by rw[hx];simp[hz])
 rw[hx,lJ,hl]at hv
 have hlo:=kR hd
 rw[hl]at hlo
 have hp:0<B^(n-2):=eK (by decide)
 rw[<-eJ,<-hv,gH _ _ hp,cT hlo,bN]
theorem aEK {x k n:Nat}(hx:(dg x).length<=n-2):x/(B^(n-2)*2^(64-k))=0:=by
 refine cT ?_
 have h1:=kR (kH x)
 rw[kE]at h1
 have h2:B^(dg x).length<=B^(n-2):=aP (by decide) hx
 have h3:B^(n-2)*1<=B^(n-2)*2^(64-k):=bJ _ (eK (by decide))
 omega
theorem aDt {x n:Nat}(hl:(dg x).length=n)(hn:2<=n):∃lo s t,dg x=lo++[s,t]/\lo.length=n-2/\s<B/\t<B/\t≠0:=by
 have h0:x≠0:=λe=>by rw[e,jS]at hl;simp at hl;omega
 obtain⟨lo,t,h1,h2,h3⟩:=yF h0
 have hll:lo.length=n-1:=by
  have:=bK List.length h1;rw[hl]at this;simp at this;omega
 have hne:lo≠[]:=λe=>by rw[e]at hll;simp at hll;omega
 refine⟨lo.dropLast,lo.getLast hne,t,?_,by rw[List.length_dropLast];omega,?_,h3,h2⟩
 ·rw[h1]
  conv=>lhs;rw[<-List.dropLast_concat_getLast hne]
  simp
 exact kH x _ (by rw[h1];exact bZ _ (List.getLast_mem hne))
end Go.Bw
namespace Go.Proofs.Tg.Iw
open Go.RowKit Go.Bw Go.Gr Go.Proofs.Tg
def stp (u0 u1 v0 v1:Nat)(odd:Bool):Array Value:=#[.int .u64 (u0:Nat),.int .u64 (u1:Nat),.int .u64 (v0:Nat),.int .u64 (v1:Nat),.bool odd]
theorem mY {w:World}{g u0 u1 v0 v1:Nat}{odd:Bool}{t:TypeId}(h:Blk w g t (stp u0 u1 v0 v1 odd)):
    w.cell? ⟨g,0,none⟩=some (.int .u64 (u0:Nat))/\w.cell? ⟨g,1,none⟩=some (.int .u64 (u1:Nat))/\w.cell? ⟨g,2,none⟩=some (.int .u64 (v0:Nat))/\w.cell? ⟨g,3,none⟩=some (.int .u64 (v1:Nat))/\w.cell? ⟨g,4,none⟩=some (.bool odd)/\
    w.frozen? ⟨g,0,none⟩=false/\w.frozen? ⟨g,1,none⟩=false/\w.frozen? ⟨g,2,none⟩=false/\w.frozen? ⟨g,3,none⟩=false/\w.frozen? ⟨g,4,none⟩=false:=
  ⟨h.cell 0,h.cell 1,h.cell 2,h.cell 3,h.cell 4,h.frozen 0,h.frozen 1,h.frozen 2,h.frozen 3,h.frozen 4⟩
def aJP (a b:Nat)(w:World)(e:Ending)(w':World):Prop:=∃(u0 u1 v0 v1:Nat) (odd:Bool),e=.returned (.agg #[.int .u64 (u0:Nat),.int .u64 (u1:Nat),.int .u64 (v0:Nat),.int .u64 (v1:Nat),.bool odd])/\u0<B/\u1<B/\v0<B/\v1<B/\(v0≠0->∃P R,yU a b u0 u1 v0 v1 odd P R)/\Below w.heap.size w w'
structure SiM (w:World)(gr gs a b A C:Nat)(wr:World)(f g u2 v2:Nat):Prop where
  ex:∃u0 u1 v0 v1 odd,zJ a b A C f g u0 u1 u2 v0 v1 v2 odd/\Blk wr gs 222 (stp u0 u1 v0 v1 odd)/\u0<B/\u1<B/\v0<B/\v1<B
  br:Blk wr gr 222 (stp 0 0 0 0 false)
  below:Below w.heap.size w wr
theorem aMr (X Y:Option Addr)(cx cy a b:Nat)(w:World)(hX:NW w X cx a)(hY:NW w Y cy b)(hn:(dg a).length<=400000)(hab:b<=a)(hb2:2<=(dg b).length):
    Calls Tryz.prog 173 #[.slice X (dg a).length cx,.slice Y (dg b).length cy] w (aJP a b w):=by
  have hlen:=Go.Bw.jT hab;obtain⟨n,hnn⟩:=eqx ((dg a).length);obtain⟨lo,s,t,hlo,hll,hsB,htB,ht0⟩:=aDt hnn (by omega);obtain⟨k1,k2,k3⟩:=aCx ht0 htB;obtain⟨k,hk⟩:=eqx (64-Lib.bitLen t);have HLZ:=zh (aOu t k htB hk (aCw ht0 htB).2.1);rw[hk]at k1 k2 k3;clear hk;obtain⟨D,hD⟩:=eqx (B^(n-2)*2^(64-k))
  have hD0:0<D:=by rw[<-hD];exact iJ (eK (by decide)) (eK (by decide))
  have hA:=aBK hlo hll k1;rw[hD]at hA;obtain⟨o1,o2,o3⟩:=aGf k1 hsB k2;rw[<-hA]at o2 o3;obtain⟨A,hAA⟩:=eqx (a/D);obtain⟨C,hCC⟩:=eqx (b/D);rw[hAA]at o2 o3
  have hCA:C<=A:=by rw[<-hAA,<-hCC];exact Nat.div_le_div_right hab
  have hCB:C<B:=bB hCA o3
  have hda:a=A*D+a%D:=by rw[<-hAA,aT];exact(dD _ _).symm
  have hdb:b=C*D+b%D:=by rw[<-hCC,aT];exact(dD _ _).symm
  have HNX:Hid (∀f g u0 u1 u2 v0 v1 v2 odd,zJ a b A C f g u0 u1 u2 v0 v1 v2 odd->v2<=g->v1+v2<=f-g->zJ a b A C g (f%g) u1 u2 (u1+f/g*u2) v1 v2 (v1+f/g*v2) (!odd)):=zh (λf g u0 u1 u2 v0 v1 v2 odd h1 h2 h3=>h1.next hda hdb (bL _ hD0) (bL _ hD0) hab h2 h3)
  --the words of a
  obtain⟨ad,hXd,hxc⟩:∃ad,X=some ad/\∀V,Below w.heap.size w V->V.cell? (ad.add (n-1))=some (.int .u64 (t:Nat))/\V.cell? (ad.add (n-2))=some (.int .u64 (s:Nat)):=by
   obtain⟨ad,e,_,hc⟩:=Sl.lies hX.wds (by omega);refine⟨ad,e,λV hV=>⟨gL hV (hc _ _ ?_),gL hV (hc _ _ ?_)⟩⟩
   ·rw[hlo,cK,bC (by omega),hll,show n-1-(n-2)=1 by omega];rfl
   rw[hlo,cK,bC (by omega),hll,cP];rfl
  subst hXd;have HXC:=zh hxc;obtain⟨nb,hnb⟩:=eqx ((dg b).length)
  --the words of b:three cases
  have HYC:Hid (∃yd,Y=some yd/\((nb=n/\∃y0 y1,C=y1*2^k+y0/2^(64-k)/\y1*2^k<B/\y0<B/\∀V,Below w.heap.size w V->V.cell? (yd.add (n-1))=some (.int .u64 (y1:Nat))/\V.cell? (yd.add (n-2))=some (.int .u64 (y0:Nat)))∨
      (nb+1=n/\∃y0,C=y0/2^(64-k)/\y0<B/\∀V,Below w.heap.size w V->V.cell? (yd.add (n-2))=some (.int .u64 (y0:Nat)))∨(nb+1<n/\C=0))):=zh (by
    obtain⟨yd,e,_,hc⟩:=Sl.lies hY.wds (by omega);refine⟨yd,e,?_⟩
    rcases Nat.lt_trichotomy (nb+1) n with h|h|h
    ·exact .inr (.inr ⟨h,by rw[<-hCC,<-hD];exact aEK (by omega)⟩)
    ·right;left
     have hb0:b≠0:=λe=>by rw[e,jS]at hb2;simp at hb2
     obtain⟨l2,y0,e1,_,e3⟩:=yF hb0
     have hl2:l2.length=n-2:=by
      have:=bK List.length e1;rw[hnb]at this;simp at this;omega
     refine⟨h,y0,?_,e3,λV hV=>gL hV (hc _ _ ?_)⟩
     ·rw[<-hCC,<-hD];exact aHo e1 hl2
     rw[e1,cK,bC (by omega),hl2,cP];rfl
    left
    have hbn:nb=n:=by omega
    obtain⟨l2,y0,y1,e1,e2,e3,e4,_⟩:=aDt (hnb.trans hbn) (by omega);have hc2:=aBK (k:=k) e1 e2 k1;rw[hD,hCC]at hc2;refine⟨hbn,y0,y1,hc2,bB (by rw[hc2];exact iV _ _) hCB,e3,λV hV=>⟨gL hV (hc _ _ ?_),gL hV (hc _ _ ?_)⟩⟩
    ·rw[e1,cK,bC (by omega),e2,show n-1-(n-2)=1 by omega];rfl
    rw[e1,cK,bC (by omega),e2,cP];rfl)
  have HST0:=zh (zJ.start (a:=a) (b:=b) hCA);obtain⟨Q,hQ⟩:=eqx (aJP a b w)
  have HRET:Hid (∀wz f g u2 v2 u0 u1 v0 v1 odd,zJ a b A C f g u0 u1 u2 v0 v1 v2 odd->u0<B->u1<B->v0<B->v1<B->Below w.heap.size w wz->Q (.returned (.agg #[.int .u64 (u0:Nat),.int .u64 (u1:Nat),.int .u64 (v0:Nat),.int .u64 (v1:Nat),.bool odd])) wz):=zh (λwz f g u2 v2 u0 u1 v0 v1 odd h1 h2 h3 h4 h5 h6=>by
   rw[<-hQ]
   exact⟨u0,u1,v0,v1,odd,rfl,h2,h3,h4,h5,h1.ret,h6⟩)
  rw[hQ,hnn,hnb];rw[hnn]at hn;clear hQ hxc hda hdb hX hY hlo hll hA hAA hCC hD hD0 hab hnn hlen;obtain⟨ls,hls⟩:=eqx (s/2^(64-k));obtain⟨ts,hts⟩:=eqx (t*2^k);rw[hls]at o1 o2;rw[hts]at o2 k2;have hlsB:ls<18446744073709551616:=bB (by rw[<-hls];exact cF _ _) hsB
  have hn2:2<=n:=by
   rcases HYC.o with⟨_,_,⟨h,_⟩|⟨h,_⟩|⟨h,_⟩⟩<;>omega
  have W1:IntKind.u64.wrap ((t:Int)*2^k)=(ts:Int):=by
   have e:(t:Int)*2^k=((t*2^k:Nat):Int):=by simp
   rw[e,hts];exact Go.Proofs.Mul64.wrapN _ k2
  have W2:(s:Int)/2^(64-k)=(ls:Int):=by
   have e:(s:Int)/2^(64-k)=((s/2^(64-k):Nat):Int):=by simp
   rw[e,hls]
  have W3:bits .or .u64 (ts:Int) (ls:Int)=(A:Int):=by rw[u64_or_nat ts ls k2 hlsB,o2]
  obtain⟨n1,hn1⟩:=eqx (n-1);obtain⟨n2,hn2'⟩:=eqx (n-2);rw[hn1,hn2']at HXC HYC
  have x1:(n:Int)-1=(n1:Int):=by omega
  have x2:(n:Int)-2=(n2:Int):=by omega
  have x3:IntKind.i64.wrap ((n:Int)-1)=(n1:Int):=(IntWalk.i64_in _ (by omega)).trans x1;have x4:IntKind.i64.wrap ((n:Int)-2)=(n2:Int):=(IntWalk.i64_in _ (by omega)).trans x2;have x5:IntKind.i64.wrap (n1:Int)=(n1:Int):=IntWalk.i64_in _ (by omega);have x6:IntKind.i64.wrap (n2:Int)=(n2:Int):=IntWalk.i64_in _ (by omega)
  have p1:(0:Int)<=(n1:Int):=by omega
  have p2:(0:Int)<=(n2:Int):=by omega
  have t1:((n1:Int)).toNat=n1:=by omega
  have t2:((n2:Int)).toNat=n2:=by omega
  have l1:(n1:Int)<(n:Int):=by omega
  have l2:(n2:Int)<(n:Int):=by omega
  have k4:IntKind.u64.wrap (k:Int)=(k:Int):=Go.Proofs.Mul64.wrapN _ (by omega);have hABl:A<18446744073709551616:=o3;have hCBl:C<18446744073709551616:=hCB;clear hls hts hsB htB ht0 o1 o2 o3 k2 k3 hlsB;go_enter Tryz.func173,Tryz.ntmps173;go_upto_region 2 with(fail);obtain⟨W0,hW0⟩:=eqx (w.alloc (.cells #[.int .u64 0,.int .u64 0,.int .u64 0,.int .u64 0,.bool false] 222))
  have hBR0:Blk W0 w.heap.size 222 (stp 0 0 0 0 false):=by rw[<-hW0];exact Blk.new w 222 (stp 0 0 0 0 false)
  have hb0:Below w.heap.size w W0:=by rw[<-hW0];exact bal
  rw[hW0];clear hW0;obtain⟨xc1,xc2⟩:=HXC.o W0 hb0
  go_upto_region 3 with(go_at_call 194;refine(HLZ.o _).mono ?_;rintro e w2 ⟨rfl,rfl⟩)
  go_quiet (fail)
  have hb1:Below w.heap.size w (W0.drewN nq):=jX hb0 _;have hBR1:Blk (W0.drewN nq) w.heap.size 222 (stp 0 0 0 0 false):=hBR0.keep (jX brf _) hBR0.lt;clear xc1 xc2 hb0 hBR0 W1 W2 W3 HXC;generalize W0.drewN nq=W1 at*;have HB1:=zh hb1;have HBR1:=zh hBR1;clear hBR1;go_upto_block 0 with(fail)
  go_cut [8]from 40 (λs8 wx=>s8=.int .u64 (C:Nat)/\Below W1.heap.size W1 wx)
  case first=>
   clear HNX HST0 HRET HBR1;obtain⟨yd,hY,hcs⟩:=HYC.o;subst hY
   rcases hcs with⟨rfl,y0,y1,hC,hy1,hy0,hyc⟩|⟨hnb1,y0,hC,hy0,hyc⟩|⟨hnb1,hC⟩
   ·obtain⟨o1,o2,o3⟩:=aGf k1 hy0 hy1;obtain⟨yc1,yc2⟩:=hyc W1 HB1.o;obtain⟨ls,hls⟩:=eqx (y0/2^(64-k));obtain⟨ts,hts⟩:=eqx (y1*2^k);rw[hls,hts]at o2;rw[hts]at hy1;have hlsB:ls<18446744073709551616:=bB (by rw[<-hls];exact cF _ _) hy0
    have W1':IntKind.u64.wrap ((y1:Int)*2^k)=(ts:Int):=by
     have e:(y1:Int)*2^k=((y1*2^k:Nat):Int):=by simp
     rw[e,hts];exact Go.Proofs.Mul64.wrapN _ hy1
    have W2':(y0:Int)/2^(64-k)=(ls:Int):=by
     have e:(y0:Int)/2^(64-k)=((y0/2^(64-k):Nat):Int):=by simp
     rw[e,hls]
    have W3':bits .or .u64 (ts:Int) (ls:Int)=(C:Int):=by rw[u64_or_nat ts ls hy1 hlsB,o2,hC,hls,hts]
    have b1:((nb:Int)==(nb:Int))=true:=by simp
    clear hC hls hts o1 o2 o3 hyc HYC;go_wp2
    go_quiet (fail)
    go_wp2;go_meet;exact⟨rfl,jX brf _⟩
   ·have yc2:=hyc W1 HB1.o
    have W2':(y0:Int)/2^(64-k)=(C:Int):=by
     have e:(y0:Int)/2^(64-k)=((y0/2^(64-k):Nat):Int):=by simp
     rw[e,hC]
    have b1:((nb:Int)==(n:Int))=false:=aG.2 (by omega);have b1':(nb==n)=false:=aG.2 (by omega);have b1n:(nb=n)=False:=bX (by omega);have b1m:(n=nb)=False:=bX (by omega)
    have hb21:nb=n1:=by omega
    have b2:((nb:Int)==(n1:Int))=true:=fY.2 (by omega);have b2':(nb==n1)=true:=fY.2 hb21
    have l3:(n2:Int)<(nb:Int):=by omega
    clear hC hyc HYC hb21;go_wp2;go_meet;exact⟨rfl,bM _ _⟩
   have b1:((nb:Int)==(n:Int))=false:=aG.2 (by omega);have b1':(nb==n)=false:=aG.2 (by omega);have b1n:(nb=n)=False:=bX (by omega);have b2:((nb:Int)==(n1:Int))=false:=aG.2 (by omega);have b2':(nb==n1)=false:=aG.2 (by omega);have b2n:(nb=n1)=False:=bX (by omega);subst hC;clear HYC;go_wp2;go_meet;exact⟨rfl,bM _ _⟩
  case rest=>
   obtain⟨rfl,hbc⟩:=hcut;have hbc0:=HBR1.o.keep hbc HBR1.o.lt;have hbw:=dW HB1.o hbc;have hwc:=hbw.size;have HBRc:=zh hbc0;have HBWc:=zh hbw;clear hbc HBR1 HB1 hb1 HYC hbc0 hbw x1 x2 x3 x4 x5 x6 p1 p2 t1 t2 l1 l2;obtain⟨gs,hgs⟩:=eqx (wc.heap.size);obtain⟨gr,hgr⟩:=eqx (w.heap.size)
   have hrs:gr<gs:=by have:=HBRc.o.lt;omega
   go_upto_region 12 with(fail)
   have HS0:Hid (SiM w gr gs a b A C (wc.alloc (.cells #[.int .u64 0,.int .u64 1,.int .u64 0,.int .u64 0,.bool false] 222)) A C 0 1):=zh (by
    have hB:=Blk.new wc 222 (stp 0 1 0 0 false);rw[hgs]at hB;have hr:=HBRc.o.alloc (.cells (stp 0 1 0 0 false) 222);rw[hgr]at hr
    exact⟨⟨0,1,0,0,false,HST0.o,hB,by decide,by decide,by decide,by decide⟩,hr,HBWc.o.alloc hwc (.cells (stp 0 1 0 0 false) 222)⟩)
   try rw[hgs]
   generalize wc.alloc (.cells #[.int .u64 0,.int .u64 1,.int .u64 0,.int .u64 0,.bool false] 222)=W5 at*
   try rw[hgr]
   clear HST0 HBRc HBWc;go_wp2
   go_loopw [7,8,10,11] (λs7 s8 s10 s11 wr=>∃f g u2 v2:Nat,s7=.int .u64 (f:Nat)/\s8=.int .u64 (g:Nat)/\s10=.int .u64 (u2:Nat)/\s11=.int .u64 (v2:Nat)/\f<=A/\g<=f/\Hid (SiM w gr gs a b A C wr f g u2 v2)) (λ_ s8 _ _ _=>(intOf s8).toNat)
   case atStart=>exact⟨A,C,0,1,rfl,rfl,rfl,rfl,aA _,hCA,HS0⟩
   case round=>
    clear HS0;obtain⟨wo,rfl⟩:∃wo:World,wo=wr:=⟨_,rfl⟩;obtain⟨f,g,u2,v2,rfl,rfl,rfl,rfl,hfA,hgf,HS⟩:=hrel;obtain⟨u0,u1,v0,v1,odd,hL,hBs,b0,b1,b2,b3⟩:=HS.o.ex;obtain⟨c0,c1,c2,c3,c4,f0,f1,f2,f3,f4⟩:=mY hBs;have HL:=zh hL;have HBs:=zh hBs;have HBr:=zh HS.o.br;have HBw:=zh HS.o.below;have HRET2:Hid (∀wz,Below w.heap.size w wz->Q (.returned (.agg #[.int .u64 (u0:Nat),.int .u64 (u1:Nat),.int .u64 (v0:Nat),.int .u64 (v1:Nat),.bool odd])) wz):=zh (λwz h=>HRET.o wz f g u2 v2 u0 u1 v0 v1 odd hL b0 b1 b2 b3 h)
    have hrest:∀(x:Nat) (V:World),Blk V gr 222 (stp 0 0 0 0 false)->True:=λ_ _ _=>trivial
    clear hrest hL hBs
    by_cases hvg:v2<=g
    ·obtain⟨e1,e2,e3,e4,e5,e6⟩:=HL.o.fit hvg;have d1:decide ((v2:Int)<=(g:Int))=true:=dT (by omega);have d2:decide (v2<=g)=true:=dT hvg;obtain⟨d,hd⟩:=eqx (f-g);obtain⟨vv,hvv⟩:=eqx (v1+v2)
     have m1:IntKind.u64.wrap ((f:Int)-(g:Int))=(d:Int):=by
      rw[show(f:Int)-(g:Int)=(d:Int) by omega];exact Go.Proofs.Mul64.wrapN _ (by omega)
     have m2:IntKind.u64.wrap ((v1:Int)+(v2:Int))=(vv:Int):=by
      rw[show(v1:Int)+(v2:Int)=(vv:Int) by omega];exact Go.Proofs.Mul64.wrapN _ (by omega)
     have m1':(f:Int)-(g:Int)=(d:Int):=by omega
     have m2':(v1:Int)+(v2:Int)=(vv:Int):=by omega
     have m3:IntKind.u64.wrap (d:Int)=(d:Int):=Go.Proofs.Mul64.wrapN _ (by omega);have m4:IntKind.u64.wrap (vv:Int)=(vv:Int):=Go.Proofs.Mul64.wrapN _ (by omega)
     by_cases hfg:vv<=d
     ·have d3:decide ((vv:Int)<=(d:Int))=true:=dT (by omega);have d4:decide (vv<=d)=true:=dT hfg;have HN2:=zh (HNX.o f g u0 u1 u2 v0 v1 v2 odd HL.o hvg (by rw[hvv,hd];exact hfg));obtain⟨q,hq⟩:=eqx (f/g);obtain⟨r,hr⟩:=eqx (f%g)
      have hrg:r<g:=by rw[<-hr];exact bL _ e1
      have D1:(f:Int).tdiv (g:Int)=(q:Int):=by rw[<-hq];rfl
      have D1':(f:Int)/(g:Int)=(q:Int):=by rw[<-hq];rfl
      have D2:(f:Int).tmod (g:Int)=(r:Int):=by rw[<-hr];rfl
      have D2':(f:Int)%(g:Int)=(r:Int):=by rw[<-hr];rfl
      have hqf:q<=f:=by rw[<-hq];exact cF _ _
      have D3:IntKind.u64.wrap (q:Int)=(q:Int):=Go.Proofs.Mul64.wrapN _ (by omega);have D4:IntKind.u64.wrap (r:Int)=(r:Int):=Go.Proofs.Mul64.wrapN _ (by omega);have g0:((g:Int)==0)=false:=aG.2 (by omega);have g0':(g==0)=false:=aG.2 (by omega);have g0n:((g:Int)=0)=False:=bX (by omega);have g0m:(g=0)=False:=bX (by omega);rw[hq]at e3 e4 e5 e6 HN2;rw[hr]at HN2;obtain⟨qu,hqu⟩:=eqx (q*u2);obtain⟨qv,hqv⟩:=eqx (q*v2);rw[hqu,hqv]at HN2;rw[hqv]at e3 e5;rw[hqu]at e4 e6
      have M1:(q:Int)*(u2:Int)=(qu:Int):=by rw[Go.Proofs.Mul64.mulN,hqu]
      have M2:(q:Int)*(v2:Int)=(qv:Int):=by rw[Go.Proofs.Mul64.mulN,hqv]
      have M3:IntKind.u64.wrap (qu:Int)=(qu:Int):=Go.Proofs.Mul64.wrapN _ (by omega);have M4:IntKind.u64.wrap (qv:Int)=(qv:Int):=Go.Proofs.Mul64.wrapN _ (by omega);obtain⟨u3,hu3⟩:=eqx (u1+qu);obtain⟨v3,hv3⟩:=eqx (v1+qv);rw[hu3]at e4;rw[hv3]at e3;rw[hu3,hv3]at HN2
      have N1:(u1:Int)+(qu:Int)=(u3:Int):=by omega
      have N2:(v1:Int)+(qv:Int)=(v3:Int):=by omega
      have N3:IntKind.u64.wrap (u3:Int)=(u3:Int):=Go.Proofs.Mul64.wrapN _ (by omega);have N4:IntKind.u64.wrap (v3:Int)=(v3:Int):=Go.Proofs.Mul64.wrapN _ (by omega)
      have hu2B:u2<B:=by have:=HN2.o.le2;have h2:=HL.o.le2;simp only[B];omega
      have hv2B:v2<B:=by simp only[B];omega
      clear hq hr hqu hqv hu3 hv3 hd hvv;go_upto_region 15 with(fail)
      go_quiet (fail)
      have hbq:Below wo.heap.size wo (wo.drewN nq):=jX brf _;have hB6:=HBs.o.keep hbq HBs.o.lt;have hR6:=HBr.o.keep hbq HBr.o.lt;have hW6:=dW HBw.o hbq;clear c0 c1 c2 c3 c4 f0 f1 f2 f3 f4 hbq HS HBs HBr HBw;generalize wo.drewN nq=W6 at*;obtain⟨c0,c1,c2,c3,c4,f0,f1,f2,f3,f4⟩:=mY hB6;go_upto_region 17 with(fail);have hB7:Blk ((W6.setCell ⟨gs,0,none⟩ (.int .u64 (u1:Nat))).setCell ⟨gs,1,none⟩ (.int .u64 (u2:Nat))) gs 222 (stp u1 u2 v0 v1 odd):=(hB6.set 0 (.int .u64 (u1:Nat))).set 1 (.int .u64 (u2:Nat));have hR7:=(hR6.far (p:=⟨gs,0,none⟩) (show gr≠gs by omega) (.int .u64 (u1:Nat))).far (p:=⟨gs,1,none⟩) (show gr≠gs by omega) (.int .u64 (u2:Nat))
      have hW7:=hJ (hJ hW6 (show w.heap.size<=gs by omega) 0 (.int .u64 (u1:Nat))) (show w.heap.size<=gs by omega) 1 (.int .u64 (u2:Nat));clear c0 c1 c2 c3 c4 f0 f1 f2 f3 f4 hB6 hR6 hW6;generalize (W6.setCell ⟨gs,0,none⟩ (.int .u64 (u1:Nat))).setCell ⟨gs,1,none⟩ (.int .u64 (u2:Nat))=W7 at*;obtain⟨c0,c1,c2,c3,c4,f0,f1,f2,f3,f4⟩:=mY hB7;go_upto_region 18 with(fail);have hB8:Blk ((W7.setCell ⟨gs,2,none⟩ (.int .u64 (v1:Nat))).setCell ⟨gs,3,none⟩ (.int .u64 (v2:Nat))) gs 222 (stp u1 u2 v1 v2 odd):=(hB7.set 2 (.int .u64 (v1:Nat))).set 3 (.int .u64 (v2:Nat));have hR8:=(hR7.far (p:=⟨gs,2,none⟩) (show gr≠gs by omega) (.int .u64 (v1:Nat))).far (p:=⟨gs,3,none⟩) (show gr≠gs by omega) (.int .u64 (v2:Nat))
      have hW8:=hJ (hJ hW7 (show w.heap.size<=gs by omega) 2 (.int .u64 (v1:Nat))) (show w.heap.size<=gs by omega) 3 (.int .u64 (v2:Nat));clear c0 c1 c2 c3 c4 f0 f1 f2 f3 f4 hB7 hR7 hW7;generalize (W7.setCell ⟨gs,2,none⟩ (.int .u64 (v1:Nat))).setCell ⟨gs,3,none⟩ (.int .u64 (v2:Nat))=W8 at*;obtain⟨c0,c1,c2,c3,c4,f0,f1,f2,f3,f4⟩:=mY hB8;have HNW:Hid (SiM w gr gs a b A C (W8.setCell ⟨gs,4,none⟩ (.bool (!odd))) g r u3 v3):=zh ⟨⟨u1,u2,v1,v2,!odd,HN2.o,hB8.set 4 (.bool (!odd)),b1,hu2B,b3,hv2B⟩,hR8.far (show gr≠gs by omega) _,hJ hW8 (by omega) _ _⟩;clear hB8 hR8 hW8 HN2;go_wp2;go_roundw
      case rel=>exact⟨g,r,u3,v3,rfl,rfl,rfl,rfl,by omega,by omega,HNW⟩
      case measure=>simp[intOf];omega
     have d3:decide ((vv:Int)<=(d:Int))=false:=dF (by omega);have d4:decide (vv<=d)=false:=dF hfg;go_upto_region 19 with(fail);obtain⟨r0,r1,r2,r3,r4,rf0,rf1,rf2,rf3,rf4⟩:=mY HBr.o;go_wp2;have B':=((((HBr.o.set 0 (.int .u64 (u0:Nat))).set 1 (.int .u64 (u1:Nat))).set 2 (.int .u64 (v0:Nat))).set 3 (.int .u64 (v1:Nat))).set 4 (.bool odd);obtain⟨z0,z1,z2,z3,z4,_⟩:=mY (u0:=u0) (u1:=u1) (v0:=v0) (v1:=v1) (odd:=odd) B';refine aO (v:=.agg #[.int .u64 (u0:Nat),.int .u64 (u1:Nat),.int .u64 (v0:Nat),.int .u64 (v1:Nat),.bool odd]) (by simp[results,Tryz.results173,go_sem,z0,z1,z2,z3,z4]) rfl (HRET2.o _ ?_)
     exact hJ (hJ (hJ (hJ (hJ HBw.o (show w.heap.size<=gr by omega) _ _) (show w.heap.size<=gr by omega) _ _) (show w.heap.size<=gr by omega) _ _) (show w.heap.size<=gr by omega) _ _) (show w.heap.size<=gr by omega) _ _
    have d1:decide ((v2:Int)<=(g:Int))=false:=dF (by omega);have d2:decide (v2<=g)=false:=dF hvg;go_upto_region 19 with(fail);obtain⟨r0,r1,r2,r3,r4,rf0,rf1,rf2,rf3,rf4⟩:=mY HBr.o;go_wp2;have B':=((((HBr.o.set 0 (.int .u64 (u0:Nat))).set 1 (.int .u64 (u1:Nat))).set 2 (.int .u64 (v0:Nat))).set 3 (.int .u64 (v1:Nat))).set 4 (.bool odd);obtain⟨z0,z1,z2,z3,z4,_⟩:=mY (u0:=u0) (u1:=u1) (v0:=v0) (v1:=v1) (odd:=odd) B';refine aO (v:=.agg #[.int .u64 (u0:Nat),.int .u64 (u1:Nat),.int .u64 (v0:Nat),.int .u64 (v1:Nat),.bool odd]) (by simp[results,Tryz.results173,go_sem,z0,z1,z2,z3,z4]) rfl (HRET2.o _ ?_)
    exact hJ (hJ (hJ (hJ (hJ HBw.o (show w.heap.size<=gr by omega) _ _) (show w.heap.size<=gr by omega) _ _) (show w.heap.size<=gr by omega) _ _) (show w.heap.size<=gr by omega) _ _) (show w.heap.size<=gr by omega) _ _
end Go.Proofs.Tg.Iw
end
section
namespace Go.Bw
theorem zQ {Z X Y P U V cp cq bo p q cp' cq' d bo' x y:Nat}(hs:Z+(U*X+P*cq)=V*Y+P*(cp+bo))(hp:p+B*cp'=x*U+cp)(hq:q+B*cq'=y*V+cq)(hd:d+(p+bo)=q+B*bo'):
    Z+P*d+(U*(X+P*x)+P*B*cq')=V*(Y+P*y)+P*B*(cp'+bo'):=by
  have h1:=bK (P*·) hp;have h2:=bK (P*·) hq;have h3:=bK (P*·) hd;simp only[aZ]at h1 h2 h3 hs ⊢;have e1:P*(B*cp')=P*B*cp':=(aV _ _ _).symm;have e2:P*(B*cq')=P*B*cq':=(aV _ _ _).symm;have e3:P*(B*bo')=P*B*bo':=(aV _ _ _).symm
  have e4:U*(P*x)=P*(x*U):=by rw[dZ,aT U x]
  have e5:V*(P*y)=P*(y*V):=by rw[dZ,aT V y]
  rw[e4,e5];omega
theorem uR {Z P K c c':Nat}(h:Z+K*c=P+K*c')(hZ:Z<K)(hP:P<K):Z=P:=by
 have h1:=bK (·%K) h
 simp only[gI]at h1
 rwa [cU hZ,cU hP]at h1
theorem pH {x y k:Nat}:(x*y+k)%B+B*((x*y+k)/B)=x*y+k:=gE _ _
end Go.Bw
namespace Go.Proofs.Tg.Iw
open Go.RowKit Go.Bw Go.Gr Go.Proofs.Tg
theorem sX (x y k:Nat)(hx:x<B)(hy:y<B)(hk:k<B)(w:World):Calls Tryz.prog 197 #[.int .u64 (x:Nat),.int .u64 (y:Nat),.int .u64 (k:Nat)] w λe w'=>e=.returned (.tuple #[.int .u64 ((x*y+k)%B:Nat),.int .u64 ((x*y+k)/B:Nat)])/\w=w':=by
 obtain⟨f1,f2⟩:=qL hx hy hk
 have hM:=aGg x y hx hy
 obtain⟨hi2,hhi⟩:=eqx (x*y/B)
 obtain⟨lo,hlo⟩:=eqx (x*y%B)
 rw[hhi,hlo]at hM
 have HM:=zh hM
 have hA1:∀V,(callFunc 190 #[.int .u64 (lo:Nat),.int .u64 (k:Nat),.int .u64 0]).run Tryz.prog V=_:=λV=>aAK lo k 0 (by omega) V
 obtain⟨s,hs⟩:=eqx ((lo+k+0)%B)
 obtain⟨c1,hc1⟩:=eqx ((lo+k+0)/B)
 rw[hs,hc1]at hA1
 have e1:s=(x*y+k)%B:=by rw[<-hs,<-hlo,bW,aKd]
 have e2:hi2+c1=(x*y+k)/B:=by rw[<-hhi,<-hc1,<-hlo,bW,aKe]
 obtain⟨h2,hh2⟩:=eqx (hi2+c1)
 rw[hh2]at e2
 have w1:IntKind.u64.wrap ((hi2:Int)+(c1:Int))=(h2:Int):=by
  rw[Go.Proofs.Mul64.addN,hh2];exact Go.Proofs.Mul64.wrapN _ (by rw[e2];exact f2)
 have w2:(hi2:Int)+(c1:Int)=(h2:Int):=by omega
 have w3:IntKind.u64.wrap (h2:Int)=(h2:Int):=Go.Proofs.Mul64.wrapN _ (by rw[e2];exact f2)
 have HR:Hid (∀e,e=Ending.returned (.tuple #[.int .u64 (s:Nat),.int .u64 (h2:Nat)])->e=.returned (.tuple #[.int .u64 ((x*y+k)%B:Nat),.int .u64 ((x*y+k)/B:Nat)])):=zh (λe h=>by rw[h,e1,e2])
 clear hhi hlo hs hc1 e1 e2 f1 f2 hh2 hM
 obtain⟨T,hT⟩:=eqx (Ending.returned (.tuple #[.int .u64 ((x*y+k)%B:Nat),.int .u64 ((x*y+k)/B:Nat)]))
 rw[hT]at HR ⊢
 clear hT
 go_enter Tryz.func197,Tryz.ntmps197
 go_wp2_with (go_at_call 193;refine(HM.o _).mono ?_;rintro e w1 ⟨rfl,rfl⟩)
 go_ret2
 exact⟨HR.o _ rfl,rfl⟩
def aPX (u0 u1 v0 v1:Nat)(odd:Bool)(X Y Z W P cp cq cr ct bo lo:Nat):Prop:=
  (odd=false/\Z+(u0*X+P*cq)=v0*Y+P*(cp+bo)/\W+(v1*Y+P*ct)=u1*X+P*(cr+lo))∨
  (odd=true/\Z+(v0*Y+P*cp)=u0*X+P*(cq+bo)/\W+(u1*X+P*cr)=v1*Y+P*(ct+lo))
structure ApL (w:World)(base ga gb gs u0 u1 v0 v1:Nat)(odd:Bool)(xs ys ra rb:List Nat)(wr:World)(i cp cq cr ct bo lo:Nat)(zs ws:List Nat):Prop where
  zl:zs.length=i
  wl:ws.length=i
  zd:Dig zs
  wd:Dig ws
  cps:cp<B/\cq<B/\cr<B/\ct<B/\bo<=1/\lo<=1
  eq:aPX u0 u1 v0 v1 odd (val (xs.take i)) (val (ys.take i)) (val zs) (val ws) (B^i) cp cq cr ct bo lo
  ba:Blk wr ga 170 (jZ (zs++(xs.drop i++ra)))
  bb:Blk wr gb 170 (jZ (ws++(ys.drop i++rb)))
  bs:Blk wr gs 222 (stp u0 u1 v0 v1 odd)
  below:Below base w wr
theorem sG {zs xs ra:List Nat}{i:Nat}(hz:zs.length=i)(hi:i<xs.length):(zs++(xs.drop i++ra))[i]?=some xs[i]:=by
 rw[bC (by omega),hz,cP,bG hi];rfl
theorem yE {zs xs ra:List Nat}{i d:Nat}(hz:zs.length=i)(hi:i<xs.length):(zs++(xs.drop i++ra)).set i d=(zs++[d])++(xs.drop (i+1)++ra):=by
 rw[cX _ _ (by omega),hz,cP,bG hi,jH,dL]
 simp
theorem ApL.next {w wr:World}{base ga gb gs u0 u1 v0 v1:Nat}{odd:Bool}{xs ys ra rb zs ws:List Nat}{i cp cq cr ct bo lo cp' cq' cr' ct' bo' lo' d d2 p q r t x y:Nat}(s:ApL w base ga gb gs u0 u1 v0 v1 odd xs ys ra rb wr i cp cq cr ct bo lo zs ws)(hx:i<xs.length)(hy:i<ys.length)(ex:xs[i]=x)(ey:ys[i]=y)
    (hp:p+B*cp'=x*u0+cp) (hq:q+B*cq'=y*v0+cq) (hr:r+B*cr'=y*v1+cr) (ht:t+B*ct'=x*u1+ct)
    (hd:(odd=false/\d+(p+bo)=q+B*bo'/\d2+(r+lo)=t+B*lo')∨(odd=true/\d+(q+bo)=p+B*bo'/\d2+(t+lo)=r+B*lo')) (hdB:d<B) (hd2B:d2<B) (hc:cp'<B/\cq'<B/\cr'<B/\ct'<B/\bo'<=1/\lo'<=1)
    (hab:ga≠gb) (has:ga≠gs) (hbs:gb≠gs) (h1:base<=ga) (h2:base<=gb):
    ApL w base ga gb gs u0 u1 v0 v1 odd xs ys ra rb ((wr.setCell ⟨ga,i,none⟩ (.int .u64 (d:Nat))).setCell ⟨gb,i,none⟩ (.int .u64 (d2:Nat))) (i+1) cp' cq' cr' ct' bo' lo' (zs++[d]) (ws++[d2]):=by
  have hA:=s.ba.set i (.int .u64 (d:Nat));rw[kX,yE s.zl hx]at hA;have hB:=(s.bb.far (p:=⟨ga,i,none⟩) (λe=>hab e.symm) (.int .u64 (d:Nat))).set i (.int .u64 (d2:Nat));rw[kX,yE s.wl hy]at hB;refine⟨by rw[aC,s.zl];rfl,by rw[aC,s.wl];rfl,oC s.zd hdB,oC s.wd hd2B,hc,?_,hA.far hab _,hB,(s.bs.far (λe=>has e.symm) _).far (λe=>hbs e.symm) _,hJ (hJ s.below h1 _ _) h2 _ _⟩;rw[lJ,s.zl,lJ,s.wl,lE hx,lE hy,qM,ex,ey]
  rcases s.eq with⟨h,g1,g2⟩|⟨h,g1,g2⟩
  ·rcases hd with⟨_,k1,k2⟩|⟨h',_⟩
   ·exact .inl ⟨h,zQ g1 hp hq k1,zQ g2 hr ht k2⟩
   rw[h]at h';cases h'
  rcases hd with⟨h',_⟩|⟨_,k1,k2⟩
  ·rw[h]at h';cases h'
  exact .inr ⟨h,zQ g1 hq hp k1,zQ g2 ht hr k2⟩
theorem aEL (base ga gb ca cb n u0 u1 v0 v1 a b P R:Nat)(xs ys ra rb:List Nat)(w:World)(hA:Blk w ga 170 (jZ (xs++ra)))(hB:Blk w gb 170 (jZ (ys++rb)))(hxl:xs.length=n)(hyl:ys.length=n)(hxd:Dig xs)(hyd:Dig ys)(hxv:val xs=a)(hyv:val ys=b)(hn:n<=500000)
    (hu0:u0<B) (hu1:u1<B) (hv0:v0<B) (hv1:v1<B) (hR:yU a b u0 u1 v0 v1 false P R) (hab:ga≠gb) (h1:base<=ga) (h2:base<=gb):
    Calls Tryz.prog 175 #[.agg #[.int .u64 (u0:Nat),.int .u64 (u1:Nat),.int .u64 (v0:Nat),.int .u64 (v1:Nat),.bool false],.slice (some ⟨ga,0,none⟩) n ca,.slice (some ⟨gb,0,none⟩) n cb] w λe w'=>e=.returned (.tuple #[])/\∃zs ws,zs.length=n/\ws.length=n/\Dig zs/\Dig ws/\val zs=P/\val ws=R/\Blk w' ga 170 (jZ (zs++ra))/\Blk w' gb 170 (jZ (ws++rb))/\Below base w w':=by
  have hla:=hA.lt;have hlb:=hB.lt;obtain⟨W0,hW0⟩:=eqx (w.alloc (.cells #[.int .u64 (u0:Nat),.int .u64 (u1:Nat),.int .u64 (v0:Nat),.int .u64 (v1:Nat),.bool false] 222))
  have H0:Hid (ApL w base ga gb w.heap.size u0 u1 v0 v1 false xs ys ra rb W0 0 0 0 0 0 0 0 [] []):=zh (by
   refine⟨rfl,rfl,λ_ hx=>absurd hx (by simp),λ_ hx=>absurd hx (by simp),by decide,?_,?_,?_,?_,?_⟩
   ·left;simp[val]
   ·rw[<-hW0];exact hA.alloc _
   ·rw[<-hW0];exact hB.alloc _
   ·rw[<-hW0];exact Blk.new w 222 (stp u0 u1 v0 v1 false)
   rw[<-hW0];exact brf.alloc (by omega) _)
  have HFIN:Hid (∀wr cp cq cr ct bo lo zs ws,ApL w base ga gb w.heap.size u0 u1 v0 v1 false xs ys ra rb wr n cp cq cr ct bo lo zs ws->zs.length=n/\ws.length=n/\Dig zs/\Dig ws/\val zs=P/\val ws=R/\Blk wr ga 170 (jZ (zs++ra))/\Blk wr gb 170 (jZ (ws++rb))/\Below base w wr):=zh (λwr cp cq cr ct bo lo zs ws s=>by
   have e:=s.eq;rw[mZ (ys:=xs) (by omega),mZ (ys:=ys) (by omega),hxv,hyv]at e;have hz:=kR s.zd;rw[s.zl]at hz;have hw:=kR s.wd;rw[s.wl]at hw
   have hbB:b<B^n:=by rw[<-hyv,<-hyl];exact kR hyd
   have hPB:P<B^n:=bB hR.le hbB;have hRB:R<B^n:=Nat.lt_trans hR.lt hPB;have hba:=s.ba;have hbb:=s.bb;rw[cS (by omega),dB]at hba hbb
   rcases e with⟨h,g1,g2⟩|⟨h,g1,g2⟩
   ·rcases hR.lin with⟨h',_⟩|⟨_,l1,l2,_⟩
    ·cases h'
    refine⟨s.zl,s.wl,s.zd,s.wd,uR (c:=cq) (c':=cp+bo) (by omega) hz hPB,uR (c:=ct) (c':=cr+lo) (by omega) hw hRB,hba,hbb,s.below⟩
   cases h)
  have HXL:=zh hxl;have HYL:=zh hyl;have HXD:=zh hxd;have HYD:=zh hyd;have HWW:=zh hW0;have HU0:=zh hu0;have HU1:=zh hu1;have HV0:=zh hv0;have HV1:=zh hv1
  have has:ga≠w.heap.size:=by omega
  have hbs:gb≠w.heap.size:=by omega
  obtain⟨gs,hgs⟩:=eqx (w.heap.size);rw[hgs]at H0 HFIN has hbs;have HGS:=zh hgs;clear hA hB hxl hyl hxd hyd hxv hyv hu0 hu1 hv0 hv1 hR hW0 hla hlb hgs;go_enter Tryz.func175,Tryz.ntmps175;go_upto_region 1 with(fail);rw[HWW.o,HGS.o];go_wp2
  go_loopw [6,7,8,9,10,11,21] (λs6 s7 s8 s9 s10 s11 s21 wr=>∃(i cp cq cr ct bo lo:Nat) (zs ws:List Nat),s21=.int .i64 i/\i<=n/\s6=.int .u64 (cp:Nat)/\s7=.int .u64 (cq:Nat)/\s8=.int .u64 (cr:Nat)/\s9=.int .u64 (ct:Nat)/\s10=.int .u64 (bo:Nat)/\s11=.int .u64 (lo:Nat)/\Hid (ApL w base ga gb gs u0 u1 v0 v1 false xs ys ra rb wr i cp cq cr ct bo lo zs ws)) (λ_ _ _ _ _ _ s21 _=>n-(intOf s21).toNat)
  case atStart=>exact⟨0,0,0,0,0,0,0,[],[],rfl,aW _,rfl,rfl,rfl,rfl,rfl,rfl,H0⟩
  case round=>
   clear H0;obtain⟨wo,rfl⟩:∃wo:World,wo=wr:=⟨_,rfl⟩;obtain⟨i,cp,cq,cr,ct,bo,lo,zs,ws,rfl,hi,rfl,rfl,rfl,rfl,rfl,rfl,HS⟩:=hrel
   by_cases hin:i<n
   ·have hix:i<xs.length:=by rw[HXL.o];exact hin
    have hiy:i<ys.length:=by rw[HYL.o];exact hin
    have hca:=HS.o.ba.cell i;rw[lL (sG HS.o.zl hix)]at hca;have hfa:=HS.o.ba.frozen i;have hcb:=HS.o.bb.cell i;rw[lL (sG HS.o.wl hiy)]at hcb;have hfb:=HS.o.bb.frozen i;obtain⟨c0,c1,c2,c3,c4,_⟩:=mY HS.o.bs;obtain⟨kp,kq,kr,kt,kb,kl⟩:=HS.o.cps;have hxB:=HXD.o xs[i] (aB _);have hyB:=HYD.o ys[i] (aB _);obtain⟨x,hx⟩:=eqx (xs[i]);obtain⟨y,hy⟩:=eqx (ys[i]);rw[hx]at hca hxB;rw[hy]at hcb hyB;have hp:=sX x u0 cp hxB HU0.o kp;have hq:=sX y v0 cq hyB HV0.o kq;have hr:=sX y v1 cr hyB HV1.o kr;have ht:=sX x u1 ct hxB HU1.o kt;have ep:=pH (x:=x) (y:=u0) (k:=cp);have eq:=pH (x:=y) (y:=v0) (k:=cq);have er:=pH (x:=y) (y:=v1) (k:=cr);have et:=pH (x:=x) (y:=u1) (k:=ct)
    have fp:=(qL hxB HU0.o kp).2;have fq:=(qL hyB HV0.o kq).2;have fr:=(qL hyB HV1.o kr).2;have ft:=(qL hxB HU1.o kt).2;obtain⟨p,hp1⟩:=eqx ((x*u0+cp)%B);obtain⟨cp',hp2⟩:=eqx ((x*u0+cp)/B);obtain⟨q,hq1⟩:=eqx ((y*v0+cq)%B);obtain⟨cq',hq2⟩:=eqx ((y*v0+cq)/B);obtain⟨r,hr1⟩:=eqx ((y*v1+cr)%B);obtain⟨cr',hr2⟩:=eqx ((y*v1+cr)/B);obtain⟨t,ht1⟩:=eqx ((x*u1+ct)%B);obtain⟨ct',ht2⟩:=eqx ((x*u1+ct)/B)
    have hpB:p<B:=by rw[<-hp1];exact bL _ (by decide)
    have hqB:q<B:=by rw[<-hq1];exact bL _ (by decide)
    have hrB:r<B:=by rw[<-hr1];exact bL _ (by decide)
    have htB:t<B:=by rw[<-ht1];exact bL _ (by decide)
    rw[hp1,hp2]at hp ep;rw[hq1,hq2]at hq eq;rw[hr1,hr2]at hr er;rw[ht1,ht2]at ht et;rw[hp2]at fp;rw[hq2]at fq;rw[hr2]at fr;rw[ht2]at ft;have HP:=zh hp;have HQ:=zh hq;have HR:=zh hr;have HT:=zh ht;clear hp hq hr ht hp1 hp2 hq1 hq2 hr1 hr2 ht1 ht2
    have hA1:∀V,(callFunc 192 #[.int .u64 (q:Nat),.int .u64 (p:Nat),.int .u64 (bo:Nat)]).run Tryz.prog V=_:=λV=>aAL q p bo kb V
    obtain⟨d,hd⟩:=eqx ((q+B-p-bo)%B);obtain⟨bo',hbo⟩:=eqx ((if q<p+bo then 1 else 0):Nat);rw[hd,hbo]at hA1
    have hA2:∀V,(callFunc 192 #[.int .u64 (t:Nat),.int .u64 (r:Nat),.int .u64 (lo:Nat)]).run Tryz.prog V=_:=λV=>aAL t r lo kl V
    obtain⟨d2,hd2⟩:=eqx ((t+B-r-lo)%B);obtain⟨lo',hlo⟩:=eqx ((if t<r+lo then 1 else 0):Nat);rw[hd2,hlo]at hA2;have g1:=uS (x:=q) (y:=p) (c:=bo) hqB hpB kb;rw[hd,hbo]at g1;have g2:=uS (x:=t) (y:=r) (c:=lo) htB hrB kl;rw[hd2,hlo]at g2;have HNX:=zh (HS.o.next hix hiy hx hy ep eq er et (.inl ⟨rfl,g1,g2⟩) (by rw[<-hd];exact bL _ (by decide)) (by rw[<-hd2];exact bL _ (by decide)) ⟨fp,fq,fr,ft,by rw[<-hbo];exact uT,by rw[<-hlo];exact uT⟩ hab has hbs h1 h2);clear hd hbo hd2 hlo g1 g2 ep eq er et fp fq fr ft hx hy hxB hyB hpB hqB hrB htB kp kq kr kt
    have q0:(0:Int)<=(i:Int):=by omega
    have q1:(i:Int)<(n:Int):=by omega
    have q3:((i:Int)).toNat=i:=by omega
    have d1:decide ((i:Int)<(n:Int))=true:=dT q1;have d2':decide (i<n)=true:=dT hin;have hne1:(gb=ga)=False:=bX (λe=>hab e.symm);have hne2:(ga=gb)=False:=bX hab
    go_upto_region 8 with(go_at_call 197;with_reducible refine bE (HP.o _) ?_;rintro e w1 ⟨rfl,rfl⟩)
    go_upto_region 9 with(go_at_call 197;with_reducible refine bE (HQ.o _) ?_;rintro e w1 ⟨rfl,rfl⟩)
    go_upto_region 10 with(go_at_call 197;with_reducible refine bE (HR.o _) ?_;rintro e w1 ⟨rfl,rfl⟩)
    go_upto_region 11 with(go_at_call 197;with_reducible refine bE (HT.o _) ?_;rintro e w1 ⟨rfl,rfl⟩)
    go_wp2;go_roundw
    case rel=>exact⟨i+1,cp',cq',cr',ct',bo',lo',_,_,by go_num,by omega,rfl,rfl,rfl,rfl,rfl,rfl,HNX⟩
    case measure=>simp[intOf];omega
   obtain rfl:i=n:=by omega
   have d1:decide ((i:Int)<(i:Int))=false:=by simp
   have HF:=zh (HFIN.o wo cp cq cr ct bo lo zs ws HS.o);clear HS HFIN;go_wp2
   go_end0
   exact⟨rfl,zs,ws,HF.o⟩
theorem aHp (base ga gb ca cb n u0 u1 v0 v1 a b P R:Nat)(xs ys ra rb:List Nat)(w:World)(hA:Blk w ga 170 (jZ (xs++ra)))(hB:Blk w gb 170 (jZ (ys++rb)))(hxl:xs.length=n)(hyl:ys.length=n)(hxd:Dig xs)(hyd:Dig ys)(hxv:val xs=a)(hyv:val ys=b)(hn:n<=500000)
    (hu0:u0<B) (hu1:u1<B) (hv0:v0<B) (hv1:v1<B) (hR:yU a b u0 u1 v0 v1 true P R) (hab:ga≠gb) (h1:base<=ga) (h2:base<=gb):
    Calls Tryz.prog 175 #[.agg #[.int .u64 (u0:Nat),.int .u64 (u1:Nat),.int .u64 (v0:Nat),.int .u64 (v1:Nat),.bool true],.slice (some ⟨ga,0,none⟩) n ca,.slice (some ⟨gb,0,none⟩) n cb] w λe w'=>e=.returned (.tuple #[])/\∃zs ws,zs.length=n/\ws.length=n/\Dig zs/\Dig ws/\val zs=P/\val ws=R/\Blk w' ga 170 (jZ (zs++ra))/\Blk w' gb 170 (jZ (ws++rb))/\Below base w w':=by
  have hla:=hA.lt;have hlb:=hB.lt;obtain⟨W0,hW0⟩:=eqx (w.alloc (.cells #[.int .u64 (u0:Nat),.int .u64 (u1:Nat),.int .u64 (v0:Nat),.int .u64 (v1:Nat),.bool true] 222))
  have H0:Hid (ApL w base ga gb w.heap.size u0 u1 v0 v1 true xs ys ra rb W0 0 0 0 0 0 0 0 [] []):=zh (by
   refine⟨rfl,rfl,λ_ hx=>absurd hx (by simp),λ_ hx=>absurd hx (by simp),by decide,?_,?_,?_,?_,?_⟩
   ·right;simp[val]
   ·rw[<-hW0];exact hA.alloc _
   ·rw[<-hW0];exact hB.alloc _
   ·rw[<-hW0];exact Blk.new w 222 (stp u0 u1 v0 v1 true)
   rw[<-hW0];exact brf.alloc (by omega) _)
  have HFIN:Hid (∀wr cp cq cr ct bo lo zs ws,ApL w base ga gb w.heap.size u0 u1 v0 v1 true xs ys ra rb wr n cp cq cr ct bo lo zs ws->zs.length=n/\ws.length=n/\Dig zs/\Dig ws/\val zs=P/\val ws=R/\Blk wr ga 170 (jZ (zs++ra))/\Blk wr gb 170 (jZ (ws++rb))/\Below base w wr):=zh (λwr cp cq cr ct bo lo zs ws s=>by
   have e:=s.eq;rw[mZ (ys:=xs) (by omega),mZ (ys:=ys) (by omega),hxv,hyv]at e;have hz:=kR s.zd;rw[s.zl]at hz;have hw:=kR s.wd;rw[s.wl]at hw
   have hbB:b<B^n:=by rw[<-hyv,<-hyl];exact kR hyd
   have hPB:P<B^n:=bB hR.le hbB;have hRB:R<B^n:=Nat.lt_trans hR.lt hPB;have hba:=s.ba;have hbb:=s.bb;rw[cS (by omega),dB]at hba hbb
   rcases e with⟨h,g1,g2⟩|⟨h,g1,g2⟩
   ·cases h
   rcases hR.lin with⟨_,l1,l2,_⟩|⟨h',_⟩
   ·refine⟨s.zl,s.wl,s.zd,s.wd,uR (c:=cp) (c':=cq+bo) (by omega) hz hPB,uR (c:=cr) (c':=ct+lo) (by omega) hw hRB,hba,hbb,s.below⟩
   cases h')
  have HXL:=zh hxl;have HYL:=zh hyl;have HXD:=zh hxd;have HYD:=zh hyd;have HWW:=zh hW0;have HU0:=zh hu0;have HU1:=zh hu1;have HV0:=zh hv0;have HV1:=zh hv1
  have has:ga≠w.heap.size:=by omega
  have hbs:gb≠w.heap.size:=by omega
  obtain⟨gs,hgs⟩:=eqx (w.heap.size);rw[hgs]at H0 HFIN has hbs;have HGS:=zh hgs;clear hA hB hxl hyl hxd hyd hxv hyv hu0 hu1 hv0 hv1 hR hW0 hla hlb hgs;go_enter Tryz.func175,Tryz.ntmps175;go_upto_region 1 with(fail);rw[HWW.o,HGS.o];go_wp2
  go_loopw [6,7,8,9,10,11,21] (λs6 s7 s8 s9 s10 s11 s21 wr=>∃(i cp cq cr ct bo lo:Nat) (zs ws:List Nat),s21=.int .i64 i/\i<=n/\s6=.int .u64 (cp:Nat)/\s7=.int .u64 (cq:Nat)/\s8=.int .u64 (cr:Nat)/\s9=.int .u64 (ct:Nat)/\s10=.int .u64 (bo:Nat)/\s11=.int .u64 (lo:Nat)/\Hid (ApL w base ga gb gs u0 u1 v0 v1 true xs ys ra rb wr i cp cq cr ct bo lo zs ws)) (λ_ _ _ _ _ _ s21 _=>n-(intOf s21).toNat)
  case atStart=>exact⟨0,0,0,0,0,0,0,[],[],rfl,aW _,rfl,rfl,rfl,rfl,rfl,rfl,H0⟩
  case round=>
   clear H0;obtain⟨wo,rfl⟩:∃wo:World,wo=wr:=⟨_,rfl⟩;obtain⟨i,cp,cq,cr,ct,bo,lo,zs,ws,rfl,hi,rfl,rfl,rfl,rfl,rfl,rfl,HS⟩:=hrel
   by_cases hin:i<n
   ·have hix:i<xs.length:=by rw[HXL.o];exact hin
    have hiy:i<ys.length:=by rw[HYL.o];exact hin
    have hca:=HS.o.ba.cell i;rw[lL (sG HS.o.zl hix)]at hca;have hfa:=HS.o.ba.frozen i;have hcb:=HS.o.bb.cell i;rw[lL (sG HS.o.wl hiy)]at hcb;have hfb:=HS.o.bb.frozen i;obtain⟨c0,c1,c2,c3,c4,_⟩:=mY HS.o.bs;obtain⟨kp,kq,kr,kt,kb,kl⟩:=HS.o.cps;have hxB:=HXD.o xs[i] (aB _);have hyB:=HYD.o ys[i] (aB _);obtain⟨x,hx⟩:=eqx (xs[i]);obtain⟨y,hy⟩:=eqx (ys[i]);rw[hx]at hca hxB;rw[hy]at hcb hyB;have hp:=sX x u0 cp hxB HU0.o kp;have hq:=sX y v0 cq hyB HV0.o kq;have hr:=sX y v1 cr hyB HV1.o kr;have ht:=sX x u1 ct hxB HU1.o kt;have ep:=pH (x:=x) (y:=u0) (k:=cp);have eq:=pH (x:=y) (y:=v0) (k:=cq);have er:=pH (x:=y) (y:=v1) (k:=cr);have et:=pH (x:=x) (y:=u1) (k:=ct)
    have fp:=(qL hxB HU0.o kp).2;have fq:=(qL hyB HV0.o kq).2;have fr:=(qL hyB HV1.o kr).2;have ft:=(qL hxB HU1.o kt).2;obtain⟨p,hp1⟩:=eqx ((x*u0+cp)%B);obtain⟨cp',hp2⟩:=eqx ((x*u0+cp)/B);obtain⟨q,hq1⟩:=eqx ((y*v0+cq)%B);obtain⟨cq',hq2⟩:=eqx ((y*v0+cq)/B);obtain⟨r,hr1⟩:=eqx ((y*v1+cr)%B);obtain⟨cr',hr2⟩:=eqx ((y*v1+cr)/B);obtain⟨t,ht1⟩:=eqx ((x*u1+ct)%B);obtain⟨ct',ht2⟩:=eqx ((x*u1+ct)/B)
    have hpB:p<B:=by rw[<-hp1];exact bL _ (by decide)
    have hqB:q<B:=by rw[<-hq1];exact bL _ (by decide)
    have hrB:r<B:=by rw[<-hr1];exact bL _ (by decide)
    have htB:t<B:=by rw[<-ht1];exact bL _ (by decide)
    rw[hp1,hp2]at hp ep;rw[hq1,hq2]at hq eq;rw[hr1,hr2]at hr er;rw[ht1,ht2]at ht et;rw[hp2]at fp;rw[hq2]at fq;rw[hr2]at fr;rw[ht2]at ft;have HP:=zh hp;have HQ:=zh hq;have HR:=zh hr;have HT:=zh ht;clear hp hq hr ht hp1 hp2 hq1 hq2 hr1 hr2 ht1 ht2
    have hA1:∀V,(callFunc 192 #[.int .u64 (p:Nat),.int .u64 (q:Nat),.int .u64 (bo:Nat)]).run Tryz.prog V=_:=λV=>aAL p q bo kb V
    obtain⟨d,hd⟩:=eqx ((p+B-q-bo)%B);obtain⟨bo',hbo⟩:=eqx ((if p<q+bo then 1 else 0):Nat);rw[hd,hbo]at hA1
    have hA2:∀V,(callFunc 192 #[.int .u64 (r:Nat),.int .u64 (t:Nat),.int .u64 (lo:Nat)]).run Tryz.prog V=_:=λV=>aAL r t lo kl V
    obtain⟨d2,hd2⟩:=eqx ((r+B-t-lo)%B);obtain⟨lo',hlo⟩:=eqx ((if r<t+lo then 1 else 0):Nat);rw[hd2,hlo]at hA2;have g1:=uS (x:=p) (y:=q) (c:=bo) hpB hqB kb;rw[hd,hbo]at g1;have g2:=uS (x:=r) (y:=t) (c:=lo) hrB htB kl;rw[hd2,hlo]at g2;have HNX:=zh (HS.o.next hix hiy hx hy ep eq er et (.inr ⟨rfl,g1,g2⟩) (by rw[<-hd];exact bL _ (by decide)) (by rw[<-hd2];exact bL _ (by decide)) ⟨fp,fq,fr,ft,by rw[<-hbo];exact uT,by rw[<-hlo];exact uT⟩ hab has hbs h1 h2);clear hd hbo hd2 hlo g1 g2 ep eq er et fp fq fr ft hx hy hxB hyB hpB hqB hrB htB kp kq kr kt
    have q0:(0:Int)<=(i:Int):=by omega
    have q1:(i:Int)<(n:Int):=by omega
    have q3:((i:Int)).toNat=i:=by omega
    have d1:decide ((i:Int)<(n:Int))=true:=dT q1;have d2':decide (i<n)=true:=dT hin;have hne1:(gb=ga)=False:=bX (λe=>hab e.symm);have hne2:(ga=gb)=False:=bX hab
    go_upto_region 8 with(go_at_call 197;with_reducible refine bE (HP.o _) ?_;rintro e w1 ⟨rfl,rfl⟩)
    go_upto_region 9 with(go_at_call 197;with_reducible refine bE (HQ.o _) ?_;rintro e w1 ⟨rfl,rfl⟩)
    go_upto_region 10 with(go_at_call 197;with_reducible refine bE (HR.o _) ?_;rintro e w1 ⟨rfl,rfl⟩)
    go_upto_region 11 with(go_at_call 197;with_reducible refine bE (HT.o _) ?_;rintro e w1 ⟨rfl,rfl⟩)
    go_wp2;go_roundw
    case rel=>exact⟨i+1,cp',cq',cr',ct',bo',lo',_,_,by go_num,by omega,rfl,rfl,rfl,rfl,rfl,rfl,HNX⟩
    case measure=>simp[intOf];omega
   obtain rfl:i=n:=by omega
   have d1:decide ((i:Int)<(i:Int))=false:=by simp
   have HF:=zh (HFIN.o wo cp cq cr ct bo lo zs ws HS.o);clear HS HFIN;go_wp2
   go_end0
   exact⟨rfl,zs,ws,HF.o⟩
end Go.Proofs.Tg.Iw
end
