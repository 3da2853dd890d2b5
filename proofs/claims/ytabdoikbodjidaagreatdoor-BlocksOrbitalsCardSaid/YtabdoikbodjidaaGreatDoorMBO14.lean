/- Parts of the proof. -/
import Derived.Test.YtabdoikbodjidaaGreatDoorMBO13
set_option maxHeartbeats 64000000
set_option maxRecDepth 100000
section
namespace Go.Bn
theorem aAN {U u1 V v1 v2:Nat}(hV:V=v1*4294967296+v2)(hb:2147483648<=v1)(h1:v1<4294967296)(h2:v2<4294967296)(hu:u1<4294967296):nX (U*4294967296+u1) V U u1 v1 v2 1:=by
 have e:B=4294967296:=rfl
 refine⟨?_,?_,?_,?_,?_,?_,?_,?_⟩<;>rw[e]<;>omega
theorem Est.exact {u v top u2 v1 v2 q e r:Nat}(h:nX u v top u2 v1 v2 1)(hq:q=u/v)(hv:0<v)(s:Est top v1 q e r)(heB:e<=B)(ht:e*v2<=r*B+u2∨B<=r):e=q:=by
 have h1:v=v1*B+v2:=by have:=h.v_hi;have:=h.v_lo;omega
 have h2:u=top*B+u2:=by have:=h.u_hi;have:=h.u_lo;omega
 have h3:e*v2<=r*B+u2:=by
  rcases ht with ht|ht
  ·exact ht
  have a1:e*v2<=B*B:=cE heB (eM h.v2lt);have a2:B*B<=r*B:=aY _ ht;omega
 have h4:e*v<=u:=by
  have:=s.eq;rw[h1,h2,<-this,aZ,<-aV,cQ];omega
 have h5:e<=u/v:=(Nat.le_div_iff_mul_le hv).2 h4
 have:=s.ge
 omega
end Go.Bn
namespace Go.Bw
theorem aER {hi lo y k:Nat}(hk:k<64)(hlt:hi<y)(hlo:lo<B)(hy:y*2^k<B):hi*2^k<B/\lo/2^(64-k)<2^k/\hi*2^k|||lo/2^(64-k)=hi*2^k+lo/2^(64-k)/\hi*2^k+lo/2^(64-k)<y*2^k/\(hi*B+lo)*2^k=(hi*2^k+lo/2^(64-k))*B+lo*2^k%B:=by
 have hB:B=2^k*2^(64-k):=mH hk
 have hp:0<2^(64-k):=eK (by omega)
 have hpk:0<2^k:=eK (by omega)
 have h1:lo/2^(64-k)<2^k:=by
  rw[eC hp,<-hB];exact hlo
 have h2:hi*2^k+2^k<=y*2^k:=by
  have:=aY (2^k) (show hi+1<=y from hlt)
  rwa [cQ,fJ]at this
 refine⟨by omega,h1,?_,by omega,?_⟩
 ·rw[aT]
  exact(iU h1 hi).symm
 have h3:lo*2^k%B=lo%2^(64-k)*2^k:=by
  rw[hB,aT (2^k),jB]
 have h4:=dD lo (2^(64-k));rw[h3,cQ,cQ]
 have e1:lo/2^(64-k)*B=2^(64-k)*(lo/2^(64-k))*2^k:=by rw[hB];simp only[aT,dZ]
 have e2:lo*2^k=(2^(64-k)*(lo/2^(64-k))+lo%2^(64-k))*2^k:=by rw[h4]
 have e3:hi*B*2^k=hi*2^k*B:=Nat.mul_right_comm _ _ _;rw[e1,e2,e3,cQ,fQ]
theorem aDw {R V u:Nat}(h:R<V)(hu:u<4294967296):R*4294967296+u<V*4294967296:=by omega
theorem aHt {U y un32 un1 un0 q1 r1 q0 r0:Nat}(hU:U=(un32*4294967296+un1)*4294967296+un0)(hy:0<y)(h1:q1=(un32*4294967296+un1)/y)(g1:r1=(un32*4294967296+un1)%y)(h0:q0=(r1*4294967296+un0)/y)(g0:r0=(r1*4294967296+un0)%y):U/y=q1*4294967296+q0/\U%y=r0:=by
 have e1:=dD (un32*4294967296+un1) y
 have e0:=dD (r1*4294967296+un0) y
 rw[<-h1,<-g1]at e1
 rw[<-h0,<-g0]at e0
 have hr:r0<y:=by rw[g0];exact bL _ hy
 have hs:U=y*(q1*4294967296+q0)+r0:=by
  rw[hU,<-e1,aZ,<-aV];generalize y*q1=a at*;generalize y*q0=b at*;clear hU h1 g1 h0 g0;omega
 constructor
 ·rw[hs,eX hy,cT hr,bW]
 rw[hs,fG,cU hr]
end Go.Bw
namespace Go.Proofs.Tg.Iw
open Go.RowKit Go.Bw Go.Gr Go.Proofs.Tg
open Go.Bn (aAN)
theorem aGh (hi lo y:Nat)(hlt:hi<y)(hlo:lo<18446744073709551616)(hy:y<18446744073709551616)(w:World):
    Calls Tryz.prog 199 #[.int .u64 hi,.int .u64 lo,.int .u64 y] w λe w'=>e=.returned (.tuple #[.int .u64 ((hi*B+lo)/y:Nat),.int .u64 ((hi*B+lo)%y:Nat)])/\Below w.heap.size w w':=by
  have y0:((y:Int)==0)=false:=aG.2 (by omega);have y0':(y==0)=false:=aG.2 (by omega);have y0n:((y:Int)=0)=False:=bX (by omega);have y0nn:(y=0)=False:=bX (by omega);have yh:decide ((y:Int)<=(hi:Int))=false:=dF (by omega);have yh':decide (y<=hi)=false:=dF (by omega)
  by_cases hi0:hi=0
  ·subst hi0;obtain⟨qq,hq⟩:=eqx (lo/y);obtain⟨rr,hr⟩:=eqx (lo%y)
   have hqB:qq<18446744073709551616:=by rw[<-hq];exact bB (cF _ _) hlo
   have D1:(lo:Int).tdiv (y:Int)=(qq:Int):=by rw[<-hq];rfl
   have D1':(lo:Int)/(y:Int)=(qq:Int):=by rw[<-hq];rfl
   have D2:(lo:Int).tmod (y:Int)=(rr:Int):=by rw[<-hr];rfl
   have D2':(lo:Int)%(y:Int)=(rr:Int):=by rw[<-hr];rfl
   have D3:IntKind.u64.wrap (qq:Int)=(qq:Int):=Go.Proofs.Mul64.wrapN _ hqB;have HQ:=zh hq;have HR:=zh hr;clear hq hr;go_enter Tryz.func199,Tryz.ntmps199;go_wp2
   go_quiet (fail)
   go_wp2
   go_ret2
   have e:0*B+lo=lo:=by rw[Nat.zero_mul,bN]
   refine⟨?_,jX brf _⟩;rw[e,HQ.o,HR.o]
   rfl
  have h0:((hi:Int)==0)=false:=aG.2 (by omega);have h0':(hi==0)=false:=aG.2 (by omega);have h0n:((hi:Int)=0)=False:=bX (by omega);have h0nn:(hi=0)=False:=bX (by omega)
  have hy0:y≠0:=by omega
  obtain⟨b1,b2,b3⟩:=aCx (x:=y) hy0 hy;obtain⟨k,hk⟩:=eqx (64-Lib.bitLen y);have HLZ:=zh (aOu y k hy hk (aCw hy0 hy).2.1);rw[hk]at b1 b2 b3;clear hk;obtain⟨c1,c2,c3,c4,c5⟩:=aER b1 hlt hlo b2;obtain⟨V,hV⟩:=eqx (y*2^k);obtain⟨hs,hhs⟩:=eqx (hi*2^k);obtain⟨ls,hls⟩:=eqx (lo/2^(64-k));obtain⟨un10,hun10⟩:=eqx (lo*2^k%B);rw[hV]at b2 b3 c4;rw[hhs,hls]at c3 c4 c5;rw[hhs]at c1;rw[hls]at c2;rw[hun10]at c5
  have hl10:un10<18446744073709551616:=by rw[<-hun10];exact bL _ (by decide)
  have hlsB:ls<18446744073709551616:=bB (by rw[<-hls];exact cF _ _) hlo;obtain⟨U,hU⟩:=eqx (hs+ls);rw[hU]at c3 c4 c5
  have W1:IntKind.u64.wrap ((y:Int)*2^k)=(V:Int):=by
   have e:(y:Int)*2^k=((y*2^k:Nat):Int):=by simp
   rw[e,hV];exact Go.Proofs.Mul64.wrapN _ b2
  have W4:IntKind.u64.wrap ((hi:Int)*2^k)=(hs:Int):=by
   have e:(hi:Int)*2^k=((hi*2^k:Nat):Int):=by simp
   rw[e,hhs];exact Go.Proofs.Mul64.wrapN _ c1
  have W5:(lo:Int)/2^(64-k)=(ls:Int):=by
   have e:(lo:Int)/2^(64-k)=((lo/2^(64-k):Nat):Int):=by simp
   rw[e,hls]
  have W6:bits .or .u64 (hs:Int) (ls:Int)=(U:Int):=by
   rw[u64_or_nat hs ls c1 hlsB,c3]
  have W7:IntKind.u64.wrap ((lo:Int)*2^k)=(un10:Int):=by
   have e:(lo:Int)*2^k=((lo*2^k:Nat):Int):=by simp
   rw[e,<-hun10];exact Go.Proofs.Mul64.wrapM _
  have HFIN:Hid ((hi*B+lo)/y=(U*B+un10)/V/\(hi*B+lo)%y=(U*B+un10)%V/2^k):=zh (by
   obtain⟨g1,g2⟩:=aBM (a:=hi*B+lo) (b:=y) (s:=k);rw[c5,hV]at g1 g2;rw[<-g1,g2,Nat.mul_div_cancel _ (eK (by omega))]
   exact⟨rfl,rfl⟩)
  obtain⟨v1,hv1⟩:=eqx (V/4294967296);obtain⟨v2,hv2⟩:=eqx (V%4294967296);obtain⟨un1,hun1⟩:=eqx (un10/4294967296);obtain⟨un0,hun0⟩:=eqx (un10%4294967296)
  have W2:(V:Int)/4294967296=(v1:Int):=by omega
  have W3:bits .and .u64 (V:Int) 4294967295=(v2:Int):=by rw[Go.Proofs.Mul64.maskN V b2,hv2]
  have W8:(un10:Int)/4294967296=(un1:Int):=by omega
  have W9:bits .and .u64 (un10:Int) 4294967295=(un0:Int):=by rw[Go.Proofs.Mul64.maskN un10 hl10,hun0]
  have HY:Hid (un10=un1*4294967296+un0/\V=v1*4294967296+v2):=zh (by omega);have b2':V<18446744073709551616:=b2
  have v1b:2147483648<=v1:=by omega
  have v1B:v1<4294967296:=by omega
  have v2B:v2<4294967296:=by omega
  have u1B:un1<4294967296:=by omega
  have u0B:un0<4294967296:=by omega
  have UB:U<18446744073709551616:=by omega
  clear b2';have UV:=c4;clear hV hhs hls hun10 hU c1 c2 c3 c4 c5 b2 b3 hv1 hv2 hun1 hun0 hlsB hl10;have v1n:((v1:Int)==0)=false:=aG.2 (by omega);have v1nn:(v1==0)=false:=aG.2 (by omega);have v1e:((v1:Int)=0)=False:=bX (by omega);have v1ee:(v1=0)=False:=bX (by omega);obtain⟨e0,he0⟩:=eqx (U/v1);obtain⟨r0,hr0⟩:=eqx (U%v1)
  have W10:(U:Int).tdiv (v1:Int)=(e0:Int):=by rw[<-he0];rfl
  have he0B:e0<18446744073709551616:=by rw[<-he0];exact bB (cF _ _) UB
  have hdm:e0*v1+r0=U:=by rw[<-he0,<-hr0,aT];exact dD _ _
  have W11:IntKind.u64.wrap (e0:Int)=(e0:Int):=Go.Proofs.Mul64.wrapN _ he0B
  have W12:IntKind.u64.wrap ((e0:Int)*(v1:Int))=((e0*v1:Nat):Int):=by
   rw[Go.Proofs.Mul64.mulN];exact Go.Proofs.Mul64.wrapN _ (by omega)
  have W13:(U:Int)-(e0:Int)*(v1:Int)=(r0:Int):=by
   rw[Go.Proofs.Mul64.mulN];omega
  have W14:IntKind.u64.wrap ((r0:Nat):Int)=(r0:Int):=Go.Proofs.Mul64.wrapN _ (by have:=bL U (show 0<v1 by omega);omega)
  have r0B:r0<4294967296:=by have:=bL U (show 0<v1 by omega);omega
  have AT:Hid (Go.Bn.nX (U*4294967296+un1) V U un1 v1 v2 1):=zh (by
   exact aAN HY.o.2 v1b v1B v2B u1B)
  have hV0:0<V:=by have:=HY.o;omega
  obtain⟨q1,hq1⟩:=eqx ((U*4294967296+un1)/V);obtain⟨R,hR⟩:=eqx ((U*4294967296+un1)%V);have hltA:U*4294967296+un1<V*4294967296:=aDw UV u1B;have hdA:=dD (U*4294967296+un1) V;rw[hq1,hR]at hdA;have AQ:Hid (q1*V<=U*4294967296+un1):=zh (by rw[aT];omega)
  have AB:Hid (q1<Go.Bn.B):=zh (by
   rw[<-hq1]
   exact dV hltA)
  have AD:Hid (q1=(U*4294967296+un1)/V):=zh hq1.symm;have AV:=zh hV0
  have AS:Hid (Go.Bn.Est U v1 q1 e0 r0):=zh (by
   have:=Go.Bn.Est.start AT.o AQ.o hltA
   rwa [he0,hr0]at this)
  have hRV:R<V:=by rw[<-hR];exact bL _ hV0
  --the second digit
  obtain⟨e1,he1⟩:=eqx (R/v1);obtain⟨r1,hr1⟩:=eqx (R%v1);obtain⟨q0,hq0⟩:=eqx ((R*4294967296+un0)/V);obtain⟨R0,hR0⟩:=eqx ((R*4294967296+un0)%V)
  have BT:Hid (Go.Bn.nX (R*4294967296+un0) V R un0 v1 v2 1):=zh (by
   exact aAN HY.o.2 v1b v1B v2B u0B)
  have hltB:R*4294967296+un0<V*4294967296:=aDw hRV u0B;have hdB:=dD (R*4294967296+un0) V;rw[hq0,hR0]at hdB;have BQ:Hid (q0*V<=R*4294967296+un0):=zh (by rw[aT];omega)
  have BB:Hid (q0<Go.Bn.B):=zh (by
   rw[<-hq0]
   exact dV hltB)
  have BD:Hid (q0=(R*4294967296+un0)/V):=zh hq0.symm;have BV:=zh hV0
  have BS:Hid (Go.Bn.Est R v1 q0 e1 r1):=zh (by
   have:=Go.Bn.Est.start BT.o BQ.o hltB
   rwa [he1,hr1]at this)
  have hr1B:r1<4294967296:=by have:=bL R (show 0<v1 by omega);omega
  have hRB:R<18446744073709551616:=by have:=HY.o;omega
  have hR0V:R0<V:=by rw[<-hR0];exact bL _ hV0
  have X1:(R:Int).tdiv (v1:Int)=(e1:Int):=by rw[<-he1];rfl
  have he1B:e1<18446744073709551616:=by rw[<-he1];exact bB (cF _ _) hRB
  have hdm1:e1*v1+r1=R:=by rw[<-he1,<-hr1,aT];exact dD _ _
  have X2:IntKind.u64.wrap (e1:Int)=(e1:Int):=Go.Proofs.Mul64.wrapN _ he1B
  have X3:IntKind.u64.wrap ((e1:Int)*(v1:Int))=((e1*v1:Nat):Int):=by
   rw[Go.Proofs.Mul64.mulN];exact Go.Proofs.Mul64.wrapN _ (by omega)
  have X4:(R:Int)-(e1:Int)*(v1:Int)=(r1:Int):=by
   rw[Go.Proofs.Mul64.mulN];omega
  have X5:IntKind.u64.wrap ((r1:Nat):Int)=(r1:Int):=Go.Proofs.Mul64.wrapN _ (by omega);have q1B:q1<4294967296:=AB.o;have q0B:q0<4294967296:=BB.o
  --the differences that wrap
  have Y1:IntKind.u64.wrap (IntKind.u64.wrap (IntKind.u64.wrap ((U:Int)*4294967296)+(un1:Int))-IntKind.u64.wrap ((q1:Int)*(V:Int)))=(R:Int):=by
   have e:(q1:Int)*(V:Int)=(U:Int)*4294967296+(un1:Int)-(R:Int):=by
    rw[Int.mul_comm,Go.Proofs.Mul64.mulN];omega
   rw[e];simp only[IntKind.wrap_u64];omega
  have Y2:IntKind.u64.wrap (IntKind.u64.wrap (IntKind.u64.wrap ((R:Int)*4294967296)+(un0:Int))-IntKind.u64.wrap ((q0:Int)*(V:Int)))=(R0:Int):=by
   have e:(q0:Int)*(V:Int)=(R:Int)*4294967296+(un0:Int)-(R0:Int):=by
    rw[Int.mul_comm,Go.Proofs.Mul64.mulN];omega
   rw[e];simp only[IntKind.wrap_u64];omega
  have Y3:IntKind.u64.wrap (IntKind.u64.wrap ((q1:Int)*4294967296)+(q0:Int))=((q1*4294967296+q0:Nat):Int):=by
   simp only[IntKind.wrap_u64];omega
  have HJ:Hid ((U*B+un10)/V=q1*4294967296+q0/\(U*B+un10)%V=R0):=zh (aHt (by rw[HY.o.1,cQ,aV,fQ]) hV0 hq1.symm hR.symm hq0.symm hR0.symm)
  have HFIN2:Hid ((hi*B+lo)/y=q1*4294967296+q0/\(hi*B+lo)%y=R0/2^k):=zh (by
   obtain⟨a1,a2⟩:=HFIN.o;obtain⟨a3,a4⟩:=HJ.o
   exact⟨a1.trans a3,by rw[a2,a4]⟩)
  obtain⟨z,hz⟩:=eqx (R0/2^k)
  have Y4:(R0:Int)/2^k=(z:Int):=by rw[<-hz];simp
  have HZ:Hid ((hi*B+lo)/y=q1*4294967296+q0/\(hi*B+lo)%y=z):=zh ⟨HFIN2.o.1,HFIN2.o.2.trans hz⟩;have HQ:Hid (∀z':Nat,z'=q1*4294967296+q0->z'=(hi*B+lo)/y):=zh (λz' h=>h.trans HZ.o.1.symm);clear hz;clear HFIN HJ hdA hdB hq1 hR hq0 hR0 he0 hr0 he1 hr1 hdm hdm1 hltA hltB;go_enter Tryz.func199,Tryz.ntmps199
  go_upto_block 0 with(go_at_call 194;refine(HLZ.o _).mono ?_;rintro e w1 ⟨rfl,rfl⟩)
  clear W1 W4 W5 W6 W7 W2 W3 W8 W9 W10 W11 W12 W13 W14 HLZ
  go_cut [15,16]from 67 (λs15 s16 wx=>s15=.int .u64 (q1:Nat)/\(∃r:Nat,s16=.int .u64 (r:Nat))/\w=wx)
  case first=>
   go_wp2
   go_loop [15,16] (λa b=>∃e r:Nat,a=.int .u64 (e:Nat)/\b=.int .u64 (r:Nat)/\r<4294967296/\e<=4294967297/\Hid (Go.Bn.Est U v1 q1 e r)) (λa _=>(intOf a).toNat)
   case atStart=>exact⟨e0,r0,rfl,rfl,by omega,AS.o.le,AS⟩
   case round=>
    obtain⟨e,r,rfl,rfl,hrB,heB,HE⟩:=hrel;have m1:=cE heB (show v2<=4294967295 by omega)
    have x1:IntKind.u64.wrap ((e:Int)*(v2:Int))=(e:Int)*(v2:Int):=by
     rw[Go.Proofs.Mul64.mulN];exact Go.Proofs.Mul64.wrapN _ (by omega)
    have x2:IntKind.u64.wrap (4294967296*(r:Int))=4294967296*(r:Int):=by
     rw[show(4294967296:Int)*(r:Int)=((4294967296*r:Nat):Int) by omega];exact Go.Proofs.Mul64.wrapN _ (by omega)
    have x3:IntKind.u64.wrap (4294967296*(r:Int)+(un1:Int))=4294967296*(r:Int)+(un1:Int):=by
     rw[show(4294967296:Int)*(r:Int)+(un1:Int)=((4294967296*r+un1:Nat):Int) by omega];exact Go.Proofs.Mul64.wrapN _ (by omega)
    obtain⟨p,hp⟩:=eqx (e*v2:Nat)
    have hpi:(e:Int)*(v2:Int)=(p:Int):=by rw[Go.Proofs.Mul64.mulN,hp]
    rw[hpi]at x1;have HP:=zh hp;have HPI:=zh hpi;clear m1 hp
    by_cases hc:4294967296<=e∨r*4294967296+un1<p
    ·obtain⟨g1,g2,g3⟩:=Go.Bn.Est.round AT.o AQ.o AB.o HE.o (by rw[HP.o];exact hc);have g2':e-1<=4294967296:=g2
     have y1:IntKind.u64.wrap ((e:Int)-1)=((e-1:Nat):Int):=by
      rw[show(e:Int)-1=((e-1:Nat):Int) by omega];exact Go.Proofs.Mul64.wrapN _ (by omega)
     have y2:IntKind.u64.wrap ((r:Int)+(v1:Int))=((r+v1:Nat):Int):=by
      rw[show(r:Int)+(v1:Int)=((r+v1:Nat):Int) by omega];exact Go.Proofs.Mul64.wrapN _ (by omega)
     obtain⟨d,hd⟩:=eqx (e-1);obtain⟨r',hr'⟩:=eqx (r+v1);rw[hd]at g1 g2' y1;rw[hr']at g1 y2;have HG:=zh g1
     have hed:d<e:=by omega
     have HX:Hid (4294967296<=r'->d=q1):=zh (λh=>Go.Bn.Est.exact AT.o AD.o AV.o g1 g2' (.inr h));have y3:IntKind.u64.wrap ((e:Int)-1)=(d:Int):=y1
     have y4:(e:Int)-1=(d:Int):=by omega
     have y5:(r:Int)+(v1:Int)=(r':Int):=by omega
     clear g1 hd hr' g2 g3
     by_cases hr2:4294967296<=r'
     ·have z1:decide ((4294967296:Int)<=(r':Int))=true:=dT (by omega);have z1':decide (4294967296<=r')=true:=dT hr2;obtain rfl:d=q1:=HX.o hr2;clear HX
      by_cases h1:4294967296<=e
      ·have d1:decide ((4294967296:Int)<=(e:Int))=true:=dT (by omega);have d1':decide (4294967296<=e)=true:=dT h1;go_wp2;go_meet;exact⟨rfl,⟨r',rfl⟩,rfl⟩
      have d1:decide ((4294967296:Int)<=(e:Int))=false:=dF (by omega);have d1':decide (4294967296<=e)=false:=dF h1;have d2:decide (4294967296*(r:Int)+(un1:Int)<(p:Int))=true:=dT (by omega);go_wp2;go_meet;exact⟨rfl,⟨r',rfl⟩,rfl⟩
     have z1:decide ((4294967296:Int)<=(r':Int))=false:=dF (by omega);have z1':decide (4294967296<=r')=false:=dF hr2;clear HX
     by_cases h1:4294967296<=e
     ·have d1:decide ((4294967296:Int)<=(e:Int))=true:=dT (by omega);have d1':decide (4294967296<=e)=true:=dT h1;go_wp2;go_round
      case rel=>exact⟨d,r',rfl,rfl,by omega,by omega,HG⟩
      case measure=>simp[intOf];omega
     have d1:decide ((4294967296:Int)<=(e:Int))=false:=dF (by omega);have d1':decide (4294967296<=e)=false:=dF h1;have d2:decide (4294967296*(r:Int)+(un1:Int)<(p:Int))=true:=dT (by omega);go_wp2;go_round
     case rel=>exact⟨d,r',rfl,rfl,by omega,by omega,HG⟩
     case measure=>simp[intOf];omega
    have h1:¬4294967296<=e:=λh=>hc (.inl h)
    have h2:¬r*4294967296+un1<p:=λh=>hc (.inr h)
    obtain rfl:e=q1:=Go.Bn.Est.exact AT.o AD.o AV.o HE.o (show e<=4294967296 by omega) (.inl (by rw[HP.o];show p<=r*4294967296+un1;omega));have d1:decide ((4294967296:Int)<=(e:Int))=false:=dF (by omega);have d1':decide (4294967296<=e)=false:=dF h1;have d2:decide (4294967296*(r:Int)+(un1:Int)<(p:Int))=false:=dF (by omega);go_wp2;go_meet;exact⟨rfl,⟨r,rfl⟩,rfl⟩
  case rest=>
   obtain⟨rfl,⟨r,rfl⟩,rfl⟩:=hcut;go_upto_block 2 with(fail)
   go_cut [18,16]from 102 (λs18 s16 wx=>s18=.int .u64 (q0:Nat)/\(∃r:Nat,s16=.int .u64 (r:Nat))/\w=wx)
   case first=>
    go_wp2
    go_loop [18,16] (λa b=>∃e r:Nat,a=.int .u64 (e:Nat)/\b=.int .u64 (r:Nat)/\r<4294967296/\e<=4294967297/\Hid (Go.Bn.Est R v1 q0 e r)) (λa _=>(intOf a).toNat)
    case atStart=>exact⟨e1,r1,rfl,rfl,by omega,BS.o.le,BS⟩
    case round=>
     obtain⟨e,r,rfl,rfl,hrB,heB,HE⟩:=hrel;have m1:=cE heB (show v2<=4294967295 by omega)
     have x1:IntKind.u64.wrap ((e:Int)*(v2:Int))=(e:Int)*(v2:Int):=by
      rw[Go.Proofs.Mul64.mulN];exact Go.Proofs.Mul64.wrapN _ (by omega)
     have x2:IntKind.u64.wrap (4294967296*(r:Int))=4294967296*(r:Int):=by
      rw[show(4294967296:Int)*(r:Int)=((4294967296*r:Nat):Int) by omega];exact Go.Proofs.Mul64.wrapN _ (by omega)
     have x3:IntKind.u64.wrap (4294967296*(r:Int)+(un0:Int))=4294967296*(r:Int)+(un0:Int):=by
      rw[show(4294967296:Int)*(r:Int)+(un0:Int)=((4294967296*r+un0:Nat):Int) by omega];exact Go.Proofs.Mul64.wrapN _ (by omega)
     obtain⟨p,hp⟩:=eqx (e*v2:Nat)
     have hpi:(e:Int)*(v2:Int)=(p:Int):=by rw[Go.Proofs.Mul64.mulN,hp]
     rw[hpi]at x1;have HP:=zh hp;have HPI:=zh hpi;clear m1 hp
     by_cases hc:4294967296<=e∨r*4294967296+un0<p
     ·obtain⟨g1,g2,g3⟩:=Go.Bn.Est.round BT.o BQ.o BB.o HE.o (by rw[HP.o];exact hc);have g2':e-1<=4294967296:=g2
      have y1:IntKind.u64.wrap ((e:Int)-1)=((e-1:Nat):Int):=by
       rw[show(e:Int)-1=((e-1:Nat):Int) by omega];exact Go.Proofs.Mul64.wrapN _ (by omega)
      have y2:IntKind.u64.wrap ((r:Int)+(v1:Int))=((r+v1:Nat):Int):=by
       rw[show(r:Int)+(v1:Int)=((r+v1:Nat):Int) by omega];exact Go.Proofs.Mul64.wrapN _ (by omega)
      obtain⟨d,hd⟩:=eqx (e-1);obtain⟨r',hr'⟩:=eqx (r+v1);rw[hd]at g1 g2' y1;rw[hr']at g1 y2;have HG:=zh g1
      have hed:d<e:=by omega
      have HX:Hid (4294967296<=r'->d=q0):=zh (λh=>Go.Bn.Est.exact BT.o BD.o BV.o g1 g2' (.inr h));have y3:IntKind.u64.wrap ((e:Int)-1)=(d:Int):=y1
      have y4:(e:Int)-1=(d:Int):=by omega
      have y5:(r:Int)+(v1:Int)=(r':Int):=by omega
      clear g1 hd hr' g2 g3
      by_cases hr2:4294967296<=r'
      ·have z1:decide ((4294967296:Int)<=(r':Int))=true:=dT (by omega);have z1':decide (4294967296<=r')=true:=dT hr2;obtain rfl:d=q0:=HX.o hr2;clear HX
       by_cases h1:4294967296<=e
       ·have d1:decide ((4294967296:Int)<=(e:Int))=true:=dT (by omega);have d1':decide (4294967296<=e)=true:=dT h1;go_wp2;go_meet;exact⟨rfl,⟨r',rfl⟩,rfl⟩
       have d1:decide ((4294967296:Int)<=(e:Int))=false:=dF (by omega);have d1':decide (4294967296<=e)=false:=dF h1;have d2:decide (4294967296*(r:Int)+(un0:Int)<(p:Int))=true:=dT (by omega);go_wp2;go_meet;exact⟨rfl,⟨r',rfl⟩,rfl⟩
      have z1:decide ((4294967296:Int)<=(r':Int))=false:=dF (by omega);have z1':decide (4294967296<=r')=false:=dF hr2;clear HX
      by_cases h1:4294967296<=e
      ·have d1:decide ((4294967296:Int)<=(e:Int))=true:=dT (by omega);have d1':decide (4294967296<=e)=true:=dT h1;go_wp2;go_round
       case rel=>exact⟨d,r',rfl,rfl,by omega,by omega,HG⟩
       case measure=>simp[intOf];omega
      have d1:decide ((4294967296:Int)<=(e:Int))=false:=dF (by omega);have d1':decide (4294967296<=e)=false:=dF h1;have d2:decide (4294967296*(r:Int)+(un0:Int)<(p:Int))=true:=dT (by omega);go_wp2;go_round
      case rel=>exact⟨d,r',rfl,rfl,by omega,by omega,HG⟩
      case measure=>simp[intOf];omega
     have h1:¬4294967296<=e:=λh=>hc (.inl h)
     have h2:¬r*4294967296+un0<p:=λh=>hc (.inr h)
     obtain rfl:e=q0:=Go.Bn.Est.exact BT.o BD.o BV.o HE.o (show e<=4294967296 by omega) (.inl (by rw[HP.o];show p<=r*4294967296+un0;omega));have d1:decide ((4294967296:Int)<=(e:Int))=false:=dF (by omega);have d1':decide (4294967296<=e)=false:=dF h1;have d2:decide (4294967296*(r:Int)+(un0:Int)<(p:Int))=false:=dF (by omega);go_wp2;go_meet;exact⟨rfl,⟨r,rfl⟩,rfl⟩
   case rest=>
    obtain⟨rfl,⟨r,rfl⟩,rfl⟩:=hcut;go_wp2
    go_ret2
    refine⟨?_,bM _ _⟩;rw[HZ.o.1,HZ.o.2];simp
end Go.Proofs.Tg.Iw
end
section
namespace Go.Bw
theorem aKd {p k:Nat}:(p%B+k)%B=(p+k)%B:=by simp only[B];omega
theorem aKe {p k:Nat}:p/B+(p%B+k)/B=(p+k)/B:=by simp only[B];omega
theorem qL {x y k:Nat}(hx:x<B)(hy:y<B)(hk:k<B):x*y+k<B*B/\(x*y+k)/B<B:=by
 have h1:x*y<=(B-1)*(B-1):=cE (by omega) (by omega)
 have h2:(B-1)*(B-1)+B<=B*B:=by decide
 have h3:x*y+k<B*B:=by omega
 exact⟨h3,dV h3⟩
theorem aES {x p k:Nat}(_hx:x<B)(_hp:(p+k)/B<B)(hp2:x+(p+k)<B*B):(x+(p+k)%B)%B+B*((p+k)/B+(x+(p+k)%B)/B)=x+(p+k)/\(p+k)/B+(x+(p+k)%B)/B<B:=by
 have e:B*B=340282366920938463463374607431768211456:=by decide
 rw[e]at hp2
 simp only[B]at*
 omega
theorem aET {x p k:Nat}(hx:x<B)(hp2:p+k<=(B-1)*B):(x+B-(p+k)%B-0)%B+(p+k)=x+B*((p+k)/B+(if x<(p+k)%B+0 then 1 else 0))/\(p+k)/B+(if x<(p+k)%B+0 then 1 else 0)<B:=by
 have e:(B-1)*B=340282366920938463444927863358058659840:=by decide
 rw[e]at hp2
 simp only[B]at*
 split<;>omega
theorem aMw {Z W Y P k x y h d k':Nat}(hs:Z+P*k=W+h*Y)(hd:d+B*k'=x+(y*h+k)):Z+P*d+P*B*k'=W+P*x+h*(Y+P*y):=by
 have h1:=bK (P*·) hd
 simp only[aZ]at h1
 have e1:P*(B*k')=P*B*k':=(aV _ _ _).symm
 have e2:h*(P*y)=P*(y*h):=by rw[dZ,aT h y]
 rw[aZ,e2]
 omega
theorem aMx {Z W Y P k x y h d k':Nat}(hs:Z+h*Y=W+P*k)(hd:d+(y*h+k)=x+B*k'):Z+P*d+h*(Y+P*y)=W+P*x+P*B*k':=by
 have h1:=bK (P*·) hd
 simp only[aZ]at h1
 have e1:P*(B*k')=P*B*k':=(aV _ _ _).symm
 have e2:h*(P*y)=P*(y*h):=by rw[dZ,aT h y]
 rw[aZ,e2]
 omega
theorem lJ (zs:List Nat)(d:Nat):val (zs++[d])=val zs+B^zs.length*d:=by
 rw[lG];simp[val]
theorem oC {zs:List Nat}{d:Nat}(h:Dig zs)(hd:d<B):Dig (zs++[d]):=pT h (sI hd (λ_ h=>by cases h))
theorem aOv {us:List Nat}{o i:Nat}(h:o+i<us.length):(us.drop o)[i]'(by rw[cZ];omega)=us[o+i]:=by rw[List.getElem_drop]
theorem wQ {us:List Nat}{o i:Nat}(h:o+i<us.length):val ((us.drop o).take (i+1))=val ((us.drop o).take i)+B^i*us[o+i]:=by
 rw[lE (by rw[cZ];omega),aOv h]
theorem tA {us zs:List Nat}{o i:Nat}(hl:zs.length=i)(h:o+i<us.length):(us.take o++(zs++us.drop (o+i)))[o+i]?=some us[o+i]:=aGk h hl
end Go.Bw
namespace Go.Proofs.Tg.Iw
open Go.RowKit Go.Bw Go.Gr Go.Proofs.Tg
def jZ (l:List Nat):Array Value:=(l.map vs).toArray
theorem qB (l:List Nat):(jZ l).size=l.length:=by simp[jZ]
theorem lL {l:List Nat}{k v:Nat}(h:l[k]?=some v):(jZ l)[k]?=some (.int .u64 (v:Nat)):=by simp[jZ,h,vs]
theorem kX (l:List Nat)(k v:Nat):(jZ l).setIfInBounds k (.int .u64 (v:Nat))=jZ (l.set k v):=by simp[jZ,List.map_set,vs]
theorem nU (n:Nat):madeCells #[.int .u64 0] n=jZ (List.replicate n 0):=by
 apply Array.ext
 ·simp[jZ,gF]
 intro i h1 h2
 simp[madeCells,jZ,vs,Nat.mod_one]
theorem pU.keepBelow {g B:Nat}{w V:World}(h:pU g w V)(hg:B<=g):Below B w V:=h.below brf hg
structure ApM (w:World)(g o h:Nat)(us ys:List Nat)(wr:World)(i k:Nat)(zs:List Nat):Prop where
  len:zs.length=i
  dig:Dig zs
  lt:k<B
  eq:val zs+B^i*k=val ((us.drop o).take i)+h*val (ys.take i)
  blk:Blk wr g 170 (jZ (us.take o++(zs++us.drop (o+i))))
  only:pU g w wr
structure SpM (w:World)(g o h:Nat)(us ys:List Nat)(wr:World)(i k:Nat)(zs:List Nat):Prop where
  len:zs.length=i
  dig:Dig zs
  lt:k<B
  eq:val zs+h*val (ys.take i)=val ((us.drop o).take i)+B^i*k
  blk:Blk wr g 170 (jZ (us.take o++(zs++us.drop (o+i))))
  only:pU g w wr
theorem qM (i:Nat):B^(i+1)=B^i*B:=bS ..
theorem ApM.next {w wr:World}{g o h i k d k':Nat}{us ys zs:List Nat}(s:ApM w g o h us ys wr i k zs)(hi:i<ys.length)(ho:o+i<us.length)(hd:d+B*k'=us[o+i]+(ys[i]*h+k))(hdB:d<B)(hk:k'<B):
    ApM w g o h us ys (wr.setCell ⟨g,o+i,none⟩ (.int .u64 (d:Nat))) (i+1) k' (zs++[d]):=by
  have hb:=s.blk.set (o+i) (.int .u64 (d:Nat));rw[kX,wS ho s.len]at hb;refine⟨by rw[aC,s.len];rfl,oC s.dig hdB,hk,?_,hb,s.only.set _ _⟩;rw[lJ,s.len,wQ ho,lE hi,qM];exact aMw s.eq hd
theorem SpM.next {w wr:World}{g o h i k d k':Nat}{us ys zs:List Nat}(s:SpM w g o h us ys wr i k zs)(hi:i<ys.length)(ho:o+i<us.length)(hd:d+(ys[i]*h+k)=us[o+i]+B*k')(hdB:d<B)(hk:k'<B):
    SpM w g o h us ys (wr.setCell ⟨g,o+i,none⟩ (.int .u64 (d:Nat))) (i+1) k' (zs++[d]):=by
  have hb:=s.blk.set (o+i) (.int .u64 (d:Nat));rw[kX,wS ho s.len]at hb;refine⟨by rw[aC,s.len];rfl,oC s.dig hdB,hk,?_,hb,s.only.set _ _⟩;rw[lJ,s.len,wQ ho,lE hi,qM];exact aMx s.eq hd
def aNC (w:World)(g o h:Nat)(us ys:List Nat)(e:Ending)(w':World):Prop:=∃(k:Nat) (zs:List Nat),e=.returned (.int .u64 (k:Nat))/\ApM w g o h us ys w' ys.length k zs
def aND (w:World)(g o h:Nat)(us ys:List Nat)(e:Ending)(w':World):Prop:=∃(k:Nat) (zs:List Nat),e=.returned (.int .u64 (k:Nat))/\SpM w g o h us ys w' ys.length k zs
theorem aKf (g o h c cx:Nat)(us ys:List Nat)(X:Option Addr)(w:World)(hB:Blk w g 170 (jZ us))(hX:lU w X ys)(hne:∀ad,X=some ad->ad.block≠g)(hdu:Dig us)(hdy:Dig ys)(hh:h<B)(ho:o+ys.length<=us.length)(hn:us.length<=1000000):
    Calls Tryz.prog 171 #[.slice (some ⟨g,o,none⟩) ys.length c,.slice X ys.length cx,.int .u64 (h:Nat)] w (aNC w g o h us ys):=by
  obtain⟨Q,hQ⟩:=eqx (aNC w g o h us ys);have HRET:Hid (∀(k:Nat) (zs:List Nat) w',ApM w g o h us ys w' ys.length k zs->Q (.returned (.int .u64 (k:Nat))) w'):=zh (λk zs w' hs=>by rw[<-hQ];exact⟨k,zs,rfl,hs⟩);rw[hQ];clear hQ
  have H0:Hid (ApM w g o h us ys w 0 0 []):=zh ⟨rfl,λ_ hx=>absurd hx (by simp),by decide,by simp[val],by
   rw[dB,bW,cY];exact hB,pU.refl _ _⟩
  have HX:=zh hX;have HNE:=zh hne;have HDU:=zh hdu;have HDY:=zh hdy;have HH:=zh hh;obtain⟨n,hnn⟩:=eqx (ys.length);rw[hnn]at HRET ho ⊢;have HN:=zh hnn;have HO:=zh ho;clear hB hX hne hdu hdy hh hnn;go_enter Tryz.func171,Tryz.ntmps171;go_wp2
  go_loopw [7,16] (λs7 s16 wr=>∃(i k:Nat) (zs:List Nat),s16=.int .i64 i/\i<=n/\s7=.int .u64 (k:Nat)/\Hid (ApM w g o h us ys wr i k zs)) (λ_ s16 _=>n-(intOf s16).toNat)
  case atStart=>exact⟨0,0,[],rfl,aW _,rfl,H0⟩
  case round=>
   clear H0;obtain⟨wo,rfl⟩:∃wo:World,wo=wr:=⟨_,rfl⟩;obtain⟨i,k,zs,rfl,hi,rfl,HS⟩:=hrel
   by_cases hin:i<n
   ·have hiy:i<ys.length:=by rw[HN.o];exact hin
    have hiu:o+i<us.length:=by have:=HO.o;omega
    obtain⟨ad,hX2,hcy⟩:=lU.at' (HX.o) hiy;have hnb:=HNE.o ad hX2;subst hX2;have hcy:wo.cell? (ad.add i)=some (.int .u64 (ys[i]:Nat)):=(HS.o.only.cell (p:=ad.add i) (by rw[kK];exact hnb)).trans hcy;have hbc:=HS.o.blk.cell (o+i);rw[lL (tA HS.o.len hiu)]at hbc;have hbf:=HS.o.blk.frozen (o+i);have hxB:=HDU.o us[o+i] (aB _);have hyB:=HDY.o ys[i] (aB _);have hkB:=HS.o.lt;have HNX:Hid (∀d k',d+B*k'=us[o+i]+(ys[i]*h+k)->d<B->k'<B->ApM w g o h us ys (wo.setCell ⟨g,o+i,none⟩ (.int .u64 (d:Nat))) (i+1) k' (zs++[d])):=zh (λd k' a b c=>HS.o.next hiy hiu a b c);generalize us[o+i]=x at*;generalize ys[i]=y at*;obtain⟨f1,f2⟩:=qL hyB HH.o hkB;have hM:=aGg y h hyB HH.o;obtain⟨hi2,hhi⟩:=eqx (y*h/B)
    obtain⟨lo,hlo⟩:=eqx (y*h%B);rw[hhi,hlo]at hM;have HM:=zh hM
    have hA1:∀V,(callFunc 190 #[.int .u64 (lo:Nat),.int .u64 (k:Nat),.int .u64 0]).run Tryz.prog V=_:=λV=>aAK lo k 0 (by omega) V
    obtain⟨s,hs⟩:=eqx ((lo+k+0)%B);obtain⟨c1,hc1⟩:=eqx ((lo+k+0)/B);rw[hs,hc1]at hA1
    have hA2:∀V,(callFunc 190 #[.int .u64 (x:Nat),.int .u64 (s:Nat),.int .u64 0]).run Tryz.prog V=_:=λV=>aAK x s 0 (by omega) V
    obtain⟨d,hd⟩:=eqx ((x+s+0)%B);obtain⟨c2,hc2⟩:=eqx ((x+s+0)/B);rw[hd,hc2]at hA2
    have e1:s=(y*h+k)%B:=by rw[<-hs,<-hlo,bW,aKd]
    have e2:hi2+c1=(y*h+k)/B:=by rw[<-hhi,<-hc1,<-hlo,bW,aKe]
    obtain⟨g1,g2⟩:=aES (x:=x) (p:=y*h) (k:=k) hxB f2 (by
     have a1:y*h<=(B-1)*(B-1):=cE (by have:=hyB;simp only[B]at*;omega) (by have:=HH.o;simp only[B]at*;omega)
     have a2:(B-1)*(B-1)+2*B-1=B*B:=by decide
     have e:(B-1)*(B-1)=340282366920938463426481119284349108225:=by decide
     have e':B*B=340282366920938463463374607431768211456:=by decide
     rw[e]at a1;rw[e'];simp only[B]at hxB hkB
     omega)
    rw[<-e1]at g1 g2
    have e3:(x+s)%B=d:=by rw[<-hd,bW]
    have e4:(x+s)/B=c2:=by rw[<-hc2,bW]
    rw[e3,e4,<-e2]at g1;rw[e4,<-e2]at g2;have HY:=HNX.o d (hi2+c1+c2) g1 (by rw[<-e3];exact bL _ (by decide)) g2;have HY:=zh HY
    have w1:IntKind.u64.wrap ((hi2:Int)+(c1:Int))=((hi2+c1:Nat):Int):=by
     rw[Go.Proofs.Mul64.addN];exact Go.Proofs.Mul64.wrapN _ (by simp only[B]at g2;omega)
    have w2:IntKind.u64.wrap (((hi2+c1:Nat):Int)+(c2:Int))=((hi2+c1+c2:Nat):Int):=by
     rw[Go.Proofs.Mul64.addN];exact Go.Proofs.Mul64.wrapN _ (by simp only[B]at g2;omega)
    obtain⟨h2,hh2⟩:=eqx (hi2+c1);obtain⟨k',hk'⟩:=eqx (hi2+c1+c2);rw[hh2]at w1 w2;rw[hh2]at hk' HY;rw[hk']at w2 HY;clear hhi hlo hs hc1 hd hc2 e1 e2 e3 e4 g1 g2 f1 f2 hh2 hk' HNX hM hxB hyB hkB hnb
    have q0:(0:Int)<=(i:Int):=by omega
    have q1:(i:Int)<(n:Int):=by omega
    have q3:((i:Int)).toNat=i:=by omega
    have d1:decide ((i:Int)<(n:Int))=true:=dT q1;have d2:decide (i<n)=true:=dT hin
    go_wp2_with (go_at_call 193;refine(HM.o _).mono ?_;rintro e w1 ⟨rfl,rfl⟩)
    go_roundw
    case rel=>exact⟨i+1,k',_,by go_num,by omega,rfl,HY⟩
    case measure=>simp[intOf];omega
   obtain rfl:i=n:=by omega
   have d1:decide ((i:Int)<(i:Int))=false:=by simp
   have hs:=HS.o;go_wp2;exact HRET.o _ _ _ hs
theorem aKg (g o h c cx:Nat)(us ys:List Nat)(X:Option Addr)(w:World)(hB:Blk w g 170 (jZ us))(hX:lU w X ys)(hne:∀ad,X=some ad->ad.block≠g)(hdu:Dig us)(hdy:Dig ys)(hh:h<B)(ho:o+ys.length<=us.length)(hn:us.length<=1000000):
    Calls Tryz.prog 212 #[.slice (some ⟨g,o,none⟩) ys.length c,.slice X ys.length cx,.int .u64 (h:Nat)] w (aND w g o h us ys):=by
  obtain⟨Q,hQ⟩:=eqx (aND w g o h us ys);have HRET:Hid (∀(k:Nat) (zs:List Nat) w',SpM w g o h us ys w' ys.length k zs->Q (.returned (.int .u64 (k:Nat))) w'):=zh (λk zs w' hs=>by rw[<-hQ];exact⟨k,zs,rfl,hs⟩);rw[hQ];clear hQ
  have H0:Hid (SpM w g o h us ys w 0 0 []):=zh ⟨rfl,λ_ hx=>absurd hx (by simp),by decide,by simp[val],by
   rw[dB,bW,cY];exact hB,pU.refl _ _⟩
  have HX:=zh hX;have HNE:=zh hne;have HDU:=zh hdu;have HDY:=zh hdy;have HH:=zh hh;obtain⟨n,hnn⟩:=eqx (ys.length);rw[hnn]at HRET ho ⊢;have HN:=zh hnn;have HO:=zh ho;clear hB hX hne hdu hdy hh hnn;go_enter Tryz.func212,Tryz.ntmps212;go_wp2
  go_loopw [7,16] (λs7 s16 wr=>∃(i k:Nat) (zs:List Nat),s16=.int .i64 i/\i<=n/\s7=.int .u64 (k:Nat)/\Hid (SpM w g o h us ys wr i k zs)) (λ_ s16 _=>n-(intOf s16).toNat)
  case atStart=>exact⟨0,0,[],rfl,aW _,rfl,H0⟩
  case round=>
   clear H0;obtain⟨wo,rfl⟩:∃wo:World,wo=wr:=⟨_,rfl⟩;obtain⟨i,k,zs,rfl,hi,rfl,HS⟩:=hrel
   by_cases hin:i<n
   ·have hiy:i<ys.length:=by rw[HN.o];exact hin
    have hiu:o+i<us.length:=by have:=HO.o;omega
    obtain⟨ad,hX2,hcy⟩:=lU.at' (HX.o) hiy;have hnb:=HNE.o ad hX2;subst hX2;have hcy:wo.cell? (ad.add i)=some (.int .u64 (ys[i]:Nat)):=(HS.o.only.cell (p:=ad.add i) (by rw[kK];exact hnb)).trans hcy;have hbc:=HS.o.blk.cell (o+i);rw[lL (tA HS.o.len hiu)]at hbc;have hbf:=HS.o.blk.frozen (o+i);have hxB:=HDU.o us[o+i] (aB _);have hyB:=HDY.o ys[i] (aB _);have hkB:=HS.o.lt;have HNX:Hid (∀d k',d+(ys[i]*h+k)=us[o+i]+B*k'->d<B->k'<B->SpM w g o h us ys (wo.setCell ⟨g,o+i,none⟩ (.int .u64 (d:Nat))) (i+1) k' (zs++[d])):=zh (λd k' a b c=>HS.o.next hiy hiu a b c);generalize us[o+i]=x at*;generalize ys[i]=y at*;obtain⟨f1,f2⟩:=qL hyB HH.o hkB;have hM:=aGg y h hyB HH.o;obtain⟨hi2,hhi⟩:=eqx (y*h/B)
    obtain⟨lo,hlo⟩:=eqx (y*h%B);rw[hhi,hlo]at hM;have HM:=zh hM
    have hA1:∀V,(callFunc 190 #[.int .u64 (lo:Nat),.int .u64 (k:Nat),.int .u64 0]).run Tryz.prog V=_:=λV=>aAK lo k 0 (by omega) V
    obtain⟨s,hs⟩:=eqx ((lo+k+0)%B);obtain⟨c1,hc1⟩:=eqx ((lo+k+0)/B);rw[hs,hc1]at hA1
    have hA2:∀V,(callFunc 192 #[.int .u64 (x:Nat),.int .u64 (s:Nat),.int .u64 0]).run Tryz.prog V=_:=λV=>aAL x s 0 (by omega) V
    obtain⟨d,hd⟩:=eqx ((x+B-s-0)%B);obtain⟨c2,hc2⟩:=eqx ((if x<s+0 then 1 else 0):Nat);rw[hd,hc2]at hA2
    have e1:s=(y*h+k)%B:=by rw[<-hs,<-hlo,bW,aKd]
    have e2:hi2+c1=(y*h+k)/B:=by rw[<-hhi,<-hc1,<-hlo,bW,aKe]
    obtain⟨g1,g2⟩:=aET (x:=x) (p:=y*h) (k:=k) hxB (by
     have a1:y*h<=(B-1)*(B-1):=cE (by have:=hyB;simp only[B]at*;omega) (by have:=HH.o;simp only[B]at*;omega)
     have e:(B-1)*(B-1)=340282366920938463426481119284349108225:=by decide
     have e':(B-1)*B=340282366920938463444927863358058659840:=by decide
     rw[e]at a1;rw[e'];simp only[B]at hxB hkB
     omega)
    rw[<-e1,<-e2,hd,hc2]at g1;rw[<-e1,<-e2,hc2]at g2;have HY:=HNX.o d (hi2+c1+c2) g1 (by rw[<-hd];exact bL _ (by decide)) g2;have HY:=zh HY
    have w1:IntKind.u64.wrap ((hi2:Int)+(c1:Int))=((hi2+c1:Nat):Int):=by
     rw[Go.Proofs.Mul64.addN];exact Go.Proofs.Mul64.wrapN _ (by simp only[B]at g2;omega)
    have w2:IntKind.u64.wrap (((hi2+c1:Nat):Int)+(c2:Int))=((hi2+c1+c2:Nat):Int):=by
     rw[Go.Proofs.Mul64.addN];exact Go.Proofs.Mul64.wrapN _ (by simp only[B]at g2;omega)
    obtain⟨h2,hh2⟩:=eqx (hi2+c1);obtain⟨k',hk'⟩:=eqx (hi2+c1+c2);rw[hh2]at w1 w2;rw[hh2]at hk' HY;rw[hk']at w2 HY;clear hhi hlo hs hc1 hd hc2 e1 e2 g1 g2 f1 f2 hh2 hk' HNX hM hxB hyB hkB hnb
    have q0:(0:Int)<=(i:Int):=by omega
    have q1:(i:Int)<(n:Int):=by omega
    have q3:((i:Int)).toNat=i:=by omega
    have d1:decide ((i:Int)<(n:Int))=true:=dT q1;have d2:decide (i<n)=true:=dT hin
    go_wp2_with (go_at_call 193;refine(HM.o _).mono ?_;rintro e w1 ⟨rfl,rfl⟩)
    go_roundw
    case rel=>exact⟨i+1,k',_,by go_num,by omega,rfl,HY⟩
    case measure=>simp[intOf];omega
   obtain rfl:i=n:=by omega
   have d1:decide ((i:Int)<(i:Int))=false:=by simp
   have hs:=HS.o;go_wp2;exact HRET.o _ _ _ hs
end Go.Proofs.Tg.Iw
end
