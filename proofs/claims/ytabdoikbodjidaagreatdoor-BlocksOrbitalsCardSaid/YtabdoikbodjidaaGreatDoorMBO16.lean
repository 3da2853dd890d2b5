/- Parts of the proof. -/
import Derived.Test.YtabdoikbodjidaaGreatDoorMBO15
set_option maxHeartbeats 64000000
set_option maxRecDepth 100000
section
namespace Go.Bw
theorem aMy {s c x:Nat}(hs:s<64)(hc:c<2^s):c|||(x*2^s)%B=(x*2^s)%B+c/\(x*2^s)%B+c<B:=by
 have hB:=mH hs
 have h1:(x*2^s)%B=(x%2^(64-s))*2^s:=by rw[hB,aT (2^s),jB]
 rw[h1]
 have hx:x%2^(64-s)<2^(64-s):=bL _ (eK (by decide))
 generalize x%2^(64-s)=y at*
 refine⟨?_,?_⟩
 ·rw[Nat.or_comm,aT]
  exact(iU hc y).symm
 have h2:=aY (2^s) (show y+1<=2^(64-s)from hx)
 rw[cQ,fJ,aT (2^(64-s)),<-hB]at h2;omega
theorem aKm {s x:Nat}(hs:s<64)(hx:x<B):x/2^(64-s)=x*2^s/B/\x*2^s/B<2^s:=by
 have hB:=mH hs
 have hp:0<2^s:=eK (by decide)
 have e:x*2^s/B=x/2^(64-s):=by
  rw[hB,aT (2^s),Nat.mul_div_mul_right _ _ hp]
 refine⟨e.symm,?_⟩
 rw[e,eC (eK (by decide)),<-hB]
 exact hx
theorem aMz {Z P c V x d c' S:Nat}(hs:Z+P*c=V*S)(hd:d+B*c'=x*S+c):Z+P*d+P*B*c'=(V+P*x)*S:=by
 have h1:=bK (P*·) hd
 simp only[aZ]at h1
 rw[cQ,aV P B,aV P x]
 omega
end Go.Bw
namespace Go.Proofs.Tg.Iw
open Go.RowKit Go.Bw Go.Gr Go.Proofs.Tg
structure ShL (w0:World)(g s n:Nat)(xs:List Nat)(wr:World)(i c:Nat)(zs:List Nat):Prop where
  len:zs.length=i
  dig:Dig zs
  lt:c<2^s
  eq:val zs+B^i*c=val (xs.take i)*2^s
  blk:Blk wr g 170 (jZ (zs++(c::List.replicate (n-i) 0)))
  below:Below w0.heap.size w0 wr
theorem ShL.next {w0 wr:World}{g s n i c d c':Nat}{xs zs:List Nat}(h:ShL w0 g s n xs wr i c zs)(hi:i<n)(hx:i<xs.length)(hg:w0.heap.size<=g)(hd:d+B*c'=xs[i]*2^s+c)(hdB:d<B)(hc:c'<2^s):
    ShL w0 g s n xs ((wr.setCell ⟨g,i,none⟩ (.int .u64 (d:Nat))).setCell ⟨g,i+1,none⟩ (.int .u64 (c':Nat))) (i+1) c' (zs++[d]):=by
  have hb:=(h.blk.set i (.int .u64 (d:Nat))).set (i+1) (.int .u64 (c':Nat));rw[kX,kX]at hb
  have e:((zs++c::List.replicate (n-i) 0).set i d).set (i+1) c'=(zs++[d])++c'::List.replicate (n-(i+1)) 0:=by
   obtain⟨m,hm⟩:∃m,n-i=m+1:=⟨n-i-1,by omega⟩;rw[hm,show n-(i+1)=m by omega,dO];have hl:=h.len;clear hb hx hd hdB hc hm h hi;subst hl;simp
  rw[e]at hb;refine⟨by rw[aC,h.len];rfl,oC h.dig hdB,hc,?_,hb,hJ (hJ h.below hg _ _) hg _ _⟩;rw[lJ,h.len,lE hx,qM];exact aMz h.eq hd
theorem aNE (X:Option Addr)(cx a s:Nat)(w:World)(hX:NW w X cx a)(hs:s<64)(hn:(dg a).length<=500000):
    Calls Tryz.prog 204 #[.slice X (dg a).length cx,.int .u64 (s:Nat)] w (nV (a*2^s) w):=by
  obtain⟨Q,hQ⟩:=eqx (nV (a*2^s) w);have HX:=zh hX
  by_cases h0:(dg a).length=0∨s=0
  ·have HRET:Hid (Q (.returned (.slice X (dg a).length cx)) w):=zh (by
    rw[<-hQ]
    rcases h0 with h0|h0
    ·have:=mI h0;subst this;rw[Nat.zero_mul];exact⟨X,cx,rfl,HX.o,bM _ _⟩
    subst h0;rw[jD,dI]
    exact⟨X,cx,rfl,HX.o,bM _ _⟩)
   rw[hQ];clear hQ hX
   by_cases h1:(dg a).length=0
   ·have z1:(((dg a).length:Int)==0)=true:=fY.2 (by omega);have z2:((dg a).length==0)=true:=fY.2 h1;clear h0 h1;generalize (dg a).length=la at*;go_enter Tryz.func204,Tryz.ntmps204;go_wp2;exact HRET.o
   have hs0:s=0:=h0.resolve_left h1;have z1:(((dg a).length:Int)==0)=false:=aG.2 (by omega);have z2:((dg a).length==0)=false:=aG.2 h1;have z3:((dg a).length=0)=False:=bX h1;have y1:((s:Int)==0)=true:=fY.2 (by omega);have y2:(s==0)=true:=fY.2 hs0;clear h0 h1 hs0;generalize (dg a).length=la at*;go_enter Tryz.func204,Tryz.ntmps204;go_wp2;exact HRET.o
  have h1:(dg a).length≠0:=λe=>h0 (.inl e)
  have h2:s≠0:=λe=>h0 (.inr e)
  have z1:(((dg a).length:Int)==0)=false:=aG.2 (by omega);have z2:((dg a).length==0)=false:=aG.2 h1;have z3:((dg a).length=0)=False:=bX h1;have y1:((s:Int)==0)=false:=aG.2 (by omega);have y2:(s==0)=false:=aG.2 h2;have y3:(s=0)=False:=bX h2
  have s1:(s:Int)/64=0:=by omega
  have s2:(s:Int)%64=(s:Int):=by omega
  have s3:(s:Int).tdiv 64=0:=by rw[Int.tdiv_eq_ediv_of_nonneg (by omega)];exact s1
  have s4:(s:Int).tmod 64=(s:Int):=by rw[Int.tmod_eq_emod_of_nonneg (by omega)];exact s2
  have HRET:Hid (∀zs w',zs.length=(dg a).length+1->Dig zs->val zs=a*2^s->lU w' (some ⟨w.heap.size,0,none⟩) zs->Below w.heap.size w w'->Calls Tryz.prog 167 #[.slice (some ⟨w.heap.size,0,none⟩) ((dg a).length+1) ((dg a).length+1)] w' λe w''=>Q e w''/\∃v,e=.returned v):=zh (λzs w' h1 h2 h3 h4 h5=>by
   have:=qP (some ⟨w.heap.size,0,none⟩) ((dg a).length+1) zs w' h4 h2 (by omega) (by omega);rw[h1,h3]at this;refine this.mono ?_;rintro e w'' ⟨rfl,rfl,hN⟩
   exact⟨by rw[<-hQ];exact⟨_,_,rfl,hN,h5⟩,_,rfl⟩)
  have hmk:=nQ ((dg a).length+1) (by omega) w
  have hc1:(((dg a).length+1:Nat):Int)=((dg a).length:Int)+1:=by omega
  rw[hc1]at hmk;have hwr:IntKind.i64.wrap (((dg a).length:Int)+1)=((dg a).length:Int)+1:=IntWalk.i64_in _ (by omega);obtain⟨W,hW⟩:=eqx (w.alloc (.cells (madeCells #[.int .u64 0] ((dg a).length+1)) 170))
  have H0:Hid (ShL w w.heap.size s (dg a).length (dg a) W 0 0 []):=zh (by
   refine⟨rfl,λ_ hx=>absurd hx (by simp),eK (by decide),by simp[val],?_,?_⟩
   ·rw[<-hW,dB,gQ,<-dO,<-nU];exact Blk.new _ _ _
   rw[<-hW];exact bal)
  rw[hW]at hmk;have HVA:Hid (val (dg a)=a):=zh (kE a);have HDA:=zh (kH a);have HWD:=zh hX.wds;rw[hQ];have HXL:Hid ((dg a).length=(dg a).length):=zh rfl;obtain⟨n,hnn⟩:=eqx ((dg a).length);have HNN:=zh hnn;rw[hnn]at hn h1 z1 z2 z3 HRET hmk hwr H0 ⊢;clear hQ hX hc1 hW h0 h1 h2 hnn HXL HX;generalize dg a=xs at*;go_enter Tryz.func204,Tryz.ntmps204;go_wp2;clear hmk
  go_loopw [31] (λs31 wr=>∃(i c:Nat) (zs:List Nat),s31=.int .i64 i/\i<=n/\Hid (ShL w w.heap.size s n xs wr i c zs)) (λs31 _=>n-(intOf s31).toNat)
  case atStart=>exact⟨0,0,[],rfl,aW _,H0⟩
  case round=>
   clear H0;obtain⟨wo,rfl⟩:∃wo:World,wo=wr:=⟨_,rfl⟩;obtain⟨i,c,zs,rfl,hi,HS⟩:=hrel
   by_cases hin:i<n
   ·have hix:i<xs.length:=by rw[HNN.o];exact hin
    obtain⟨ad,hX2,hcx⟩:=lU.at' (Sl.keep HWD.o HS.o.below) hix;subst hX2;have hxB:=HDA.o xs[i] (aB _);have c0:=HS.o.blk.cell i;have f0:=HS.o.blk.frozen i;have c1:=HS.o.blk.cell (i+1);have f1:=HS.o.blk.frozen (i+1)
    have e0:(zs++(c::List.replicate (n-i) 0))[i]?=some c:=by
     rw[bC (by rw[HS.o.len];omega),HS.o.len,cP];rfl
    have e1:(zs++(c::List.replicate (n-i) 0))[i+1]?=some 0:=by
     obtain⟨m,hm⟩:∃m,n-i=m+1:=⟨n-i-1,by omega⟩;rw[bC (by rw[HS.o.len];omega),HS.o.len,iQ,hm,dO];rfl
    rw[lL e0]at c0;rw[lL e1]at c1;have hcs:=HS.o.lt;have HNX:Hid (∀d c',d+B*c'=xs[i]*2^s+c->d<B->c'<2^s->ShL w w.heap.size s n xs ((wo.setCell ⟨w.heap.size,i,none⟩ (.int .u64 (d:Nat))).setCell ⟨w.heap.size,i+1,none⟩ (.int .u64 (c':Nat))) (i+1) c' (zs++[d])):=zh (λd c' a b c=>HS.o.next hin hix (aA _) a b c);generalize xs[i]=x at*;obtain⟨g1,g2⟩:=aMy (x:=x) hs hcs;obtain⟨g3,g4⟩:=aKm hs hxB;obtain⟨v,hv⟩:=eqx (x*2^s%B);obtain⟨u,hu⟩:=eqx (x/2^(64-s))
    have hvB:v<B:=by rw[<-hv];exact bL _ (by decide)
    have W1:IntKind.u64.wrap ((x:Int)*2^s)=(v:Int):=by
     have e:(x:Int)*2^s=((x*2^s:Nat):Int):=by simp
     rw[e,<-hv];exact Go.Proofs.Mul64.wrapM _
    have W2:(x:Int)/2^(64-s)=(u:Int):=by
     have e:(x:Int)/2^(64-s)=((x/2^(64-s):Nat):Int):=by simp
     rw[e,hu]
    have hcB:c<18446744073709551616:=aH hcs (by
     have:=aP (show 0<2 by decide) (show s<=64 by omega)
     exact this)
    obtain⟨d,hd⟩:=eqx (v+c);rw[hv,hd]at g1 g2;rw[hu]at g3
    have W3:bits .or .u64 (c:Int) (v:Int)=(d:Int):=by rw[u64_or_nat c v hcB hvB,g1]
    have HY:=zh (HNX.o d u (by
     have:=dD (x*2^s) B;rw[hv,<-g3]at this
     omega) g2 (by rw[g3];exact g4))
    clear HNX g1 g2 g3 g4 hv hu hd hxB hcs hcB hvB e0 e1
    have q0:(0:Int)<=(i:Int):=by omega
    have q1:(i:Int)<(n:Int):=by omega
    have q3:((i:Int)).toNat=i:=by omega
    have q4:(i:Int)<(n:Int)+1:=by omega
    have q5:(i:Int)+1<(n:Int)+1:=by omega
    have q6:((i:Int)+1).toNat=i+1:=by omega
    have d1:decide ((i:Int)<(n:Int))=true:=dT q1;have d2:decide (i<n)=true:=dT hin;have y4:IntKind.i64.wrap ((i:Int)+1)=(i:Int)+1:=IntWalk.i64_in _ (by omega);go_wp2;go_roundw
    case rel=>exact⟨i+1,u,_,by go_num,by omega,HY⟩
    case measure=>simp[intOf];omega
   obtain rfl:i=n:=by omega
   have d1:decide ((i:Int)<(i:Int))=false:=by simp
   have HT:Hid (Calls Tryz.prog 167 #[.slice (some ⟨w.heap.size,0,none⟩) (i+1) (i+1)] wo λe w''=>Q e w''/\∃v,e=.returned v):=zh (by
    have h:=HS.o;have hcB:c<B:=aH h.lt (aP (show 0<2 by decide) (show s<=64 by omega));have hb:=h.blk;rw[cP,fE]at hb;refine HRET.o (zs++[c]) wo (by rw[aC,h.len];rfl) (oC h.dig hcB) ?_ (qO hb rfl) h.below
    rw[lJ,h.len,h.eq,mZ (by rw[HNN.o];omega),HVA.o])
   clear HS HRET
   go_wp2_with (go_at_call 167;refine HT.o.mono ?_;rintro e w4 ⟨hq4,v4,rfl⟩;have HQ4:=zh hq4;clear hq4)
   exact HQ4.o
end Go.Proofs.Tg.Iw
end
namespace Go.Proofs.Tg.Iw
open Go.RowKit Go.Bw Go.Gr Go.Proofs.Tg
structure ShR (w0:World)(g n:Nat)(D:List Nat)(wr:World)(i:Nat):Prop where
  blk:Blk wr g 170 (jZ (D.take i++List.replicate (n-i) 0))
  below:Below w0.heap.size w0 wr
theorem aKn {D:List Nat}{n i d:Nat}(hl:D.length=n)(hi:i<n)(hd:D[i]?=some d):(D.take i++List.replicate (n-i) 0).set i d=D.take (i+1)++List.replicate (n-(i+1)) 0:=by
 obtain⟨m,hm⟩:∃m,n-i=m+1:=⟨n-i-1,by omega⟩
 have h1:(D.take i).length=i:=by rw[aS];omega
 have hi2:i<D.length:=by omega
 have e:D[i]=d:=by
  rw[aF hi2]at hd;injection hd
 rw[cX _ _ (by omega),h1,cP,hm,dO,dL,show n-(i+1)=m by omega,aD hi2,e,cJ]
 rfl
theorem aPx (X:Option Addr)(cx a s:Nat)(w:World)(hX:NW w X cx a)(hs:s<64)(hn:(dg a).length<=500000):
    Calls Tryz.prog 209 #[.slice X (dg a).length cx,.int .u64 (s:Nat)] w (nV (a/2^s) w):=by
  obtain⟨Q,hQ⟩:=eqx (nV (a/2^s) w);have HX:=zh hX
  have s1:(s:Int)/64=0:=by omega
  have s2:(s:Int)%64=(s:Int):=by omega
  have s3:(s:Int).tdiv 64=0:=by rw[Int.tdiv_eq_ediv_of_nonneg (by omega)];exact s1
  have s4:(s:Int).tmod 64=(s:Int):=by rw[Int.tmod_eq_emod_of_nonneg (by omega)];exact s2
  by_cases h0:(dg a).length=0
  ·have HRET:Hid (Q (.returned (.slice none 0 0)) w):=zh (by
    have:=mI h0;subst this;rw[<-hQ,Nat.zero_div];refine⟨none,0,?_,NW.zero _ _ _,bM _ _⟩
    rw[jS];rfl)
   rw[hQ,h0];have w0:IntKind.u64.wrap (((0:Nat):Int))=0:=rfl;clear hQ hX h0;go_enter Tryz.func209,Tryz.ntmps209;go_wp2;exact HRET.o
  have HRET:Hid (∀zs w',zs.length=(dg a).length->Dig zs->val zs=a/2^s->lU w' (some ⟨w.heap.size,0,none⟩) zs->Below w.heap.size w w'->Calls Tryz.prog 167 #[.slice (some ⟨w.heap.size,0,none⟩) (dg a).length (dg a).length] w' λe w''=>Q e w''/\∃v,e=.returned v):=zh (λzs w' h1 h2 h3 h4 h5=>by
   have:=qP (some ⟨w.heap.size,0,none⟩) (dg a).length zs w' h4 h2 (by omega) (by omega);rw[h1,h3]at this;refine this.mono ?_;rintro e w'' ⟨rfl,rfl,hN⟩
   exact⟨by rw[<-hQ];exact⟨_,_,rfl,hN,h5⟩,_,rfl⟩)
  have hmk:=nQ (dg a).length (by omega) w;have hwr:IntKind.u64.wrap ((dg a).length:Int)=((dg a).length:Int):=Go.Proofs.Mul64.wrapN _ (by omega);have z1:decide (((dg a).length:Int)<=0)=false:=dF (by omega);have z2:decide ((dg a).length<=0)=false:=dF (by omega);have z3:((dg a).length=0)=False:=bX h0;have z4:decide ((dg a).length=0)=false:=dF h0;obtain⟨W,hW⟩:=eqx (w.alloc (.cells (madeCells #[.int .u64 0] (dg a).length) 170))
  have H0:Hid (ShR w w.heap.size (dg a).length (vL s (dg a)) W 0):=zh (by
   refine⟨?_,?_⟩
   ·rw[<-hW,List.take_zero,dB,gQ,<-nU];exact Blk.new _ _ _
   rw[<-hW];exact bal)
  rw[hW]at hmk;have HVA:Hid (val (vL s (dg a))=a/2^s):=zh (by rw[aDE hs,kE]);have HDA:=zh (kH a);have HDD:=zh (aDD hs (kH a));have HWD:=zh hX.wds;rw[hQ];obtain⟨n,hnn⟩:=eqx ((dg a).length);have HNN:=zh hnn;have HDL:Hid ((vL s (dg a)).length=n):=zh (by rw[aDC,hnn]);rw[hnn]at hn z1 z2 z3 z4 HRET hmk hwr H0 ⊢;clear hQ hX hW h0 hnn HX;generalize dg a=xs at*;have HAT:=zh (λi x (h:xs[i]?=some x)=>aGm (k:=s) h);generalize vL s xs=D at*;go_enter Tryz.func209,Tryz.ntmps209;go_wp2;clear hmk
  go_loopw [27] (λs27 wr=>∃i:Nat,s27=.int .i64 i/\i<=n/\Hid (ShR w w.heap.size n D wr i)) (λs27 _=>n-(intOf s27).toNat)
  case atStart=>exact⟨0,rfl,aW _,H0⟩
  case round=>
   clear H0;obtain⟨wo,rfl⟩:∃wo:World,wo=wr:=⟨_,rfl⟩;obtain⟨i,rfl,hi,HS⟩:=hrel
   by_cases hin:i<n
   ·have hix:i<xs.length:=by rw[HNN.o];exact hin
    obtain⟨ad,hX2,hcx⟩:=lU.at' (Sl.keep HWD.o HS.o.below) hix;subst hX2
    have hablt:ad.block<w.heap.size:=by
     obtain⟨ad',e,h,_⟩:=Sl.lies HWD.o (show 0<xs.length by omega)
     injection e with e
     subst e;exact h
    have hxB:=HDA.o xs[i] (aB _);have c0:=HS.o.blk.cell i;have f0:=HS.o.blk.frozen i
    have e0:(D.take i++List.replicate (n-i) 0)[i]?=some 0:=by
     obtain⟨m,hm⟩:∃m,n-i=m+1:=⟨n-i-1,by omega⟩;rw[bC (by rw[aS];omega),aS,HDL.o,dA hi,cP,hm,dO];rfl
    rw[lL e0]at c0;have HA:=HAT.o i xs[i] (aF hix);obtain⟨x,hx⟩:=eqx (xs[i]);rw[hx]at hcx hxB HA;obtain⟨u,hu⟩:=eqx (x/2^s)
    have W2:(x:Int)/2^s=(u:Int):=by
     have e:(x:Int)/2^s=((x/2^s:Nat):Int):=by simp
     rw[e,hu]
    have huB:u<18446744073709551616:=by rw[<-hu];exact bB (cF _ _) hxB
    have q0:(0:Int)<=(i:Int):=by omega
    have q1:(i:Int)<(n:Int):=by omega
    have q3:((i:Int)).toNat=i:=by omega
    have q6:((i:Int)+1).toNat=i+1:=by omega
    have q7:(0:Int)<=(i:Int)+1:=by omega
    have d1:decide ((i:Int)<(n:Int))=true:=dT q1;have d2:decide (i<n)=true:=dT hin;have y4:IntKind.i64.wrap ((i:Int)+1)=(i:Int)+1:=IntWalk.i64_in _ (by omega);have y5:IntKind.i64.wrap (i:Int)=(i:Int):=IntWalk.i64_in _ (by omega)
    have y6:IntKind.u64.wrap (64-(s:Int))=64-(s:Int):=by rw[IntKind.wrap_u64];omega
    have y7:(64-(s:Int)).toNat=64-s:=by omega
    have y8:(0:Int)<=64-(s:Int):=by omega
    have HNX:Hid (∀d,D[i]?=some d->∀V,Blk V w.heap.size 170 (jZ ((D.take i++List.replicate (n-i) 0).set i d))->Below w.heap.size w V->ShR w w.heap.size n D V (i+1)):=zh (λd hd V hB hb=>⟨by rw[<-aKn HDL.o hin hd];exact hB,hb⟩)
    by_cases hi1:i+1<n
    ·obtain⟨j,hj⟩:=eqx (i+1);rw[hj]at HA hi1
     have hix1:j<xs.length:=by rw[HNN.o];exact hi1
     obtain⟨ad2,hX2,hcy⟩:=lU.at' (Sl.keep HWD.o HS.o.below) hix1
     injection hX2 with hX2
     subst hX2;have hyB:=HDA.o xs[j] (aB _);rw[aF hix1]at HA;generalize xs[j]=y at*;simp only at HA;obtain⟨v,hv⟩:=eqx (y*2^(64-s)%B)
     have hvB:v<18446744073709551616:=by rw[<-hv];exact bL _ (by decide)
     have W1:IntKind.u64.wrap ((y:Int)*2^(64-s))=(v:Int):=by
      have e:(y:Int)*2^(64-s)=((y*2^(64-s):Nat):Int):=by simp
      rw[e,<-hv];exact Go.Proofs.Mul64.wrapM _
     have hor:=aOz (y:=y) hs hxB;rw[hv,hu]at hor;rw[hv,hu]at HA;obtain⟨d,hd⟩:=eqx (u+v);rw[hd]at hor HA
     have W3:bits .or .u64 (u:Int) (v:Int)=(d:Int):=by rw[u64_or_nat u v huB hvB,hor]
     have HD:=zh HA
     have q8:(j:Int)<(n:Int):=by omega
     have d3:decide ((j:Int)<(n:Int))=true:=dT q8;have d4:decide (j<n)=true:=dT hi1
     have q9:(i:Int)+1=(j:Int):=by omega
     have q10:(0:Int)<=(j:Int):=by omega
     have q11:((j:Int)).toNat=j:=by omega
     have y9:IntKind.i64.wrap ((i:Int)+1)=(j:Int):=y4.trans q9;have y10:IntKind.i64.wrap (j:Int)=(j:Int):=IntWalk.i64_in _ (by omega);clear y4 q6 q7 hj;have hB1:=HS.o.blk.set i (.int .u64 (u:Nat));rw[kX]at hB1;have hB2:=hB1.set i (.int .u64 (d:Nat));rw[kX,List.set_set]at hB2;have hb1:=hJ HS.o.below (show w.heap.size<=w.heap.size from aA _) i (.int .u64 (u:Nat))
     have hne:ad.block≠w.heap.size:=by omega
     clear HA hor hd hv hu hx hxB hyB huB hvB e0 hix hix1 HAT;go_upto_region 9 with(fail);have c1:=hB1.cell i;rw[lL (v:=u) (List.getElem?_set_self (by rw[aC,aS,bU,HDL.o];omega))]at c1;have f1:=hB1.frozen i
     have hcy2:(wo.setCell ⟨w.heap.size,i,none⟩ (.int .u64 (u:Nat))).cell? (ad.add j)=some (.int .u64 (y:Nat)):=by
      rw[bR _ _ _ _ (λe=>hne (by have:=bK Addr.block e;rw[kK]at this;exact this.symm))];exact hcy
     generalize hW1:wo.setCell ⟨w.heap.size,i,none⟩ (.int .u64 (u:Nat))=W1 at*;clear hcx hcy c0 f0 hW1;go_upto_region 10 with(fail);have HY:=zh (λV (hB:Blk V w.heap.size 170 (jZ ((D.take i++List.replicate (n-i) 0).set i d))) (hb:Below w.heap.size w V)=>HNX.o d HD.o V hB hb)
     have HB2:Hid (∀V,Below W1.heap.size W1 V->Blk (V.setCell ⟨w.heap.size,i,none⟩ (.int .u64 (d:Nat))) w.heap.size 170 (jZ ((D.take i++List.replicate (n-i) 0).set i d))/\Below w.heap.size w (V.setCell ⟨w.heap.size,i,none⟩ (.int .u64 (d:Nat)))):=zh (λV h=>by
      have h1:=(hB1.keep h hB1.lt).set i (.int .u64 (d:Nat));rw[kX,List.set_set]at h1
      exact⟨h1,hJ (dW hb1 h) (aA _) _ _⟩)
     clear hB2 HNX;have BZ:Below W1.heap.size W1 W1.drew:=brf.drew;refine dG (S:=(λw'=>w'.cell? (ad.add j)=some (.int .u64 (y:Nat)))) (by kernel_rfl) (gL BZ hcy2) (λhHeld=>?_);generalize W1.drew=Z at*;refine gLd 0 48 (.slice (some ⟨w.heap.size,0,none⟩) n n) rfl rfl hHeld ?_;simp only[mO];refine gLd 1 49 (.int .i64 i) rfl rfl hHeld ?_;simp only[mO];refine gLd 2 50 (.pointer (some ⟨w.heap.size,i,none⟩)) rfl rfl hHeld ?_;simp only[mO];refine gLd 4 52 (.slice (some ad) n cx) rfl rfl hHeld ?_;simp only[mO];refine gLd 5 53 (.int .i64 i) rfl rfl hHeld ?_;simp only[mO];refine gLd 6 54 (.int .i64 0) rfl rfl hHeld ?_;simp only[mO];refine gLd 7 55 (.int .i64 i) rfl rfl hHeld ?_;simp only[mO];refine gLd 8 56 (.int .i64 (j:Nat)) rfl rfl hHeld ?_;simp only[mO]
     refine gLd 9 57 (.pointer (some (ad.add j))) rfl rfl hHeld ?_;simp only[mO];refine gLd 10 58 (.int .u64 (y:Nat)) rfl rfl hHeld ?_;simp only[mO];refine gLd 11 59 (.int .u64 (s:Nat)) rfl rfl hHeld ?_;simp only[mO];refine gLd 12 60 (.int .u64 (64-(s:Int))) rfl rfl hHeld ?_;simp only[mO];refine gLd 13 61 (.int .u64 (v:Nat)) rfl rfl hHeld ?_;simp only[mO];refine gRd [3] ?_;refine fC rfl (λK hK=>?_) dM;have cz:=gL BZ c1;go_simp;refine hK.o _ _ (gL BZ hcy2) (λhHeld=>?_);clear hK K cz;have BZ1:=BZ;generalize Z=Z1 at*;(try simp only[jA]);refine gLd 14 62 (.int .u64 (d:Nat)) rfl rfl hHeld ?_;simp only[mO];refine gLd 15 63 (.pointer (some ⟨w.heap.size,i,none⟩)) rfl rfl hHeld ?_;simp only[mO];refine gRd [16] ?_
     refine fC rfl (λK hK=>?_) dM;have cz:=gL BZ1 c1;have fz:=(hB1.keep BZ1 hB1.lt).frozen i;obtain⟨hB3,hb3⟩:=HB2.o _ BZ1;have HY2:=zh (HY.o _ hB3 hb3)
     have hcz:(Z1.setCell ⟨w.heap.size,i,none⟩ (.int .u64 (d:Nat))).cell? (ad.add j)=some (.int .u64 (y:Nat)):=by
      rw[bR _ _ _ _ (λe=>hne (by have:=bK Addr.block e;rw[kK]at this;exact this.symm))];exact gL BZ1 hcy2
     clear hB3 hb3;go_simp;refine hK.o _ _ hcz (λhHeld=>?_);clear hK K cz fz;(try simp only[jA]);refine fD (by kernel_rfl) ?_ _;go_wp2;go_roundw
     case rel=>exact⟨i+1,by go_num,by omega,HY2⟩
     case measure=>simp[intOf];omega
    rw[eI (l:=xs) (i:=i+1) (by rw[HNN.o];omega)]at HA;simp only at HA;rw[hu]at HA;have HD:=zh HA;have d3:decide ((i:Int)+1<(n:Int))=false:=dF (by omega);have hB1:=HS.o.blk.set i (.int .u64 (u:Nat));rw[kX]at hB1;have HY:=zh (HNX.o u HA _ hB1 (hJ HS.o.below (aA _) i (.int .u64 (u:Nat))));clear HA hu hx hxB huB e0 hix HAT hB1 HNX;go_wp2;go_roundw
    case rel=>exact⟨i+1,by go_num,by omega,HY⟩
    case measure=>simp[intOf];omega
   obtain rfl:i=n:=by omega
   have d1:decide ((i:Int)<(i:Int))=false:=by simp
   have HT:Hid (Calls Tryz.prog 167 #[.slice (some ⟨w.heap.size,0,none⟩) i i] wo λe w''=>Q e w''/\∃v,e=.returned v):=zh (by
    have h:=HS.o;have hb:=h.blk;rw[cP,fE,eA,bF (by have:=HDL.o;omega)]at hb
    exact HRET.o D wo HDL.o HDD.o HVA.o (qO hb rfl) h.below)
   clear HS HRET
   go_wp2_with (go_at_call 167;refine HT.o.mono ?_;rintro e w4 ⟨hq4,v4,rfl⟩;have HQ4:=zh hq4;clear hq4)
   exact HQ4.o
end Go.Proofs.Tg.Iw
section
namespace Go.Bw
theorem aCB {xs qs:List Nat}{j h r:Nat}(hj:j<xs.length)(_hh:0<h)(he:val (xs.drop (j+1))=h*val qs+r):val (xs.drop j)=h*val ((r*B+xs[j])/h::qs)+(r*B+xs[j])%h:=by
 rw[pF hj,he]
 have:=dD (r*B+xs[j]) h
 show _=h*((r*B+xs[j])/h+B*val qs)+_
 rw[aZ,aZ,dZ h B]
 generalize h*val qs=a at*
 generalize h*((r*B+xs[j])/h)=b at*
 rw[aT B r]
 omega
theorem aEU {x h r:Nat}(hr:r<h)(hx:x<B):(r*B+x)/h<B:=by
 have h1:=aY B (show r+1<=h from hr)
 rw[cQ,fJ]at h1
 exact dV (by omega)
end Go.Bw
namespace Go.Proofs.Tg.Iw
open Go.RowKit Go.Bw Go.Gr Go.Proofs.Tg
structure DwM (w0:World)(g h:Nat)(xs:List Nat)(wr:World)(i r:Nat)(qs:List Nat):Prop where
  len:qs.length+i=xs.length
  dig:Dig qs
  lt:r<h
  eq:val (xs.drop i)=h*val qs+r
  blk:Blk wr g 170 (jZ (List.replicate i 0++qs))
  below:Below w0.heap.size w0 wr
structure RwM (w0:World)(h:Nat)(xs:List Nat)(wr:World)(i r:Nat)(qs:List Nat):Prop where
  len:qs.length+i=xs.length
  lt:r<h
  eq:val (xs.drop i)=h*val qs+r
  below:Below w0.heap.size w0 wr
theorem aKo (j q:Nat)(qs:List Nat):(List.replicate (j+1) 0++qs).set j q=List.replicate j 0++(q::qs):=by
 rw[List.set_append_left _ _ (by simp),fX,cX _ _ (by simp),bU,cP,dL]
 simp
theorem DwM.next {w0 wr:World}{g h j r:Nat}{xs qs:List Nat}(s:DwM w0 g h xs wr (j+1) r qs)(hj:j<xs.length)(hg:w0.heap.size<=g)(hx:xs[j]<B):
    DwM w0 g h xs (wr.setCell ⟨g,j,none⟩ (.int .u64 ((r*B+xs[j])/h:Nat))) j ((r*B+xs[j])%h) ((r*B+xs[j])/h::qs):=by
  have hb:=s.blk.set j (.int .u64 ((r*B+xs[j])/h:Nat));rw[kX,aKo]at hb;have hh:0<h:=bB (aW _) s.lt;refine⟨by have:=s.len;simp only[bP];omega,sI (aEU s.lt hx) s.dig,bL _ hh,aCB hj hh s.eq,hb,hJ s.below hg _ _⟩
theorem DwM.keep {w0 wr wz:World}{g h i r:Nat}{xs qs:List Nat}(s:DwM w0 g h xs wr i r qs)(hb:Below wr.heap.size wr wz):DwM w0 g h xs wz i r qs:=⟨s.len,s.dig,s.lt,s.eq,s.blk.keep hb s.blk.lt,dW s.below hb⟩
theorem aEV {h n r:Nat}{qs:List Nat}(hr:r<h)(he:n=h*val qs+r):val qs=n/h/\r=n%h:=by
 have hh:0<h:=bB (aW _) hr
 subst he
 constructor
 ·rw[eX hh,cT hr,bW]
 rw[fG,cU hr]
def aKp (h:Nat)(xs:List Nat)(w:World)(e:Ending)(w':World):Prop:=∃R c,e=.returned (.tuple #[.slice R (dg (val xs/h)).length c,.int .u64 (val xs%h:Nat)])/\NW w' R c (val xs/h)/\Below w.heap.size w w'
theorem aOw (X:Option Addr)(cx h:Nat)(xs:List Nat)(w:World)(hX:lU w X xs)(hd:Dig xs)(h0:0<h)(hB:h<18446744073709551616)(hn:xs.length<=900000):
    Calls Tryz.prog 210 #[.slice X xs.length cx,.int .u64 (h:Nat)] w (aKp h xs w):=by
  obtain⟨Q,hQ⟩:=eqx (aKp h xs w)
  have HRET:Hid (∀r qs wr,DwM w w.heap.size h xs wr 0 r qs->Calls Tryz.prog 167 #[.slice (some ⟨w.heap.size,0,none⟩) xs.length xs.length] wr λe w''=>∃R c m,e=.returned (.slice R m c)/\Q (.returned (.tuple #[.slice R m c,.int .u64 (r:Nat)])) w''):=zh (λr qs wr s=>by
   have hl:qs.length=xs.length:=by have:=s.len;omega
   have he:=s.eq;rw[gS]at he;obtain⟨g1,g2⟩:=aEV s.lt he;have:=qP (some ⟨w.heap.size,0,none⟩) xs.length qs wr (qO s.blk rfl) s.dig (by omega) (by omega);rw[hl,g1]at this;refine this.mono ?_;rintro e w'' ⟨rfl,rfl,hN⟩
   exact⟨_,_,_,rfl,by rw[<-hQ,g2];exact⟨_,_,rfl,hN,s.below⟩⟩)
  have hmk:=nQ xs.length (by omega) w;obtain⟨W,hW⟩:=eqx (w.alloc (.cells (madeCells #[.int .u64 0] xs.length) 170))
  have H0:Hid (DwM w w.heap.size h xs W xs.length 0 []):=zh (by
   refine⟨by simp,λ_ hx=>absurd hx (by simp),h0,by rw[iN];simp[val],?_,?_⟩
   ·rw[<-hW,eA,<-nU];exact Blk.new _ _ _
   rw[<-hW];exact bal)
  rw[hW]at hmk;have HWD:=zh hX;have HDG:=zh hd;rw[hQ];obtain⟨n,hnn⟩:=eqx (xs.length);have HNN:=zh hnn;rw[hnn]at hn hmk HRET H0 ⊢;clear hQ hX hd hnn hW;go_enter Tryz.func210,Tryz.ntmps210;go_wp2;clear hmk
  go_loopw [7,8] (λsr si wr=>∃(i r:Nat) (qs:List Nat),si=.int .i64 ((i:Int)-1)/\i<=n/\sr=.int .u64 (r:Nat)/\Hid (DwM w w.heap.size h xs wr i r qs)) (λ_ si _=>(intOf si+1).toNat)
  case atStart=>exact⟨n,0,[],rfl,aA _,rfl,H0⟩
  case round=>
   clear H0;obtain⟨wo,rfl⟩:∃wo:World,wo=wr:=⟨_,rfl⟩;obtain⟨i,r,qs,rfl,hi,rfl,HS⟩:=hrel
   cases i with
   |zero=>
    have dd:decide ((0:Int)<=((0:Nat):Int)-1)=false:=by decide
    have HT:=zh (HRET.o r qs wo HS.o);clear HRET HS
    go_wp2_with (go_at_call 167;refine HT.o.mono ?_;rintro e w4 ⟨R,c,m,rfl,hq4⟩;have HQ4:=zh hq4;clear hq4)
    exact HQ4.o
   |succ j=>
    have hjx:j<xs.length:=by rw[HNN.o];omega
    have e:(((j+1:Nat):Int)-1)=(j:Int):=by omega
    rw[e];clear e;obtain⟨ad,hX2,hcx⟩:=lU.at' (Sl.keep HWD.o HS.o.below) hjx;subst hX2;have hxB:=HDG.o xs[j] (aB _);have HNX:Hid (∀V,Below wo.heap.size wo V->DwM w w.heap.size h xs (V.setCell ⟨w.heap.size,j,none⟩ (.int .u64 ((r*B+xs[j])/h:Nat))) j ((r*B+xs[j])%h) ((r*B+xs[j])/h::qs)):=zh (λV hV=>(HS.o.keep hV).next hjx (aA _) hxB)
    have HCB:Hid (∀V,Below wo.heap.size wo V->V.cell? ⟨w.heap.size,j,none⟩=some (.int .u64 ((0:Nat):Int))/\V.frozen? ⟨w.heap.size,j,none⟩=false):=zh (λV hV=>by
     have hb:=(HS.o.keep hV).blk;refine⟨(hb.cell j).trans (lL ?_),hb.frozen j⟩
     rw[bY (by simp),iD,aQ (by omega)])
    have hrh:=HS.o.lt;generalize xs[j]=x at*;have hD:=aGh r x h hrh hxB hB;obtain⟨q,hq⟩:=eqx ((r*B+x)/h);obtain⟨r2,hr2⟩:=eqx ((r*B+x)%h);rw[hq,hr2]at hD HNX;have HD:=zh hD;clear hq hr2 hD
    have q0:(0:Int)<=(j:Int):=by omega
    have q1:(j:Int)<(n:Int):=by omega
    have q3:((j:Int)).toNat=j:=by omega
    have d1:decide ((0:Int)<=(j:Int))=true:=dT q0;have y1:IntKind.i64.wrap ((j:Int)-1)=(j:Int)-1:=IntWalk.i64_in _ (by omega)
    go_wp2_with (go_at_call 199;refine(HD.o _).mono ?_;rintro e w2 ⟨rfl,hb2⟩;obtain⟨c2,f2⟩:=HCB.o w2 hb2)
    go_roundw
    case rel=>exact⟨j,r2,_,rfl,by omega,rfl,zh (HNX.o _ hb2)⟩
    case measure=>simp[intOf]
def aKq (h:Nat)(xs:List Nat)(w:World)(e:Ending)(w':World):Prop:=e=.returned (.int .u64 (val xs%h:Nat))/\Below w.heap.size w w'
theorem aOx (X:Option Addr)(cx h:Nat)(xs:List Nat)(w:World)(hX:lU w X xs)(hd:Dig xs)(h0:0<h)(hB:h<18446744073709551616)(hn:xs.length<=900000):
    Calls Tryz.prog 178 #[.slice X xs.length cx,.int .u64 (h:Nat)] w (aKq h xs w):=by
  obtain⟨Q,hQ⟩:=eqx (aKq h xs w)
  have HRET:Hid (∀r qs wr,RwM w h xs wr 0 r qs->Q (.returned (.int .u64 (r:Nat))) wr):=zh (λr qs wr s=>by
   have he:=s.eq;rw[gS]at he;obtain⟨g1,g2⟩:=aEV s.lt he;rw[<-hQ,g2]
   exact⟨rfl,s.below⟩)
  have H0:Hid (RwM w h xs w xs.length 0 []):=zh ⟨by simp,h0,by rw[iN];simp[val],bM _ _⟩;have HWD:=zh hX;have HDG:=zh hd;rw[hQ];obtain⟨n,hnn⟩:=eqx (xs.length);have HNN:=zh hnn;rw[hnn]at hn H0 ⊢;clear hQ hX hd hnn;go_enter Tryz.func178,Tryz.ntmps178;go_wp2

  go_loopw [5,6] (λsr si wr=>∃(i r:Nat) (qs:List Nat),si=.int .i64 ((i:Int)-1)/\i<=n/\sr=.int .u64 (r:Nat)/\Hid (RwM w h xs wr i r qs)) (λ_ si _=>(intOf si+1).toNat)
  case atStart=>exact⟨n,0,[],rfl,aA _,rfl,H0⟩
  case round=>
   clear H0;obtain⟨wo,rfl⟩:∃wo:World,wo=wr:=⟨_,rfl⟩;obtain⟨i,r,qs,rfl,hi,rfl,HS⟩:=hrel
   cases i with
   |zero=>
    have dd:decide ((0:Int)<=((0:Nat):Int)-1)=false:=by decide
    have HT:=zh (HRET.o r qs wo HS.o);clear HRET HS;go_wp2;exact HT.o
   |succ j=>
    have hjx:j<xs.length:=by rw[HNN.o];omega
    have e:(((j+1:Nat):Int)-1)=(j:Int):=by omega
    rw[e];clear e;obtain⟨ad,hX2,hcx⟩:=lU.at' (Sl.keep HWD.o HS.o.below) hjx;subst hX2;have hxB:=HDG.o xs[j] (aB _)
    have HNX:Hid (∀V,Below wo.heap.size wo V->RwM w h xs V j ((r*B+xs[j])%h) ((r*B+xs[j])/h::qs)):=zh (λV hV=>by
     have s:=HS.o;have hh:0<h:=bB (aW _) s.lt
     exact⟨by have:=s.len;simp only[bP];omega,bL _ hh,aCB hjx hh s.eq,dW s.below hV⟩)
    have hrh:=HS.o.lt;generalize xs[j]=x at*;have hD:=aGh r x h hrh hxB hB;obtain⟨q,hq⟩:=eqx ((r*B+x)/h);obtain⟨r2,hr2⟩:=eqx ((r*B+x)%h);rw[hq,hr2]at hD HNX;have HD:=zh hD;clear hq hr2 hD
    have q0:(0:Int)<=(j:Int):=by omega
    have q1:(j:Int)<(n:Int):=by omega
    have q3:((j:Int)).toNat=j:=by omega
    have d1:decide ((0:Int)<=(j:Int))=true:=dT q0;have y1:IntKind.i64.wrap ((j:Int)-1)=(j:Int)-1:=IntWalk.i64_in _ (by omega)
    go_wp2_with (go_at_call 199;refine(HD.o _).mono ?_;rintro e w2 ⟨rfl,hb2⟩)
    go_roundw
    case rel=>exact⟨j,r2,_,rfl,by omega,rfl,zh (HNX.o _ hb2)⟩
    case measure=>simp[intOf]
end Go.Proofs.Tg.Iw
end
section
namespace Go.Bw
theorem nX.full {u v top u2 v1 v2 P:Nat}(h:nX u v top u2 v1 v2 P)(hP:0<P)(ht:v1*B<=top):(B-1)*v<u+v:=by
 have h1:v<(v1+1)*B*P:=by
  refine aH h.v_lo (aY _ ?_);have h5:=h.v2lt;rw[cQ,fJ];clear h;generalize B=b at*;omega
 have h2:v1*B*B*P<=u:=by
  refine aR (aY _ ?_) h.u_hi;exact aR (aY B ht) (iV _ _)
 have h3:(B-2)*v<(B-2)*((v1+1)*B*P):=iH h1 (by decide)
 have h4:(B-2)*((v1+1)*B*P)<=v1*B*B*P:=by
  have e1:(B-2)*((v1+1)*B*P)=((B-2)*(v1+1))*(B*P):=by simp only[aV]
  have e2:v1*B*B*P=(v1*B)*(B*P):=by simp only[aV]
  rw[e1,e2];refine aY _ ?_;have hb:=h.big;simp only[B]at*;omega
 have hv:0<v:=aH (iJ (by have:=h.big;have:=h.v1lt;simp only[B]at*;omega) hP) h.v_hi
 have e:(B-1)*v=(B-2)*v+v:=by
  rw[show B-1=(B-2)+1 by decide,cQ,fJ]
 rw[e]
 exact Nat.add_lt_add_right (aH h3 (aR h4 h2)) v
theorem aJV {u v e q:Nat}(hv:0<v)(hq:q=u/v)(h1:q<=e)(h2:e*v<u+v):e=q∨e=q+1:=by
 have h3:e<q+2:=by
  refine eP (a:=v) ?_;have h4:=Nat.lt_div_mul_add (a:=u) hv;rw[<-hq]at h4;rw[cQ];omega
 omega
theorem aJW {hi lo r u2:Nat}(hlo:lo<B)(hu:u2<B):hi*B+lo<=r*B+u2↔hi<r∨(hi=r/\lo<=u2):=by
 simp only[B]at*
 omega
end Go.Bw
namespace Go.Proofs.Tg.Iw
open Go.RowKit Go.Bw Go.Gr Go.Proofs.Tg
def aAM (q:Nat)(w:World)(e:Ending)(w':World):Prop:=∃d:Nat,e=.returned (.int .u64 (d:Nat))/\(d=q∨d=q+1)/\d<B/\Below w.heap.size w w'
theorem aMv (wd yd:Addr)(cw cy n n1 n2 N c a1 a0 v1 v2 u v P q:Nat)(w:World)(hn1:n1+1=n)(hn2:n2+2=n)(hN:n+1=N)(hn:n<=1000000)(hc:w.cell? (wd.add n)=some (.int .u64 (c:Nat)))(hc1:w.cell? (wd.add n1)=some (.int .u64 (a1:Nat)))(hc0:w.cell? (wd.add n2)=some (.int .u64 (a0:Nat)))
    (hy1:w.cell? (yd.add n1)=some (.int .u64 (v1:Nat))) (hy2:w.cell? (yd.add n2)=some (.int .u64 (v2:Nat))) (hT:nX u v (c*B+a1) a0 v1 v2 P) (hP:0<P) (hv:0<v) (hq:q=u/v) (hlt:u<v*B) (hcB:c<18446744073709551616) (ha1:a1<18446744073709551616):
    Calls Tryz.prog 211 #[.slice (some wd) N cw,.slice (some yd) n cy] w (aAM q w):=by
  have hqB:q<B:=by rw[hq];exact dV hlt
  have hqv:q*v<=u:=by rw[hq];exact Nat.div_mul_le_self _ _
  have hv1B:v1<18446744073709551616:=hT.v1lt;have hv2B:v2<18446744073709551616:=hT.v2lt;have ha0:a0<18446744073709551616:=hT.u2lt
  have x1:(n:Int)-1=(n1:Int):=by omega
  have x2:(n:Int)-2=(n2:Int):=by omega
  have x3:IntKind.i64.wrap ((n:Int)-1)=(n1:Int):=(IntWalk.i64_in _ (by omega)).trans x1;have x4:IntKind.i64.wrap ((n:Int)-2)=(n2:Int):=(IntWalk.i64_in _ (by omega)).trans x2;have x5:IntKind.i64.wrap (n1:Int)=(n1:Int):=IntWalk.i64_in _ (by omega);have x6:IntKind.i64.wrap (n2:Int)=(n2:Int):=IntWalk.i64_in _ (by omega)
  have p0:(0:Int)<=(n:Int):=by omega
  have p1:(0:Int)<=(n1:Int):=by omega
  have p2:(0:Int)<=(n2:Int):=by omega
  have t0:((n:Int)).toNat=n:=by omega
  have t1:((n1:Int)).toNat=n1:=by omega
  have t2:((n2:Int)).toNat=n2:=by omega
  have l0:(n:Int)<(N:Int):=by omega
  have l1:(n1:Int)<(N:Int):=by omega
  have l2:(n2:Int)<(N:Int):=by omega
  have l3:(n1:Int)<(n:Int):=by omega
  have l4:(n2:Int)<(n:Int):=by omega
  have HT:=zh hT;have HQ:=zh hq;have HQB:=zh hqB;have HQV:=zh hqv;have HLT:=zh hlt;have hbd:Below w.heap.size w w.drew:=brf.drew;clear hT hq hqB hqv hlt;go_enter Tryz.func211,Tryz.ntmps211;go_wp2
  go_quiet (fail)
  have hbw:Below w.heap.size w (w.drewN nq):=jX brf _;have hc:=gL hbw hc;have hc1:=gL hbw hc1;have hc0:=gL hbw hc0;clear hy1 hy2;generalize w.drewN nq=W at*
  by_cases hcv:v1<=c
  ·have d1:decide ((v1:Int)<=(c:Int))=true:=dT (by omega);have d2:decide (v1<=c)=true:=dT hcv
   have HR:Hid (aAM q w (.returned (.int .u64 18446744073709551615)) W):=zh (by
    refine⟨18446744073709551615,rfl,?_,by decide,hbw⟩;have h1:=HT.o.full hP (aR (aY B hcv) (iV _ _))
    exact aJV hv HQ.o (by have:=HQB.o;simp only[B]at this;omega) h1)
   go_wp2;go_ret;exact HR.o
  have d1:decide ((v1:Int)<=(c:Int))=false:=dF (by omega);have d2:decide (v1<=c)=false:=dF hcv;have hD:=aGh c a1 v1 (by omega) ha1 hv1B;obtain⟨e0,he0⟩:=eqx ((c*B+a1)/v1);obtain⟨r0,hr0⟩:=eqx ((c*B+a1)%v1)
  have HS:Hid (Est (c*B+a1) v1 q e0 r0):=zh (by
   have:=Est.start HT.o HQV.o HLT.o
   rwa [he0,hr0]at this)
  have he0B:e0<18446744073709551616:=by rw[<-he0];exact aEU (by omega) ha1
  have hr0v:r0<v1:=by rw[<-hr0];exact bL _ (by omega)
  rw[he0,hr0]at hD;have HD:=zh hD;clear hD he0 hr0 hbd;go_wp2;have hbe:Below W.heap.size W W.drew:=brf.drew;go_upto_region 5 with(fail)
  go_cut [8,9]from 30 (λs8 s9 wx=>s8=.int .u64 (e0:Nat)/\s9=.int .u64 (r0:Nat)/\Below W.heap.size W wx)
  case first=>
   clear HT HQ HQB HQV HLT HS hc0
   go_region_held3 (λw'=>w'.cell? (wd.add n)=some (.int .u64 (c:Nat))/\w'.cell? (wd.add n1)=some (.int .u64 (a1:Nat)))
     (first|exact⟨gL hbe hc,gL hbe hc1⟩|go_keep)
     (first|(go_at_call 199;with_reducible refine bE (HD.o _) ?_;rintro e w3 ⟨rfl,hb3⟩;have hbe:=dW hbe hb3))
   all_goals
     go_wp2;go_meet;exact⟨rfl,rfl,by assumption⟩
  case rest=>
   obtain⟨rfl,rfl,hbc⟩:=hcut;have hc0:=gL hbc hc0;have hbW:=dW hbw hbc;clear hc hc1 hbe hbc HD;go_wp2
   go_loopw [8,9] (λs8 s9 wr=>∃e r:Nat,s8=.int .u64 (e:Nat)/\s9=.int .u64 (r:Nat)/\e<18446744073709551616/\r<18446744073709551616/\Hid (Est (c*B+a1) v1 q e r)/\wc=wr) (λs8 _ _=>(intOf s8).toNat)
   case atStart=>exact⟨e0,r0,rfl,rfl,he0B,by omega,HS,rfl⟩
   case round=>
    clear HS he0B hr0v;obtain⟨e,r,rfl,rfl,heB,hrB,HE,hwr⟩:=hrel;subst hwr;have hM:=aGg e v2 heB hv2B;obtain⟨hi,hhi⟩:=eqx (e*v2/B);obtain⟨lo,hlo⟩:=eqx (e*v2%B)
    have hloB:lo<B:=by rw[<-hlo];exact bL _ (by decide)
    have hev:e*v2=hi*B+lo:=by
     rw[<-hhi,<-hlo,aT (e*v2/B)];exact(dD _ _).symm
    rw[hhi,hlo]at hM;have HM:=zh hM;have hsl:=aJW (hi:=hi) (r:=r) hloB ha0;rw[<-hev]at hsl;have HSL:=zh hsl;clear hM hhi hlo hev hsl
    by_cases hst:e*v2<=r*B+a0
    ·have HR:Hid (aAM q w (.returned (.int .u64 (e:Nat))) wc):=zh ⟨e,rfl,HE.o.stop HT.o hP HQ.o hv (eM heB) (.inl hst),heB,hbW⟩
     by_cases h1:hi<r
     ·have d3:decide ((hi:Int)<(r:Int))=true:=dT (by omega);have d4:decide (hi<r)=true:=dT h1;clear hst HSL
      go_wp2_with (go_at_call 193;refine(HM.o _).mono ?_;rintro e w3 ⟨rfl,rfl⟩)
      go_ret;exact HR.o
     obtain⟨h2,h3⟩:=(HSL.o.1 hst).resolve_left h1;subst h2
     have d3:decide ((hi:Int)<(hi:Int))=false:=by simp
     have d4:((hi:Int)==(hi:Int))=true:=by simp
     have d5:decide ((lo:Int)<=(a0:Int))=true:=dT (by omega);have d6:decide (lo<=a0)=true:=dT h3;clear hst HSL h1
     go_wp2_with (go_at_call 193;refine(HM.o _).mono ?_;rintro e w3 ⟨rfl,rfl⟩)
     go_ret;exact HR.o
    obtain⟨g1,g2,g3⟩:=Est.round HT.o HQV.o HQB.o HE.o (.inr (by omega))
    have hsn:¬(hi<r∨(hi=r/\lo<=a0)):=λh=>hst (HSL.o.2 h)
    obtain⟨d,hd⟩:=eqx (e-1);obtain⟨r',hr'⟩:=eqx (r+v1);rw[hd]at g1 g2;rw[hr']at g1;have HG:=zh g1
    have hde:d<e:=by omega
    have y1:(e:Int)-1=(d:Int):=by omega
    have y2:IntKind.u64.wrap ((e:Int)-1)=(d:Int):=by rw[y1];exact Go.Proofs.Mul64.wrapN _ (by omega)
    obtain⟨r2,hr2⟩:=eqx ((r+v1)%B)
    have hr2B:r2<18446744073709551616:=by rw[<-hr2];exact bL _ (by decide)
    have y3:IntKind.u64.wrap ((r:Int)+(v1:Int))=(r2:Int):=by
     rw[Go.Proofs.Mul64.addN,<-hr2];exact Go.Proofs.Mul64.wrapM _
    have hcy:r2<v1↔B<=r':=by
     rw[<-hr2,<-hr'];simp only[B];omega
    have hr3:¬B<=r'->r2=r':=by
     rw[<-hr2,<-hr'];simp only[B];omega
    have HX:Hid (B<=r'->aAM q w (.returned (.int .u64 (d:Nat))) wc):=zh (λh=>⟨d,rfl,g1.stop HT.o hP HQ.o hv g2 (.inr h),by simp only[B];omega,hbW⟩);have d3:decide ((hi:Int)<(r:Int))=false:=dF (by omega);have d3':decide (hi<r)=false:=dF (by omega);clear g1 g2 g3 hd hr' hr2 hst HSL y1
    by_cases hov:r2<v1
    ·have HR:=zh (HX.o (hcy.1 hov));have d7:decide ((r2:Int)<(v1:Int))=true:=dT (by omega);have d8:decide (r2<v1)=true:=dT hov;clear HX hcy hr3
     by_cases h1:hi=r
     ·subst h1
      have d4:((hi:Int)==(hi:Int))=true:=by simp
      have d5:decide ((lo:Int)<=(a0:Int))=false:=dF (by omega);have d6:decide (lo<=a0)=false:=dF (by omega);clear hsn
      go_wp2_with (go_at_call 193;refine(HM.o _).mono ?_;rintro e w3 ⟨rfl,rfl⟩)
      go_ret;exact HR.o
     have d4:((hi:Int)==(r:Int))=false:=aG.2 (by omega);have d4':(hi==r)=false:=aG.2 h1;have d4n:(hi=r)=False:=bX h1;clear hsn h1
     go_wp2_with (go_at_call 193;refine(HM.o _).mono ?_;rintro e w3 ⟨rfl,rfl⟩)
     go_ret;exact HR.o
    have d7:decide ((r2:Int)<(v1:Int))=false:=dF (by omega);have d8:decide (r2<v1)=false:=dF hov;have HG2:Hid (Est (c*B+a1) v1 q d r2):=zh (by rw[hr3 (λh=>hov (hcy.2 h))];exact HG.o);clear HX hcy hr3 hov
    by_cases h1:hi=r
    ·subst h1
     have d4:((hi:Int)==(hi:Int))=true:=by simp
     have d5:decide ((lo:Int)<=(a0:Int))=false:=dF (by omega);have d6:decide (lo<=a0)=false:=dF (by omega);clear hsn
     go_wp2_with (go_at_call 193;refine(HM.o _).mono ?_;rintro e w3 ⟨rfl,rfl⟩)
     go_roundw
     case rel=>exact⟨d,r2,rfl,rfl,by omega,hr2B,HG2,trivial⟩
     case measure=>simp[intOf];omega
    have d4:((hi:Int)==(r:Int))=false:=aG.2 (by omega);have d4':(hi==r)=false:=aG.2 h1;have d4n:(hi=r)=False:=bX h1;clear hsn h1
    go_wp2_with (go_at_call 193;refine(HM.o _).mono ?_;rintro e w3 ⟨rfl,rfl⟩)
    go_roundw
    case rel=>exact⟨d,r2,rfl,rfl,by omega,hr2B,HG2,trivial⟩
    case measure=>simp[intOf];omega
end Go.Proofs.Tg.Iw
end
