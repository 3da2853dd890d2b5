/- Parts of the proof. -/
import Derived.Shelf.Bits.Mul64
import Derived.Shelf.Spec.BitsCarry
import Derived.Test.YtabdoikbodjidaaGreatDoorMBO12
set_option maxHeartbeats 64000000
set_option maxRecDepth 100000
namespace Go.Bw
theorem yF {b:Nat}(h:b≠0):∃lo t,dg b=lo++[t]/\t≠0/\t<B:=by
 have hne:dg b≠[]:=λe=>h (by have:=kE b;rw[e]at this;exact this.symm)
 refine⟨(dg b).dropLast,(dg b).getLast hne,(List.dropLast_concat_getLast hne).symm,aMB b hne,kH b _ (List.getLast_mem hne)⟩
theorem aBN {v n:Nat}(h1:v<B^n)(h2:0<n->B^(n-1)<=v):(dg v).length=n:=by
 have h3:=mC h1
 rcases cC n with h|h
 ·omega
 have h4:=aPy (h2 h)
 omega
theorem aKr {b t k n:Nat}{lo:List Nat}(hb:dg b=lo++[t])(hl:lo.length=n-1)(hn:2<=n)(hk:k<64)(hlt:t*2^k<B)(hge:9223372036854775808<=t*2^k):
    ∃vs x y,dg (b*2^k)=vs++[x,y]/\vs.length=n-2/\Dig vs/\x<B/\y<B/\B<=2*y:=by
  have hbv:b=val lo+B^(n-1)*t:=by
   have:=kE b;rw[hb,lG,hl]at this;simpa[val]using this.symm
  have hdl:Dig lo:=λx hx=>kH b x (by rw[hb];simp[hx])
  have hlo:=kR hdl;rw[hl]at hlo
  have hB:B=2^k*2^(64-k):=by rw[<-eU,show k+(64-k)=64 by omega]
  have ht:t<2^(64-k):=by
   rw[hB,aT]at hlt;exact fL hlt
  have h1:(t+1)*2^k<=B:=by
   rw[hB,aT];exact bJ _ ht
  have hV1:b*2^k<B^n:=by
   have h2:b<B^(n-1)*(t+1):=by rw[hbv,aZ];omega
   have h3:b*2^k<B^(n-1)*(t+1)*2^k:=gP h2 (dE k);have h4:B^(n-1)*((t+1)*2^k)<=B^(n-1)*B:=bJ _ h1;rw[<-bS,Nat.succ_eq_add_one,show n-1+1=n by omega,<-aV]at h4;exact aH h3 h4
  have hV2:B^(n-1)*(t*2^k)<=b*2^k:=by
   rw[<-aV,hbv];exact aY _ (jO _ _)
  have hlen:(dg (b*2^k)).length=n:=aBN hV1 (λ_=>by
   refine aR ?_ hV2
   exact jI _ (by omega))
  have hd:=kH (b*2^k);have hv:=kE (b*2^k);generalize dg (b*2^k)=l at hlen hd hv
  have e1:l=l.take (n-2)++[l[n-2],l[n-1]]:=by
   conv=>lhs;rw[<-cY (n-2) l]
   congr 1
   rw[bG (by omega),bG (by omega),cS (by omega)]
   congr 2
   simp only[show n-2+1=n-1 by omega]
  refine⟨l.take (n-2),l[n-2],l[n-1],e1,by rw[aS];omega,tD hd _,hd _ (aB _),hd _ (aB _),?_⟩;have h5:=mT l (n-1) (by omega);rw[rV (by omega),cS (by omega),hv]at h5;have h6:=kR (tD hd (n-1));rw[aS,dA (by omega)]at h6;simp only[val,dN,bW]at h5
  have h7:B^(n-1)*(t*2^k)<B^(n-1)*(l[n-1]+1):=by
   rw[aZ,dI];omega
  have h8:=fL h7;simp only[B];omega
theorem aKs {a b k n la:Nat}{us:List Nat}(hb:B^(n-1)<=b)(ha:a<B^la)(hn:1<=n)(hla:n<=la)(hl:us.length=la+1)(hd:Dig us)(hv:val us=a*2^k):
    wR (a*2^k) (b*2^k) (la+1) (la-n+1) (la-n+1) us []:=by
  refine⟨hl,hd,?_,by simp,λx hx=>absurd hx (by simp),by simp[val,hv]⟩;have h1:=mT us (la-n+1) (by omega)
  have h2:B^(la-n+1)*val (us.drop (la-n+1))<B^(la-n+1)*(B^(n-1)*2^k):=by
   have h3:a*2^k<B^la*2^k:=gP ha (dE k)
   have h5:B^la=B^(la-n+1)*B^(n-1):=by rw[<-eU];congr 1;omega
   rw[h5,aV]at h3;omega
  have h4:=fL h2;exact aH h4 (aY _ hb)
theorem aEX {l:List Nat}{n:Nat}(hl:l.length=n+1)(hn:2<=n){a b c:Nat}(ha:l[n-2]?=some a)(hb:l[n-1]?=some b)(hc:l[n]?=some c):l.drop (n-2)=[a,b,c]:=by
 obtain⟨_,ea⟩:=aX.1 ha
 obtain⟨_,eb⟩:=aX.1 hb
 obtain⟨_,ec⟩:=aX.1 hc
 obtain⟨m,rfl⟩:∃m,n=m+2:=⟨n-2,by omega⟩
 have h1:m<l.length:=by omega
 have h2:m+1<l.length:=by omega
 have h3:m+2<l.length:=by omega
 simp only[iW]at ea ⊢
 have eb':l[m+1]=b:=eb
 rw[bG h1,bG h2,bG h3,cS (by omega),ea,eb',ec]
theorem wR.tops {A V L M j n:Nat}{us qs vs:List Nat}{x y a b c:Nat}(h:wR A V L M (j+1) us qs)(hV:dg V=vs++[x,y])(hvl:vs.length=n-2)(hn:2<=n)(hj:j+n<L)(hx:x<B)(hy:y<B)(hbig:B<=2*y)
    (ha:us[j+n-2]?=some a) (hb:us[j+n-1]?=some b) (hc:us[j+n]?=some c):
    nX (val (us.drop j)) V (c*B+b) a y x (B^(n-2)):=by
  have hl:=h.len
  have hVn:V<=B^n:=by
   have h1:=kR (kH V);rw[kE,hV]at h1
   have:(vs++[x,y]).length=n:=by simp[hvl];omega
   rw[this]at h1;omega
  obtain⟨_,_,h0⟩:=h.window hVn hj (by omega)
  have dv:Dig vs:=λz hz=>kH V z (by rw[hV];simp[hz])
  have e:val (us.drop j)=val ((us.drop j).take (n-2)++[a,b,c]):=by
   have h1:=mT (us.drop j) (n+1) (by rw[cZ];omega);rw[iX,show j+(n+1)=j+n+1 by omega,h0,dN,bW]at h1;rw[h1]
   congr 1
   have h2:(us.drop j).take (n+1)=((us.drop j).take (n+1)).take (n-2)++((us.drop j).take (n+1)).drop (n-2):=(cY _ _).symm
   have hlen:((us.drop j).take (n+1)).length=n+1:=by rw[aS,cZ];omega
   have g:∀i,i<n+1->((us.drop j).take (n+1))[i]?=us[j+i]?:=λi hi=>by rw[gJ hi,iB]
   rw[h2,List.take_take,dA (by omega),aEX hlen hn (a:=a) (b:=b) (c:=c) (by rw[g _ (by omega),<-ha];congr 1;omega) (by rw[g _ (by omega),<-hb];congr 1;omega) (by rw[g _ (by omega),<-hc])]
  have hVv:V=val (vs++[x,y]):=by rw[<-hV,kE]
  obtain⟨hi,ea⟩:=aX.1 ha;rw[e,hVv];exact aMC (by rw[aS,cZ];omega) hvl (tD (tX h.dig _) _) dv (by rw[<-ea];exact h.dig _ (aB _)) hx hy hbig
theorem lE {xs:List Nat}{k:Nat}(h:k<xs.length):val (xs.take (k+1))=val (xs.take k)+B^k*xs[k]:=by
 rw[aD h,lG,aS,dA (by omega)];simp[val]
theorem aGk {us zs:List Nat}{j i:Nat}(hj:j+i<us.length)(hz:zs.length=i):(us.take j++(zs++us.drop (j+i)))[j+i]?=some us[j+i]:=by
 rw[bC (by rw[aS];omega),aS,dA (by omega),iQ,bC (by omega),hz,cP,iB]
 simp[hj]
theorem wS {us zs:List Nat}{j i d:Nat}(hj:j+i<us.length)(hz:zs.length=i):(us.take j++(zs++us.drop (j+i))).set (j+i) d=us.take j++((zs++[d])++us.drop (j+(i+1))):=by
 rw[cX _ _ (by rw[aS];omega),aS,dA (by omega),iQ,cX _ _ (by omega),hz,cP,bG hj,dL]
 simp[fQ]
def vL (k:Nat):List Nat->List Nat
  |[]=>[]
  |[x]=>[x/2^k]
  |x::y::l=>(x/2^k+y*2^(64-k)%B)::vL k (y::l)
theorem aDC (k:Nat):∀l:List Nat,(vL k l).length=l.length
  |[]=>rfl
  |[_]=>rfl
  |x::y::l=>by
   show(vL k (y::l)).length+1=_
   rw[aDC k (y::l)];rfl
theorem mH {k:Nat}(hk:k<64):B=2^k*2^(64-k):=by
 rw[<-eU,show k+(64-k)=64 by omega]
theorem aCD {k y:Nat}(hk:k<64):y*2^(64-k)%B=y%2^k*2^(64-k):=by
 rw[mH hk,jB]
theorem aGl {k x y:Nat}(hk:k<64)(hx:x<B):x/2^k+y*2^(64-k)%B<B/\x/2^k<2^(64-k):=by
 have h1:x/2^k<2^(64-k):=by
  rw[eC (dE k),aT,<-mH hk];exact hx
 refine⟨?_,h1⟩
 rw[aCD hk]
 have h2:y%2^k+1<=2^k:=bL _ (dE k)
 have h3:=aY (2^(64-k)) h2
 rw[<-mH hk,cQ,fJ]at h3
 omega
theorem aDD {k:Nat}(hk:k<64):∀{l:List Nat},Dig l->Dig (vL k l)
  |[],_,x,hx=>absurd hx (by simp[vL])
  |[a],h,x,hx=>by
   rw[aN.1 hx];exact bB (cF _ _) (h a (by simp))
  |a::b::l,h,x,hx=>by
   rcases bA.1 hx with rfl|hx
   ·exact(aGl hk (h a (by simp))).1
   exact aDD hk (λz hz=>h z (by simp[bA.1 hz])) x hx
theorem aMD {k b V:Nat}(hk:k<64):(b+B*V)/2^k=b/2^k+2^(64-k)*V:=by
 rw[mH hk,aV,gH _ _ (dE k)]
theorem aDE {k:Nat}(hk:k<64):∀l:List Nat,val (vL k l)=val l/2^k
  |[]=>by simp[vL,val]
  |[x]=>by simp[vL,val]
  |x::y::l=>by
   have ih:=aDE hk (y::l)
   show(x/2^k+y*2^(64-k)%B)+B*val (vL k (y::l))=(x+B*val (y::l))/2^k
   rw[ih,aMD hk,aCD hk];have hv:val (y::l)=y+B*val l:=rfl;have h1:=dD (val (y::l)) (2^k)
   have h2:val (y::l)%2^k=y%2^k:=by
    rw[hv,mH hk,aV,gI]
   rw[h2]at h1;generalize val (y::l)=V at*;generalize V/2^k=q at*;generalize y%2^k=r at*
   have h3:2^(64-k)*V=B*q+r*2^(64-k):=by
    rw[<-h1,aZ,mH hk,<-aV,aT (2^(64-k)) (2^k),aT r]
   omega
theorem aGm {k:Nat}:∀{l:List Nat} {i:Nat} {x:Nat},l[i]?=some x->(vL k l)[i]?=some (match l[i+1]? with|some y=>x/2^k+y*2^(64-k)%B|none=>x/2^k)
  |[],i,x,h=>absurd h (by simp)
  |[a],0,x,h=>by
   have:a=x:=by simpa using h
   subst this;rfl
  |[a],i+1,x,h=>absurd h (by simp)
  |a::b::l,0,x,h=>by
   have:a=x:=by simpa using h
   subst this;rfl
  |a::b::l,i+1,x,h=>by
   have h2:(b::l)[i]?=some x:=by simpa using h
   have:=aGm (k:=k) h2
   show(vL k (b::l))[i]?=_
   rw[this];simp
theorem aOz {k x y:Nat}(hk:k<64)(hx:x<B):(x/2^k)|||(y*2^(64-k)%B)=x/2^k+y*2^(64-k)%B:=by
 rw[aCD hk]
 have h:=(aGl (y:=y) hk hx).2
 rw[Nat.or_comm,gC,<-Nat.shiftLeft_eq,<-Nat.shiftLeft_add_eq_or_of_lt h]
def tzl (xs:List Nat):Nat->Nat
  |0=>0
  |k+1=>if xs.getD k 0=0 then tzl xs k else k+1
theorem tE (xs:List Nat):∀k,tzl xs k<=k
  |0=>aA _
  |k+1=>by
   unfold tzl;have:=tE xs k
   split<;>omega
theorem wI (xs:List Nat):∀k,k<=xs.length->val (xs.take (tzl xs k))=val (xs.take k)/\zG (xs.take (tzl xs k))
  |0,_=>⟨rfl,λh=>absurd rfl h⟩
  |k+1,hk=>by
   have hx:xs.getD k 0=xs[k]:=by simp[show k<xs.length by omega]
   have ht:xs.take (k+1)=xs.take k++[xs[k]]:=aD hk;unfold tzl
   by_cases h0:xs.getD k 0=0
   ·rw[aQ h0];obtain⟨h1,h2⟩:=wI xs k (by omega);refine⟨?_,h2⟩;rw[h1,ht,<-hx,h0,qF]
   rw[aJ h0];refine⟨rfl,λhne=>?_⟩
   have:∀(l:List Nat) (hl:l≠[]),l=xs.take k++[xs[k]]->l.getLast hl≠0:=λl hl e=>by
    subst e;rw[List.getLast_append_of_ne_nil hl (by simp),List.getLast_singleton,<-hx];exact h0
   exact this _ hne ht
theorem aAv {xs:List Nat}(h:Dig xs)(k:Nat):Dig (xs.take k):=λx hx=>h x (eS hx)
theorem xU {xs:List Nat}(h:Dig xs):xs.take (tzl xs xs.length)=dg (val xs)/\tzl xs xs.length=(dg (val xs)).length:=by
 obtain⟨h1,h2⟩:=wI xs xs.length (aA _)
 rw[eE]at h1
 have e:=aEE (aAv h (tzl xs xs.length)) h2
 rw[h1]at e
 refine⟨e.symm,?_⟩
 rw[e,aS]
 have:=tE xs xs.length
 omega
theorem sF (xs:List Nat)(i:Nat)(h:i<=xs.length):val xs=val (xs.take i)+B^i*val (xs.drop i):=by
 have:=lG (xs.take i) (xs.drop i)
 rw[cY,aS,dA h]at this
 exact this
theorem pF {xs:List Nat}{i:Nat}(h:i<xs.length):val (xs.drop i)=xs[i]+B*val (xs.drop (i+1)):=by
 rw[bG h];rfl
theorem tO {xs ys:List Nat}{i:Nat}(hx:i<xs.length)(hy:i<ys.length)(hd:xs.drop (i+1)=ys.drop (i+1))(hX:Dig xs)(hlt:xs[i]<ys[i]):val xs<val ys:=by
 rw[sF xs i (by omega),sF ys i (by omega),pF hx,pF hy,hd]
 have h1:val (xs.take i)<B^i:=by
  have:=kR (xs:=xs.take i) (λx h=>hX x (eS h))
  rwa [aS,dA (by omega)]at this
 have h2:B^i*(xs[i]+B*val (ys.drop (i+1)))+B^i<=B^i*(ys[i]+B*val (ys.drop (i+1))):=by
  have:xs[i]+B*val (ys.drop (i+1))+1<=ys[i]+B*val (ys.drop (i+1)):=by omega
  have:=bJ (B^i) this
  rwa [aZ,dI]at this
 omega
theorem nD {a b:Nat}(h:(dg a).length<(dg b).length):a<b:=by
 rcases eN a b with h1|h1
 ·exact h1
 have h2:=kR (kH b)
 rw[kE]at h2;have h3:=kR (kH a);rw[kE]at h3
 have h4:B^(dg a).length<=b:=by
  have hb:b≠0:=λe=>by subst e;rw[jS]at h;simp at h
  have h5:(dg b).length-1<(dg b).length:=by omega
  have h6:B^((dg b).length-1)<=b:=by
   rcases eN b (B^((dg b).length-1))with h7|h7
   ·have:=mC h7;omega
   exact h7
  exact aR (aP (by decide) (by omega)) h6
 omega
theorem jT {a b:Nat}(h:a<=b):(dg a).length<=(dg b).length:=by
 rcases eN (dg b).length (dg a).length with h1|h1
 ·exact absurd (nD h1) (by omega)
 exact h1
end Go.Bw
namespace Go.Proofs.Tg.Iw
open Go.RowKit Go.Bw Go.Gr Go.Proofs.Tg
theorem lU.at' {w:World}{A:Option Addr}{xs:List Nat}(h:lU w A xs){k:Nat}(hk:k<xs.length):∃ad,A=some ad/\w.cell? (ad.add k)=some (.int .u64 (xs[k]:Nat)):=by
 obtain⟨ad,e,hc⟩:=Sl.at1 h hk
 exact⟨ad,e,by simpa[vs]using hc⟩
theorem aOy (A:Option Addr)(c:Nat)(xs:List Nat)(w:World)(hA:lU w A xs)(hn:xs.length<=1000000)(hc:xs.length<=c):
    Calls Tryz.prog 167 #[.slice A xs.length c] w λe w'=>e=.returned (.slice A (Go.Bw.tzl xs xs.length) c)/\w=w':=by
  obtain⟨r,hr⟩:=eqx (Go.Bw.tzl xs xs.length);rw[hr];have HR:Hid (Go.Bw.tzl xs xs.length=r):=zh hr;have HA:=zh hA;have HN:Hid (xs.length=xs.length):=zh rfl;obtain⟨n,hn'⟩:=eqx (xs.length);rw[hn']at hn hc HR ⊢;have HL:=zh hn';clear hr hA HN hn';go_enter Tryz.func167,Tryz.ntmps167;go_wp2
  go_loop [3] (λs3=>∃k:Nat,s3=.int .i64 (k:Nat)/\k<=n/\Hid (Go.Bw.tzl xs k=r)) (λs3=>(intOf s3).toNat)
  case atStart=>exact⟨n,rfl,aA _,HR⟩
  case round=>
   obtain⟨k,rfl,hk,HK⟩:=hrel
   by_cases hk0:k=0
   ·subst hk0;obtain rfl:r=0:=HK.o.symm
    have e1:decide ((0:Int)<((0:Nat):Int))=false:=by decide
    go_wp2;go_ret;exact⟨rfl,rfl⟩
   obtain⟨j,hj⟩:∃j,k=j+1:=⟨k-1,by omega⟩
   have hjl:j<xs.length:=by rw[HL.o];omega
   obtain⟨ad,hAD,hck⟩:=lU.at' HA.o hjl;subst hAD;have HX:Hid (xs.getD j 0=xs[j]):=zh (by simp[hjl]);have HK':Hid (Go.Bw.tzl xs (j+1)=r):=zh (hj▸HK.o);have e1:decide ((0:Int)<(k:Int))=true:=dT (by omega);have e1':decide (0<k)=true:=dT (by omega);have w1:IntKind.i64.wrap ((k:Int)-1)=(j:Int):=(IntWalk.i64_in _ (by omega)).trans (by omega)
   have w1':(k:Int)-1=(j:Int):=by omega
   have q0:(0:Int)<=(j:Int):=by omega
   have q1:(j:Int)<(n:Int):=by omega
   generalize xs[j]=x at hck HX
   by_cases hx:x=0
   ·subst hx;have HK2:Hid (Go.Bw.tzl xs j=r):=zh (by have:=HK'.o;unfold Go.Bw.tzl at this;rwa [aQ HX.o]at this);clear hj hk0 hjl;go_wp2;go_round
    case rel=>exact⟨j,by go_num,by omega,HK2⟩
    case measure=>simp[intOf];omega
   have hb:((x:Int)==0)=false:=by simp[hx]
   have hb':(x==0)=false:=by simp[hx]
   have hb'':((x:Int)=0)=False:=by simp[hx]
   have hxn:(x=0)=False:=bX hx
   obtain rfl:r=j+1:=by have:=HK'.o;unfold Go.Bw.tzl at this;rw[aJ (by rw[HX.o];exact hx)]at this;exact this.symm
   have HJ:=zh hj;clear hj hk0 hjl hx;go_wp2;go_ret;exact⟨by rw[<-HJ.o];rfl,rfl⟩
structure NW (w:World)(R:Option Addr)(c n:Nat):Prop where
  wds:lU w R (dg n)
  cap:(dg n).length<=c
theorem NW.keep {w w':World}{R:Option Addr}{c n:Nat}(h:NW w R c n)(hb:Below w.heap.size w w'):NW w' R c n:=⟨h.wds.keep hb,h.cap⟩
theorem NW.zero (w:World)(R:Option Addr)(c:Nat):NW w R c 0:=⟨by rw[jS];exact Sl.nil _ _ _,by rw[jS];exact aW _⟩
theorem lU.take' {w:World}{A:Option Addr}{xs:List Nat}(h:lU w A xs)(k:Nat)(hk:k<=xs.length):lU w A (xs.take k):=by
 have hl:(xs.take k).length=k:=by rw[aS];omega
 refine⟨by simp,λhp=>?_⟩
 rw[hl]at hp
 obtain⟨ad,e,hlt,ha⟩:=Sl.lies h (by omega)
 refine⟨ad,e,hlt,λj u hu=>ha j u ?_⟩
 rw[jQ,fU]at hu
 split at hu
 ·exact hu
 exact absurd hu (by simp)
theorem qP (A:Option Addr)(c:Nat)(xs:List Nat)(w:World)(hA:lU w A xs)(hd:Dig xs)(hn:xs.length<=1000000)(hc:xs.length<=c):
    Calls Tryz.prog 167 #[.slice A xs.length c] w λe w'=>e=.returned (.slice A (dg (val xs)).length c)/\w=w'/\NW w' A c (val xs):=by
  have h:=aOy A c xs w hA hn hc;obtain⟨h1,h2⟩:=Go.Bw.xU hd;refine h.mono ?_;rintro e w' ⟨rfl,rfl⟩;refine⟨by rw[h2],rfl,?_,?_⟩
  ·rw[<-h1];exact lU.take' hA _ (Go.Bw.tE _ _)
  rw[<-h2];exact aR (Go.Bw.tE _ _) hc
theorem oE (X Y:Option Addr)(cx cy m n:Nat)(w:World)(h:m≠n):
    Calls Tryz.prog 143 #[.slice X m cx,.slice Y n cy] w λe w'=>e=.returned (.int .i64 (if m<n then -1 else 1))/\Dr w w':=by
  have HC:=zh (λV=>Go.Proofs.Tg.aCt (m:Nat) (n:Nat) V);have e0:((m:Int)=(n:Int))=False:=bX (by omega);have e0':(m=n)=False:=bX h;have e1:((m:Int)==(n:Int))=false:=aG.2 (by omega)
  have e2:((m:Int)!=(n:Int))=true:=by simp;omega
  have e2':(m !=n)=true:=by simp;omega
  obtain⟨z,hz⟩:=eqx (sN (m:Int) (n:Int):Int);obtain⟨r,hr⟩:=eqx ((if m<n then(-1:Int)else 1):Int);rw[hz]at HC;rw[hr]
  have HZ:Hid (z=r):=zh (by
   rw[<-hz,<-hr];unfold sN
   by_cases h1:m<n
   ·rw[aQ (by omega),aQ h1]
   rw[aJ (by omega),aQ (by omega),aJ h1])
  clear h hz hr;go_enter Tryz.func143,Tryz.ntmps143
  go_wp2_with (go_at_call 66;refine(HC.o _).mono ?_;rintro e w' ⟨rfl,rfl⟩)
  go_ret;exact⟨by rw[<-HZ.o];rfl,Dr.refl _⟩
theorem aKt (X Y:Option Addr)(cx cy:Nat)(xs ys:List Nat)(w:World)(hX:lU w X xs)(hY:lU w Y ys)(hx:Dig xs)(hy:Dig ys)(hl:ys.length=xs.length)(hn:xs.length<=1000000):
    Calls Tryz.prog 143 #[.slice X xs.length cx,.slice Y ys.length cy] w λe w'=>e=.returned (.int .i64 (if val xs<val ys then -1 else if val xs=val ys then 0 else 1))/\Dr w w':=by
  rw[hl];have HX:=zh hX;have HY:=zh hY;have HDX:=zh hx;have HDY:=zh hy;have HC:=zh (λx y V=>aPQ x y V);obtain⟨n,hn'⟩:=eqx (xs.length);have HLX:=zh hn';have HL:=zh (hl.trans hn');obtain⟨r,hr⟩:=eqx ((if val xs<val ys then -1 else if val xs=val ys then 0 else 1):Int);rw[hr,hn'];rw[hn']at hn;have HR:=zh hr;clear hX hY hx hy hl hr hn';go_enter Tryz.func143,Tryz.ntmps143;go_wp2
  go_loopw [5] (λs5 wr=>∃k:Nat,s5=.int .i64 ((k:Int)-1)/\k<=n/\Hid (xs.drop k=ys.drop k)/\Dr w wr) (λs5 _=>(intOf s5+1).toNat)
  case atStart=>exact⟨n,rfl,aA _,zh (by rw[cS (by rw[HLX.o];exact aA _),cS (by rw[HL.o];exact aA _)]),Dr.refl _⟩
  case round=>
   obtain⟨wo,rfl⟩:∃wo:World,wo=wr:=⟨_,rfl⟩;obtain⟨k,rfl,hk,HD,hdr⟩:=hrel
   cases k with
   |zero=>
    have hv:xs=ys:=by simpa using HD.o
    obtain rfl:r=0:=by rw[<-HR.o,hv];simp
    have dd:decide ((0:Int)<=((0:Nat):Int)-1)=false:=by decide
    clear hv;go_wp2;go_ret;exact⟨rfl,hdr⟩
   |succ j=>
    have hj:j<xs.length:=by rw[HLX.o];omega
    have hj2:j<ys.length:=by rw[HL.o];omega
    have e:(((j+1:Nat):Int)-1)=(j:Int):=by omega
    rw[e];clear e;obtain⟨ad,hAD,hcx⟩:=lU.at (HX.o.keep hdr.below) hj;obtain⟨bd,hBD,hcy⟩:=lU.at (HY.o.keep hdr.below) hj2;subst hAD hBD;have HLT:Hid (xs[j]<ys[j]->val xs<val ys):=zh (λh=>tO hj hj2 HD.o HDX.o h);have HGT:Hid (ys[j]<xs[j]->val ys<val xs):=zh (λh=>tO hj2 hj HD.o.symm HDY.o h);have HEQ:Hid (xs[j]=ys[j]->xs.drop j=ys.drop j):=zh (λh=>by rw[bG hj,bG hj2,h,HD.o]);generalize xs[j]=x at*;generalize ys[j]=y at*
    have q0:(0:Int)<=(j:Int):=by omega
    have q1:(j:Int)<(n:Int):=by omega
    have q3:((j:Int)).toNat=j:=by omega
    have d0:decide ((0:Int)<=(j:Int))=true:=dT q0;clear hj hj2
    by_cases hxy:x=y
    ·have HE2:=zh (HEQ.o hxy);clear HEQ HLT HGT;subst hxy
     have hne:((x:Int)!=(x:Int))=false:=by simp
     go_wp2
     go_quiet (fail)
     go_wp2;go_roundw
     case rel=>exact⟨j,by go_num,by omega,HE2,hdr.drewN _⟩
     case measure=>simp[intOf]
    have hne:((x:Int)!=(y:Int))=true:=by simp;omega
    have hne2:((x:Int)=(y:Int))=False:=bX (by omega);have hne3:(x=y)=False:=bX hxy;obtain⟨z,hz⟩:=eqx (aLE x y:Int);have HCXY:=zh (HC.o x y);rw[hz]at HCXY
    have HZ:Hid (z=r):=zh (by
     rw[<-hz,<-HR.o];unfold aLE
     rcases eN x y with h1|h1
     ·rw[aQ h1,aQ (HLT.o h1)]
     have h2:=HGT.o (by omega)
     rw[aJ (by omega),aQ (by omega),aJ (by omega),aJ (by omega)])
    clear hxy hz HLT HGT HEQ;go_wp2
    go_quiet (fail)
    generalize hW:wo.drewN _=W
    have hdW:Dr w W:=by rw[<-hW];exact hdr.drewN _
    have hcx':W.cell? (ad.add j)=some (.int .u64 (x:Nat)):=by rw[<-hW];exact hcx
    have hcy':W.cell? (bd.add j)=some (.int .u64 (y:Nat)):=by rw[<-hW];exact hcy
    clear hW hcx hcy;go_wp2
    go_quiet ((go_at_call 168;exact aDN (HCXY.o _)))
    go_wp2;go_ret;exact⟨by rw[<-HZ.o];rfl,hdW.drewN _⟩
theorem aBO (X Y:Option Addr)(cx cy a b:Nat)(w:World)(hX:lU w X (dg a))(hY:lU w Y (dg b))(hn:(dg a).length<=1000000):
    Calls Tryz.prog 143 #[.slice X (dg a).length cx,.slice Y (dg b).length cy] w λe w'=>e=.returned (.int .i64 (if a<b then -1 else if a=b then 0 else 1))/\Dr w w':=by
  by_cases hl:(dg b).length=(dg a).length
  ·have h:=aKt X Y cx cy (dg a) (dg b) w hX hY (kH a) (kH b) hl hn;rw[kE,kE]at h;exact h
  have h:=oE X Y cx cy (dg a).length (dg b).length w (λe=>hl e.symm);refine h.mono ?_;rintro e w' ⟨rfl,hd⟩;refine⟨?_,hd⟩
  rcases eN (dg a).length (dg b).length with h1|h1
  ·have:=nD h1;rw[aQ h1,aQ this]
  have:=nD (show(dg b).length<(dg a).length by omega);rw[aJ (by omega),aJ (by omega),aJ (by omega)]
structure pU (g:Nat)(w w':World):Prop where
  os:w'.os=w.os
  tape:w'.tape=w.tape
  output:w'.output=w.output
  size:w'.heap.size=w.heap.size
  block:∀k,k≠g->w'.heap[k]?=w.heap[k]?
theorem pU.refl (g:Nat)(w:World):pU g w w:=⟨rfl,rfl,rfl,rfl,λ_ _=>rfl⟩
theorem pU.set {g:Nat}{w w':World}(h:pU g w w')(i:Nat)(u:Value):pU g w (w'.setCell ⟨g,i,none⟩ u):=
  ⟨h.os,h.tape,h.output,by simpa[World.setCell]using h.size,λk hk=>(eZ w' ⟨g,i,none⟩ u k hk).trans (h.block k hk)⟩
theorem pU.blk {g k:Nat}{w w':World}{t:TypeId}{cs:Array Value}(h:pU g w w')(B:Blk w k t cs)(hk:k≠g):Blk w' k t cs:=(h.block k hk).trans B
theorem pU.cell {g:Nat}{w w':World}{p:Addr}(h:pU g w w')(hp:p.block≠g):w'.cell? p=w.cell? p:=World.cell?_of_block (w:=w) (h.block _ hp)
theorem pU.below {g B:Nat}{w V V':World}(h:pU g V V')(hb:Below B w V)(hg:B<=g):Below B w V':=
  ⟨h.os.trans hb.os,h.tape.trans hb.tape,h.output.trans hb.output,by rw[h.size];exact hb.size,λk hk=>(h.block k (by omega)).trans (hb.block k hk)⟩
end Go.Proofs.Tg.Iw
section
namespace Go.Bw
theorem aCw {x:Nat}(h0:x≠0)(hx:x<B):0<Lib.bitLen x/\Lib.bitLen x<=64/\2^(Lib.bitLen x-1)<=x/\x<2^Lib.bitLen x:=by
 have key:∀f x,x≠0->x<2^f->0<Lib.bitLenAux f x/\Lib.bitLenAux f x<=f/\2^(Lib.bitLenAux f x-1)<=x/\x<2^Lib.bitLenAux f x:=by
  intro f
  induction f with
  |zero=>intro x h0 hx;simp at hx;omega
  |succ f ih=>
   intro x h0 hx;unfold Lib.bitLenAux;rw[aJ h0]
   by_cases h1:x/2=0
   ·rw[h1]
    have:Lib.bitLenAux f 0=0:=by cases f<;>simp[Lib.bitLenAux]
    rw[this]
    have:x=1:=by omega
    subst this;exact⟨by decide,by omega,by decide,by decide⟩
   obtain⟨g1,g2,g3,g4⟩:=ih (x/2) h1 (by rw[bS]at hx;omega);obtain⟨n,hn⟩:∃n,Lib.bitLenAux f (x/2)=n+1:=⟨Lib.bitLenAux f (x/2)-1,by omega⟩;rw[hn]at g2 g3 g4 ⊢;rw[show n+1-1=n by omega]at g3;rw[show 1+(n+1)-1=n+1 by omega,show 1+(n+1)=n+2 by omega]
   have e1:2^(n+1)=2*2^n:=by rw[bS];omega
   have e2:2^(n+2)=4*2^n:=by rw[bS,bS];omega
   omega
 exact key 64 x h0 (by simpa using hx)
theorem aCx {x:Nat}(h0:x≠0)(hx:x<B):64-Lib.bitLen x<64/\x*2^(64-Lib.bitLen x)<B/\9223372036854775808<=x*2^(64-Lib.bitLen x):=by
 obtain⟨h1,h2,h3,h4⟩:=aCw h0 hx
 generalize Lib.bitLen x=n at*
 refine⟨by omega,?_,?_⟩
 ·have:x*2^(64-n)<2^n*2^(64-n):=(Nat.mul_lt_mul_right (eK (by omega))).2 h4
  rw[<-eU,show n+(64-n)=64 by omega]at this;exact this
 have:2^(n-1)*2^(64-n)<=x*2^(64-n):=aY _ h3
 rw[<-eU,show n-1+(64-n)=63 by omega]at this;exact this
end Go.Bw
namespace Go.Proofs.Tg.Iw
open Go.RowKit Go.Bw Go.Gr Go.Proofs.Tg Go.Shelf
theorem aAK (x y c:Nat)(hc:c<=1)(w:World):(callFunc 190 #[.int .u64 x,.int .u64 y,.int .u64 c]).run Tryz.prog w=
    .ok (.value (.tuple #[.int .u64 (((x+y+c)%B:Nat):Int),.int .u64 (((x+y+c)/B:Nat):Int)])) w:=by
  rw[run_callFunc_extern Tryz.func190 (by kernel_rfl) (by kernel_rfl) (by kernel_rfl) (e:=add64Entry) (by kernel_rfl),run_add64 x y c (by omega) (by omega) (by omega) (by omega)];simp only[Result.andThen]
  congr 5<;>omega
theorem aAL (x y b:Nat)(hb:b<=1)(w:World):(callFunc 192 #[.int .u64 x,.int .u64 y,.int .u64 b]).run Tryz.prog w=
    .ok (.value (.tuple #[.int .u64 (((x+B-y-b)%B:Nat):Int),.int .u64 ((if x<y+b then 1 else 0:Nat):Int)])) w:=by
  rw[run_callFunc_extern Tryz.func192 (by kernel_rfl) (by kernel_rfl) (by kernel_rfl) (e:=sub64Entry) (by kernel_rfl),run_sub64 x y b hb]
  rfl
def aEO:Go.Shelf.Ren:=⟨λ|264=>193|n=>n,λ|46=>127|53=>170|n=>n,λn=>n⟩
theorem aOt:Go.Proofs.Lays.n264 Tryz.prog aEO:={
  mixed:=by kernel_rfl
  f264:=Tryz.func193.trans (bK some (by kernel_rfl))
  t46:=Tryz.underlying127
  a46:=Tryz.isAgg127
  z46:=Tryz.sizeOf127
  v46:=Tryz.zeroValue127
  t53:=Tryz.underlying170
  a53:=Tryz.isAgg170
  z53:=Tryz.sizeOf170
  v53:=Tryz.zeroValue170}
theorem aGg (x y:Nat)(hx:x<B)(hy:y<B)(w:World):Calls Tryz.prog 193 #[.int .u64 x,.int .u64 y] w λe w'=>e=.returned (.tuple #[.int .u64 ((x*y/B:Nat):Int),.int .u64 ((x*y%B:Nat):Int)])/\w=w':=
  (Go.Proofs.Any.bits_Mul64 aOt x y hx hy w).mono λ_ _ h=>⟨h.1,h.2.symm⟩
theorem aPw (x:Nat)(hx:x<B)(w:World):Calls Tryz.prog 116 #[.int .u64 x] w λe w'=>e=.returned (.int .i64 (Lib.bitLen x:Nat))/\w=w':=
  (Go.Proofs.Any.bits_Len64 (ρ:=Fi.aAB) {Fi.xW with} (x:Int) w (by omega) (by have:x<18446744073709551616:=hx;omega)).mono λ_ _ h=>⟨by have:=h.1;simpa using this,h.2.symm⟩
theorem aOu (x k:Nat)(hx:x<B)(hk:64-Lib.bitLen x=k)(hl:Lib.bitLen x<=64)(w:World):Calls Tryz.prog 194 #[.int .u64 x] w λe w'=>e=.returned (.int .i64 k)/\w=w':=by
 have HL:=zh (aPw x hx w)
 have w1:IntKind.i64.wrap (64-(Lib.bitLen x:Int))=(k:Int):=(IntWalk.i64_in _ (by omega)).trans (by omega)
 clear hk hl
 generalize Lib.bitLen x=n at*
 go_enter Tryz.func194,Tryz.ntmps194
 go_wp2_with (go_at_call 116;refine HL.o.mono ?_;rintro e w1 ⟨rfl,rfl⟩)
 go_ret
 exact⟨rfl,rfl⟩
end Go.Proofs.Tg.Iw
end
namespace Go.Bn
abbrev B:Nat:=4294967296
def val:List Nat->Nat
  |[]=>0
  |x::xs=>x+B*val xs
def Dig (xs:List Nat):Prop:=∀x∈xs,x<B
def zG (xs:List Nat):Prop:=∀h:xs≠[],xs.getLast h≠0
theorem lG (xs ys:List Nat):val (xs++ys)=val xs+B^xs.length*val ys:=by
 induction xs with
 |nil=>simp[val]
 |cons x xs ih=>
  simp only[jH,val,ih,bP,bS];rw[aZ,aT (B^xs.length) B,aV];omega
theorem kR {xs:List Nat}(h:Dig xs):val xs<B^xs.length:=by
 induction xs with
 |nil=>simp[val]
 |cons x xs ih=>
  have h1:=h x (by simp);have h2:=ih (λy hy=>h y (by simp[hy]));simp only[val,bP,bS];have:B*(val xs+1)<=B*B^xs.length:=bJ _ h2;rw[aT (B^xs.length) B];rw[aZ]at this;omega
theorem uL (n:Nat):val (List.replicate n 0)=0:=by
 induction n with
 |zero=>rfl
 |succ n ih=>rw[dO];simp[val,ih]
def dg (n:Nat):List Nat:=if _h:n=0 then[]else n%B::dg (n/B)
termination_by n
decreasing_by exact iK (by omega) (by decide)
theorem jS:dg 0=[]:=by unfold dg;rfl
theorem oF {n:Nat}(h:n≠0):dg n=n%B::dg (n/B):=by rw[dg];simp[h]
theorem lD {n:Nat}(h:n≠0)(hb:n<B):dg n=[n]:=by
 rw[oF h,cU hb,cT hb,jS]
theorem kE (n:Nat):val (dg n)=n:=by
 induction n using Nat.strongRecOn with
 |_ n ih=>
  by_cases h:n=0
  ·subst h;rw[jS];rfl
  rw[oF h];simp only[val];rw[ih _ (iK (by omega) (by decide))];have:=gE n B;omega
theorem kH (n:Nat):Dig (dg n):=by
 induction n using Nat.strongRecOn with
 |_ n ih=>
  by_cases h:n=0
  ·subst h;rw[jS];intro x hx;cases hx
  rw[oF h];intro x hx
  rcases bA.1 hx with rfl|hx
  ·exact bL _ (by decide)
  exact ih _ (iK (by omega) (by decide)) x hx
theorem sD {x:Nat}{xs:List Nat}(h:zG (x::xs)):zG xs:=by
 intro hne
 have:=h (by simp)
 rwa [List.getLast_cons hne]at this
theorem aAu {xs:List Nat}(h:zG xs)(hv:val xs=0):xs=[]:=by
 induction xs with
 |nil=>rfl
 |cons x xs ih=>
  simp only[val]at hv
  have h1:x=0:=by omega
  have h2:val xs=0:=by
   have:B*val xs=0:=by omega
   rcases Nat.mul_eq_zero.1 this with h|h
   ·exact absurd h (by decide)
   exact h
  have h3:=ih (sD h) h2;subst h3 h1;exact absurd rfl (h (by simp))
theorem aEE {xs:List Nat}(hd:Dig xs)(hn:zG xs):dg (val xs)=xs:=by
 induction xs with
 |nil=>exact jS
 |cons x xs ih=>
  have hx:=hd x (by simp);have ih:=ih (λy hy=>hd y (by simp[hy])) (sD hn)
  have hv:val (x::xs)≠0:=λe=>by have:=aAu hn e;cases this
  rw[oF hv];simp only[val]at hv ⊢;rw[gI,cU hx,gH _ _ (by decide),cT hx,bN,ih]
theorem qF (xs:List Nat):val (xs++[0])=val xs:=by rw[lG];simp[val]
theorem mC {n k:Nat}(h:n<B^k):(dg n).length<=k:=by
 induction k generalizing n with
 |zero=>have:n=0:=by simpa using h
        subst this;rw[jS];simp
 |succ k ih=>
  by_cases h0:n=0
  ·subst h0;rw[jS];simp
  rw[oF h0,bP]
  have:n/B<B^k:=by
   rw[bS]at h;exact dV (by rw[aT];exact h)
  have:=ih this;omega
structure nX (u v top u2 v1 v2 P:Nat):Prop where
  u_hi:(top*B+u2)*P<=u
  u_lo:u<(top*B+u2+1)*P
  v_hi:(v1*B+v2)*P<=v
  v_lo:v<(v1*B+v2+1)*P
  u2lt:u2<B
  v2lt:v2<B
  big:B<=2*v1
  v1lt:v1<B
theorem nX.two {u v top u2 v1 v2 P q:Nat}(h:nX u v top u2 v1 v2 P)(hq:q*v<=u):q*(v1*B+v2)<=top*B+u2:=by
 have h1:q*((v1*B+v2)*P)<=q*v:=bJ _ h.v_hi
 have h2:q*(v1*B+v2)*P<(top*B+u2+1)*P:=by
  rw[aV];exact bB (aR h1 hq) h.u_lo
 have:=eP h2
 omega
theorem nX.first {u v top u2 v1 v2 P q:Nat}(h:nX u v top u2 v1 v2 P)(hq:q*v<=u):q<=top/v1:=by
 have h1:=h.two hq
 have hu:=h.u2lt
 have hb:=h.big
 rw[aZ,<-aV]at h1
 have h2:q*v1*B<(top+1)*B:=by rw[cQ];omega
 have h3:=eP h2
 rw[Nat.le_div_iff_mul_le (by simp only[B]at hb;omega)]
 omega
theorem nX.down {u v top u2 v1 v2 P q e r:Nat}(h:nX u v top u2 v1 v2 P)(hq:q*v<=u)(he:e*v1+r=top)(ht:r*B+u2<e*v2)(hqe:q<=e):q<=e-1:=by
 rcases eN q e with h1|h1
 ·omega
 have:q=e:=by omega
 subst this;have h2:=h.two hq;rw[aZ,<-aV,<-he,cQ]at h2;omega
theorem nX.small {u v top u2 v1 v2 P:Nat}(h:nX u v top u2 v1 v2 P)(hlt:u<v*B):top/v1<=B+1:=by
 have hb:=h.big
 have hv2:=h.v2lt
 have h1:(top*B+u2)*P<(v1*B+v2+1)*P*B:=bB h.u_hi (aH hlt (aY _ (eM h.v_lo)))
 have h2:(top*B+u2)*P<((v1*B+v2+1)*B)*P:=by rw[Nat.mul_right_comm];exact h1
 have h3:=eP h2
 have h4:(v1*B+v2+1)*B<=(v1*B+B)*B:=aY _ (by omega)
 have h5:top*B<(v1*B+B)*B:=bB (iV _ u2) (aH h3 h4)
 have h6:top<v1*B+B:=eP h5
 have h7:top<(B+2)*v1:=by
  simp only[B]at h6 hb ⊢;omega
 have:=(eC (by simp only[B]at hb;omega)).2 h7
 omega
structure Est (top v1 q e r:Nat):Prop where
  eq:e*v1+r=top
  ge:q<=e
  le:e<=B+1
theorem Est.start {u v top u2 v1 v2 P q:Nat}(h:nX u v top u2 v1 v2 P)(hq:q*v<=u)(hlt:u<v*B):Est top v1 q (top/v1) (top%v1):=
  ⟨by rw[aT];exact dD _ _,h.first hq,h.small hlt⟩
theorem Est.round {u v top u2 v1 v2 P q e r:Nat}(h:nX u v top u2 v1 v2 P)(hq:q*v<=u)(hqB:q<B)(s:Est top v1 q e r)(ht:B<=e∨r*B+u2<e*v2):Est top v1 q (e-1) (r+v1)/\e-1<=B/\0<e:=by
 have hpos:0<e:=by
  rcases ht with ht|ht
  ·exact aH (by decide) ht
  rcases cC e with rfl|h0
  ·rw[Nat.zero_mul]at ht;exact absurd ht (Nat.not_lt_zero _)
  exact h0
 have hle:=s.le
 refine⟨⟨?_,?_,by omega⟩,by omega,hpos⟩
 ·have he:=s.eq
  obtain⟨d,rfl⟩:∃d,e=d+1:=⟨e-1,by omega⟩;rw[iW];rw[cQ,fJ]at he;omega
 rcases ht with ht|ht
 ·omega
 exact h.down hq s.eq ht s.ge
end Go.Bn
