/- Parts of the proof. -/
import Derived.Laws.AppendOwnNone
import Derived.Test.YtabdoikbodjidaaGreatDoorMBO20
set_option maxHeartbeats 64000000
set_option maxRecDepth 100000
namespace Go.Proofs.Tg.Iw
open Go.RowKit Go.Bw Go.Gr Go.Proofs.Tg
theorem xV (b:Bool)(v:Nat):(b&&decide (0<(dg v).length))=(b&&decide (v≠0)):=by
 by_cases h:v=0
 ·subst h;rw[jS];simp
 have:=kB.2 h
 simp[h,this]
def wJ (p q:Bool)(a b:Nat)(w:World)(e:Ending)(w':World):Prop:=
  ∃Q cq R cr,e=.returned (.tuple #[.agg #[.bool ((p !=q)&&decide (a/b≠0)),.slice Q (dg (a/b)).length cq],.agg #[.bool (p&&decide (a%b≠0)),.slice R (dg (a%b)).length cr]])/\NW w' Q cq (a/b)/\NW w' R cr (a%b)/\Below w.heap.size w w'
theorem sT (p q:Bool)(A B:Option Addr)(c d a b:Nat)(w:World)(hA:NW w A c a)(hB:NW w B d b)(ha:(dg a).length<=400000)(hbl:(dg b).length<=400000)(hb:b≠0)(hs:(dg b).length<80∨(dg a).length<(dg b).length+80):
    Calls Tryz.prog 147 #[.agg #[.bool p,.slice A (dg a).length c],.agg #[.bool q,.slice B (dg b).length d]] w (wJ p q a b w):=by
  obtain⟨na,hna⟩:=eqx ((dg a).length);obtain⟨nb,hnb⟩:=eqx ((dg b).length)
  have HD:Hid (∀W,Below w.heap.size w W->Calls Tryz.prog 174 #[.slice A na c,.slice B nb d] W (oN a b W)):=zh (λW h=>by
   rw[<-hna,<-hnb];exact aDv A B c d a b W (hA.keep h) (hB.keep h) ha hbl hb hs)
  have bz:((nb:Int)==0)=false:=by rw[<-hnb];exact aG.2 (by have:=(kB (u:=b)).2 hb;omega)
  have bz':(nb==0)=false:=by rw[<-hnb];exact aG.2 (by have:=(kB (u:=b)).2 hb;omega)
  rw[hna,hnb];unfold oN at HD;unfold wJ
  have hqs:=λbb=>xV bb (a/b)
  have hrs:=xV p (a%b);obtain⟨s1,hs1⟩:=eqx (((p !=q)&&decide (a/b≠0)));rw[hs1];rw[<-hqs]at hs1;have l1:(dg (a/b)).length<=400000:=aR (Go.Bw.jT (cF _ _)) ha;have l2:(dg (a%b)).length<=400000:=aR (Go.Bw.jT (Nat.mod_le _ _)) ha;rw[<-hrs];clear hrs;generalize a/b=qq at*;generalize a%b=rr at*;have HM1:Hid (∀W Q cq,Calls Tryz.prog 141 #[.bool (p !=q),.slice Q (dg qq).length cq] W λe w'=>e=.returned (.agg #[.bool s1,.slice Q (dg qq).length cq])/\Below W.heap.size W w'):=zh (λW Q cq=>qQ (p !=q) Q (dg qq).length cq W s1 hs1);obtain⟨s2,hs2⟩:=eqx ((p&&decide (0<(dg rr).length)));rw[hs2]
  have HM2:Hid (∀W R cr,Calls Tryz.prog 141 #[.bool p,.slice R (dg rr).length cr] W λe w'=>e=.returned (.agg #[.bool s2,.slice R (dg rr).length cr])/\Below W.heap.size W w'):=zh (λW Q cq=>qQ p Q (dg rr).length cq W s2 hs2);obtain⟨n1,hn1⟩:=eqx ((dg qq).length);obtain⟨n2,hn2⟩:=eqx ((dg rr).length);rw[hn1,hn2]at HD;rw[hn1]at HM1;rw[hn2]at HM2;rw[hn1,hn2];clear hqs hs1 hs2 hna hnb hbl hn1 hn2 hA hB hs l1 l2 ha hb;obtain⟨W,hW⟩:=eqx ((((w.alloc (.cells #[.bool p,.slice A na c] 118)).alloc (.cells #[.bool q,.slice B nb d] 118)).alloc (.cells #[.bool false,.slice none 0 0] 118)).alloc (.cells #[.bool false,.slice none 0 0] 118))
  have B0:Blk W w.heap.size 118 #[.bool p,.slice A na c]:=by rw[<-hW];exact(((Blk.new _ _ _).alloc _).alloc _).alloc _
  have B1:Blk W (w.heap.size+1) 118 #[.bool q,.slice B nb d]:=by
   rw[<-hW];have:=((Blk.new (w.alloc (.cells #[.bool p,.slice A na c] 118)) 118 #[.bool q,.slice B nb d]).alloc (.cells #[.bool false,.slice none 0 0] 118)).alloc (.cells #[.bool false,.slice none 0 0] 118);simpa using this
  have B2:Blk W (w.heap.size+1+1) 118 #[.bool false,.slice none 0 0]:=by
   rw[<-hW];have:=(Blk.new ((w.alloc (.cells #[.bool p,.slice A na c] 118)).alloc (.cells #[.bool q,.slice B nb d] 118)) 118 #[.bool false,.slice none 0 0]).alloc (.cells #[.bool false,.slice none 0 0] 118);simpa using this
  have B3:Blk W (w.heap.size+1+1+1) 118 #[.bool false,.slice none 0 0]:=by
   rw[<-hW];have:=(Blk.new (((w.alloc (.cells #[.bool p,.slice A na c] 118)).alloc (.cells #[.bool q,.slice B nb d] 118)).alloc (.cells #[.bool false,.slice none 0 0] 118)) 118 #[.bool false,.slice none 0 0]);simpa using this
  have hbW:Below w.heap.size w W:=by rw[<-hW];exact(((bal).alloc (by simp) _).alloc (by simp;omega) _).alloc (by simp;omega) _
  have hWs:W.heap.size=w.heap.size+4:=by rw[<-hW];simp
  obtain⟨a0,a1,_,_⟩:=B0.two;obtain⟨b0,b1,_,_⟩:=B1.two;go_enter Tryz.func147,Tryz.ntmps147;go_upto_region 1 with(fail);clear hW
  go_upto_region 4 with(go_at_call 174;refine(HD.o _ hbW).mono ?_;rintro e w2 ⟨Q,cq,R,cr,rfl,hQ,hR,hb2⟩)
  have C0:=B0.keep hb2 B0.lt;have C1:=B1.keep hb2 B1.lt;have C2:=B2.keep hb2 B2.lt;have C3:=B3.keep hb2 B3.lt;have hbe:Below w2.heap.size w2 w2.drew:=brf.drew;have HM1':Hid (∀V,Below w2.heap.size w2 V->Calls Tryz.prog 141 #[.bool (!(p==q)),.slice Q n1 cq] V λe w'=>e=.returned (.agg #[.bool s1,.slice Q n1 cq])/\Below w2.heap.size w2 w'):=zh (λV h=>(HM1.o V Q cq).mono λe w' ⟨x,y⟩=>⟨x,dW h y⟩);have HM2':Hid (∀V,Below w2.heap.size w2 V->Calls Tryz.prog 141 #[.bool p,.slice R n2 cr] V λe w'=>e=.returned (.agg #[.bool s2,.slice R n2 cr])/\Below w2.heap.size w2 w'):=zh (λV h=>(HM2.o V R cr).mono λe w' ⟨x,y⟩=>⟨x,dW h y⟩);have hbw2:=dW hbW hb2;have HC2:=zh C2;have HC3:=zh C3;obtain⟨e0,e1,_,_⟩:=C0.two;obtain⟨g0,g1,_,_⟩:=C1.two;obtain⟨i0,i1,i2,i3⟩:=C2.two
  obtain⟨k0,k1,k2,k3⟩:=C3.two;clear HM1 HM2 HD B0 B1 B2 B3 a0 a1 b0 b1 hb2 C2 C3;have HC0:=zh C0;have HC1:=zh C1;clear C0 C1
  go_region_with
    (first
      |(go_at_call 141;with_reducible refine(HM1'.o _ (by assumption)).mono ?_;rintro e w' ⟨rfl,hbe⟩;have D0:=HC0.o.keep hbe HC0.o.lt;have D1:=HC1.o.keep hbe HC1.o.lt;obtain⟨e0,e1,_,_⟩:=D0.two;obtain⟨g0,g1,_,_⟩:=D1.two;have D2:=HC2.o.keep hbe HC2.o.lt;have D3:=HC3.o.keep hbe HC3.o.lt;obtain⟨i0,i1,i2,i3⟩:=D2.two;obtain⟨k0,k1,k2,k3⟩:=D3.two)
      |(go_at_call 141;with_reducible refine(HM2'.o _ (by assumption)).mono ?_;rintro e w' ⟨rfl,hbe⟩;have D0:=HC0.o.keep hbe HC0.o.lt;have D1:=HC1.o.keep hbe HC1.o.lt;obtain⟨e0,e1,_,_⟩:=D0.two;obtain⟨g0,g1,_,_⟩:=D1.two;have D2:=HC2.o.keep hbe HC2.o.lt;have D3:=HC3.o.keep hbe HC3.o.lt;obtain⟨i0,i1,i2,i3⟩:=D2.two;obtain⟨k0,k1,k2,k3⟩:=D3.two))
  all_goals
    go_wp2;have hQ':NW w' Q cq qq:=hQ.keep hbe;have hR':NW w' R cr rr:=hR.keep hbe;refine aO (v:=.tuple #[.agg #[.bool s1,.slice Q n1 cq],.agg #[.bool s2,.slice R n2 cr]]) (by simp[results,Tryz.results147,go_sem,i0,i1,k0,k1]) rfl ⟨Q,cq,R,cr,rfl,?_,?_,?_⟩
    ·exact(((hQ'.far (hQ'.off D2) _ _).far (hQ'.off D2) _ _).far (hQ'.off D3) _ _).far (hQ'.off D3) _ _
    ·exact(((hR'.far (hR'.off D2) _ _).far (hR'.off D2) _ _).far (hR'.off D3) _ _).far (hR'.off D3) _ _
    exact hJ (hJ (hJ (hJ (dW hbw2 hbe) (by omega) _ _) (by omega) _ _) (by omega) _ _) (by omega) _ _
end Go.Proofs.Tg.Iw
namespace Go.Proofs.Tg
open Go.RowKit Go.Gr Go.Bn
theorem wI (xs:List Nat):∀k,k<=xs.length->val (xs.take (tzl xs k))=val (xs.take k)/\zG (xs.take (tzl xs k))
  |0,_=>⟨rfl,λh=>absurd rfl h⟩
  |k+1,hk=>by
   have hx:xs.getD k 0=xs[k]:=by simp[show k<xs.length by omega]
   have ht:xs.take (k+1)=xs.take k++[xs[k]]:=aD hk;unfold tzl
   by_cases h0:xs.getD k 0=0
   ·rw[aQ h0];obtain⟨h1,h2⟩:=wI xs k (by omega);refine⟨?_,h2⟩;rw[h1,ht,<-hx,h0,qF]
   rw[aJ h0];refine⟨rfl,λhne=>?_⟩
   have:∀(l:List Nat) (hl:l≠[]),l=xs.take k++[xs[k]]->l.getLast hl≠0:=λl hl e=>by
    subst e;rw[List.getLast_append_of_ne_nil hl (by simp),List.getLast_singleton,<-hx];exact h0
   exact this _ hne ht
theorem aAv {xs:List Nat}(h:Dig xs)(k:Nat):Dig (xs.take k):=λx hx=>h x (eS hx)
theorem xU {xs:List Nat}(h:Dig xs):xs.take (tzl xs xs.length)=dg (val xs)/\tzl xs xs.length=(dg (val xs)).length:=by
 obtain⟨h1,h2⟩:=wI xs xs.length (aA _)
 rw[eE]at h1
 have e:=aEE (aAv h (tzl xs xs.length)) h2
 rw[h1]at e
 refine⟨e.symm,?_⟩
 rw[e,aS]
 have:=tE xs xs.length
 omega
theorem qG {xs:List Nat}(h:Dig xs):(dg (val xs)).length<=xs.length:=by
 rw[<-(xU h).2]
 exact tE _ _
theorem uM (A:Option Addr)(c:Nat)(xs:List Nat)(w:World)(hA:kN w A xs)(hd:Dig xs)(hn:xs.length<=1000000)(hc:xs.length<=c):
    Calls Tryz.prog 130 #[.slice A xs.length c] w λe w'=>e=.returned (.slice A (dg (val xs)).length c)/\w=w'/\kN w' A (dg (val xs)):=by
  have h:=aDR A c xs w hA hn hc;obtain⟨h1,h2⟩:=xU hd;refine h.mono ?_;rintro e w' ⟨rfl,rfl⟩;refine⟨by rw[h2],rfl,?_⟩;rw[<-h1];exact hA.take _ (tE _ _)
structure ND (w:World)(R:Option Addr)(c n:Nat):Prop where
  digs:kN w R (dg n)
  cap:(dg n).length<=c
  nilc:R=none->c=0
theorem ND.keep {w w':World}{R:Option Addr}{c n:Nat}(h:ND w R c n)(hb:Below w.heap.size w w'):ND w' R c n:=⟨h.digs.keep hb,h.cap,h.nilc⟩
theorem ND.zero (w:World):ND w none 0 0:=⟨by rw[jS];exact kN.nil _ _,by rw[jS];exact aA _,λ_=>rfl⟩
theorem ND.some {w:World}{a:Addr}{c n:Nat}(h:kN w (some a) (dg n))(hc:(dg n).length<=c):ND w (some a) c n:=⟨h,hc,λe=>by cases e⟩
def yS (n:Nat)(w:World)(e:Ending)(w':World):Prop:=∃R cr,e=.returned (.slice R (dg n).length cr)/\ND w' R cr n/\Below w.heap.size w w'
def tM (l:List Nat):Array Value:=(l.map vd).toArray
theorem uN (n:Nat):madeCells #[.int .u32 0] n=tM (List.replicate n 0):=by
 apply Array.ext
 ·simp[tM,gF]
 intro i h1 h2
 simp[madeCells,tM,vd,Nat.mod_one]
theorem sE (l:List Nat)(k s:Nat):(tM l).setIfInBounds k (.int .u32 (s:Nat))=tM (l.set k s):=by
 unfold tM
 simp[List.map_set,vd]
theorem sS (l:List Nat){k:Nat}(hk:k<l.length):(tM l)[k]?=some (.int .u32 (l[k]:Nat)):=by simp[tM,hk,vd]
end Go.Proofs.Tg
section
namespace Go.Bn
theorem sF (xs:List Nat)(i:Nat)(h:i<=xs.length):val xs=val (xs.take i)+B^i*val (xs.drop i):=by
 have:=lG (xs.take i) (xs.drop i)
 rw[cY,aS,dA h]at this
 exact this
theorem pF {xs:List Nat}{i:Nat}(h:i<xs.length):val (xs.drop i)=xs[i]+B*val (xs.drop (i+1)):=by
 rw[bG h];rfl
theorem tO {xs ys:List Nat}{i:Nat}(hx:i<xs.length)(hy:i<ys.length)(hd:xs.drop (i+1)=ys.drop (i+1))(hX:Dig xs)(hlt:xs[i]<ys[i]):val xs<val ys:=by
 rw[sF xs i (by omega),sF ys i (by omega),pF hx,pF hy,hd]
 have h1:val (xs.take i)<B^i:=by
  have:=kR (xs:=xs.take i) (λx h=>hX x (eS h))
  rwa [aS,dA (by omega)]at this
 have h2:B^i*(xs[i]+B*val (ys.drop (i+1)))+B^i<=B^i*(ys[i]+B*val (ys.drop (i+1))):=by
  have:xs[i]+B*val (ys.drop (i+1))+1<=ys[i]+B*val (ys.drop (i+1)):=by omega
  have:=bJ (B^i) this
  rwa [aZ,dI]at this
 omega
theorem nD {a b:Nat}(h:(dg a).length<(dg b).length):a<b:=by
 rcases eN a b with h1|h1
 ·exact h1
 have h2:=kR (kH b)
 rw[kE]at h2;have h3:=kR (kH a);rw[kE]at h3
 have h4:B^(dg a).length<=b:=by
  have hb:b≠0:=λe=>by subst e;rw[jS]at h;simp at h
  have h5:(dg b).length-1<(dg b).length:=by omega
  have h6:B^((dg b).length-1)<=b:=by
   rcases eN b (B^((dg b).length-1))with h7|h7
   ·have:=mC h7;omega
   exact h7
  exact aR (aP (by decide) (by omega)) h6
 omega
end Go.Bn
namespace Go.Proofs.Tg
open Go.RowKit Go.Gr Go.Bn
theorem aDg (X Y:Option Addr)(cx cy m n:Nat)(w:World)(r:Int)(h:(m<n/\r=-1)∨(n<m/\r=1)):
    Calls Tryz.prog 135 #[.slice X m cx,.slice Y n cy] w λe w'=>e=.returned (.int .i64 r)/\w=w':=by
  rcases h with⟨h,rfl⟩|⟨h,rfl⟩
  ·have h1:((m:Int)!=(n:Int))=true:=by simp;omega
   have h2:decide ((m:Int)<(n:Int))=true:=dT (by omega)
   have h1':(m !=n)=true:=by simp;omega
   have h2':decide (m<n)=true:=dT h;clear h;go_enter Tryz.func135,Tryz.ntmps135;go_wp2;go_ret;exact⟨rfl,rfl⟩
  have h1:((m:Int)!=(n:Int))=true:=by simp;omega
  have h2:decide ((m:Int)<(n:Int))=false:=dF (by omega)
  have h1':(m !=n)=true:=by simp;omega
  have h2':decide (m<n)=false:=dF (by omega);clear h;go_enter Tryz.func135,Tryz.ntmps135;go_wp2;go_ret;exact⟨rfl,rfl⟩
theorem aHf (X Y:Option Addr)(cx cy:Nat)(xs ys:List Nat)(w:World)(hX:kN w X xs)(hY:kN w Y ys)(hx:Dig xs)(hy:Dig ys)(hl:ys.length=xs.length)(hn:xs.length<=1000000):
    Calls Tryz.prog 135 #[.slice X xs.length cx,.slice Y ys.length cy] w λe w'=>e=.returned (.int .i64 (if val xs<val ys then -1 else if val xs=val ys then 0 else 1))/\Dr w w':=by
  rw[hl];have HX:=zh hX;have HY:=zh hY;have HDX:=zh hx;have HDY:=zh hy;have HL:=zh hl;obtain⟨r,hr⟩:=eqx ((if val xs<val ys then -1 else if val xs=val ys then 0 else 1):Int);rw[hr];have HR:=zh hr;clear hX hY hx hy hl hr;go_enter Tryz.func135,Tryz.ntmps135;go_wp2
  go_loopw [5] (λs5 wr=>∃k:Nat,s5=.int .i64 ((k:Int)-1)/\k<=xs.length/\Hid (xs.drop k=ys.drop k)/\Dr w wr) (λs5 _=>(intOf s5+1).toNat)
  case atStart=>exact⟨xs.length,rfl,aA _,zh (by rw[iN,<-HL.o,iN]),Dr.refl _⟩
  case round=>
   obtain⟨wo,rfl⟩:∃wo:World,wo=wr:=⟨_,rfl⟩;obtain⟨k,rfl,hk,HD,hdr⟩:=hrel
   cases k with
   |zero=>
    have hv:xs=ys:=by simpa using HD.o
    obtain rfl:r=0:=by rw[<-HR.o,hv];simp
    have dd:decide ((0:Int)<=((0:Nat):Int)-1)=false:=by decide
    clear hv;go_wp2;go_ret;exact⟨rfl,hdr⟩
   |succ j=>
    have hj:j<xs.length:=by omega
    have hj2:j<ys.length:=by have:=HL.o;omega
    have e:(((j+1:Nat):Int)-1)=(j:Int):=by omega
    rw[e];clear e;obtain⟨ad,rfl,hcx⟩:=kN.at (HX.o.keep hdr.below) hj;obtain⟨bd,rfl,hcy⟩:=kN.at (HY.o.keep hdr.below) hj2;have HLT:Hid (xs[j]<ys[j]->val xs<val ys):=zh (λh=>tO hj hj2 HD.o HDX.o h);have HGT:Hid (ys[j]<xs[j]->val ys<val xs):=zh (λh=>tO hj2 hj HD.o.symm HDY.o h);have HEQ:Hid (xs[j]=ys[j]->xs.drop j=ys.drop j):=zh (λh=>by rw[bG hj,bG hj2,h,HD.o]);generalize xs[j]=x at*;generalize ys[j]=y at*
    have q0:(0:Int)<=(j:Int):=by omega
    have q1:(j:Int)<(xs.length:Int):=by omega
    have q3:((j:Int)).toNat=j:=by omega
    have d0:decide ((0:Int)<=(j:Int))=true:=dT q0
    by_cases hxy:x=y
    ·have HE2:=zh (HEQ.o hxy);clear HEQ HLT HGT;subst hxy
     have hne:((x:Int)!=(x:Int))=false:=by simp
     go_wp2
     go_quiet (fail)
     go_wp2;go_roundw
     case rel=>exact⟨j,by go_num,by omega,HE2,hdr.drewN _⟩
     case measure=>simp[intOf]
    have hne:((x:Int)!=(y:Int))=true:=by simp;omega
    by_cases hlt:x<y
    ·obtain rfl:r=-1:=by rw[<-HR.o,aQ (HLT.o hlt)]
     have d1:decide ((x:Int)<(y:Int))=true:=dT (by omega);have d1':decide (x<y)=true:=dT hlt;clear hxy hlt;go_wp2
     go_quiet (fail)
     generalize hW:wo.drewN _=W
     have hdW:Dr w W:=by rw[<-hW];exact hdr.drewN _
     have hcx':W.cell? (ad.add j)=some (.int .u32 (x:Nat)):=by rw[<-hW];exact hcx
     have hcy':W.cell? (bd.add j)=some (.int .u32 (y:Nat)):=by rw[<-hW];exact hcy
     clear hW hcx hcy;go_wp2
     go_quiet (fail)
     go_wp2;go_ret;exact⟨rfl,hdW.drewN _⟩
    obtain rfl:r=1:=by
     have:=HGT.o (by omega);rw[<-HR.o,aJ (by omega),aJ (by omega)]
    have d1:decide ((x:Int)<(y:Int))=false:=dF (by omega);have d1':decide (x<y)=false:=dF hlt;clear hxy hlt;go_wp2
    go_quiet (fail)
    generalize hW:wo.drewN _=W
    have hdW:Dr w W:=by rw[<-hW];exact hdr.drewN _
    have hcx':W.cell? (ad.add j)=some (.int .u32 (x:Nat)):=by rw[<-hW];exact hcx
    have hcy':W.cell? (bd.add j)=some (.int .u32 (y:Nat)):=by rw[<-hW];exact hcy
    clear hW hcx hcy;go_wp2
    go_quiet (fail)
    go_wp2;go_ret;exact⟨rfl,hdW.drewN _⟩
theorem aDh (X Y:Option Addr)(cx cy a b:Nat)(w:World)(hX:kN w X (dg a))(hY:kN w Y (dg b))(ha:(dg a).length<=1000000):
    Calls Tryz.prog 135 #[.slice X (dg a).length cx,.slice Y (dg b).length cy] w λe w'=>e=.returned (.int .i64 (if a<b then -1 else if a=b then 0 else 1))/\Dr w w':=by
  by_cases hl:(dg b).length=(dg a).length
  ·have:=aHf X Y cx cy (dg a) (dg b) w hX hY (kH a) (kH b) hl ha
   rwa [kE,kE]at this
  rcases eN (dg a).length (dg b).length with h|h
  ·have hab:=nD h;refine(aDg X Y cx cy _ _ w (-1) (.inl ⟨h,rfl⟩)).mono ?_;rintro e w' ⟨rfl,rfl⟩;exact⟨by rw[aQ hab],Dr.refl _⟩
  have hab:=nD (a:=b) (b:=a) (by omega);refine(aDg X Y cx cy _ _ w 1 (.inr ⟨by omega,rfl⟩)).mono ?_;rintro e w' ⟨rfl,rfl⟩;exact⟨by rw[aJ (by omega),aJ (by omega)],Dr.refl _⟩
end Go.Proofs.Tg
end
namespace Go.Proofs.Tg
open Go.RowKit Go.Gr Go.Bn
structure aAw (us vs:List Nat)(g:Nat)(w0 wr:World)(k cr:Nat)(zs:List Nat):Prop where
  len:zs.length=k
  dig:Dig zs
  le1:cr<=1
  sum:val zs+B^k*cr=val (us.take k)+val (vs.take k)
  blk:Blk wr g 168 (tM (zs++List.replicate (us.length+1-k) 0))
  below:Below w0.heap.size w0 wr
theorem nN {xs:List Nat}{k:Nat}(h:k<xs.length):val (xs.take (k+1))=val (xs.take k)+B^k*xs[k]:=by
 rw[aD h,lG,aS,dA (by omega)]
 simp[val]
theorem nR {xs:List Nat}{k:Nat}(h:xs.length<=k):val (xs.take k)=val xs:=by rw[bF h]
theorem aOc {zs:List Nat}{k n:Nat}(h:zs.length=k)(hk:k<n)(s:Nat):(zs++List.replicate (n-k) 0).set k s=(zs++[s])++List.replicate (n-(k+1)) 0:=by
 rw[cX _ _ (by omega),h,cP,show n-k=(n-(k+1))+1 by omega,dO,dL];simp
theorem aJj {zs:List Nat}{k s:Nat}(h:zs.length=k):val (zs++[s%B])+B^(k+1)*(s/B)=val zs+B^k*s:=by
 rw[lG,h]
 simp only[val,dN,bW]
 rw[bS,aV,fQ,<-aZ,gE]
theorem aAw.step {us vs:List Nat}{g:Nat}{w0 wo:World}{k cr:Nat}{zs:List Nat}(h:aAw us vs g w0 wo k cr zs)(hk:k<us.length)(hg:w0.heap.size<=g){x y:Nat}(hx:x<B)(hy:y<B)
    (h1:val (us.take (k+1))=val (us.take k)+B^k*x) (h2:val (vs.take (k+1))=val (vs.take k)+B^k*y):
    aAw us vs g w0 (wo.setCell ⟨g,k,none⟩ (.int .u32 (((cr+x+y)%B:Nat):Int))) (k+1) ((cr+x+y)/B) (zs++[(cr+x+y)%B]):=by
  have hc:=h.le1;refine⟨by rw[aC,h.len];rfl,λz hz=>?_,?_,?_,?_,hJ h.below hg _ _⟩
  ·rcases aK.1 hz with hz|hz
   ·exact h.dig z hz
   rw[aN.1 hz];exact bL _ (by decide)
  ·simp only[B]at*;omega
  ·rw[aJj h.len,h1,h2,fQ cr x y,aZ,aZ,<-fQ,h.sum];omega
  have:=h.blk.set k (.int .u32 (((cr+x+y)%B:Nat):Int))
  rwa [sE,aOc h.len (by omega)]at this
theorem aMg (X Y:Option Addr)(cx cy:Nat)(us vs:List Nat)(w:World)(hX:kN w X us)(hY:kN w Y vs)(hu:Dig us)(hv:Dig vs)(hl:vs.length<=us.length)(hn:us.length<=400000):
    Calls Tryz.prog 128 #[.slice X us.length cx,.slice Y vs.length cy] w (yS (val us+val vs) w):=by
  have hd:decide ((us.length:Int)<(vs.length:Int))=false:=dF (by omega);have hd':decide (us.length<vs.length)=false:=dF (by omega);have HU:=zh hu;have HV:=zh hv;have HX:=zh hX;have HY:=zh hY
  have hmk:=λW=>sK (us.length+1) (by omega) W
  have hc1:((us.length+1:Nat):Int)=(us.length:Int)+1:=by omega
  rw[hc1]at hmk;clear hc1;clear hu hv hX hY;go_enter Tryz.func128,Tryz.ntmps128;go_upto_region 4 with(fail);obtain⟨W,hW⟩:=eqx (w.alloc (.cells (madeCells #[.int .u32 0] (us.length+1)) 168))
  have G5:Blk W w.heap.size 168 (tM ([]++List.replicate (us.length+1-0) 0)):=by
   rw[<-hW,dB,gQ,<-uN];exact Blk.new _ _ _
  have hbW:Below w.heap.size w W:=by rw[<-hW];exact bal
  rw[hW];clear hW hmk;go_wp2
  go_loopw [6,7] (λs6 s7 wr=>∃(k cr:Nat) (zs:List Nat),s6=.int .u64 cr/\s7=.int .i64 k/\k<=us.length/\Hid (aAw us vs w.heap.size w wr k cr zs)) (λ_ s7 _=>us.length-(intOf s7).toNat)
  case atStart=>exact⟨0,0,[],rfl,rfl,aW _,zh (aAw.mk rfl (λx hx=>absurd hx (by simp)) (by omega) (by simp[val]) G5 hbW)⟩
  case round=>
   clear G5 hbW;obtain⟨wo,rfl⟩:∃wo:World,wo=wr:=⟨_,rfl⟩;obtain⟨k,cr,zs,rfl,rfl,hk,HST⟩:=hrel;have hcr:=HST.o.le1
   by_cases hku:k<us.length
   ·obtain⟨ad,rfl,hcx⟩:=kN.at (HX.o.keep HST.o.below) hku;have hxB:us[k]<4294967296:=HU.o us[k] (aB _);have HTX:=zh (nN hku);generalize us[k]=x at*
    have q0:(0:Int)<=(k:Int):=by omega
    have q1:(k:Int)<(us.length:Int):=by omega
    have q1':(k:Int)<(us.length:Int)+1:=by omega
    have q3:((k:Int)).toNat=k:=by omega
    have w1:IntKind.u64.wrap ((cr:Int)+(x:Int))=((cr+x:Nat):Int):=by have:=mA (cr+x) (by omega);simpa using this
    have c0:=HST.o.blk.cell k;have f0:=HST.o.blk.frozen k
    have hzl:(zs++List.replicate (us.length+1-k) 0).length=us.length+1:=by rw[aC,bU,HST.o.len];omega
    rw[sS _ (by rw[hzl];omega)]at c0;generalize (zs++List.replicate (us.length+1-k) 0)[k]'(by rw[hzl];omega)=old at c0
    by_cases hkv:k<vs.length
    ·obtain⟨bd,rfl,hcy⟩:=kN.at (HY.o.keep HST.o.below) hkv;have hyB:vs[k]<4294967296:=HV.o vs[k] (aB _);have HTY:=zh (nN hkv);generalize vs[k]=y at*
     have q2:(k:Int)<(vs.length:Int):=by omega
     have d1:decide ((k:Int)<(vs.length:Int))=true:=dT q2;have d1':decide (k<vs.length)=true:=dT hkv
     have w2:IntKind.u64.wrap (((cr+x:Nat):Int)+(y:Int))=((cr+x+y:Nat):Int):=by have:=mA (cr+x+y) (by omega);simpa using this
     go_wp2;go_roundw
     case rel=>
      have hs:=HST.o.step hku (aA _) hxB hyB HTX.o HTY.o
      have e:(((cr+x+y)%B:Nat):Int)=((cr:Int)+(x:Int)+(y:Int))%4294967296:=by simp only[B];omega
      rw[e]at hs;exact⟨k+1,(cr+x+y)/B,_,by simp only[B];congr 1,by go_num,by omega,zh hs⟩
     case measure=>simp[intOf];omega
    have d1:decide ((k:Int)<(vs.length:Int))=false:=dF (by omega);have d1':decide (k<vs.length)=false:=dF hkv;have HTY:Hid (val (vs.take (k+1))=val (vs.take k)+B^k*0):=zh (by rw[nR (by omega),nR (by omega)];omega);go_wp2;go_roundw
    case rel=>
     have hs:=HST.o.step hku (aA _) hxB (y:=0) (by decide) HTX.o HTY.o
     have e:(((cr+x+0)%B:Nat):Int)=((cr:Int)+(x:Int))%4294967296:=by simp only[B];omega
     rw[e]at hs;exact⟨k+1,(cr+x+0)/B,_,by simp only[B];congr 1,by go_num,by omega,zh hs⟩
    case measure=>simp[intOf];omega
   obtain rfl:k=us.length:=by omega
   have dd:decide (us.length<us.length)=false:=by simp
   have hz1:us.length+1-us.length=1:=by omega
   have hb1:=HST.o.blk;rw[hz1]at hb1;have c0:=hb1.cell us.length;have f0:=hb1.frozen us.length
   have hzl:(zs++List.replicate 1 0).length=us.length+1:=by rw[aC,bU,HST.o.len]
   rw[sS _ (by rw[hzl];omega)]at c0;generalize (zs++List.replicate 1 0)[us.length]'(by rw[hzl];omega)=old at c0;have hsum:=HST.o.sum;rw[eE,nR hl]at hsum
   have q1':(us.length:Int)<(us.length:Int)+1:=by omega
   have hcm:(cr:Int)%4294967296=(cr:Int):=by omega
   have hB2:Blk (wo.setCell ⟨w.heap.size,us.length,none⟩ (.int .u32 (cr:Nat))) w.heap.size 168 (tM (zs++[cr])):=by
    have:=hb1.set us.length (.int .u32 (cr:Nat))
    rwa [sE,show zs++List.replicate 1 0=zs++[0]from rfl,cX _ _ (by rw[HST.o.len];exact aA _),HST.o.len,cP,dL]at this
   have hdig:Dig (zs++[cr]):=λz hz=>by
    rcases aK.1 hz with hz|hz
    ·exact HST.o.dig z hz
    rw[aN.1 hz];simp only[B];omega
   have hlen:(zs++[cr]).length=us.length+1:=by rw[aC,HST.o.len];rfl
   have HT:=zh (uM (some ⟨w.heap.size,0,none⟩) (us.length+1) (zs++[cr]) _ (tF hB2) hdig (by omega) (by omega));have HVL:Hid (val (zs++[cr])=val us+val vs):=zh (by rw[lG,HST.o.len];simp only[val,dN,bW];exact hsum);have hdl:=qG hdig;rw[hlen,HVL.o]at HT;rw[hlen,HVL.o]at hdl;clear hsum hzl hB2 hdig hlen hb1 hz1
   go_wp2_with (go_at_call 130;refine HT.o.mono ?_;rintro e w' ⟨rfl,rfl,hD⟩)
   go_ret;exact⟨_,_,rfl,ND.some hD hdl,hJ HST.o.below (aA _) _ _⟩
structure aDi (us:List Nat)(d g:Nat)(w0 wr:World)(k r:Nat)(zs:List Nat):Prop where
  len:zs.length=us.length-k
  dig:Dig zs
  lt:r<d
  sum:val zs*d+r=val (us.drop k)
  blk:Blk wr g 168 (tM (List.replicate k 0++zs))
  below:Below w0.heap.size w0 wr
theorem pF {xs:List Nat}{k:Nat}(h:k<xs.length):val (xs.drop k)=xs[k]+B*val (xs.drop (k+1)):=by
 rw[bG h];rfl
theorem aOf {zs:List Nat}(k s:Nat):(List.replicate (k+1) 0++zs).set k s=List.replicate k 0++s::zs:=by
 have:List.replicate (k+1) 0++zs=List.replicate k 0++0::zs:=by rw[fX];simp
 rw[this,cX _ _ (by simp),bU,cP,dL]
theorem aJm {v d r x:Nat}:((r*B+x)/d+B*v)*d+(r*B+x)%d=x+B*(v*d+r):=by
 have h:=dD (r*B+x) d
 rw[cQ,aZ,aV,aT B r]
 rw[aT d]at h
 omega
theorem aOg {r x:Nat}(hx:x<B):r*B|||x=r*B+x:=by
 have:=Nat.shiftLeft_add_eq_or_of_lt (i:=32) (b:=x) hx r
 rw[Nat.shiftLeft_eq]at this
 exact this.symm
theorem aFT {r d x:Nat}(hr:r<d)(hx:x<B):(r*B+x)/d<B:=by
 rw[eC (by omega)]
 have:(r+1)*B<=d*B:=aY _ hr
 rw[cQ]at this
 rw[aT B d]
 omega
theorem aDi.step {us:List Nat}{d g:Nat}{w0 wo:World}{k r:Nat}{zs:List Nat}(h:aDi us d g w0 wo (k+1) r zs)(hk:k<us.length)(hg:w0.heap.size<=g){x:Nat}(hx:x<B)
    (h1:val (us.drop k)=x+B*val (us.drop (k+1))):
    aDi us d g w0 (wo.setCell ⟨g,k,none⟩ (.int .u32 (((r*B+x)/d:Nat):Int))) k ((r*B+x)%d) ((r*B+x)/d::zs):=by
  have hl:=h.lt;refine⟨by rw[bP,h.len];omega,λz hz=>?_,bL _ (by omega),?_,?_,hJ h.below hg _ _⟩
  ·rcases bA.1 hz with rfl|hz
   ·exact aFT hl hx
   exact h.dig z hz
  ·rw[h1,<-h.sum];exact aJm
  have:=h.blk.set k (.int .u32 (((r*B+x)/d:Nat):Int))
  rwa [sE,aOf]at this
def aJn (n d:Nat)(w:World)(e:Ending)(w':World):Prop:=∃R cr,e=.returned (.tuple #[.slice R (dg (n/d)).length cr,.int .u32 ((n%d:Nat))])/\ND w' R cr (n/d)/\Below w.heap.size w w'
theorem aJo (X:Option Addr)(cx:Nat)(us:List Nat)(d:Nat)(w:World)(hX:kN w X us)(hu:Dig us)(hd:d<B)(hd0:0<d)(hn:us.length<=400000):
    Calls Tryz.prog 127 #[.slice X us.length cx,.int .u32 (d:Nat)] w (aJn (val us) d w):=by
  have HU:=zh hu;have HX:=zh hX;have hdB:d<4294967296:=hd
  have hmk:=λW=>sK us.length (by omega) W
  clear hu hX hd;go_enter Tryz.func127,Tryz.ntmps127;go_upto_region 2 with(fail);obtain⟨W,hW⟩:=eqx (w.alloc (.cells (madeCells #[.int .u32 0] us.length) 168))
  have G5:Blk W w.heap.size 168 (tM (List.replicate us.length 0++[])):=by
   rw[<-hW,eA,<-uN];exact Blk.new _ _ _
  have hbW:Below w.heap.size w W:=by rw[<-hW];exact bal
  rw[hW];clear hW hmk;go_wp2
  go_loopw [7,8] (λs7 s8 wr=>∃(k r:Nat) (zs:List Nat),s7=.int .u64 r/\s8=.int .i64 ((k:Int)-1)/\k<=us.length/\Hid (aDi us d w.heap.size w wr k r zs)) (λ_ s8 _=>(intOf s8+1).toNat)
  case atStart=>exact⟨us.length,0,[],rfl,rfl,aA _,zh (aDi.mk (by simp) (λx hx=>absurd hx (by simp)) hd0 (by simp[val]) G5 hbW)⟩
  case round=>
   clear G5 hbW;obtain⟨wo,rfl⟩:∃wo:World,wo=wr:=⟨_,rfl⟩;obtain⟨k,r,zs,rfl,rfl,hk,HST⟩:=hrel;have hrl:=HST.o.lt
   cases k with
   |succ k=>
    have hku:k<us.length:=hk;obtain⟨ad,rfl,hcx⟩:=kN.at (HX.o.keep HST.o.below) hku;have hxB:us[k]<4294967296:=HU.o us[k] (aB _);have HTX:=zh (pF hku);generalize us[k]=x at*
    have hkk:((k+1:Nat):Int)-1=(k:Int):=by omega
    rw[hkk]
    have q0:(0:Int)<=(k:Int):=by omega
    have q0':decide ((0:Int)<=(k:Int))=true:=dT q0
    have q1:(k:Int)<(us.length:Int):=by omega
    have q3:((k:Int)).toNat=k:=by omega
    have w1:IntKind.u64.wrap ((r:Int)*4294967296)=((r*B:Nat):Int):=by have:=mA (r*B) (by simp only[B];omega);simpa[B]using this
    have w2:=u64_or_nat (r*B) x (by simp only[B];omega) (by omega);rw[aOg hxB]at w2;have c0:=HST.o.blk.cell k;have f0:=HST.o.blk.frozen k
    have hzl:(List.replicate (k+1) 0++zs).length=us.length:=by rw[aC,bU,HST.o.len];omega
    rw[sS _ (by rw[hzl];omega)]at c0;generalize (List.replicate (k+1) 0++zs)[k]'(by rw[hzl];omega)=old at c0;go_wp2;go_roundw
    case rel=>
     have hs:=HST.o.step hku (aA _) hxB HTX.o;have hq:=aFT hrl hxB
     have w3:bits BinOp.or IntKind.u64 ((r:Int)*4294967296) (x:Int)=((r*B+x:Nat):Int):=by rw[<-w2];congr 1
     have w4:(((r*B+x:Nat):Int)).tmod (d:Int)=(((r*B+x)%d:Nat):Int):=rfl;have w5:(((r*B+x:Nat):Int)).tdiv (d:Int)=(((r*B+x)/d:Nat):Int):=rfl;rw[w3,w4,w5];generalize (r*B+x)/d=q at hs hq ⊢;generalize (r*B+x)%d=r' at hs ⊢;simp only[B]at hq;rw[mA q (by omega),Int.emod_eq_of_lt (by omega) (by omega)];exact⟨k,r',_,rfl,rfl,by omega,zh hs⟩
    case measure=>simp[intOf]
   |zero=>
    have hb1:=HST.o.blk;rw[fE,dB]at hb1;have hlen:=HST.o.len;rw[gQ]at hlen;have hsum:=HST.o.sum;rw[gS]at hsum;have hdig:=HST.o.dig
    have hvz:val zs=val us/d:=by
     rw[<-hsum,aT,eX hd0,cT hrl,bW]
    have hvr:r=val us%d:=by
     rw[<-hsum,aT,fG,cU hrl]
    have HT:=zh (uM (some ⟨w.heap.size,0,none⟩) us.length zs _ (tF hb1) hdig (by omega) (by omega));have hdl:=qG hdig;rw[hlen,hvz]at HT;rw[hlen,hvz]at hdl
    have hrB:(r:Int)%4294967296=(r:Int):=by omega
    have hz:((0:Nat):Int)-1=-1:=rfl;rw[hz];clear hsum hb1 hdig hlen hvz
    go_wp2_with (go_at_call 130;refine HT.o.mono ?_;rintro e w' ⟨rfl,rfl,hD⟩)
    go_ret2
    exact⟨_,_,rfl,ND.some hD hdl,HST.o.below⟩
theorem aJp (X:Option Addr)(cx a d:Nat)(w:World)(hX:kN w X (dg a))(hd:d<B)(hd0:0<d)(hn:(dg a).length<=400000):
    Calls Tryz.prog 127 #[.slice X (dg a).length cx,.int .u32 (d:Nat)] w (aJn a d w):=by
  have:=aJo X cx (dg a) d w hX (kH a) hd hd0 hn
  rwa [kE]at this
def wG (q r:Nat)(w:World)(e:Ending)(w':World):Prop:=
  ∃Q cq R cr,e=.returned (.tuple #[.slice Q (dg q).length cq,.slice R (dg r).length cr])/\ND w' Q cq q/\ND w' R cr r/\Below w.heap.size w w'
theorem aJc (X Y:Option Addr)(cx cy a b:Nat)(w:World)(hX:ND w X cx a)(hY:ND w Y cy b)(hab:a<b)(hn:(dg a).length<=400000):
    Calls Tryz.prog 164 #[.slice X (dg a).length cx,.slice Y (dg b).length cy] w (wG 0 a w):=by
  have HC:=zh (aDh X Y cx cy a b w hX.digs hY.digs (by omega));rw[aQ hab]at HC;have HX:=zh hX;obtain⟨i0,hi,hz0,hz1,hz2⟩:=info_parts aBd;obtain⟨l,hl⟩:=eqx ((dg a).length);have HF:Hid (∀(R:Option Addr) (c:Nat) (w2:World),kN w2 R (dg a)->l<=c->(R=none->c=0)->Below w.heap.size w w2->wG 0 a w (.returned (.tuple #[.slice none 0 0,.slice R l c])) w2):=zh (λR c w2 h1 h2 h3 h4=>⟨none,0,R,c,by rw[jS,hl];rfl,ND.zero _,⟨h1,by omega,h3⟩,h4⟩);have HL:=zh hl;rw[hl]at HC hn ⊢;clear hX hY hab hl;go_enter Tryz.func164,Tryz.ntmps164;go_wp2_with (fail);refine HC.o.mono ?_;rintro e w1 ⟨rfl,hdr⟩;have hb1:=hdr.below;clear hdr
  by_cases h0:0<l
  ·obtain⟨ad,e,hlt,ha⟩:=(HX.o.keep hb1).digs.sl.lies (by rw[HL.o];exact h0);subst e
   have hnew:∀j u,((dg a).map vd)[j]?=some u->(w1.alloc (.cells #[] 168)).cell? (ad.add j)=some u:=λj u hu=>oG (ha j u hu) _
   have HN:=zh hnew;clear hnew ha
   go_wp2_with (at_builtin;refine fR _ rfl _ _ 65 rfl w1.heap.size 168 i0 (.int .u32 0) 1 4 Tryz.underlying65 hi hz0 hz1 hz2 rfl (by decide) (.slice (some ⟨w1.heap.size,0,none⟩) 0 0) 0 [] rfl (World.ownsRow_made w1 #[] 0 (aA _) (by simp[maxLen]) rfl) ad l cx ((dg a).map vd) rfl ?c1 HN.o ?c2 ?c3 ?c4 ?c5 ?_
                case c1=>rw[aI,HL.o,dI]
                case c2=>exact λu hu=>by(obtain⟨x,_,rfl⟩:=aM.1 hu;rfl)
                case c3=>simp only[maxLen];omega
                case c4=>omega
                case c5=>simp
                intro v' w2 hown' hgrow _;rw[bN]at hown')
   obtain⟨R,cr,hv,hcr,hS⟩:=Sl.of_own hown';subst hv;have hb2:Below w1.heap.size w1 w2:=(bal).grown hgrow (by simp) (λk hk=>by simp[Value.ownBlock]at hk;omega)
   go_ret2
   refine HF.o R cr w2 (aKX (xs:=dg a) hown' (by exact HL.o.symm)) hcr (λe=>?_) (dW hb1 hb2);subst e;obtain⟨_,e,_⟩:=hS.lies h0
   cases e
  obtain rfl:l=0:=by omega
  have HG:Hid (∀(R:Option Addr) (c:Nat) (w2:World),(R=none->c=0)->Below w.heap.size w w2->wG 0 a w (.returned (.tuple #[.slice none 0 0,.slice R 0 c])) w2):=zh (λR c w2 h3 h4=>HF.o R c w2 (by
   have:dg a=[]:=bV HL.o
   rw[this];exact kN.nil _ _) (aW _) h3 h4)
  have HCX:=zh HX.o.nilc;have hbA:Below w1.heap.size w1 (w1.alloc (.cells #[] 168)):=bal
  cases X with
  |none=>
   obtain rfl:cx=0:=HCX.o rfl
   go_wp2_with (at_builtin;refine wpList_append_own_none rfl _ _ 65 rfl w1.heap.size 168 i0 1 Tryz.underlying65 hi (.slice (some ⟨w1.heap.size,0,none⟩) 0 0) 0 [] rfl (World.ownsRow_made w1 #[] 0 (aA _) (by simp[maxLen]) rfl) rfl ?_)
   go_ret2
   exact HG.o _ 0 _ (λe=>by cases e) (dW hb1 hbA)
  |some ad=>
   go_wp2_with (at_builtin;refine fR _ rfl _ _ 65 rfl w1.heap.size 168 i0 (.int .u32 0) 1 4 Tryz.underlying65 hi hz0 hz1 hz2 rfl (by decide) (.slice (some ⟨w1.heap.size,0,none⟩) 0 0) 0 [] rfl (World.ownsRow_made w1 #[] 0 (aA _) (by simp[maxLen]) rfl) ad 0 cx [] rfl rfl (λj u hu=>by simp at hu) ?c2 ?c3 ?c4 ?c5 ?_
                case c2=>simp[Value.oneCell']
                case c3=>simp only[maxLen];omega
                case c4=>omega
                case c5=>simp
                intro v' w2 hown' hgrow hnil)
   obtain⟨R,cr,hv,hcr,hS⟩:=Sl.of_own hown';subst hv;have hb2:Below w1.heap.size w1 w2:=(bal).grown hgrow (by simp) (λk hk=>by simp[Value.ownBlock]at hk;omega)
   have HR:Hid (R=none->cr=0):=zh (λe=>by
    subst e
    rcases hown'.2 with⟨h1,h2⟩|⟨g,cap,cur,h1,_⟩
    ·injection h1
    injection h1 with h1;cases h1)
   clear hnil
   go_ret2
   exact HG.o R cr w2 HR.o (dW hb1 hb2)
theorem aHc (r:Nat)(w:World)(g:Nat)(hB:Blk w g 168 #[.int .u32 (r:Nat)])(hr:r<B):
    Calls Tryz.prog 130 #[.slice (some ⟨g,0,none⟩) 1 1] w λe w'=>e=.returned (.slice (some ⟨g,0,none⟩) (dg r).length 1)/\w=w'/\ND w' (some ⟨g,0,none⟩) 1 r:=by
  have hd:kN w (some ⟨g,0,none⟩) [r]:=tF (xs:=[r]) hB;have h:=uM (some ⟨g,0,none⟩) 1 [r] w hd (λx hx=>by rw[aN.1 hx];exact hr) (by simp) (by simp)
  have e:val [r]=r:=by simp[val]
  have hl:=qG (xs:=[r]) (λx hx=>by rw[aN.1 hx];exact hr);rw[e]at h hl;refine h.mono ?_;rintro e w' ⟨rfl,rfl,h1⟩;exact⟨rfl,rfl,h1,hl,λh=>by cases h⟩
theorem aHd (X Y:Option Addr)(cx cy a b:Nat)(w:World)(hX:ND w X cx a)(hY:ND w Y cy b)(hab:b<=a)(hb0:b≠0)(hbB:b<B)(hn:(dg a).length<=400000):
    Calls Tryz.prog 164 #[.slice X (dg a).length cx,.slice Y (dg b).length cy] w (wG (a/b) (a%b) w):=by
  obtain⟨z,hz⟩:=eqx ((if a<b then(-1:Int)else if a=b then 0 else 1):Int);have HC:=zh (aDh X Y cx cy a b w hX.digs hY.digs (by omega));rw[hz]at HC
  have hzb:decide (z<0)=false:=by
   rw[<-hz,aJ (by omega)]
   split<;>simp
  clear hz;have HD:=zh (λW (h:Below w.heap.size w W)=>aJp X cx a b W (hX.keep h).digs hbB (by omega) hn);have HR:=zh (Nat.lt_trans (bL a (show 0<b by omega)) hbB);have HY:=zh hY;have hdb:=lD hb0 hbB;have HDB:=zh hdb;rw[hdb];unfold wG;obtain⟨q,hq⟩:=eqx (a/b);obtain⟨r,hr⟩:=eqx (a%b);rw[hr]at HR;rw[hq,hr];unfold aJn at HD;rw[hq,hr]at HD;clear hq hr hdb hX hY;go_enter Tryz.func164,Tryz.ntmps164;go_wp2_with (fail);rw[HDB.o]at HC;refine HC.o.mono ?_;rintro e w1 ⟨rfl,hdr⟩;have hb1:=hdr.below;clear hdr;have hYd:=(HY.o.keep hb1).digs;rw[HDB.o]at hYd;obtain⟨bd,rfl,hbd⟩:=kN.at hYd (k:=0) (by simp)
  have hbd:w1.cell? bd=some (.int .u32 (b:Nat)):=by simpa[Addr.add]using hbd
  clear hYd;go_wp2_with (fail);refine(HD.o _ hb1).mono ?_;rintro e w2 ⟨Q,cq,rfl,hQ,hb2⟩;go_wp2_with (fail);have B3:=Blk.new w2 168 #[.int .u32 (r:Nat)];have hbA:Below w2.heap.size w2 (w2.alloc (.cells #[.int .u32 (r:Nat)] 168)):=bal;refine(aHc r _ _ B3 HR.o).mono ?_;rintro e _ ⟨rfl,rfl,hR⟩;have hbq:=dW (dW hb1 hb2) hbA;have HQ2:=zh (hQ.keep hbA);clear hQ;go_wp2
  go_ret2
  exact⟨_,_,_,_,rfl,HQ2.o,hR,hbq⟩
end Go.Proofs.Tg
