/- Parts of the proof. -/
import Derived.Test.YtabdoikbodjidaaGreatDoorMBO21
set_option maxHeartbeats 64000000
set_option maxRecDepth 100000
namespace Go.Proofs.Tg
open Go.RowKit Go.Gr Go.Bn
theorem jT {a b:Nat}(h:a<=b):(dg a).length<=(dg b).length:=by
 rcases eN (dg b).length (dg a).length with h1|h1
 ·exact absurd (nD h1) (by omega)
 exact h1
def wH (b:Nat):Prop:=b<B
theorem wH.mono {a b:Nat}(h:wH b)(hab:a<=b):wH a:=bB hab h
theorem wH.small {b:Nat}(h:b<B):wH b:=h
theorem aJd (X Y:Option Addr)(cx cy a b:Nat)(w:World)(hX:ND w X cx a)(hY:ND w Y cy b)(hb0:b≠0)(hb:wH b)(hn:(dg a).length<=200000):
    Calls Tryz.prog 164 #[.slice X (dg a).length cx,.slice Y (dg b).length cy] w (wG (a/b) (a%b) w):=by
  rcases eN a b with h|h
  ·have:=aJc X Y cx cy a b w hX hY h (by omega)
   rwa [cT h,cU h]
  exact aHd X Y cx cy a b w hX hY h hb0 hb (by omega)
end Go.Proofs.Tg
section
namespace Go.Proofs.Tg
open Go.RowKit Go.Gr Go.Bn
theorem aJe {w:World}{A:Option Addr}{xs ys:List Nat}(h:kN w A xs)(g:kN w A ys)(hl:xs.length=ys.length):xs=ys:=by
 apply dJ hl
 intro k h1 h2
 obtain⟨ad,rfl,c1⟩:=h.at h1
 obtain⟨ad2,e2,c2⟩:=g.at h2
 injection e2 with e2
 subst e2
 rw[c1]at c2
 injection c2 with c2
 injection c2 with _ c2
 omega
open Classical in
noncomputable def aNZ (s:Value)(w:World):Nat:=if h:∃y,∃(Y:Option Addr) (c:Nat),s=.slice Y (dg y).length c/\kN w Y (dg y)then h.choose else 0
theorem aFR {w:World}{Y:Option Addr}{y c:Nat}(h:kN w Y (dg y)):aNZ (.slice Y (dg y).length c) w=y:=by
 have hex:∃y',∃(Y':Option Addr) (c':Nat),(Value.slice Y (dg y).length c)=.slice Y' (dg y').length c'/\kN w Y' (dg y'):=⟨y,Y,c,rfl,h⟩
 unfold aNZ
 rw[jP hex]
 obtain⟨Y',c',e,hd⟩:=hex.choose_spec
 injection e with e1 e2 _
 subst e1
 have:=aJe h hd e2
 rw[<-kE hex.choose,<-this,kE]
def aJf (g:Nat)(w:World)(e:Ending)(w':World):Prop:=
  ∃G cg,e=.returned (.agg #[.bool false,.slice G (dg g).length cg])/\ND w' G cg g/\Below w.heap.size w w'
theorem aMe (p q:Bool)(A B:Option Addr)(c d a b:Nat)(w:World)(hA:ND w A c a)(hB:ND w B d b)(ha:(dg a).length<=200000)(hb:wH b)(hbl:(dg b).length<=200000):
    Calls Tryz.prog 132 #[.agg #[.bool p,.slice A (dg a).length c],.agg #[.bool q,.slice B (dg b).length d]] w (aJf (Nat.gcd a b) w):=by
  obtain⟨g,hg⟩:=eqx (Nat.gcd a b);rw[hg];have HG:=zh ((fN b a).trans hg);obtain⟨na,hna⟩:=eqx ((dg a).length);obtain⟨nb,hnb⟩:=eqx ((dg b).length);rw[hna,hnb];have HNA:=zh hna;have HNB:=zh hnb;have HDB:=zh hb
  have hal:na<=200000:=by omega
  have hbl':nb<=200000:=by omega
  clear hg hna hnb hb ha hbl;obtain⟨W,hW⟩:=eqx (((w.alloc (.cells #[.bool p,.slice A na c] 67)).alloc (.cells #[.bool q,.slice B nb d] 67)).alloc (.cells #[.bool false,.slice none 0 0] 67))
  have B0:Blk W w.heap.size 67 #[.bool p,.slice A na c]:=by rw[<-hW];exact((Blk.new _ _ _).alloc _).alloc _
  have B1:Blk W (w.heap.size+1) 67 #[.bool q,.slice B nb d]:=by
   rw[<-hW];have:=(Blk.new (w.alloc (.cells #[.bool p,.slice A na c] 67)) 67 #[.bool q,.slice B nb d]).alloc (.cells #[.bool false,.slice none 0 0] 67);simpa using this
  have B2:Blk W (w.heap.size+1+1) 67 #[.bool false,.slice none 0 0]:=by
   rw[<-hW];have:=(Blk.new ((w.alloc (.cells #[.bool p,.slice A na c] 67)).alloc (.cells #[.bool q,.slice B nb d] 67)) 67 #[.bool false,.slice none 0 0]);simpa using this
  have hbW:Below w.heap.size w W:=by rw[<-hW];exact((bal).alloc (by simp) _).alloc (by simp;omega) _
  have hWs:W.heap.size=w.heap.size+3:=by rw[<-hW];simp
  have HX:Hid (ND W A c a):=zh (hA.keep hbW);have HY:Hid (ND W B d b):=zh (hB.keep hbW);obtain⟨a0,a1,_,_⟩:=B0.two;obtain⟨b0,b1,_,_⟩:=B1.two;go_enter Tryz.func132,Tryz.ntmps132;go_upto_region 1 with(fail);clear hW hA hB
  go_quiet (fail)
  go_wp2
  go_loopw [5,6] (λs5 s6 wr=>∃(x y nx ny:Nat) (X:Option Addr) (cx:Nat) (Y:Option Addr) (cy:Nat),s5=.slice X nx cx/\s6=.slice Y ny cy/\nx<=200000/\ny<=200000/\Hid (wH y)/\Hid (nx=(dg x).length)/\Hid (ny=(dg y).length)/\Hid (ND wr X cx x)/\Hid (ND wr Y cy y)/\Hid (Nat.gcd y x=g)/\Below W.heap.size W wr) (λ_ s6 wr=>aNZ s6 wr)
  case atStart=>exact⟨a,b,na,nb,A,c,B,d,rfl,rfl,hal,hbl',HDB,zh HNA.o.symm,zh HNB.o.symm,zh (HX.o.keep (jX brf _)),zh (HY.o.keep (jX brf _)),HG,jX brf _⟩
  case round=>
   obtain⟨wo,rfl⟩:∃wo:World,wo=wr:=⟨_,rfl⟩;obtain⟨x,y,nx,ny,X,cx,Y,cy,rfl,rfl,hnx,hny,HDV,HNX,HNY,HXD,HYD,HGG,hbr⟩:=hrel
   by_cases hy0:y=0
   ·subst hy0
    obtain rfl:ny=0:=by have:=HNY.o;rwa [jS]at this
    obtain rfl:x=g:=by have:=HGG.o;rwa [Nat.gcd_zero_left]at this
    have K2:=B2.keep hbr (by omega);obtain⟨k0,k1,k2,k3⟩:=K2.two;have HM:=zh (qC false X nx cx wo false rfl (by omega));have HBR:=zh hbr
    go_wp2_with (go_at_call 84;refine HM.o.mono ?_;rintro e w2 ⟨rfl,hb2⟩
                 have K3:=K2.keep hb2 K2.lt
                 obtain⟨j0,j1,j2,j3⟩:=K3.two)
    have hlt3:=K3.lt;refine aO (v:=.agg #[.bool false,.slice X nx cx]) (by simp[results,Tryz.results132,go_sem,j0,j1]) rfl ⟨X,cx,by rw[HNX.o],⟨?_,HXD.o.cap,HXD.o.nilc⟩,?_⟩
    ·have h1:=HXD.o.digs.keep hb2;have h4:=kN.put h1 j0 (by simp[vd]) (.bool false);exact kN.put h4 (v:=.slice none 0 0) (by rw[bR _ _ _ _ (by simp)];exact j1) (by simp[vd]) _
    have h1:=dW (dW hbW hbr) hb2;exact(h1.setCell (by simp;omega) _).setCell (by simp;omega) _
   have hny0:0<ny:=by
    rw[HNY.o,oF hy0];simp
   have hnyI:decide ((0:Int)<(ny:Int))=true:=dT (by omega);have hnyN:decide (0<ny)=true:=dT hny0;have HD:=zh (aJd X Y cx cy x y wo HXD.o HYD.o hy0 HDV.o (by rw[<-HNX.o];exact hnx));rw[<-HNX.o,<-HNY.o]at HD;unfold wG at HD;have hml:x%y<y:=bL _ (by omega);have HN:Hid (Nat.gcd (x%y) y=g):=zh (by rw[<-Nat.gcd_rec];exact HGG.o);have HDR:Hid (wH (x%y)):=zh (HDV.o.mono (by omega));have HLR:Hid ((dg (x%y)).length<=200000):=zh (aR (jT (eM hml)) (by rw[<-HNY.o];exact hny));have HM:=zh (aFR (c:=cy) HYD.o.digs);rw[<-HNY.o]at HM;generalize x%y=r at*;generalize x/y=qq at*;have HML:=zh hml;clear hy0 hml
   go_wp2_with (go_at_call 164;refine HD.o.mono ?_;rintro e w2 ⟨Q,cq,R,cr,rfl,hQ,hR,hb2⟩)
   go_roundw
   case rel=>exact⟨y,r,ny,_,Y,cy,R,cr,rfl,rfl,hny,HLR.o,HDR,HNY,zh rfl,zh (HYD.o.keep hb2),zh hR,HN,dW hbr hb2⟩
   case measure=>
    have h1:=HM.o;have h2:=aFR (c:=cr) hR.digs;have h3:=HML.o;simp at h1 h2 ⊢;omega
end Go.Proofs.Tg
end
namespace Go.Proofs.Tg
open Go.RowKit Go.Gr Go.Bn
theorem kB {u:Nat}:0<(dg u).length↔u≠0:=by
 by_cases h:u=0
 ·subst h;rw[jS];simp
 rw[oF h];simp[h]
theorem ND.far {w:World}{A:Option Addr}{c n g:Nat}{t:TypeId}{cs:Array Value}(h:ND w A c n)(B:Blk w g t cs)(hne:t≠168)(i:Nat)(u:Value):ND (w.setCell ⟨g,i,none⟩ u) A c n:=⟨h.digs.far (h.digs.off_ty B hne) i u,h.cap,h.nilc⟩
theorem xV (b:Bool)(v:Nat):(b&&decide (0<(dg v).length))=(b&&decide (v≠0)):=by
 by_cases h:v=0
 ·subst h;rw[jS];simp
 have:=kB.2 h
 simp[h,this]
def wJ (p q:Bool)(a b:Nat)(w:World)(e:Ending)(w':World):Prop:=
  ∃Q cq R cr,e=.returned (.tuple #[.agg #[.bool ((p !=q)&&decide (a/b≠0)),.slice Q (dg (a/b)).length cq],.agg #[.bool (p&&decide (a%b≠0)),.slice R (dg (a%b)).length cr]])/\ND w' Q cq (a/b)/\ND w' R cr (a%b)/\Below w.heap.size w w'
theorem sT (p q:Bool)(A B:Option Addr)(c d a b:Nat)(w:World)(hA:ND w A c a)(hB:ND w B d b)(ha:(dg a).length<=200000)(hb:b≠0)(hd:wH b):
    Calls Tryz.prog 134 #[.agg #[.bool p,.slice A (dg a).length c],.agg #[.bool q,.slice B (dg b).length d]] w (wJ p q a b w):=by
  obtain⟨na,hna⟩:=eqx ((dg a).length);obtain⟨nb,hnb⟩:=eqx ((dg b).length)
  have HD:Hid (∀W,Below w.heap.size w W->Calls Tryz.prog 164 #[.slice A na c,.slice B nb d] W (wG (a/b) (a%b) W)):=zh (λW h=>by
   rw[<-hna,<-hnb];exact aJd A B c d a b W (hA.keep h) (hB.keep h) hb hd ha)
  rw[hna,hnb];unfold wG at HD;unfold wJ
  have hqs:=λbb=>xV bb (a/b)
  have hrs:=xV p (a%b);obtain⟨s1,hs1⟩:=eqx (((p !=q)&&decide (a/b≠0)));rw[hs1];rw[<-hqs]at hs1;have l1:(dg (a/b)).length<=200000:=aR (jT (cF _ _)) ha;have l2:(dg (a%b)).length<=200000:=aR (jT (Nat.mod_le _ _)) ha;rw[<-hrs];clear hrs;generalize a/b=qq at*;generalize a%b=rr at*;have HM1:Hid (∀W Q cq,Calls Tryz.prog 84 #[.bool (p !=q),.slice Q (dg qq).length cq] W λe w'=>e=.returned (.agg #[.bool s1,.slice Q (dg qq).length cq])/\Below W.heap.size W w'):=zh (λW Q cq=>qC (p !=q) Q (dg qq).length cq W s1 hs1 (by omega));obtain⟨s2,hs2⟩:=eqx ((p&&decide (0<(dg rr).length)));rw[hs2]
  have HM2:Hid (∀W R cr,Calls Tryz.prog 84 #[.bool p,.slice R (dg rr).length cr] W λe w'=>e=.returned (.agg #[.bool s2,.slice R (dg rr).length cr])/\Below W.heap.size W w'):=zh (λW Q cq=>qC p Q (dg rr).length cq W s2 hs2 (by omega));obtain⟨n1,hn1⟩:=eqx ((dg qq).length);obtain⟨n2,hn2⟩:=eqx ((dg rr).length);rw[hn1,hn2]at HD;rw[hn1]at HM1;rw[hn2]at HM2;rw[hn1,hn2];clear hqs hs1 hs2 hna hnb hn1 hn2 hA hB hd l1 l2 ha hb;obtain⟨W,hW⟩:=eqx ((((w.alloc (.cells #[.bool p,.slice A na c] 67)).alloc (.cells #[.bool q,.slice B nb d] 67)).alloc (.cells #[.bool false,.slice none 0 0] 67)).alloc (.cells #[.bool false,.slice none 0 0] 67))
  have B0:Blk W w.heap.size 67 #[.bool p,.slice A na c]:=by rw[<-hW];exact(((Blk.new _ _ _).alloc _).alloc _).alloc _
  have B1:Blk W (w.heap.size+1) 67 #[.bool q,.slice B nb d]:=by
   rw[<-hW];have:=((Blk.new (w.alloc (.cells #[.bool p,.slice A na c] 67)) 67 #[.bool q,.slice B nb d]).alloc (.cells #[.bool false,.slice none 0 0] 67)).alloc (.cells #[.bool false,.slice none 0 0] 67);simpa using this
  have B2:Blk W (w.heap.size+1+1) 67 #[.bool false,.slice none 0 0]:=by
   rw[<-hW];have:=(Blk.new ((w.alloc (.cells #[.bool p,.slice A na c] 67)).alloc (.cells #[.bool q,.slice B nb d] 67)) 67 #[.bool false,.slice none 0 0]).alloc (.cells #[.bool false,.slice none 0 0] 67);simpa using this
  have B3:Blk W (w.heap.size+1+1+1) 67 #[.bool false,.slice none 0 0]:=by
   rw[<-hW];have:=(Blk.new (((w.alloc (.cells #[.bool p,.slice A na c] 67)).alloc (.cells #[.bool q,.slice B nb d] 67)).alloc (.cells #[.bool false,.slice none 0 0] 67)) 67 #[.bool false,.slice none 0 0]);simpa using this
  have hbW:Below w.heap.size w W:=by rw[<-hW];exact(((bal).alloc (by simp) _).alloc (by simp;omega) _).alloc (by simp;omega) _
  have hWs:W.heap.size=w.heap.size+4:=by rw[<-hW];simp
  obtain⟨a0,a1,_,_⟩:=B0.two;obtain⟨b0,b1,_,_⟩:=B1.two;go_enter Tryz.func134,Tryz.ntmps134;go_upto_region 1 with(fail);clear hW
  go_upto_region 2 with(go_at_call 164;refine(HD.o _ hbW).mono ?_;rintro e w2 ⟨Q,cq,R,cr,rfl,hQ,hR,hb2⟩)
  have C0:=B0.keep hb2 B0.lt;have C1:=B1.keep hb2 B1.lt;have C2:=B2.keep hb2 B2.lt;have C3:=B3.keep hb2 B3.lt;have hbe:Below w2.heap.size w2 w2.drew:=brf.drew;have HM1':Hid (∀V,Below w2.heap.size w2 V->Calls Tryz.prog 84 #[.bool (!(p==q)),.slice Q n1 cq] V λe w'=>e=.returned (.agg #[.bool s1,.slice Q n1 cq])/\Below w2.heap.size w2 w'):=zh (λV h=>(HM1.o V Q cq).mono λe w' ⟨x,y⟩=>⟨x,dW h y⟩);have HM2':Hid (∀V,Below w2.heap.size w2 V->Calls Tryz.prog 84 #[.bool p,.slice R n2 cr] V λe w'=>e=.returned (.agg #[.bool s2,.slice R n2 cr])/\Below w2.heap.size w2 w'):=zh (λV h=>(HM2.o V R cr).mono λe w' ⟨x,y⟩=>⟨x,dW h y⟩);have hbw2:=dW hbW hb2;have HC2:=zh C2;have HC3:=zh C3;obtain⟨e0,e1,_,_⟩:=C0.two;obtain⟨g0,g1,_,_⟩:=C1.two;obtain⟨i0,i1,i2,i3⟩:=C2.two
  obtain⟨k0,k1,k2,k3⟩:=C3.two;clear HM1 HM2 HD B0 B1 B2 B3 a0 a1 b0 b1 hb2 C2 C3;have HC0:=zh C0;have HC1:=zh C1;clear C0 C1
  go_region_with
    (first
      |(go_at_call 84;with_reducible refine(HM1'.o _ (by assumption)).mono ?_;rintro e w' ⟨rfl,hbe⟩;have D0:=HC0.o.keep hbe HC0.o.lt;have D1:=HC1.o.keep hbe HC1.o.lt;obtain⟨e0,e1,_,_⟩:=D0.two;obtain⟨g0,g1,_,_⟩:=D1.two;have D2:=HC2.o.keep hbe HC2.o.lt;have D3:=HC3.o.keep hbe HC3.o.lt;obtain⟨i0,i1,i2,i3⟩:=D2.two;obtain⟨k0,k1,k2,k3⟩:=D3.two)
      |(go_at_call 84;with_reducible refine(HM2'.o _ (by assumption)).mono ?_;rintro e w' ⟨rfl,hbe⟩;have D0:=HC0.o.keep hbe HC0.o.lt;have D1:=HC1.o.keep hbe HC1.o.lt;obtain⟨e0,e1,_,_⟩:=D0.two;obtain⟨g0,g1,_,_⟩:=D1.two;have D2:=HC2.o.keep hbe HC2.o.lt;have D3:=HC3.o.keep hbe HC3.o.lt;obtain⟨i0,i1,i2,i3⟩:=D2.two;obtain⟨k0,k1,k2,k3⟩:=D3.two))
  all_goals
    go_wp2;have hQ':ND w' Q cq qq:=hQ.keep hbe;have hR':ND w' R cr rr:=hR.keep hbe;refine aO (v:=.tuple #[.agg #[.bool s1,.slice Q n1 cq],.agg #[.bool s2,.slice R n2 cr]]) (by simp[results,Tryz.results134,go_sem,i0,i1,k0,k1]) rfl ⟨Q,cq,R,cr,rfl,?_,?_,?_⟩
    ·exact(((hQ'.far D2 (by decide) _ _).far (D2.set _ _) (by decide) _ _).far ((D3.far (by simp) _).far (by simp) _) (by decide) _ _).far (((D3.far (by simp) _).far (by simp) _).set _ _) (by decide) _ _
    ·exact(((hR'.far D2 (by decide) _ _).far (D2.set _ _) (by decide) _ _).far ((D3.far (by simp) _).far (by simp) _) (by decide) _ _).far (((D3.far (by simp) _).far (by simp) _).set _ _) (by decide) _ _
    exact hJ (hJ (hJ (hJ (dW hbw2 hbe) (by omega) _ _) (by omega) _ _) (by omega) _ _) (by omega) _ _
def dnz (x:Nat):Nat:=if x=1 then 0 else x
theorem lH {x:Nat}(h:x≠1):dnz x=x:=aJ h
theorem lK:dnz 1=0:=rfl
def aJg (p:Bool)(n m:Nat)(w:World)(e:Ending)(w':World):Prop:=
  ∃N cn D cd,e=.returned (.agg #[.bool p,.slice N (dg n).length cn,.bool false,.slice D (dg (dnz m)).length cd])/\ND w' N cn n/\ND w' D cd (dnz m)/\Below w.heap.size w w'
structure aMf (w:World)(p:Bool)(n m:Nat)(N:Option Addr)(cn:Nat)(D:Option Addr)(cd:Nat)(wx:World):Prop where
  below:Below w.heap.size w wx
  b0:Blk wx w.heap.size 67 #[.bool p,.slice N (dg n).length cn]
  b1:Blk wx (w.heap.size+1) 67 #[.bool false,.slice D (dg m).length cd]
  b2:Blk wx (w.heap.size+1+1) 69 #[.bool false,.slice none 0 0,.bool false,.slice none 0 0]
  dn:ND wx N cn n
  dd:ND wx D cd m
theorem aJh (p:Bool)(A B:Option Addr)(c d a b:Nat)(w:World)(hA:ND w A c a)(hB:ND w B d b)(ha:(dg a).length<=200000)(hd:b<4294967296)(hb0:b≠0)(hp:p=true->a≠0):
    Calls Tryz.prog 86 #[.agg #[.bool p,.slice A (dg a).length c],.agg #[.bool false,.slice B (dg b).length d]] w (aJg p (a/Nat.gcd a b) (b/Nat.gcd a b) w):=by
  have hb:b<4294967296:=hd
  have hbl1:(dg b).length<=200000:=by rw[lD hb0 hb];simp
  have HG:Hid (∀W,Below w.heap.size w W->Calls Tryz.prog 132 #[.agg #[.bool p,.slice A (dg a).length c],.agg #[.bool false,.slice B (dg b).length d]] W (aJf (Nat.gcd a b) W)):=zh (λW h=>aMe p false A B c d a b W (hA.keep h) (hB.keep h) ha (wH.small hd) hbl1);have hg0:Nat.gcd a b≠0:=fM.1 (fI _ (by omega));have hgl:Nat.gcd a b<=b:=iE _ (by omega);have hm0:b/Nat.gcd a b≠0:=fM.1 (Nat.div_pos hgl (by omega));have hml:b/Nat.gcd a b<=b:=cF _ _;have HSG:Hid (p=true->a/Nat.gcd a b≠0):=zh (λh=>fM.1 (Nat.div_pos (Nat.gcd_le_left _ (eG (hp h))) (by omega)));generalize Nat.gcd a b=g at*
  have hgB:g<4294967296:=by omega
  have hdg:wH g:=wH.small hgB;clear hbl1
  have hng:(dg g).length=1:=by rw[lD hg0 hgB];rfl
  have hnb:(dg b).length=1:=by rw[lD hb0 hb];rfl
  obtain⟨na,hna⟩:=eqx ((dg a).length);rw[hna,hnb]at HG;rw[hna,hnb];unfold aJf at HG;rw[hng]at HG;have HNA:=zh hna
  have hal:na<=200000:=by omega
  have HNB1:=zh hnb;have HNG1:=zh hng;clear hna hnb hng;obtain⟨W,hW⟩:=eqx (((w.alloc (.cells #[.bool p,.slice A na c] 67)).alloc (.cells #[.bool false,.slice B 1 d] 67)).alloc (.cells #[.bool false,.slice none 0 0,.bool false,.slice none 0 0] 69))
  have B0:Blk W w.heap.size 67 #[.bool p,.slice A na c]:=by rw[<-hW];exact((Blk.new _ _ _).alloc _).alloc _
  have B1:Blk W (w.heap.size+1) 67 #[.bool false,.slice B 1 d]:=by
   rw[<-hW];have:=(Blk.new (w.alloc (.cells #[.bool p,.slice A na c] 67)) 67 #[.bool false,.slice B 1 d]).alloc (.cells #[.bool false,.slice none 0 0,.bool false,.slice none 0 0] 69);simpa using this
  have B2:Blk W (w.heap.size+1+1) 69 #[.bool false,.slice none 0 0,.bool false,.slice none 0 0]:=by
   rw[<-hW];have:=(Blk.new ((w.alloc (.cells #[.bool p,.slice A na c] 67)).alloc (.cells #[.bool false,.slice B 1 d] 67)) 69 #[.bool false,.slice none 0 0,.bool false,.slice none 0 0]);simpa using this
  have hbW:Below w.heap.size w W:=by rw[<-hW];exact((bal).alloc (by simp) _).alloc (by simp;omega) _
  have hWs:W.heap.size=w.heap.size+3:=by rw[<-hW];simp
  obtain⟨a0,a1,_,_⟩:=B0.two;obtain⟨b0,b1,_,_⟩:=B1.two;go_enter Tryz.func86,Tryz.ntmps86;go_upto_region 1 with(fail);clear hW
  go_upto_region 4 with(go_at_call 132;refine(HG.o _ hbW).mono ?_;rintro e w2 ⟨G,cg,rfl,hG,hb2⟩)
  obtain⟨V,hV⟩:=eqx (w2.alloc (.cells #[.bool false,.slice G 1 cg] 67))
  try rw[hV]
  have hbV:Below w2.heap.size w2 V:=by rw[<-hV];exact bal
  have C5:Blk V w2.heap.size 67 #[.bool false,.slice G 1 cg]:=by rw[<-hV];exact Blk.new _ _ _
  have C0:=(B0.keep hb2 B0.lt).keep hbV (B0.keep hb2 B0.lt).lt;have C1:=(B1.keep hb2 B1.lt).keep hbV (B1.keep hb2 B1.lt).lt;have C2:=(B2.keep hb2 B2.lt).keep hbV (B2.keep hb2 B2.lt).lt;have hbwV:=dW (dW hbW hb2) hbV;have hGV:=hG.keep hbV;have hs2:W.heap.size<=w2.heap.size:=hb2.size;clear hb2 hG hbV hV a0 a1 b0 b1 B0 B1 B2 HG;obtain⟨g0,g1,_,_⟩:=C5.two;have HB:Hid (Calls Tryz.prog 133 #[.agg #[.bool false,.slice G 1 cg]] V λe w'=>e=.returned (.int .i64 (uA g:Nat))/\Below V.heap.size V w'):=zh (aDU false G cg g V (by have:=hGV.digs;rwa [lD hg0 hgB]at this) (by omega));have hbl:=zZ g g (aA _);have HBG:=zh (aNb (v:=g));obtain⟨bg,hbg⟩:=eqx (uA g);rw[hbg]at HB HBG hbl;clear hbg
  go_upto_if 17 with(go_at_call 133;refine HB.o.mono ?_;rintro e w3 ⟨rfl,hb3⟩)
  have D0:=C0.keep hb3 C0.lt;have D1:=C1.keep hb3 C1.lt;have D2:=C2.keep hb3 C2.lt;have D5:=C5.keep hb3 C5.lt;have hb3':=dW hbwV hb3;have hG3:=hGV.keep hb3;have HSN:Hid (∀W N cn D cd,aMf w p (a/g) (b/g) N cn D cd W->aMf w p (a/g) (b/g) N cn D cd W):=zh (λ_ _ _ _ _ h=>h)
  go_cut []from 17 (λwx=>∃N cn D cd,aMf w p (a/g) (b/g) N cn D cd wx)
  case first=>
   by_cases h1:g=1
   ·have hbb:decide ((1:Int)<(bg:Int))=false:=by
     have:=HBG.o;simp;omega
    have hbb':decide (1<bg)=false:=by
     have:=HBG.o;simp;omega
    have HF:Hid (aMf w p (a/g) (b/g) A c B d w3):=zh (by
     rw[h1,fV,fV]
     exact⟨hb3',by rw[HNA.o];exact D0,by rw[HNB1.o];exact D1,D2,hA.keep hb3',hB.keep hb3'⟩)
    go_wp2;go_meet;exact⟨A,c,B,d,HF.o⟩
   have hbb:decide ((1:Int)<(bg:Int))=true:=by
    have:=HBG.o;simp;omega
   have hbb':decide (1<bg)=true:=by
    have:=HBG.o;simp;omega
   have hbi:(1:Int)<(bg:Int):=by
    have:=HBG.o;omega
   have HQ1:Hid (∀W,Below w3.heap.size w3 W->Calls Tryz.prog 134 #[.agg #[.bool p,.slice A na c],.agg #[.bool false,.slice G 1 cg]] W (wJ p false a g W)):=zh (λW h=>by
    have:=sT p false A G c cg a g W ((hA.keep hb3').keep h) (hG3.keep h) ha hg0 hdg;rw[HNA.o,HNG1.o]at this
    exact this)
   have HQ2:Hid (∀W,ND W B d b->ND W G cg g->Calls Tryz.prog 134 #[.agg #[.bool false,.slice B 1 d],.agg #[.bool false,.slice G 1 cg]] W (wJ false false b g W)):=zh (λW h h'=>by
    have:=sT false false B G d cg b g W h h' (by rw[HNB1.o];omega) hg0 hdg;rw[HNB1.o,HNG1.o]at this
    exact this)
   have hsg:((p !=false)&&decide (a/g≠0))=p:=by
    have:=HSG.o
    cases p with
    |false=>rfl
    |true=>simp[this rfl]
   have hsg2:((false !=false)&&decide (b/g≠0))=false:=rfl;unfold wJ at HQ1 HQ2;rw[hsg]at HQ1;rw[hsg2]at HQ2;clear hsg hsg2;generalize a/g=qn at*;generalize b/g=qm at*;obtain⟨d0,d1,d2,d3⟩:=D0.two;obtain⟨f0,f1,_,_⟩:=D5.two;go_wp2_with (fail);refine(HQ1.o _ brf).mono ?_;rintro e w4 ⟨N,cn,_,_,rfl,hN,_,hb4⟩;clear d0 d1 d2 d3 f0 f1;have E0:=D0.keep hb4 D0.lt;have E1:=D1.keep hb4 D1.lt;have E2:=D2.keep hb4 D2.lt;have E5:=D5.keep hb4 D5.lt;have E5lt:=D5.lt;obtain⟨d0,d1,d2,d3⟩:=E0.two;have hB4:ND w4 B d b:=(hB.keep hb3').keep hb4;have hG4:=hG3.keep hb4;obtain⟨V5,hV5⟩:=eqx ((w4.setCell ⟨w.heap.size,0,none⟩ (.bool p)).setCell ⟨w.heap.size,1,none⟩ (.slice N (dg qn).length cn))
   have F0:Blk V5 w.heap.size 67 #[.bool p,.slice N (dg qn).length cn]:=by rw[<-hV5];exact(E0.set 0 _).set 1 _
   have F1:Blk V5 (w.heap.size+1) 67 #[.bool false,.slice B 1 d]:=by rw[<-hV5];exact(E1.far (by simp) _).far (by simp) _
   have F2:Blk V5 (w.heap.size+1+1) 69 #[.bool false,.slice none 0 0,.bool false,.slice none 0 0]:=by rw[<-hV5];exact(E2.far (by simp;omega) _).far (by simp;omega) _
   have F5:Blk V5 w2.heap.size 67 #[.bool false,.slice G 1 cg]:=by rw[<-hV5];exact(E5.far (by simp;omega) _).far (by simp;omega) _
   have hN5:ND V5 N cn qn:=by rw[<-hV5];exact(hN.far E0 (by decide) _ _).far (E0.set _ _) (by decide) _ _
   have hB5:ND V5 B d b:=by rw[<-hV5];exact(hB4.far E0 (by decide) _ _).far (E0.set _ _) (by decide) _ _
   have hG5:ND V5 G cg g:=by rw[<-hV5];exact(hG4.far E0 (by decide) _ _).far (E0.set _ _) (by decide) _ _
   have hb5:Below w.heap.size w V5:=by rw[<-hV5];exact hJ (hJ (dW hb3' hb4) (aA _) _ _) (aA _) _ _
   clear E0 E1 E2 E5 hN hB4 hG4 hb4;obtain⟨e0,e1,e2,e3⟩:=F1.two;obtain⟨f0,f1,_,_⟩:=F5.two;go_upto_region 6 with(fail)
   try rw[hV5]
   clear hV5 d0 d1 d2 d3;go_wp2_with (fail);refine(HQ2.o _ hB5 hG5).mono ?_;rintro e w6 ⟨D,cd,_,_,rfl,hD,_,hb6⟩;have G1:=F1.keep hb6 F1.lt;clear e0 e1 e2 e3 f0 f1;obtain⟨e0,e1,e2,e3⟩:=G1.two;go_wp2;go_meet;refine⟨N,cn,D,cd,?_,?_,?_,?_,?_,?_⟩
   ·exact hJ (hJ (dW hb5 hb6) (by omega) _ _) (by omega) _ _
   ·exact((F0.keep hb6 F0.lt).far (by simp) _).far (by simp) _
   ·exact(G1.set 0 _).set 1 _
   ·exact((F2.keep hb6 F2.lt).far (by simp) _).far (by simp) _
   ·exact((hN5.keep hb6).far G1 (by decide) _ _).far (G1.set _ _) (by decide) _ _
   ·exact(hD.far G1 (by decide) _ _).far (G1.set _ _) (by decide) _ _
   all_goals(exfalso;omega)
  case rest=>
   obtain⟨N,cn,D,cd,hst⟩:=hcut;obtain⟨hbx,X0,X1,X2,dn,dd⟩:=hst;clear C0 C1 C2 C5 D0 D1 D2 D5 g0 g1;generalize a/g=qn at*;have HFIN:=zh dn;have HFID:=zh dd
   have hmB:b/g<4294967296:=by omega
   generalize b/g=qm at*
   have hml1:(dg qm).length=1:=by rw[lD hm0 hmB];rfl
   rw[hml1]at X1;have HML1:=zh hml1;clear hml1;have HB2:Hid (Calls Tryz.prog 133 #[.agg #[.bool false,.slice D 1 cd]] wc λe w'=>e=.returned (.int .i64 (uA qm:Nat))/\Below wc.heap.size wc w'):=zh (aDU false D cd qm wc (by have:=dd.digs;rwa [lD hm0 hmB]at this) (by omega));have hbl2:=zZ qm qm (aA _);have HB1:=zh (aLb (v:=qm));obtain⟨bm,hbm⟩:=eqx (uA qm);rw[hbm]at HB2 HB1 hbl2;clear hbm;obtain⟨nn,hnn⟩:=eqx ((dg qn).length);rw[hnn]at X0;have HNN:=zh hnn;clear hnn;obtain⟨x0,x1,_,_⟩:=X0.two;obtain⟨y0,y1,y2,y3⟩:=X1.two
   by_cases hm1:qm=1
   ·have hbb:((bm:Int)==1)=true:=by
     have:=HB1.o.2 hm1;simp[this]
    have hbb':(bm==1)=true:=by
     have:=HB1.o.2 hm1;simp[this]
    have HDL:Hid (dnz qm=0):=zh (aQ hm1);clear hm1
    go_wp2_with (go_at_call 133;refine HB2.o.mono ?_;rintro e w7 ⟨rfl,hb7⟩
                 have Y0:=X0.keep hb7 X0.lt;have Y1:=X1.keep hb7 X1.lt;have Y2:=X2.keep hb7 X2.lt;obtain⟨x0,x1,x2,x3⟩:=Y0.two;obtain⟨y0,y1,y2,y3⟩:=Y1.two
                 obtain⟨z0,z1,z2,z3,v0,v1,v2,v3⟩:=Y2.four)
    have hn7:=HFIN.o.keep hb7
    have Y2':=λu u'=>(Y2.far (p:=⟨w.heap.size+1,0,none⟩) (by simp) u).far (p:=⟨w.heap.size+1,1,none⟩) (by simp) u'
    refine aO (v:=.agg #[.bool p,.slice N nn cn,.bool false,.slice none 0 0]) (by simp[results,Tryz.results86,go_sem,z0,z1,z2,z3]) rfl ⟨N,cn,none,0,by rw[HNN.o,HDL.o,jS];rfl,?_,by rw[HDL.o];exact ND.zero _,?_⟩
    ·exact((((hn7.far Y1 (by decide) _ _).far (Y1.set _ _) (by decide) _ _).far (Y2' _ _) (by decide) _ _).far ((Y2' _ _).set _ _) (by decide) _ _ |>.far (((Y2' _ _).set _ _).set _ _) (by decide) _ _).far ((((Y2' _ _).set _ _).set _ _).set _ _) (by decide) _ _
    exact hJ (hJ (hJ (hJ (hJ (hJ (dW hbx hb7) (by omega) _ _) (by omega) _ _) (by omega) _ _) (by omega) _ _) (by omega) _ _) (by omega) _ _
   have hbb:((bm:Int)==1)=false:=by
    have:=HB1.o;simp;omega
   have hbb':(bm==1)=false:=by
    have:=HB1.o;simp;omega
   have HDL:Hid (dnz qm=qm):=zh (aJ hm1);have HM0:=zh hm0;clear hm1
   go_wp2_with (go_at_call 133;refine HB2.o.mono ?_;rintro e w7 ⟨rfl,hb7⟩
                have Y0:=X0.keep hb7 X0.lt;have Y1:=X1.keep hb7 X1.lt;have Y2:=X2.keep hb7 X2.lt;obtain⟨x0,x1,x2,x3⟩:=Y0.two;obtain⟨y0,y1,y2,y3⟩:=Y1.two
                obtain⟨z0,z1,z2,z3,v0,v1,v2,v3⟩:=Y2.four)
   have hn7:=HFIN.o.keep hb7;have hd7:=HFID.o.keep hb7;refine aO (v:=.agg #[.bool p,.slice N nn cn,.bool false,.slice D 1 cd]) (by simp[results,Tryz.results86,go_sem,z0,z1,z2,z3]) rfl ⟨N,cn,D,cd,by rw[HNN.o,HDL.o,HML1.o],?_,?_,?_⟩
   ·exact(((hn7.far Y2 (by decide) _ _).far (Y2.set _ _) (by decide) _ _).far ((Y2.set _ _).set _ _) (by decide) _ _).far (((Y2.set _ _).set _ _).set _ _) (by decide) _ _
   ·rw[HDL.o];exact(((hd7.far Y2 (by decide) _ _).far (Y2.set _ _) (by decide) _ _).far ((Y2.set _ _).set _ _) (by decide) _ _).far (((Y2.set _ _).set _ _).set _ _) (by decide) _ _
   exact hJ (hJ (hJ (hJ (dW hbx hb7) (by omega) _ _) (by omega) _ _) (by omega) _ _) (by omega) _ _
theorem aMh (X Y:Option Addr)(cx cy:Nat)(us vs:List Nat)(w:World)(hX:kN w X us)(hY:kN w Y vs)(hu:Dig us)(hv:Dig vs)(hl1:vs.length<us.length)(hn:us.length<=400000):
    Calls Tryz.prog 128 #[.slice Y vs.length cy,.slice X us.length cx] w (yS (val us+val vs) w):=by
  have hl:vs.length<=us.length:=by omega
  have hd:decide ((vs.length:Int)<(us.length:Int))=true:=dT (by omega);have hd':decide (vs.length<us.length)=true:=dT hl1;clear hl1;have HU:=zh hu;have HV:=zh hv;have HX:=zh hX;have HY:=zh hY
  have hmk:=λW=>sK (us.length+1) (by omega) W
  have hc1:((us.length+1:Nat):Int)=(us.length:Int)+1:=by omega
  rw[hc1]at hmk;clear hc1;clear hu hv hX hY;go_enter Tryz.func128,Tryz.ntmps128;go_upto_region 4 with(fail);obtain⟨W,hW⟩:=eqx (w.alloc (.cells (madeCells #[.int .u32 0] (us.length+1)) 168))
  have G5:Blk W w.heap.size 168 (tM ([]++List.replicate (us.length+1-0) 0)):=by
   rw[<-hW,dB,gQ,<-uN];exact Blk.new _ _ _
  have hbW:Below w.heap.size w W:=by rw[<-hW];exact bal
  rw[hW];clear hW hmk;go_wp2
  go_loopw [6,7] (λs6 s7 wr=>∃(k cr:Nat) (zs:List Nat),s6=.int .u64 cr/\s7=.int .i64 k/\k<=us.length/\Hid (aAw us vs w.heap.size w wr k cr zs)) (λ_ s7 _=>us.length-(intOf s7).toNat)
  case atStart=>exact⟨0,0,[],rfl,rfl,aW _,zh (aAw.mk rfl (λx hx=>absurd hx (by simp)) (by omega) (by simp[val]) G5 hbW)⟩
  case round=>
   clear G5 hbW;obtain⟨wo,rfl⟩:∃wo:World,wo=wr:=⟨_,rfl⟩;obtain⟨k,cr,zs,rfl,rfl,hk,HST⟩:=hrel;have hcr:=HST.o.le1
   by_cases hku:k<us.length
   ·obtain⟨ad,rfl,hcx⟩:=kN.at (HX.o.keep HST.o.below) hku;have hxB:us[k]<4294967296:=HU.o us[k] (aB _);have HTX:=zh (nN hku);generalize us[k]=x at*
    have q0:(0:Int)<=(k:Int):=by omega
    have q1:(k:Int)<(us.length:Int):=by omega
    have q1':(k:Int)<(us.length:Int)+1:=by omega
    have q3:((k:Int)).toNat=k:=by omega
    have w1:IntKind.u64.wrap ((cr:Int)+(x:Int))=((cr+x:Nat):Int):=by have:=mA (cr+x) (by omega);simpa using this
    have c0:=HST.o.blk.cell k;have f0:=HST.o.blk.frozen k
    have hzl:(zs++List.replicate (us.length+1-k) 0).length=us.length+1:=by rw[aC,bU,HST.o.len];omega
    rw[sS _ (by rw[hzl];omega)]at c0;generalize (zs++List.replicate (us.length+1-k) 0)[k]'(by rw[hzl];omega)=old at c0
    by_cases hkv:k<vs.length
    ·obtain⟨bd,rfl,hcy⟩:=kN.at (HY.o.keep HST.o.below) hkv;have hyB:vs[k]<4294967296:=HV.o vs[k] (aB _);have HTY:=zh (nN hkv);generalize vs[k]=y at*
     have q2:(k:Int)<(vs.length:Int):=by omega
     have d1:decide ((k:Int)<(vs.length:Int))=true:=dT q2;have d1':decide (k<vs.length)=true:=dT hkv
     have w2:IntKind.u64.wrap (((cr+x:Nat):Int)+(y:Int))=((cr+x+y:Nat):Int):=by have:=mA (cr+x+y) (by omega);simpa using this
     go_wp2;go_roundw
     case rel=>
      have hs:=HST.o.step hku (aA _) hxB hyB HTX.o HTY.o
      have e:(((cr+x+y)%B:Nat):Int)=((cr:Int)+(x:Int)+(y:Int))%4294967296:=by simp only[B];omega
      rw[e]at hs;exact⟨k+1,(cr+x+y)/B,_,by simp only[B];congr 1,by go_num,by omega,zh hs⟩
     case measure=>simp[intOf];omega
    have d1:decide ((k:Int)<(vs.length:Int))=false:=dF (by omega);have d1':decide (k<vs.length)=false:=dF hkv;have HTY:Hid (val (vs.take (k+1))=val (vs.take k)+B^k*0):=zh (by rw[nR (by omega),nR (by omega)];omega);go_wp2;go_roundw
    case rel=>
     have hs:=HST.o.step hku (aA _) hxB (y:=0) (by decide) HTX.o HTY.o
     have e:(((cr+x+0)%B:Nat):Int)=((cr:Int)+(x:Int))%4294967296:=by simp only[B];omega
     rw[e]at hs;exact⟨k+1,(cr+x+0)/B,_,by simp only[B];congr 1,by go_num,by omega,zh hs⟩
    case measure=>simp[intOf];omega
   obtain rfl:k=us.length:=by omega
   have dd:decide (us.length<us.length)=false:=by simp
   have hz1:us.length+1-us.length=1:=by omega
   have hb1:=HST.o.blk;rw[hz1]at hb1;have c0:=hb1.cell us.length;have f0:=hb1.frozen us.length
   have hzl:(zs++List.replicate 1 0).length=us.length+1:=by rw[aC,bU,HST.o.len]
   rw[sS _ (by rw[hzl];omega)]at c0;generalize (zs++List.replicate 1 0)[us.length]'(by rw[hzl];omega)=old at c0;have hsum:=HST.o.sum;rw[eE,nR hl]at hsum
   have q1':(us.length:Int)<(us.length:Int)+1:=by omega
   have hcm:(cr:Int)%4294967296=(cr:Int):=by omega
   have hB2:Blk (wo.setCell ⟨w.heap.size,us.length,none⟩ (.int .u32 (cr:Nat))) w.heap.size 168 (tM (zs++[cr])):=by
    have:=hb1.set us.length (.int .u32 (cr:Nat))
    rwa [sE,show zs++List.replicate 1 0=zs++[0]from rfl,cX _ _ (by rw[HST.o.len];exact aA _),HST.o.len,cP,dL]at this
   have hdig:Dig (zs++[cr]):=λz hz=>by
    rcases aK.1 hz with hz|hz
    ·exact HST.o.dig z hz
    rw[aN.1 hz];simp only[B];omega
   have hlen:(zs++[cr]).length=us.length+1:=by rw[aC,HST.o.len];rfl
   have HT:=zh (uM (some ⟨w.heap.size,0,none⟩) (us.length+1) (zs++[cr]) _ (tF hB2) hdig (by omega) (by omega));have HVL:Hid (val (zs++[cr])=val us+val vs):=zh (by rw[lG,HST.o.len];simp only[val,dN,bW];exact hsum);have hdl:=qG hdig;rw[hlen,HVL.o]at HT;rw[hlen,HVL.o]at hdl;clear hsum hzl hB2 hdig hlen hb1 hz1
   go_wp2_with (go_at_call 130;refine HT.o.mono ?_;rintro e w' ⟨rfl,rfl,hD⟩)
   go_ret;exact⟨_,_,rfl,ND.some hD hdl,hJ HST.o.below (aA _) _ _⟩
theorem aJl (X Y:Option Addr)(cx cy a b:Nat)(w:World)(hX:kN w X (dg a))(hY:kN w Y (dg b))(ha:(dg a).length<=400000)(hb:(dg b).length<=400000):
    Calls Tryz.prog 128 #[.slice X (dg a).length cx,.slice Y (dg b).length cy] w (yS (a+b) w):=by
  by_cases h:(dg b).length<=(dg a).length
  ·have:=aMg X Y cx cy (dg a) (dg b) w hX hY (kH a) (kH b) h ha
   rwa [kE,kE]at this
  have:=aMh Y X cy cx (dg b) (dg a) w hY hX (kH b) (kH a) (by omega) hb
  rwa [kE,kE,gC b a]at this
end Go.Proofs.Tg
