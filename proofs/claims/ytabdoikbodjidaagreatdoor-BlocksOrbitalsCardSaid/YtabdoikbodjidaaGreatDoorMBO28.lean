/- Parts of the proof. -/
import Derived.Test.YtabdoikbodjidaaGreatDoorMBO27
set_option maxHeartbeats 64000000
set_option maxRecDepth 100000
namespace Go.Proofs.Tg.Iw
open Go.RowKit Go.Bw Go.Gr Go.Proofs.Tg Go.Rq
structure aOH (w0:World)(g h:Nat)(s:Bool)(l m:Nat)(A:Option Addr)(c:Nat)(D:Option Addr)(d:Nat)(n k:Nat)(wx:World):Prop where
  below:Below w0.heap.size w0 wx
  bg:Blk wx g 118 #[.bool s,.slice A l c]
  bh:Blk wx h 118 #[.bool false,.slice D m d]
  hg:w0.heap.size<=g
  hh:w0.heap.size<=h
  na:NW wx A c n
  nd:NW wx D d k
theorem aKK (p q:Rat)(N1 D1 N2 D2:Option Addr)(c1 d1 c2 d2:Nat)(w:World)(h1:mJ w p N1 c1 D1 d1)(h2:mJ w q N2 c2 D2 d2)(hp:p.num≠0)(hq:q.num≠0)(hw:¬(p.den=1/\q.den=1))
    (bn1:(dg p.num.natAbs).length<40) (bd1:(dg p.den).length<40) (bn2:(dg q.num.natAbs).length<40) (bd2:(dg q.den).length<40) (hT:Tab w):
    Calls Tryz.prog 104 #[rval p N1 c1 D1 d1,rval q N2 c2 D2 d2] w (mR (p*q) w):=by
  obtain⟨e1,e2⟩:=aBU p q;obtain⟨za,hza⟩:=eqx (p.num.tdiv (Nat.gcd p.num.natAbs q.den:Nat));obtain⟨zb,hzb⟩:=eqx (q.num.tdiv (Nat.gcd q.num.natAbs p.den:Nat));obtain⟨ma,hma⟩:=eqx (q.den/Nat.gcd p.num.natAbs q.den);obtain⟨mb,hmb⟩:=eqx (p.den/Nat.gcd q.num.natAbs p.den);rw[hza,hzb]at e1;rw[hma,hmb]at e2;unfold rval;obtain⟨s1,hs1⟩:=eqx (decide (p.num<0));obtain⟨s2,hs2⟩:=eqx (decide (q.num<0));obtain⟨l1,hl1⟩:=eqx ((dg p.num.natAbs).length);obtain⟨l2,hl2⟩:=eqx ((dg q.num.natAbs).length);obtain⟨k1,hk1⟩:=eqx ((dg (dnz p.den)).length);obtain⟨k2,hk2⟩:=eqx ((dg (dnz q.den)).length);obtain⟨f1,hf1⟩:=eqx ((dg p.den).length);obtain⟨f2,hf2⟩:=eqx ((dg q.den).length);rw[hs1,hs2,hl1,hl2,hk1,hk2];have dn1:decide (l1=0)=false:=dF (by rw[<-hl1];have:=(kB (u:=p.num.natAbs)).2 (by omega);omega)
  have dn2:decide (l2=0)=false:=dF (by rw[<-hl2];have:=(kB (u:=q.num.natAbs)).2 (by omega);omega)
  have hor:k1≠0∨(k1=0/\k2≠0):=by
   have a1:p.den≠1->k1≠0:=λh=>by rw[<-hk1,lH h];have:=(kB (u:=p.den)).2 p.den_nz;omega
   have a2:q.den≠1->k2≠0:=λh=>by rw[<-hk2,lH h];have:=(kB (u:=q.den)).2 q.den_nz;omega
   by_cases h1:p.den=1
   ·exact .inr ⟨by rw[<-hk1,h1,lK,jS];rfl,a2 λh=>hw ⟨h1,h⟩⟩
   exact .inl (a1 h1)
  obtain⟨W,hW⟩:=eqx (((w.alloc (.cells #[.bool s1,.slice N1 l1 c1,.bool false,.slice D1 k1 d1] 120)).alloc (.cells #[.bool s2,.slice N2 l2 c2,.bool false,.slice D2 k2 d2] 120)).alloc (.cells #[.bool false,.slice none 0 0,.bool false,.slice none 0 0] 120))
  have B0:Blk W w.heap.size 120 #[.bool s1,.slice N1 l1 c1,.bool false,.slice D1 k1 d1]:=by rw[<-hW];exact((Blk.new _ _ _).alloc _).alloc _
  have B1:Blk W (w.heap.size+1) 120 #[.bool s2,.slice N2 l2 c2,.bool false,.slice D2 k2 d2]:=by
   rw[<-hW];have:=(Blk.new (w.alloc (.cells #[.bool s1,.slice N1 l1 c1,.bool false,.slice D1 k1 d1] 120)) 120 #[.bool s2,.slice N2 l2 c2,.bool false,.slice D2 k2 d2]).alloc (.cells #[.bool false,.slice none 0 0,.bool false,.slice none 0 0] 120);simpa using this
  have B2:Blk W (w.heap.size+1+1) 120 #[.bool false,.slice none 0 0,.bool false,.slice none 0 0]:=by
   rw[<-hW];have:=Blk.new ((w.alloc (.cells #[.bool s1,.slice N1 l1 c1,.bool false,.slice D1 k1 d1] 120)).alloc (.cells #[.bool s2,.slice N2 l2 c2,.bool false,.slice D2 k2 d2] 120)) 120 #[.bool false,.slice none 0 0,.bool false,.slice none 0 0];simpa using this
  have hbW:Below w.heap.size w W:=by rw[<-hW];exact((bal).alloc (by simp) _).alloc (by simp;omega) _
  have hsW:w.heap.size+3<=W.heap.size:=by rw[<-hW];simp
  have HB0:=zh B0;have HB1:=zh B1;have HB2:=zh B2;have HWW:=zh hW;have HBW:=zh hbW;have H1:=zh (h1.keep hbW);have H2:=zh (h2.keep hbW);have hTW:=hT.below hbW hT.1;have hTB:1<W.heap.size:=aH hT.1 hbW.size;have HZ:Hid (∀V x A n c,Calls Tryz.prog 94 #[.agg #[.bool x,.slice A n c]] V λe w'=>e=.returned (.bool (decide (n=0)))/\Below V.heap.size V w'):=zh (λV x A n c=>lW x A n c V)
  have HDP:Hid (∀V,Below W.heap.size W V->Calls Tryz.prog 150 #[.agg #[.bool s1,.slice N1 l1 c1,.bool false,.slice D1 k1 d1]] V λe w'=>∃R c,e=.returned (.agg #[.bool false,.slice R f1 c])/\NW w' R c p.den/\Below V.heap.size V w'):=zh (λV hV=>by
   have:=aKI p N1 D1 c1 d1 V (H1.o.keep hV);unfold rval at this;rw[nJ,hs1,hl1,hk1]at this;unfold lT at this;rw[hf1]at this
   exact this)
  have HDQ:Hid (∀V,Below W.heap.size W V->Calls Tryz.prog 150 #[.agg #[.bool s2,.slice N2 l2 c2,.bool false,.slice D2 k2 d2]] V λe w'=>∃R c,e=.returned (.agg #[.bool false,.slice R f2 c])/\NW w' R c q.den/\Below V.heap.size V w'):=zh (λV hV=>by
   have:=aKI q N2 D2 c2 d2 V (H2.o.keep hV);unfold rval at this;rw[nJ,hs2,hl2,hk2]at this;unfold lT at this;rw[hf2]at this
   exact this)
  obtain⟨sa,hsa⟩:=eqx (decide (za<0));obtain⟨sb,hsb⟩:=eqx (decide (zb<0));obtain⟨la,hla⟩:=eqx ((dg za.natAbs).length);obtain⟨lb,hlb⟩:=eqx ((dg zb.natAbs).length);obtain⟨xa,hxa⟩:=eqx ((dg ma).length);obtain⟨xb,hxb⟩:=eqx ((dg mb).length)
  have HCA:Hid (∀V,Below W.heap.size W V->∀R c,NW V R c q.den->Calls Tryz.prog 149 #[.agg #[.bool s1,.slice N1 l1 c1],.agg #[.bool false,.slice R f2 c]] V λe w'=>∃Ra ca Rb cb,e=.returned (.tuple #[.agg #[.bool sa,.slice Ra la ca],.agg #[.bool false,.slice Rb xa cb]])/\NW w' Ra ca za.natAbs/\NW w' Rb cb ma/\Below V.heap.size V w'):=zh (λV hV R c hR=>by
   have:=aDJ p.num q.den N1 R c1 c V (H1.o.num.keep hV) hR q.den_nz (by omega) (by omega) (.inl (by omega)) (hTW.below hV hTB);unfold yX at this;rw[hza,hma,hs1,hl1,hf2,hsa,hla,hxa]at this
   exact this)
  have HCB:Hid (∀V,Below W.heap.size W V->∀R c,NW V R c p.den->Calls Tryz.prog 149 #[.agg #[.bool s2,.slice N2 l2 c2],.agg #[.bool false,.slice R f1 c]] V λe w'=>∃Ra ca Rb cb,e=.returned (.tuple #[.agg #[.bool sb,.slice Ra lb ca],.agg #[.bool false,.slice Rb xb cb]])/\NW w' Ra ca zb.natAbs/\NW w' Rb cb mb/\Below V.heap.size V w'):=zh (λV hV R c hR=>by
   have:=aDJ q.num p.den N2 R c2 c V (H2.o.num.keep hV) hR p.den_nz (by omega) (by omega) (.inl (by omega)) (hTW.below hV hTB);unfold yX at this;rw[hzb,hmb,hs2,hl2,hf1,hsb,hlb,hxb]at this
   exact this)
  have hla40:la<40:=by
   rw[<-hla,<-hza,Int.natAbs_tdiv];exact bB (Go.Bw.jT (cF _ _)) (by omega)
  have hlb40:lb<40:=by
   rw[<-hlb,<-hzb,Int.natAbs_tdiv];exact bB (Go.Bw.jT (cF _ _)) (by omega)
  have hxa40:xa<40:=by
   rw[<-hxa,<-hma];exact bB (Go.Bw.jT (cF _ _)) (by omega)
  have hxb40:xb<40:=by
   rw[<-hxb,<-hmb];exact bB (Go.Bw.jT (cF _ _)) (by omega)
  obtain⟨sr,hsr⟩:=eqx (decide ((p*q).num<0));obtain⟨lr,hlr⟩:=eqx ((dg (p*q).num.natAbs).length);obtain⟨xr,hxr⟩:=eqx ((dg (p*q).den).length)
  have HMN:Hid (∀V A a B b,NW V A a za.natAbs->NW V B b zb.natAbs->Calls Tryz.prog 96 #[.agg #[.bool sa,.slice A la a],.agg #[.bool sb,.slice B lb b]] V λe w'=>∃R c,e=.returned (.agg #[.bool sr,.slice R lr c])/\NW w' R c (p*q).num.natAbs/\Below V.heap.size V w'):=zh (λV A a B b hA hB=>by
   have:=oO za zb A B a b V hA hB (by omega) (by omega) (.inl (by omega));rw[<-e1]at this;unfold oT at this;rw[hsa,hsb,hla,hlb,hsr,hlr]at this
   exact this)
  have HMD:Hid (∀V A a B b,NW V A a mb->NW V B b ma->Calls Tryz.prog 96 #[.agg #[.bool false,.slice A xb a],.agg #[.bool false,.slice B xa b]] V λe w'=>∃R c,e=.returned (.agg #[.bool false,.slice R xr c])/\NW w' R c (p*q).den/\Below V.heap.size V w'):=zh (λV A a B b hA hB=>by
   have:=oO (mb:Int) (ma:Int) A B a b V (by rw[aU];exact hA) (by rw[aU];exact hB) (by rw[aU];omega) (by rw[aU];omega) (.inl (by rw[aU];omega));rw[show(mb:Int)*(ma:Int)=(((p*q).den:Nat):Int) by rw[e2];simp,nJ]at this;unfold lT at this;rw[aU,aU,dF (show ¬(mb:Int)<0 by omega),dF (show ¬(ma:Int)<0 by omega),hxa,hxb,hxr]at this
   exact this)
  obtain⟨Q,hQ⟩:=eqx (mR (p*q) w)
  have HLW:Hid (∀V A a B b,NW V A a (p*q).num.natAbs->NW V B b (p*q).den->Calls Tryz.prog 100 #[.agg #[.bool sr,.slice A lr a],.agg #[.bool false,.slice B xr b]] V λe w'=>∃A' a' kr B' b',e=.returned (.agg #[.bool sr,.slice A' lr a',.bool false,.slice B' kr b'])/\Hid (mJ w' (p*q) A' a' B' b'/\kr=(dg (dnz (p*q).den)).length)/\Below V.heap.size V w'):=zh (λV A a B b hA hB=>by
   have:=aAT (p*q) A B a b V hA hB;rw[hsr,hlr,hxr]at this;refine this.mono ?_;rintro e w' ⟨A',a',B',b',rfl,h,hb⟩;unfold rval;rw[hsr,hlr]
   exact⟨A',a',_,B',b',rfl,zh ⟨h,rfl⟩,hb⟩)
  have HFIN:Hid (∀V A' a' kr B' b',Below W.heap.size W V->mJ V (p*q) A' a' B' b'->kr=(dg (dnz (p*q).den)).length->Q (.returned (.agg #[.bool sr,.slice A' lr a',.bool false,.slice B' kr b'])) ((((V.setCell ⟨w.heap.size+1+1,0,none⟩ (.bool sr)).setCell ⟨w.heap.size+1+1,1,none⟩ (.slice A' lr a')).setCell ⟨w.heap.size+1+1,2,none⟩ (.bool false)).setCell ⟨w.heap.size+1+1,3,none⟩ (.slice B' kr b'))):=zh (λV A' a' kr B' b' hV hR hk=>by
   have Y:=HB2.o.keep hV HB2.o.lt;rw[<-hQ];refine⟨A',a',B',b',?_,⟨lY hR.num (hR.num.offB Y rW) _ _ _ _,lY hR.den (hR.den.offB Y rW) _ _ _ _⟩,?_⟩
   ·unfold rval;rw[hsr,hlr,hk]
   exact hJ (hJ (hJ (hJ (dW hbW hV) (by omega) _ _) (by omega) _ _) (by omega) _ _) (by omega) _ _)
  rw[hQ];obtain⟨x0,x1,x2,x3,_,_,_,_⟩:=B0.four;obtain⟨y0,y1,y2,y3,_,_,_,_⟩:=B1.four;have hbe:Below W.heap.size W W:=bM _ _;clear hQ hW hbW B0 B1 B2 h1 h2 hp hq hw bn1 bn2 bd1 bd2 hT hTW hTB e1 e2 hza hzb hma hmb hs1 hs2 hl1 hl2 hk1 hk2 hf1 hf2 hsa hsb hla hlb hxa hxb hsr hlr hxr hla40 hlb40 hxa40 hxb40;go_enter Tryz.func104,Tryz.ntmps104;go_upto_region 1 with(fail);rw[HWW.o]
  go_upto_region 3 with(go_at_call 94;refine(HZ.o _ _ _ _ _).mono ?_;rintro e wA ⟨rfl,hb⟩;have hbe:=dW hbe hb;obtain⟨x0,x1,x2,x3,_,_,_,_⟩:=(HB0.o.keep hbe HB0.o.lt).four;obtain⟨y0,y1,y2,y3,_,_,_,_⟩:=(HB1.o.keep hbe HB1.o.lt).four;clear hb)
  go_cut [25] (λs25 wx=>s25=.bool false/\Hid (Below W.heap.size W wx))
  case first=>
   rcases hor with h0|⟨h0,h1⟩
   ·have dd1:decide (k1=0)=false:=dF h0;clear h0
    go_wp2_with (go_at_call 94;refine(HZ.o _ _ _ _ _).mono ?_;rintro e wA ⟨rfl,hb⟩;have hbe:=dW hbe hb;obtain⟨x0,x1,x2,x3,_,_,_,_⟩:=(HB0.o.keep hbe HB0.o.lt).four;obtain⟨y0,y1,y2,y3,_,_,_,_⟩:=(HB1.o.keep hbe HB1.o.lt).four;clear hb)
    go_meet;exact⟨rfl,zh hbe⟩
   have dd1:decide (k1=0)=true:=dT h0;have dd2:decide (k2=0)=false:=dF h1;clear h0 h1
   go_wp2_with (go_at_call 94;refine(HZ.o _ _ _ _ _).mono ?_;rintro e wA ⟨rfl,hb⟩;have hbe:=dW hbe hb;obtain⟨x0,x1,x2,x3,_,_,_,_⟩:=(HB0.o.keep hbe HB0.o.lt).four;obtain⟨y0,y1,y2,y3,_,_,_,_⟩:=(HB1.o.keep hbe HB1.o.lt).four;clear hb)
   go_meet;exact⟨rfl,zh hbe⟩
  obtain⟨rfl,HBE⟩:=hcut;obtain⟨wA,rfl⟩:∃x,x=wc:=⟨_,rfl⟩;clear hbe x0 x1 x2 x3 y0 y1 y2 y3;obtain⟨x0,x1,x2,x3,_,_,_,_⟩:=(HB0.o.keep HBE.o HB0.o.lt).four;obtain⟨y0,y1,y2,y3,_,_,_,_⟩:=(HB1.o.keep HBE.o HB1.o.lt).four;go_upto_region 5 with(fail);have HDP1:Hid (∀V,Below wA.heap.size wA V->Calls Tryz.prog 150 #[.agg #[.bool s1,.slice N1 l1 c1,.bool false,.slice D1 k1 d1]] V λe w'=>∃R c,e=.returned (.agg #[.bool false,.slice R f1 c])/\NW w' R c p.den/\Below V.heap.size V w'):=zh (λV hV=>HDP.o V (dW HBE.o hV))
  have HDQ1:Hid (∀V,Below wA.heap.size wA V->Calls Tryz.prog 150 #[.agg #[.bool s2,.slice N2 l2 c2,.bool false,.slice D2 k2 d2]] V λe w'=>∃R c,e=.returned (.agg #[.bool false,.slice R f2 c])/\NW w' R c q.den/\Below V.heap.size V w'):=zh (λV hV=>HDQ.o V (dW HBE.o hV));have HCA1:Hid (∀V,Below wA.heap.size wA V->∀R c,NW V R c q.den->Calls Tryz.prog 149 #[.agg #[.bool s1,.slice N1 l1 c1],.agg #[.bool false,.slice R f2 c]] V λe w'=>∃Ra ca Rb cb,e=.returned (.tuple #[.agg #[.bool sa,.slice Ra la ca],.agg #[.bool false,.slice Rb xa cb]])/\NW w' Ra ca za.natAbs/\NW w' Rb cb ma/\Below V.heap.size V w'):=zh (λV hV=>HCA.o V (dW HBE.o hV))
  have HCB1:Hid (∀V,Below wA.heap.size wA V->∀R c,NW V R c p.den->Calls Tryz.prog 149 #[.agg #[.bool s2,.slice N2 l2 c2],.agg #[.bool false,.slice R f1 c]] V λe w'=>∃Ra ca Rb cb,e=.returned (.tuple #[.agg #[.bool sb,.slice Ra lb ca],.agg #[.bool false,.slice Rb xb cb]])/\NW w' Ra ca zb.natAbs/\NW w' Rb cb mb/\Below V.heap.size V w'):=zh (λV hV=>HCB.o V (dW HBE.o hV));clear HDP HDQ HCA HCB HZ dn1 dn2 hor
  go_cut [5,6] (λs5 s6 wx=>∃(g5 g6:Nat) (Ra:Option Addr) (ra:Nat) (Rb:Option Addr) (rb:Nat),s5=.pointer (some ⟨g5,0,none⟩)/\s6=.pointer (some ⟨g6,0,none⟩)/\Hid (aOH wA g5 g6 sa la xa Ra ra Rb rb za.natAbs ma wx))
  case first=>
   have kc:∀V,Below wA.heap.size wA V->V.cell? ⟨w.heap.size,0,none⟩=some (.bool s1)/\V.cell? ⟨w.heap.size,1,none⟩=some (.slice N1 l1 c1)/\V.cell? ⟨w.heap.size+1,0,none⟩=some (.bool s2)/\V.cell? ⟨w.heap.size+1,1,none⟩=some (.slice N2 l2 c2)/\V.cell? ⟨w.heap.size+1,2,none⟩=some (.bool false)/\V.cell? ⟨w.heap.size+1,3,none⟩=some (.slice D2 k2 d2):=λV h=>⟨gL h x0,gL h x1,gL h y0,gL h y1,gL h y2,gL h y3⟩
   have BZ:Below wA.heap.size wA wA.drew:=brf.drew;refine dG (S:=(λw'=>w'.cell? ⟨w.heap.size,0,none⟩=some (.bool s1)/\w'.cell? ⟨w.heap.size,1,none⟩=some (.slice N1 l1 c1)/\w'.cell? ⟨w.heap.size+1,0,none⟩=some (.bool s2)/\w'.cell? ⟨w.heap.size+1,1,none⟩=some (.slice N2 l2 c2)/\w'.cell? ⟨w.heap.size+1,2,none⟩=some (.bool false)/\w'.cell? ⟨w.heap.size+1,3,none⟩=some (.slice D2 k2 d2))) (by kernel_rfl) (kc _ BZ) (λhHeld=>?_);generalize wA.drew=Z at*
   repeat' (first
     |(refine gLd 0 33 (.pointer (some ⟨w.heap.size,0,none⟩)) rfl rfl hHeld ?_;(try simp only[jA]))
     |(refine gLd 1 34 (.agg #[.bool s1,.slice N1 l1 c1]) rfl rfl hHeld ?_;(try simp only[jA]))
     |(refine gLd 2 35 (.agg #[.bool s2,.slice N2 l2 c2,.bool false,.slice D2 k2 d2]) rfl rfl hHeld ?_;(try simp only[jA]))
     |(refine gLd 5 32 (.tuple #[.agg #[.bool sa,.slice Ra la ra],.agg #[.bool false,.slice Rb xa rb]]) rfl rfl hHeld ?_;(try simp only[jA]))
     |(refine gLd 6 38 (.agg #[.bool sa,.slice Ra la ra]) rfl rfl hHeld ?_;(try simp only[jA]))
     |(refine gLd 7 39 (.agg #[.bool false,.slice Rb xa rb]) rfl rfl hHeld ?_;(try simp only[jA]))
     |(refine gRd [9] ?_)
     |(refine gRd [10] ?_)
     |(refine gRd [11] ?_)
     |(refine gRd [8] ?_)
     |(refine gRd [4] ?_)
     |(refine gRd [3] ?_)
     |(refine gRd [8,9] ?_)
     |(refine gRd [4,9] ?_)
     |(refine gRd [4,8] ?_)
     |(refine gRd [3,9] ?_)
     |(refine gRd [3,8] ?_)
     |(refine gRd [3,8,9] ?_)
     |(refine gRd [4,8,9] ?_)
     |(exact dM)
     |(refine gCs rfl ?_ ?_)
     |(have _:OpN 3:=tg;clear tg;with_reducible refine bE (HDQ1.o _ BZ) ?_;rintro e Zn ⟨Re,re,rfl,nex,hb⟩;(try replace NA:=zh (NA.o.keep hb));(try replace NB:=zh (NB.o.keep hb));(try replace Y5:=zh (Y5.o.keep hb Y5.o.lt));(try replace Y6:=zh (Y6.o.keep hb Y6.o.lt));have NE:=zh nex;replace BZ:=dW BZ hb;(try go_simp);clear hHeld;refine hK.o _ _ (kc _ BZ) (λhHeld=>?_);clear hK K hb nex;obtain⟨Z,rfl⟩:∃x,x=Zn:=⟨_,rfl⟩;(try (replace BZ:=BZn;clear BZn));(try simp only[jA]))
     |(have _:OpN 4:=tg;clear tg;with_reducible refine bE (HCA1.o _ BZ _ _ NE.o) ?_;rintro e Zn ⟨Ra,ra,Rb,rb,rfl,nax,nbx,hb⟩;(try replace NE:=zh (NE.o.keep hb));(try replace Y5:=zh (Y5.o.keep hb Y5.o.lt));(try replace Y6:=zh (Y6.o.keep hb Y6.o.lt));have NA:=zh nax;have NB:=zh nbx;replace BZ:=dW BZ hb;(try go_simp);clear hHeld;refine hK.o _ _ (kc _ BZ) (λhHeld=>?_);clear hK K hb nax nbx;obtain⟨Z,rfl⟩:∃x,x=Zn:=⟨_,rfl⟩;(try (replace BZ:=BZn;clear BZn));(try simp only[jA]))
     |(have _:OpN 8:=tg;clear tg;have hba:=aAU Z (.cells #[.bool false,.slice none 0 0] 118);have BZn:=dW BZ hba;(try have n6_5:g6≠Z.heap.size:=Nat.ne_of_lt Y6.o.lt);(try replace NE:=zh (NE.o.keep hba));(try replace NA:=zh (NA.o.keep hba));(try replace NB:=zh (NB.o.keep hba));(try replace Y6:=zh (Y6.o.keep hba Y6.o.lt));have Y5:=zh (Blk.new Z 118 #[.bool false,.slice none 0 0]);have hg5:=BZ.size;clear hHeld;refine hK.o _ _ (kc _ BZn) (λhHeld=>?_);clear hK K hba;(try simp only[jA]);generalize Z.alloc (.cells #[.bool false,.slice none 0 0] 118)=Zn at*;generalize Z.heap.size=g5 at*;obtain⟨Z,rfl⟩:∃x,x=Zn:=⟨_,rfl⟩;(try (replace BZ:=BZn;clear BZn));(try simp only[jA]))
     |(have _:OpN 9:=tg;clear tg;have hba:=aAU Z (.cells #[.bool false,.slice none 0 0] 118);have BZn:=dW BZ hba;(try have n5_6:g5≠Z.heap.size:=Nat.ne_of_lt Y5.o.lt);(try replace NE:=zh (NE.o.keep hba));(try replace NA:=zh (NA.o.keep hba));(try replace NB:=zh (NB.o.keep hba));(try replace Y5:=zh (Y5.o.keep hba Y5.o.lt));have Y6:=zh (Blk.new Z 118 #[.bool false,.slice none 0 0]);have hg6:=BZ.size;clear hHeld;refine hK.o _ _ (kc _ BZn) (λhHeld=>?_);clear hK K hba;(try simp only[jA]);generalize Z.alloc (.cells #[.bool false,.slice none 0 0] 118)=Zn at*;generalize Z.heap.size=g6 at*;obtain⟨Z,rfl⟩:∃x,x=Zn:=⟨_,rfl⟩;(try (replace BZ:=BZn;clear BZn));(try simp only[jA]))
     |(have _:OpN 10:=tg;clear tg;obtain⟨t0,t1,f0,f1⟩:=Y5.o.two;(try go_simp);have Yx:=zh (vM (Y5.o) (.bool sa) (.slice Ra la ra));replace Y6:=zh (yG Y6.o (show g6≠g5 by first|exact n6_5|exact(n5_6).symm) (.bool sa) (.slice Ra la ra));replace NE:=zh (NE.o.two Y5.o (.bool sa) (.slice Ra la ra));replace NA:=zh (NA.o.two Y5.o (.bool sa) (.slice Ra la ra));replace NB:=zh (NB.o.two Y5.o (.bool sa) (.slice Ra la ra));have BZn:=hJ (hJ BZ hg5 0 (.bool sa)) hg5 1 (.slice Ra la ra);clear Y5 t0 t1 f0 f1;have Y5:=Yx;clear Yx hHeld;refine hK.o _ _ (kc _ BZn) (λhHeld=>?_);clear hK K;(try simp only[jA]);generalize (Z.setCell ⟨g5,0,none⟩ (.bool sa)).setCell ⟨g5,1,none⟩ (.slice Ra la ra)=Zn at*;obtain⟨Z,rfl⟩:∃x,x=Zn:=⟨_,rfl⟩;(try (replace BZ:=BZn;clear BZn));(try simp only[jA]))
     |(have _:OpN 11:=tg;clear tg;obtain⟨t0,t1,f0,f1⟩:=Y6.o.two;(try go_simp);have Yx:=zh (vM (Y6.o) (.bool false) (.slice Rb xa rb));replace Y5:=zh (yG Y5.o (show g5≠g6 by first|exact n5_6|exact(n6_5).symm) (.bool false) (.slice Rb xa rb));replace NE:=zh (NE.o.two Y6.o (.bool false) (.slice Rb xa rb));replace NA:=zh (NA.o.two Y6.o (.bool false) (.slice Rb xa rb));replace NB:=zh (NB.o.two Y6.o (.bool false) (.slice Rb xa rb));have BZn:=hJ (hJ BZ hg6 0 (.bool false)) hg6 1 (.slice Rb xa rb);clear Y6 t0 t1 f0 f1;have Y6:=Yx;clear Yx hHeld;refine hK.o _ _ (kc _ BZn) (λhHeld=>?_);clear hK K;(try simp only[jA]);generalize (Z.setCell ⟨g6,0,none⟩ (.bool false)).setCell ⟨g6,1,none⟩ (.slice Rb xa rb)=Zn at*;obtain⟨Z,rfl⟩:∃x,x=Zn:=⟨_,rfl⟩;(try (replace BZ:=BZn;clear BZn));(try simp only[jA]))
     |(refine fD (by decide+kernel) ?_ _)
     |(intro K hK tg;go_simp))
   all_goals
     go_wp2;go_meet;exact⟨g5,g6,Ra,ra,Rb,rb,rfl,rfl,zh ⟨BZ,Y5.o,Y6.o,hg5,hg6,NA.o,NB.o⟩⟩
  obtain⟨g5,g6,Ra,ra,Rb,rb,rfl,rfl,HC5⟩:=hcut;obtain⟨wB,rfl⟩:∃x,x=wc:=⟨_,rfl⟩;have x0:=gL HC5.o.below x0;have x1:=gL HC5.o.below x1;have x2:=gL HC5.o.below x2;have x3:=gL HC5.o.below x3;have y0:=gL HC5.o.below y0;have y1:=gL HC5.o.below y1;have HDP2:Hid (∀V,Below wB.heap.size wB V->Calls Tryz.prog 150 #[.agg #[.bool s1,.slice N1 l1 c1,.bool false,.slice D1 k1 d1]] V λe w'=>∃R c,e=.returned (.agg #[.bool false,.slice R f1 c])/\NW w' R c p.den/\Below V.heap.size V w'):=zh (λV hV=>HDP1.o V (dW HC5.o.below hV))
  have HCB2:Hid (∀V,Below wB.heap.size wB V->∀R c,NW V R c p.den->Calls Tryz.prog 149 #[.agg #[.bool s2,.slice N2 l2 c2],.agg #[.bool false,.slice R f1 c]] V λe w'=>∃Ra ca Rb cb,e=.returned (.tuple #[.agg #[.bool sb,.slice Ra lb ca],.agg #[.bool false,.slice Rb xb cb]])/\NW w' Ra ca zb.natAbs/\NW w' Rb cb mb/\Below V.heap.size V w'):=zh (λV hV=>HCB1.o V (dW HC5.o.below hV));clear HDP1 HDQ1 HCA1 HCB1;go_upto_region 6 with(fail)
  go_cut [7,8] (λs7 s8 wx=>∃(g7 g8:Nat) (Rc:Option Addr) (rc:Nat) (Rd:Option Addr) (rd:Nat),s7=.pointer (some ⟨g7,0,none⟩)/\s8=.pointer (some ⟨g8,0,none⟩)/\Hid (aOH wB g7 g8 sb lb xb Rc rc Rd rd zb.natAbs mb wx))
  case first=>
   have kc:∀V,Below wB.heap.size wB V->V.cell? ⟨w.heap.size+1,0,none⟩=some (.bool s2)/\V.cell? ⟨w.heap.size+1,1,none⟩=some (.slice N2 l2 c2)/\V.cell? ⟨w.heap.size,0,none⟩=some (.bool s1)/\V.cell? ⟨w.heap.size,1,none⟩=some (.slice N1 l1 c1)/\V.cell? ⟨w.heap.size,2,none⟩=some (.bool false)/\V.cell? ⟨w.heap.size,3,none⟩=some (.slice D1 k1 d1):=λV h=>⟨gL h y0,gL h y1,gL h x0,gL h x1,gL h x2,gL h x3⟩
   have BZ:Below wB.heap.size wB wB.drew:=brf.drew;refine dG (S:=(λw'=>w'.cell? ⟨w.heap.size+1,0,none⟩=some (.bool s2)/\w'.cell? ⟨w.heap.size+1,1,none⟩=some (.slice N2 l2 c2)/\w'.cell? ⟨w.heap.size,0,none⟩=some (.bool s1)/\w'.cell? ⟨w.heap.size,1,none⟩=some (.slice N1 l1 c1)/\w'.cell? ⟨w.heap.size,2,none⟩=some (.bool false)/\w'.cell? ⟨w.heap.size,3,none⟩=some (.slice D1 k1 d1))) (by kernel_rfl) (kc _ BZ) (λhHeld=>?_);generalize wB.drew=Z at*
   repeat' (first
     |(refine gLd 0 41 (.pointer (some ⟨w.heap.size+1,0,none⟩)) rfl rfl hHeld ?_;(try simp only[jA]))
     |(refine gLd 1 42 (.agg #[.bool s2,.slice N2 l2 c2]) rfl rfl hHeld ?_;(try simp only[jA]))
     |(refine gLd 2 43 (.agg #[.bool s1,.slice N1 l1 c1,.bool false,.slice D1 k1 d1]) rfl rfl hHeld ?_;(try simp only[jA]))
     |(refine gLd 5 40 (.tuple #[.agg #[.bool sb,.slice Rc lb rc],.agg #[.bool false,.slice Rd xb rd]]) rfl rfl hHeld ?_;(try simp only[jA]))
     |(refine gLd 6 46 (.agg #[.bool sb,.slice Rc lb rc]) rfl rfl hHeld ?_;(try simp only[jA]))
     |(refine gLd 7 47 (.agg #[.bool false,.slice Rd xb rd]) rfl rfl hHeld ?_;(try simp only[jA]))
     |(refine gRd [9] ?_)
     |(refine gRd [10] ?_)
     |(refine gRd [11] ?_)
     |(refine gRd [8] ?_)
     |(refine gRd [4] ?_)
     |(refine gRd [3] ?_)
     |(refine gRd [8,9] ?_)
     |(refine gRd [4,9] ?_)
     |(refine gRd [4,8] ?_)
     |(refine gRd [3,9] ?_)
     |(refine gRd [3,8] ?_)
     |(refine gRd [3,8,9] ?_)
     |(refine gRd [4,8,9] ?_)
     |(exact dM)
     |(refine gCs rfl ?_ ?_)
     |(have _:OpN 3:=tg;clear tg;with_reducible refine bE (HDP2.o _ BZ) ?_;rintro e Zn ⟨Re,re,rfl,nex,hb⟩;(try replace NC:=zh (NC.o.keep hb));(try replace ND:=zh (ND.o.keep hb));(try replace Y7:=zh (Y7.o.keep hb Y7.o.lt));(try replace Y8:=zh (Y8.o.keep hb Y8.o.lt));have NE:=zh nex;replace BZ:=dW BZ hb;(try go_simp);clear hHeld;refine hK.o _ _ (kc _ BZ) (λhHeld=>?_);clear hK K hb nex;obtain⟨Z,rfl⟩:∃x,x=Zn:=⟨_,rfl⟩;(try (replace BZ:=BZn;clear BZn));(try simp only[jA]))
     |(have _:OpN 4:=tg;clear tg;with_reducible refine bE (HCB2.o _ BZ _ _ NE.o) ?_;rintro e Zn ⟨Rc,rc,Rd,rd,rfl,ncx,ndx,hb⟩;(try replace NE:=zh (NE.o.keep hb));(try replace Y7:=zh (Y7.o.keep hb Y7.o.lt));(try replace Y8:=zh (Y8.o.keep hb Y8.o.lt));have NC:=zh ncx;have ND:=zh ndx;replace BZ:=dW BZ hb;(try go_simp);clear hHeld;refine hK.o _ _ (kc _ BZ) (λhHeld=>?_);clear hK K hb ncx ndx;obtain⟨Z,rfl⟩:∃x,x=Zn:=⟨_,rfl⟩;(try (replace BZ:=BZn;clear BZn));(try simp only[jA]))
     |(have _:OpN 8:=tg;clear tg;have hba:=aAU Z (.cells #[.bool false,.slice none 0 0] 118);have BZn:=dW BZ hba;(try have n8_7:g8≠Z.heap.size:=Nat.ne_of_lt Y8.o.lt);(try replace NE:=zh (NE.o.keep hba));(try replace NC:=zh (NC.o.keep hba));(try replace ND:=zh (ND.o.keep hba));(try replace Y8:=zh (Y8.o.keep hba Y8.o.lt));have Y7:=zh (Blk.new Z 118 #[.bool false,.slice none 0 0]);have hg7:=BZ.size;clear hHeld;refine hK.o _ _ (kc _ BZn) (λhHeld=>?_);clear hK K hba;(try simp only[jA]);generalize Z.alloc (.cells #[.bool false,.slice none 0 0] 118)=Zn at*;generalize Z.heap.size=g7 at*;obtain⟨Z,rfl⟩:∃x,x=Zn:=⟨_,rfl⟩;(try (replace BZ:=BZn;clear BZn));(try simp only[jA]))
     |(have _:OpN 9:=tg;clear tg;have hba:=aAU Z (.cells #[.bool false,.slice none 0 0] 118);have BZn:=dW BZ hba;(try have n7_8:g7≠Z.heap.size:=Nat.ne_of_lt Y7.o.lt);(try replace NE:=zh (NE.o.keep hba));(try replace NC:=zh (NC.o.keep hba));(try replace ND:=zh (ND.o.keep hba));(try replace Y7:=zh (Y7.o.keep hba Y7.o.lt));have Y8:=zh (Blk.new Z 118 #[.bool false,.slice none 0 0]);have hg8:=BZ.size;clear hHeld;refine hK.o _ _ (kc _ BZn) (λhHeld=>?_);clear hK K hba;(try simp only[jA]);generalize Z.alloc (.cells #[.bool false,.slice none 0 0] 118)=Zn at*;generalize Z.heap.size=g8 at*;obtain⟨Z,rfl⟩:∃x,x=Zn:=⟨_,rfl⟩;(try (replace BZ:=BZn;clear BZn));(try simp only[jA]))
     |(have _:OpN 10:=tg;clear tg;obtain⟨t0,t1,f0,f1⟩:=Y7.o.two;(try go_simp);have Yx:=zh (vM (Y7.o) (.bool sb) (.slice Rc lb rc));replace Y8:=zh (yG Y8.o (show g8≠g7 by first|exact n8_7|exact(n7_8).symm) (.bool sb) (.slice Rc lb rc));replace NE:=zh (NE.o.two Y7.o (.bool sb) (.slice Rc lb rc));replace NC:=zh (NC.o.two Y7.o (.bool sb) (.slice Rc lb rc));replace ND:=zh (ND.o.two Y7.o (.bool sb) (.slice Rc lb rc));have BZn:=hJ (hJ BZ hg7 0 (.bool sb)) hg7 1 (.slice Rc lb rc);clear Y7 t0 t1 f0 f1;have Y7:=Yx;clear Yx hHeld;refine hK.o _ _ (kc _ BZn) (λhHeld=>?_);clear hK K;(try simp only[jA]);generalize (Z.setCell ⟨g7,0,none⟩ (.bool sb)).setCell ⟨g7,1,none⟩ (.slice Rc lb rc)=Zn at*;obtain⟨Z,rfl⟩:∃x,x=Zn:=⟨_,rfl⟩;(try (replace BZ:=BZn;clear BZn));(try simp only[jA]))
     |(have _:OpN 11:=tg;clear tg;obtain⟨t0,t1,f0,f1⟩:=Y8.o.two;(try go_simp);have Yx:=zh (vM (Y8.o) (.bool false) (.slice Rd xb rd));replace Y7:=zh (yG Y7.o (show g7≠g8 by first|exact n7_8|exact(n8_7).symm) (.bool false) (.slice Rd xb rd));replace NE:=zh (NE.o.two Y8.o (.bool false) (.slice Rd xb rd));replace NC:=zh (NC.o.two Y8.o (.bool false) (.slice Rd xb rd));replace ND:=zh (ND.o.two Y8.o (.bool false) (.slice Rd xb rd));have BZn:=hJ (hJ BZ hg8 0 (.bool false)) hg8 1 (.slice Rd xb rd);clear Y8 t0 t1 f0 f1;have Y8:=Yx;clear Yx hHeld;refine hK.o _ _ (kc _ BZn) (λhHeld=>?_);clear hK K;(try simp only[jA]);generalize (Z.setCell ⟨g8,0,none⟩ (.bool false)).setCell ⟨g8,1,none⟩ (.slice Rd xb rd)=Zn at*;obtain⟨Z,rfl⟩:∃x,x=Zn:=⟨_,rfl⟩;(try (replace BZ:=BZn;clear BZn));(try simp only[jA]))
     |(refine fD (by decide+kernel) ?_ _)
     |(intro K hK tg;go_simp))
   all_goals
     go_wp2;go_meet;exact⟨g7,g8,Rc,rc,Rd,rd,rfl,rfl,zh ⟨BZ,Y7.o,Y8.o,hg7,hg8,NC.o,ND.o⟩⟩
  obtain⟨g7,g8,Rc,rc,Rd,rd,rfl,rfl,HC7⟩:=hcut;obtain⟨wC,rfl⟩:∃x,x=wc:=⟨_,rfl⟩;have HBC:=zh (dW HBE.o (dW HC5.o.below HC7.o.below));have HM1:Hid (∀V,Below wC.heap.size wC V->Calls Tryz.prog 96 #[.agg #[.bool sa,.slice Ra la ra],.agg #[.bool sb,.slice Rc lb rc]] V λe w'=>∃R c,e=.returned (.agg #[.bool sr,.slice R lr c])/\NW w' R c (p*q).num.natAbs/\Below V.heap.size V w'):=zh (λV hV=>HMN.o V _ _ _ _ ((HC5.o.na.keep HC7.o.below).keep hV) (HC7.o.na.keep hV))
  have HM2:Hid (∀V,Below wC.heap.size wC V->Calls Tryz.prog 96 #[.agg #[.bool false,.slice Rd xb rd],.agg #[.bool false,.slice Rb xa rb]] V λe w'=>∃R c,e=.returned (.agg #[.bool false,.slice R xr c])/\NW w' R c (p*q).den/\Below V.heap.size V w'):=zh (λV hV=>HMD.o V _ _ _ _ (HC7.o.nd.keep hV) ((HC5.o.nd.keep HC7.o.below).keep hV));have HL1:Hid (∀V,Below wC.heap.size wC V->∀A a B b,NW V A a (p*q).num.natAbs->NW V B b (p*q).den->Calls Tryz.prog 100 #[.agg #[.bool sr,.slice A lr a],.agg #[.bool false,.slice B xr b]] V λe w'=>∃A' a' kr B' b',e=.returned (.agg #[.bool sr,.slice A' lr a',.bool false,.slice B' kr b'])/\Hid (mJ w' (p*q) A' a' B' b'/\kr=(dg (dnz (p*q).den)).length)/\Below V.heap.size V w'):=zh (λV hV A a B b=>HLW.o V A a B b);have HR0:=zh (HB2.o.keep HBC.o HB2.o.lt)
  have hWC:=HBC.o.size;have hg5:=HC5.o.hg;have hg6:=HC5.o.hh;have hg7:=HC7.o.hg;have hg8:=HC7.o.hh;have hAs:=HBE.o.size;have hBs:=HC5.o.below.size;obtain⟨p0,p1,_,_⟩:=(HC5.o.bg.keep HC7.o.below HC5.o.bg.lt).two;obtain⟨u0,u1,_,_⟩:=(HC5.o.bh.keep HC7.o.below HC5.o.bh.lt).two;obtain⟨q0,q1,_,_⟩:=HC7.o.bg.two;obtain⟨r0,r1,_,_⟩:=HC7.o.bh.two;clear HDP2 HCB2 x0 x1 x2 x3 y0 y1 y2 y3;go_upto_region 7 with(fail)
  have kc:∀V,Below wC.heap.size wC V->V.cell? ⟨g5,0,none⟩=some (.bool sa)/\V.cell? ⟨g5,1,none⟩=some (.slice Ra la ra)/\V.cell? ⟨g7,0,none⟩=some (.bool sb)/\V.cell? ⟨g7,1,none⟩=some (.slice Rc lb rc)/\V.cell? ⟨g8,0,none⟩=some (.bool false)/\V.cell? ⟨g8,1,none⟩=some (.slice Rd xb rd)/\V.cell? ⟨g6,0,none⟩=some (.bool false)/\V.cell? ⟨g6,1,none⟩=some (.slice Rb xa rb):=λV h=>⟨gL h p0,gL h p1,gL h q0,gL h q1,gL h r0,gL h r1,gL h u0,gL h u1⟩
  have BZ:Below wC.heap.size wC wC.drew:=brf.drew;refine dG (S:=(λw'=>w'.cell? ⟨g5,0,none⟩=some (.bool sa)/\w'.cell? ⟨g5,1,none⟩=some (.slice Ra la ra)/\w'.cell? ⟨g7,0,none⟩=some (.bool sb)/\w'.cell? ⟨g7,1,none⟩=some (.slice Rc lb rc)/\w'.cell? ⟨g8,0,none⟩=some (.bool false)/\w'.cell? ⟨g8,1,none⟩=some (.slice Rd xb rd)/\w'.cell? ⟨g6,0,none⟩=some (.bool false)/\w'.cell? ⟨g6,1,none⟩=some (.slice Rb xa rb))) (by kernel_rfl) (kc _ BZ) (λhHeld=>?_);generalize wC.drew=Z at*
  repeat' (first
    |(refine gLd 0 48 (.agg #[.bool sa,.slice Ra la ra]) rfl rfl hHeld ?_;(try simp only[jA]))
    |(refine gLd 1 49 (.agg #[.bool sb,.slice Rc lb rc]) rfl rfl hHeld ?_;(try simp only[jA]))
    |(refine gLd 3 51 (.agg #[.bool false,.slice Rd xb rd]) rfl rfl hHeld ?_;(try simp only[jA]))
    |(refine gLd 4 52 (.agg #[.bool false,.slice Rb xa rb]) rfl rfl hHeld ?_;(try simp only[jA]))
    |(refine gRd [2] ?_)
    |(refine gRd [5] ?_)
    |(refine gRd [6] ?_)
    |(refine gRd [7] ?_)
    |(exact dM)
    |(refine gCs rfl ?_ ?_)
    |(have _:OpN 2:=tg;clear tg;with_reducible refine bE (HM1.o _ BZ) ?_;rintro e Zn ⟨Rm,rm,rfl,nmx,hb⟩;have NM:=zh nmx;replace BZ:=dW BZ hb;(try go_simp);clear hHeld;refine hK.o _ _ (kc _ BZ) (λhHeld=>?_);clear hK K hb nmx;obtain⟨Z,rfl⟩:∃x,x=Zn:=⟨_,rfl⟩;(try (replace BZ:=BZn;clear BZn));(try simp only[jA]))
    |(have _:OpN 5:=tg;clear tg;with_reducible refine bE (HM2.o _ BZ) ?_;rintro e Zn ⟨Rn,rn,rfl,nnx,hb⟩;replace NM:=zh (NM.o.keep hb);have NN:=zh nnx;replace BZ:=dW BZ hb;(try go_simp);clear hHeld;refine hK.o _ _ (kc _ BZ) (λhHeld=>?_);clear hK K hb nnx;obtain⟨Z,rfl⟩:∃x,x=Zn:=⟨_,rfl⟩;(try (replace BZ:=BZn;clear BZn));(try simp only[jA]))
    |(have _:OpN 6:=tg;clear tg;with_reducible refine bE (HL1.o _ BZ _ _ _ _ NM.o NN.o) ?_;rintro e Zn ⟨Rx,rx,kr,Ry,ry,rfl,nxx,hb⟩;replace NM:=zh (NM.o.keep hb);replace NN:=zh (NN.o.keep hb);have NX:=zh nxx;replace BZ:=dW BZ hb;(try go_simp);clear hHeld;refine hK.o _ _ (kc _ BZ) (λhHeld=>?_);clear hK K hb nxx;obtain⟨Z,rfl⟩:∃x,x=Zn:=⟨_,rfl⟩;(try (replace BZ:=BZn;clear BZn));(try simp only[jA]))
    |(have _:OpN 7:=tg;clear tg;have YR:=HR0.o.keep BZ HR0.o.lt;obtain⟨t0,t1,t2,t3,f0,f1,f2,f3⟩:=YR.four;have HEND:=zh (HFIN.o Z Rx rx kr Ry ry (dW HBC.o BZ) NX.o.o.1 NX.o.o.2);have YT:=rM YR (.bool sr) (.slice Rx lr rx) (.bool false) (.slice Ry kr ry);(try go_simp);clear hHeld;refine hK.o _ _ ⟨kF (gL BZ p0) (by omega),kF (gL BZ p1) (by omega),kF (gL BZ q0) (by omega),kF (gL BZ q1) (by omega),kF (gL BZ r0) (by omega),kF (gL BZ r1) (by omega),kF (gL BZ u0) (by omega),kF (gL BZ u1) (by omega)⟩ (λhHeld=>?_);clear hK K t0 f0 t1 f1 t2 f2 t3 f3;obtain⟨t0,t1,t2,t3,f0,f1,f2,f3⟩:=YT.four;obtain⟨Zn,hZn⟩:∃x,x=Z:=⟨_,rfl⟩;clear hZn;obtain⟨Z,rfl⟩:∃x,x=Zn:=⟨_,rfl⟩;(try (replace BZ:=BZn;clear BZn));(try simp only[jA]))
    |(refine fD (by decide+kernel) ?_ _)
    |(intro K hK tg;go_simp))
  all_goals
    go_wp2;exact aO (v:=.agg #[.bool sr,.slice Rx lr rx,.bool false,.slice Ry kr ry]) (by simp[results,Tryz.results104,go_sem,t0,t1,t2,t3]) rfl HEND.o
end Go.Proofs.Tg.Iw
