/- Parts of the proof. -/
import Derived.Test.YtabdoikbodjidaaGreatDoorMBO30
set_option maxHeartbeats 64000000
set_option maxRecDepth 100000
namespace Go.Proofs.Tg.Iw
open Go.RowKit Go.Bw Go.Gr Go.Proofs.Tg Go.Rq
structure aPY (w0:World)(g:Nat)(s:Bool)(l:Nat)(A:Option Addr)(c:Nat)(n:Nat)(wx:World):Prop where
  below:Below w0.heap.size w0 wx
  bg:Blk wx g 118 #[.bool s,.slice A l c]
  hg:w0.heap.size<=g
  na:NW wx A c n
theorem aKM (p q:Rat)(N1 D1 N2 D2:Option Addr)(c1 d1 c2 d2:Nat)(w:World)(h1:mJ w p N1 c1 D1 d1)(h2:mJ w q N2 c2 D2 d2)(e1:p.den≠1)(e2:q.den≠1)(b1:(dg p.num.natAbs).length<=200)(b2:(dg q.num.natAbs).length<40)(b3:(dg p.den).length<=200)(b4:(dg q.den).length<40)(hT:Tab w):
    Calls Tryz.prog 59 #[rval p N1 c1 D1 d1,rval q N2 c2 D2 d2] w (mR (p+q) w):=by
  obtain⟨g,hg⟩:=eqx (Nat.gcd p.den q.den);obtain⟨ml,hml⟩:=eqx (q.den/g);obtain⟨mr,hmr⟩:=eqx (p.den/g);obtain⟨za,hza⟩:=eqx (p.num*(ml:Int));obtain⟨zb,hzb⟩:=eqx (q.num*(mr:Int));obtain⟨n,hn⟩:=eqx (za+zb);obtain⟨r,hr⟩:=eqx (Nat.gcd n.natAbs g);obtain⟨m1,m2⟩:=uV p q g hg n (by rw[hml,hmr,hza,hzb,hn]);rw[hr]at m1 m2;rw[hmr]at m2;obtain⟨md,hmd⟩:=eqx (q.den/r);rw[hmd]at m2
  have hg0:g≠0:=by rw[<-hg];exact fM.1 (Nat.gcd_pos_of_pos_left _ (eG p.den_nz))
  have hr0:r≠0:=by rw[<-hr];exact fM.1 (fI _ (eG hg0))
  have bg:(dg g).length<40:=bB (Go.Bw.jT (by rw[<-hg];exact iE _ (eG q.den_nz))) b4;have br:(dg r).length<40:=bB (Go.Bw.jT (by rw[<-hr];exact iE _ (eG hg0))) bg;have bml:(dg ml).length<40:=bB (Go.Bw.jT (by rw[<-hml];exact cF _ _)) b4;have bmr:(dg mr).length<=200:=aR (Go.Bw.jT (by rw[<-hmr];exact cF _ _)) b3;have bmd:(dg md).length<40:=bB (Go.Bw.jT (by rw[<-hmd];exact cF _ _)) b4
  have bza:(dg za.natAbs).length<=300:=by rw[<-hza,fA,aU];exact aR (zT b1 (eM bml)) (by omega)
  have bzb:(dg zb.natAbs).length<=300:=by rw[<-hzb,fA,aU];exact aR (zT (eM b2) bmr) (by omega)
  have bsum:(dg (za.natAbs+zb.natAbs)).length<=301:=zU bza bzb;have bn:(dg n.natAbs).length<=301:=aR (Go.Bw.jT (by rw[<-hn];omega)) bsum;unfold rval;obtain⟨s1,hs1⟩:=eqx (decide (p.num<0));obtain⟨s2,hs2⟩:=eqx (decide (q.num<0));obtain⟨l1,hl1⟩:=eqx ((dg p.num.natAbs).length);obtain⟨l2,hl2⟩:=eqx ((dg q.num.natAbs).length);obtain⟨k1,hk1⟩:=eqx ((dg (dnz p.den)).length);obtain⟨k2,hk2⟩:=eqx ((dg (dnz q.den)).length);rw[hs1,hs2,hl1,hl2,hk1,hk2]
  have hf1:(dg p.den).length=k1:=by rw[<-hk1,lH e1]
  have hf2:(dg q.den).length=k2:=by rw[<-hk2,lH e2]
  have dd1:decide (k1=0)=false:=dF (by rw[<-hf1];have:=(kB (u:=p.den)).2 p.den_nz;omega);have dd2:decide (k2=0)=false:=dF (by rw[<-hf2];have:=(kB (u:=q.den)).2 q.den_nz;omega);obtain⟨W,hW⟩:=eqx (((w.alloc (.cells #[.bool s1,.slice N1 l1 c1,.bool false,.slice D1 k1 d1] 120)).alloc (.cells #[.bool s2,.slice N2 l2 c2,.bool false,.slice D2 k2 d2] 120)).alloc (.cells #[.bool false,.slice none 0 0,.bool false,.slice none 0 0] 120))
  have B0:Blk W w.heap.size 120 #[.bool s1,.slice N1 l1 c1,.bool false,.slice D1 k1 d1]:=by rw[<-hW];exact((Blk.new _ _ _).alloc _).alloc _
  have B1:Blk W (w.heap.size+1) 120 #[.bool s2,.slice N2 l2 c2,.bool false,.slice D2 k2 d2]:=by
   rw[<-hW];have:=(Blk.new (w.alloc (.cells #[.bool s1,.slice N1 l1 c1,.bool false,.slice D1 k1 d1] 120)) 120 #[.bool s2,.slice N2 l2 c2,.bool false,.slice D2 k2 d2]).alloc (.cells #[.bool false,.slice none 0 0,.bool false,.slice none 0 0] 120);simpa using this
  have B2:Blk W (w.heap.size+1+1) 120 #[.bool false,.slice none 0 0,.bool false,.slice none 0 0]:=by
   rw[<-hW];have:=Blk.new ((w.alloc (.cells #[.bool s1,.slice N1 l1 c1,.bool false,.slice D1 k1 d1] 120)).alloc (.cells #[.bool s2,.slice N2 l2 c2,.bool false,.slice D2 k2 d2] 120)) 120 #[.bool false,.slice none 0 0,.bool false,.slice none 0 0];simpa using this
  have hbW:Below w.heap.size w W:=by rw[<-hW];exact((bal).alloc (by simp) _).alloc (by simp;omega) _
  have hsW:w.heap.size+3<=W.heap.size:=by rw[<-hW];simp
  have HB0:=zh B0;have HB1:=zh B1;have HB2:=zh B2;have HWW:=zh hW;have HBW:=zh hbW;have H1:=zh (h1.keep hbW);have H2:=zh (h2.keep hbW);have HZ:Hid (∀V x A n c,Calls Tryz.prog 94 #[.agg #[.bool x,.slice A n c]] V λe w'=>e=.returned (.bool (decide (n=0)))/\Below V.heap.size V w'):=zh (λV x A n c=>lW x A n c V);obtain⟨sr,hsr⟩:=eqx (decide ((p+q).num<0));obtain⟨lr,hlr⟩:=eqx ((dg (p+q).num.natAbs).length);obtain⟨Q,hQ⟩:=eqx (mR (p+q) w);have hTW:=hT.below hbW hT.1;have hTB:1<W.heap.size:=aH hT.1 hbW.size;have hP:=H1.o.den;rw[lH e1]at hP;have HP:=zh hP;have hO:=H2.o.den;rw[lH e2]at hO;have HO:=zh hO;obtain⟨lg,hlg⟩:=eqx ((dg g).length);obtain⟨ll,hll⟩:=eqx ((dg ml).length);obtain⟨lm,hlm⟩:=eqx ((dg mr).length);obtain⟨ld,hld⟩:=eqx ((dg md).length)
  obtain⟨lk,hlk⟩:=eqx ((dg r).length);obtain⟨la,hla⟩:=eqx ((dg za.natAbs).length);obtain⟨lb,hlb⟩:=eqx ((dg zb.natAbs).length);obtain⟨ln,hln⟩:=eqx ((dg n.natAbs).length);obtain⟨sa,hsa⟩:=eqx (decide (za<0));obtain⟨sb,hsb⟩:=eqx (decide (zb<0));obtain⟨sn,hsn⟩:=eqx (decide (n<0));obtain⟨xr,hxr⟩:=eqx ((dg (p+q).den).length)
  have HG:Hid (∀V,Below W.heap.size W V->Calls Tryz.prog 97 #[.agg #[.bool false,.slice D1 k1 d1],.agg #[.bool false,.slice D2 k2 d2]] V λe w'=>∃R c,e=.returned (.agg #[.bool false,.slice R lg c])/\NW w' R c g/\Below V.heap.size V w'):=zh (λV hV=>by
   have:=aAJ D1 D2 d1 d2 p.den q.den false false V (HP.o.keep hV) (HO.o.keep hV) (by omega) (by omega) (.inr (by omega)) (hTW.below hV hTB);unfold zK at this;rw[hf1,hf2,hg,hlg]at this
   exact this)
  have HQL:Hid (∀V,Below W.heap.size W V->∀G c,NW V G c g->Calls Tryz.prog 98 #[.agg #[.bool false,.slice D2 k2 d2],.agg #[.bool false,.slice G lg c]] V λe w'=>∃R c,e=.returned (.agg #[.bool false,.slice R ll c])/\NW w' R c ml/\Below V.heap.size V w'):=zh (λV hV G c hG=>by
   have:=aBT (q.den:Int) g D2 G d2 c V (by rw[aU];exact HO.o.keep hV) hG (by rw[aU];omega) (by omega) hg0 (.inl (by omega));rw[<-iG,hml,nJ,aU,dF (show ¬(q.den:Int)<0 by omega),hf2,hlg]at this;unfold lT at this;rw[hll]at this
   exact this)
  have HQR:Hid (∀V,Below W.heap.size W V->∀G c,NW V G c g->Calls Tryz.prog 98 #[.agg #[.bool false,.slice D1 k1 d1],.agg #[.bool false,.slice G lg c]] V λe w'=>∃R c,e=.returned (.agg #[.bool false,.slice R lm c])/\NW w' R c mr/\Below V.heap.size V w'):=zh (λV hV G c hG=>by
   have:=aBT (p.den:Int) g D1 G d1 c V (by rw[aU];exact HP.o.keep hV) hG (by rw[aU];omega) (by omega) hg0 (.inl (by omega));rw[<-iG,hmr,nJ,aU,dF (show ¬(p.den:Int)<0 by omega),hf1,hlg]at this;unfold lT at this;rw[hlm]at this
   exact this)
  have HMA:Hid (∀V,Below W.heap.size W V->∀G c,NW V G c ml->Calls Tryz.prog 96 #[.agg #[.bool s1,.slice N1 l1 c1],.agg #[.bool false,.slice G ll c]] V λe w'=>∃R c,e=.returned (.agg #[.bool sa,.slice R la c])/\NW w' R c za.natAbs/\Below V.heap.size V w'):=zh (λV hV G c hG=>by
   have:=oO p.num (ml:Int) N1 G c1 c V (H1.o.num.keep hV) (by rw[aU];exact hG) (by omega) (by rw[aU];omega) (.inr (by rw[aU];omega));rw[hza]at this;unfold oT at this;rw[aU,dF (show ¬(ml:Int)<0 by omega),hs1,hl1,hll,hsa,hla]at this
   exact this)
  have HMB:Hid (∀V,Below W.heap.size W V->∀G c,NW V G c mr->Calls Tryz.prog 96 #[.agg #[.bool s2,.slice N2 l2 c2],.agg #[.bool false,.slice G lm c]] V λe w'=>∃R c,e=.returned (.agg #[.bool sb,.slice R lb c])/\NW w' R c zb.natAbs/\Below V.heap.size V w'):=zh (λV hV G c hG=>by
   have:=oO q.num (mr:Int) N2 G c2 c V (H2.o.num.keep hV) (by rw[aU];exact hG) (by omega) (by rw[aU];omega) (.inl (by omega));rw[hzb]at this;unfold oT at this;rw[aU,dF (show ¬(mr:Int)<0 by omega),hs2,hl2,hlm,hsb,hlb]at this
   exact this)
  have HAD:Hid (∀V,Below W.heap.size W V->∀A a B b,NW V A a za.natAbs->NW V B b zb.natAbs->Calls Tryz.prog 95 #[.agg #[.bool sa,.slice A la a],.agg #[.bool sb,.slice B lb b]] V λe w'=>∃R c,e=.returned (.agg #[.bool sn,.slice R ln c])/\NW w' R c n.natAbs/\Below V.heap.size V w'):=zh (λV hV A a B b hA hB=>by
   have:=wT za zb A B a b V hA hB (by omega) (by omega) (by omega);rw[hn]at this;unfold oT at this;rw[hsa,hla,hsb,hlb,hsn,hln]at this
   exact this)
  have HIZ:Hid (∀V,Below W.heap.size W V->∀A a,Calls Tryz.prog 94 #[.agg #[.bool sn,.slice A ln a]] V λe w'=>e=.returned (.bool (decide (n=0)))/\Below V.heap.size V w'):=zh (λV hV A a=>by
   have:=aKu n A a V
   rwa [hsn,hln]at this)
  have HIO:Hid (∀V,Below W.heap.size W V->∀A a,NW V A a g->Calls Tryz.prog 99 #[.agg #[.bool false,.slice A lg a]] V λe w'=>e=.returned (.bool (decide (g=1)))/\Below V.heap.size V w'):=zh (λV hV A a hA=>by
   have:=sZ A a g V hA
   rwa [hlg]at this)
  have HMD:Hid (g=1->∀V,Below W.heap.size W V->Calls Tryz.prog 96 #[.agg #[.bool false,.slice D1 k1 d1],.agg #[.bool false,.slice D2 k2 d2]] V λe w'=>∃R c,e=.returned (.agg #[.bool false,.slice R xr c])/\NW w' R c (p+q).den/\Below V.heap.size V w'):=zh (λh1 V hV=>by
   have h2:p.den*q.den=(p+q).den:=by
    rw[m2,<-hmr,<-hmd,<-hr,h1,fS,fV,fV]
   have:=oO (p.den:Int) (q.den:Int) D1 D2 d1 d2 V (by rw[aU];exact HP.o.keep hV) (by rw[aU];exact HO.o.keep hV) (by rw[aU];omega) (by rw[aU];omega) (.inr (by rw[aU];omega));rw[show(p.den:Int)*(q.den:Int)=(((p+q).den:Nat):Int) by rw[<-h2];simp,nJ]at this;unfold lT at this;rw[aU,aU,dF (show ¬(p.den:Int)<0 by omega),dF (show ¬(q.den:Int)<0 by omega),hf1,hf2,hxr]at this
   exact this)
  have HG2:Hid (∀V,Below W.heap.size W V->∀A a B b,NW V A a n.natAbs->NW V B b g->Calls Tryz.prog 97 #[.agg #[.bool sn,.slice A ln a],.agg #[.bool false,.slice B lg b]] V λe w'=>∃R c,e=.returned (.agg #[.bool false,.slice R lk c])/\NW w' R c r/\Below V.heap.size V w'):=zh (λV hV A a B b hA hB=>by
   have:=aAJ A B a b n.natAbs g sn false V hA hB (by omega) (by omega) (.inr (by omega)) (hTW.below hV hTB);unfold zK at this;rw[hln,hlg,hr,hlk]at this
   exact this)
  have HQN:Hid (∀V,Below W.heap.size W V->∀A a B b,NW V A a n.natAbs->NW V B b r->Calls Tryz.prog 98 #[.agg #[.bool sn,.slice A ln a],.agg #[.bool false,.slice B lk b]] V λe w'=>∃R c,e=.returned (.agg #[.bool sr,.slice R lr c])/\NW w' R c (p+q).num.natAbs/\Below V.heap.size V w'):=zh (λV hV A a B b hA hB=>by
   have:=aBT n r A B a b V hA hB (by omega) (by omega) hr0 (.inl (by omega));rw[<-m1]at this;unfold oT at this;rw[hsn,hln,hlk,hsr,hlr]at this
   exact this)
  have HQD:Hid (∀V,Below W.heap.size W V->∀B b,NW V B b r->Calls Tryz.prog 98 #[.agg #[.bool false,.slice D2 k2 d2],.agg #[.bool false,.slice B lk b]] V λe w'=>∃R c,e=.returned (.agg #[.bool false,.slice R ld c])/\NW w' R c md/\Below V.heap.size V w'):=zh (λV hV B b hB=>by
   have:=aBT (q.den:Int) r D2 B d2 b V (by rw[aU];exact HO.o.keep hV) hB (by rw[aU];omega) (by omega) hr0 (.inl (by omega));rw[<-iG,hmd,nJ,aU,dF (show ¬(q.den:Int)<0 by omega),hf2,hlk]at this;unfold lT at this;rw[hld]at this
   exact this)
  have HMR:Hid (∀V,Below W.heap.size W V->∀A a B b,NW V A a mr->NW V B b md->Calls Tryz.prog 96 #[.agg #[.bool false,.slice A lm a],.agg #[.bool false,.slice B ld b]] V λe w'=>∃R c,e=.returned (.agg #[.bool false,.slice R xr c])/\NW w' R c (p+q).den/\Below V.heap.size V w'):=zh (λV hV A a B b hA hB=>by
   have:=oO (mr:Int) (md:Int) A B a b V (by rw[aU];exact hA) (by rw[aU];exact hB) (by rw[aU];omega) (by rw[aU];omega) (.inr (by rw[aU];omega));rw[show(mr:Int)*(md:Int)=(((p+q).den:Nat):Int) by rw[m2];simp,nJ]at this;unfold lT at this;rw[aU,aU,dF (show ¬(mr:Int)<0 by omega),dF (show ¬(md:Int)<0 by omega),hlm,hld,hxr]at this
   exact this)
  have HLW:Hid (∀V A a B b,NW V A a (p+q).num.natAbs->NW V B b (p+q).den->Calls Tryz.prog 100 #[.agg #[.bool sr,.slice A lr a],.agg #[.bool false,.slice B xr b]] V λe w'=>∃A' a' kr B' b',e=.returned (.agg #[.bool sr,.slice A' lr a',.bool false,.slice B' kr b'])/\Hid (mJ w' (p+q) A' a' B' b'/\kr=(dg (dnz (p+q).den)).length)/\Below V.heap.size V w'):=zh (λV A a B b hA hB=>by
   have:=aAT (p+q) A B a b V hA hB;rw[hsr,hlr,hxr]at this;refine this.mono ?_;rintro e w' ⟨A',a',B',b',rfl,h,hb⟩;unfold rval;rw[hsr,hlr]
   exact⟨A',a',_,B',b',rfl,zh ⟨h,rfl⟩,hb⟩)
  have HFIN:Hid (∀V A' a' kr B' b',Below W.heap.size W V->mJ V (p+q) A' a' B' b'->kr=(dg (dnz (p+q).den)).length->Q (.returned (.agg #[.bool sr,.slice A' lr a',.bool false,.slice B' kr b'])) ((((V.setCell ⟨w.heap.size+1+1,0,none⟩ (.bool sr)).setCell ⟨w.heap.size+1+1,1,none⟩ (.slice A' lr a')).setCell ⟨w.heap.size+1+1,2,none⟩ (.bool false)).setCell ⟨w.heap.size+1+1,3,none⟩ (.slice B' kr b'))):=zh (λV A' a' kr B' b' hV hR hk=>by
   have Y:=HB2.o.keep hV HB2.o.lt;rw[<-hQ];refine⟨A',a',B',b',?_,⟨lY hR.num (hR.num.offB Y rW) _ _ _ _,lY hR.den (hR.den.offB Y rW) _ _ _ _⟩,?_⟩
   ·unfold rval;rw[hsr,hlr,hk]
   exact hJ (hJ (hJ (hJ (dW hbW hV) (by omega) _ _) (by omega) _ _) (by omega) _ _) (by omega) _ _)
  have HNIL:Hid (n=0->∀V,Below W.heap.size W V->Q (.returned (.agg #[.bool false,.slice none 0 0,.bool false,.slice none 0 0])) ((((V.setCell ⟨w.heap.size+1+1,0,none⟩ (.bool false)).setCell ⟨w.heap.size+1+1,1,none⟩ (.slice none 0 0)).setCell ⟨w.heap.size+1+1,2,none⟩ (.bool false)).setCell ⟨w.heap.size+1+1,3,none⟩ (.slice none 0 0))):=zh (λh0 V hV=>by
   have e:p+q=0:=Rat.num_eq_zero.1 (by rw[m1,h0];exact Int.zero_tdiv _);rw[<-hQ,e]
   exact aBV (hJ (hJ (hJ (hJ (dW hbW hV) (by omega) _ _) (by omega) _ _) (by omega) _ _) (by omega) _ _))
  have HONE:Hid (g=1->n.natAbs=(p+q).num.natAbs/\sn=sr/\ln=lr):=zh (λh1=>by
   have h2:r=1:=by rw[<-hr,h1];exact fS _
   have h3:(p+q).num=n:=by rw[m1,h2];simp
   exact⟨by rw[h3],by rw[<-hsn,<-hsr,h3],by rw[<-hln,<-hlr,h3]⟩)
  rw[hQ];obtain⟨x0,x1,x2,x3,_,_,_,_⟩:=B0.four;obtain⟨y0,y1,y2,y3,_,_,_,_⟩:=B1.four;have hbe:Below W.heap.size W W:=bM _ _;clear hQ hW hbW B0 B1 B2 h1 h2 e1 e2 b1 b2 b3 b4 hT hTW hTB hP hO m1 m2 hs1 hs2 hl1 hl2 hk1 hk2 hf1 hf2 hsr hlr hlg hll hlm hld hlk hla hlb hln hsa hsb hsn hxr hg hml hmr hza hzb hn hr hmd hg0 hr0 bg br bml bmr bmd bza bzb bsum bn;go_enter Tryz.func59,Tryz.ntmps59;go_upto_region 1 with(fail);rw[HWW.o]
  go_upto_region 7 with(go_at_call 94;refine(HZ.o _ _ _ _ _).mono ?_;rintro e wA ⟨rfl,hb⟩;have hbe:=dW hbe hb;obtain⟨x0,x1,x2,x3,_,_,_,_⟩:=(HB0.o.keep hbe HB0.o.lt).four;obtain⟨y0,y1,y2,y3,_,_,_,_⟩:=(HB1.o.keep hbe HB1.o.lt).four;clear hb)
  go_upto_region 8 with(go_at_call 97;refine(HG.o _ hbe).mono ?_;rintro e wZ ⟨G5,q5,rfl,hG5,hb⟩;have hbz:=dW hbe hb;have HG5:=zh hG5;clear hb hG5)
  obtain⟨g5,hg5⟩:=eqx (wZ.heap.size);obtain⟨wA,hwA⟩:=eqx (wZ.alloc (.cells #[.bool false,.slice G5 lg q5] 118))
  have hal:Below wZ.heap.size wZ wA:=by rw[<-hwA];exact bal
  have hB5:Blk wA g5 118 #[.bool false,.slice G5 lg q5]:=by rw[<-hwA,<-hg5];exact Blk.new _ _ _
  have HBE:=zh (dW hbz hal);have HB5:=zh hB5;have HN5:=zh (HG5.o.keep hal)
  have hs5:W.heap.size<=g5:=by rw[<-hg5];exact hbz.size
  rw[hwA,hg5];clear hwA hg5 hal hB5 hbz hbe HG5 x0 x1 x2 x3 y0 y1 y2 y3 dd1 dd2 HZ HG;obtain⟨x0,x1,x2,x3,_,_,_,_⟩:=(HB0.o.keep HBE.o HB0.o.lt).four;obtain⟨y0,y1,y2,y3,_,_,_,_⟩:=(HB1.o.keep HBE.o HB1.o.lt).four;obtain⟨o0,o1,_,_⟩:=HB5.o.two;have HQL1:Hid (∀V,Below wA.heap.size wA V->Calls Tryz.prog 98 #[.agg #[.bool false,.slice D2 k2 d2],.agg #[.bool false,.slice G5 lg q5]] V λe w'=>∃R c,e=.returned (.agg #[.bool false,.slice R ll c])/\NW w' R c ml/\Below V.heap.size V w'):=zh (λV hV=>HQL.o V (dW HBE.o hV) _ _ (HN5.o.keep hV))
  have HQR1:Hid (∀V,Below wA.heap.size wA V->Calls Tryz.prog 98 #[.agg #[.bool false,.slice D1 k1 d1],.agg #[.bool false,.slice G5 lg q5]] V λe w'=>∃R c,e=.returned (.agg #[.bool false,.slice R lm c])/\NW w' R c mr/\Below V.heap.size V w'):=zh (λV hV=>HQR.o V (dW HBE.o hV) _ _ (HN5.o.keep hV));clear HQL HQR
  go_cut [6,7] (λs6 s7 wx=>∃(g6 g7:Nat) (R6:Option Addr) (r6:Nat) (R7:Option Addr) (r7:Nat),s6=.pointer (some ⟨g6,0,none⟩)/\s7=.pointer (some ⟨g7,0,none⟩)/\Hid (aOH wA g6 g7 false ll lm R6 r6 R7 r7 ml mr wx))
  case first=>
   have kc:∀V,Below wA.heap.size wA V->V.cell? ⟨w.heap.size+1,2,none⟩=some (.bool false)/\V.cell? ⟨w.heap.size+1,3,none⟩=some (.slice D2 k2 d2)/\V.cell? ⟨w.heap.size,2,none⟩=some (.bool false)/\V.cell? ⟨w.heap.size,3,none⟩=some (.slice D1 k1 d1)/\V.cell? ⟨g5,0,none⟩=some (.bool false)/\V.cell? ⟨g5,1,none⟩=some (.slice G5 lg q5):=λV h=>⟨gL h y2,gL h y3,gL h x2,gL h x3,gL h o0,gL h o1⟩
   have BZ:Below wA.heap.size wA wA.drew:=brf.drew;refine dG (S:=(λw'=>w'.cell? ⟨w.heap.size+1,2,none⟩=some (.bool false)/\w'.cell? ⟨w.heap.size+1,3,none⟩=some (.slice D2 k2 d2)/\w'.cell? ⟨w.heap.size,2,none⟩=some (.bool false)/\w'.cell? ⟨w.heap.size,3,none⟩=some (.slice D1 k1 d1)/\w'.cell? ⟨g5,0,none⟩=some (.bool false)/\w'.cell? ⟨g5,1,none⟩=some (.slice G5 lg q5))) (by kernel_rfl) (kc _ BZ) (λhHeld=>?_);generalize wA.drew=Z at*
   repeat' (first
     |(refine gLd 0 60 (.pointer (some ⟨w.heap.size+1,2,none⟩)) rfl rfl hHeld ?_;(try simp only[jA]))
     |(refine gLd 1 61 (.agg #[.bool false,.slice D2 k2 d2]) rfl rfl hHeld ?_;(try simp only[jA]))
     |(refine gLd 2 62 (.agg #[.bool false,.slice G5 lg q5]) rfl rfl hHeld ?_;(try simp only[jA]))
     |(refine gLd 4 64 (.pointer (some ⟨w.heap.size,2,none⟩)) rfl rfl hHeld ?_;(try simp only[jA]))
     |(refine gLd 5 65 (.agg #[.bool false,.slice D1 k1 d1]) rfl rfl hHeld ?_;(try simp only[jA]))
     |(refine gLd 6 66 (.agg #[.bool false,.slice G5 lg q5]) rfl rfl hHeld ?_;(try simp only[jA]))
     |(refine gRd [9] ?_)
     |(refine gRd [10] ?_)
     |(refine gRd [11] ?_)
     |(refine gRd [8] ?_)
     |(refine gRd [7] ?_)
     |(refine gRd [3] ?_)
     |(refine gRd [8,9] ?_)
     |(refine gRd [7,9] ?_)
     |(refine gRd [7,8] ?_)
     |(refine gRd [3,9] ?_)
     |(refine gRd [3,8] ?_)
     |(refine gRd [3,8,9] ?_)
     |(refine gRd [7,8,9] ?_)
     |(exact dM)
     |(refine gCs rfl ?_ ?_)
     |(have _:OpN 3:=tg;clear tg;with_reducible refine bE (HQL1.o _ BZ) ?_;rintro e Zn ⟨R6,r6,rfl,n6x,hb⟩;(try replace Y6:=zh (Y6.o.keep hb Y6.o.lt));(try replace Y7:=zh (Y7.o.keep hb Y7.o.lt));have N6:=zh n6x;replace BZ:=dW BZ hb;(try go_simp);clear hHeld;refine hK.o _ _ (kc _ BZ) (λhHeld=>?_);clear hK K hb n6x;obtain⟨Z,rfl⟩:∃x,x=Zn:=⟨_,rfl⟩;(try (replace BZ:=BZn;clear BZn));(try simp only[jA]))
     |(have _:OpN 7:=tg;clear tg;with_reducible refine bE (HQR1.o _ BZ) ?_;rintro e Zn ⟨R7,r7,rfl,n7x,hb⟩;replace N6:=zh (N6.o.keep hb);(try replace Y6:=zh (Y6.o.keep hb Y6.o.lt));(try replace Y7:=zh (Y7.o.keep hb Y7.o.lt));have N7:=zh n7x;replace BZ:=dW BZ hb;(try go_simp);clear hHeld;refine hK.o _ _ (kc _ BZ) (λhHeld=>?_);clear hK K hb n7x;obtain⟨Z,rfl⟩:∃x,x=Zn:=⟨_,rfl⟩;(try (replace BZ:=BZn;clear BZn));(try simp only[jA]))
     |(have _:OpN 8:=tg;clear tg;have hba:=aAU Z (.cells #[.bool false,.slice none 0 0] 118);have BZn:=dW BZ hba;(try have n7_6:g7≠Z.heap.size:=Nat.ne_of_lt Y7.o.lt);(try replace N6:=zh (N6.o.keep hba));(try replace N7:=zh (N7.o.keep hba));(try replace Y7:=zh (Y7.o.keep hba Y7.o.lt));have Y6:=zh (Blk.new Z 118 #[.bool false,.slice none 0 0]);have hg6:=BZ.size;clear hHeld;refine hK.o _ _ (kc _ BZn) (λhHeld=>?_);clear hK K hba;(try simp only[jA]);generalize Z.alloc (.cells #[.bool false,.slice none 0 0] 118)=Zn at*;generalize Z.heap.size=g6 at*;obtain⟨Z,rfl⟩:∃x,x=Zn:=⟨_,rfl⟩;(try (replace BZ:=BZn;clear BZn));(try simp only[jA]))
     |(have _:OpN 9:=tg;clear tg;have hba:=aAU Z (.cells #[.bool false,.slice none 0 0] 118);have BZn:=dW BZ hba;(try have n6_7:g6≠Z.heap.size:=Nat.ne_of_lt Y6.o.lt);(try replace N6:=zh (N6.o.keep hba));(try replace N7:=zh (N7.o.keep hba));(try replace Y6:=zh (Y6.o.keep hba Y6.o.lt));have Y7:=zh (Blk.new Z 118 #[.bool false,.slice none 0 0]);have hg7:=BZ.size;clear hHeld;refine hK.o _ _ (kc _ BZn) (λhHeld=>?_);clear hK K hba;(try simp only[jA]);generalize Z.alloc (.cells #[.bool false,.slice none 0 0] 118)=Zn at*;generalize Z.heap.size=g7 at*;obtain⟨Z,rfl⟩:∃x,x=Zn:=⟨_,rfl⟩;(try (replace BZ:=BZn;clear BZn));(try simp only[jA]))
     |(have _:OpN 10:=tg;clear tg;obtain⟨t0,t1,f0,f1⟩:=Y6.o.two;(try go_simp);have Yx:=zh (vM (Y6.o) (.bool false) (.slice R6 ll r6));replace Y7:=zh (yG Y7.o (show g7≠g6 by first|exact n7_6|exact(n6_7).symm) (.bool false) (.slice R6 ll r6));replace N6:=zh (N6.o.two Y6.o (.bool false) (.slice R6 ll r6));replace N7:=zh (N7.o.two Y6.o (.bool false) (.slice R6 ll r6));have BZn:=hJ (hJ BZ hg6 0 (.bool false)) hg6 1 (.slice R6 ll r6);clear Y6 t0 t1 f0 f1;have Y6:=Yx;clear Yx hHeld;refine hK.o _ _ (kc _ BZn) (λhHeld=>?_);clear hK K;(try simp only[jA]);generalize (Z.setCell ⟨g6,0,none⟩ (.bool false)).setCell ⟨g6,1,none⟩ (.slice R6 ll r6)=Zn at*;obtain⟨Z,rfl⟩:∃x,x=Zn:=⟨_,rfl⟩;(try (replace BZ:=BZn;clear BZn));(try simp only[jA]))
     |(have _:OpN 11:=tg;clear tg;obtain⟨t0,t1,f0,f1⟩:=Y7.o.two;(try go_simp);have Yx:=zh (vM (Y7.o) (.bool false) (.slice R7 lm r7));replace Y6:=zh (yG Y6.o (show g6≠g7 by first|exact n6_7|exact(n7_6).symm) (.bool false) (.slice R7 lm r7));replace N6:=zh (N6.o.two Y7.o (.bool false) (.slice R7 lm r7));replace N7:=zh (N7.o.two Y7.o (.bool false) (.slice R7 lm r7));have BZn:=hJ (hJ BZ hg7 0 (.bool false)) hg7 1 (.slice R7 lm r7);clear Y7 t0 t1 f0 f1;have Y7:=Yx;clear Yx hHeld;refine hK.o _ _ (kc _ BZn) (λhHeld=>?_);clear hK K;(try simp only[jA]);generalize (Z.setCell ⟨g7,0,none⟩ (.bool false)).setCell ⟨g7,1,none⟩ (.slice R7 lm r7)=Zn at*;obtain⟨Z,rfl⟩:∃x,x=Zn:=⟨_,rfl⟩;(try (replace BZ:=BZn;clear BZn));(try simp only[jA]))
     |(refine fD (by decide+kernel) ?_ _)
     |(intro K hK tg;go_simp))
   all_goals
     go_wp2;go_meet;exact⟨g6,g7,R6,r6,R7,r7,rfl,rfl,zh ⟨BZ,Y6.o,Y7.o,hg6,hg7,N6.o,N7.o⟩⟩
  obtain⟨g6,g7,R6,r6,R7,r7,rfl,rfl,HC8⟩:=hcut;obtain⟨wB,rfl⟩:∃x,x=wc:=⟨_,rfl⟩;have HBB:=zh (dW HBE.o HC8.o.below);have x0:=gL HC8.o.below x0;have x1:=gL HC8.o.below x1;have x2:=gL HC8.o.below x2;have x3:=gL HC8.o.below x3;have y0:=gL HC8.o.below y0;have y1:=gL HC8.o.below y1;have y2:=gL HC8.o.below y2;have y3:=gL HC8.o.below y3;obtain⟨p0,p1,_,_⟩:=HC8.o.bg.two;obtain⟨u0,u1,_,_⟩:=HC8.o.bh.two;have HMA1:Hid (∀V,Below wB.heap.size wB V->Calls Tryz.prog 96 #[.agg #[.bool s1,.slice N1 l1 c1],.agg #[.bool false,.slice R6 ll r6]] V λe w'=>∃R c,e=.returned (.agg #[.bool sa,.slice R la c])/\NW w' R c za.natAbs/\Below V.heap.size V w'):=zh (λV hV=>HMA.o V (dW HBB.o hV) _ _ (HC8.o.na.keep hV))
  have HMB1:Hid (∀V,Below wB.heap.size wB V->Calls Tryz.prog 96 #[.agg #[.bool s2,.slice N2 l2 c2],.agg #[.bool false,.slice R7 lm r7]] V λe w'=>∃R c,e=.returned (.agg #[.bool sb,.slice R lb c])/\NW w' R c zb.natAbs/\Below V.heap.size V w'):=zh (λV hV=>HMB.o V (dW HBB.o hV) _ _ (HC8.o.nd.keep hV));have HAD1:Hid (∀V,Below wB.heap.size wB V->∀A a B b,NW V A a za.natAbs->NW V B b zb.natAbs->Calls Tryz.prog 95 #[.agg #[.bool sa,.slice A la a],.agg #[.bool sb,.slice B lb b]] V λe w'=>∃R c,e=.returned (.agg #[.bool sn,.slice R ln c])/\NW w' R c n.natAbs/\Below V.heap.size V w'):=zh (λV hV=>HAD.o V (dW HBB.o hV));clear HMA HMB HAD HQL1 HQR1 o0 o1;go_upto_region 9 with(fail)
  go_cut [8] (λs8 wx=>∃(g8:Nat) (R8:Option Addr) (r8:Nat),s8=.pointer (some ⟨g8,0,none⟩)/\Hid (aPY wB g8 sn ln R8 r8 n.natAbs wx))
  case first=>
   have kc:∀V,Below wB.heap.size wB V->V.cell? ⟨w.heap.size,0,none⟩=some (.bool s1)/\V.cell? ⟨w.heap.size,1,none⟩=some (.slice N1 l1 c1)/\V.cell? ⟨g6,0,none⟩=some (.bool false)/\V.cell? ⟨g6,1,none⟩=some (.slice R6 ll r6)/\V.cell? ⟨w.heap.size+1,0,none⟩=some (.bool s2)/\V.cell? ⟨w.heap.size+1,1,none⟩=some (.slice N2 l2 c2)/\V.cell? ⟨g7,0,none⟩=some (.bool false)/\V.cell? ⟨g7,1,none⟩=some (.slice R7 lm r7):=λV h=>⟨gL h x0,gL h x1,gL h p0,gL h p1,gL h y0,gL h y1,gL h u0,gL h u1⟩
   have BZ:Below wB.heap.size wB wB.drew:=brf.drew;refine dG (S:=(λw'=>w'.cell? ⟨w.heap.size,0,none⟩=some (.bool s1)/\w'.cell? ⟨w.heap.size,1,none⟩=some (.slice N1 l1 c1)/\w'.cell? ⟨g6,0,none⟩=some (.bool false)/\w'.cell? ⟨g6,1,none⟩=some (.slice R6 ll r6)/\w'.cell? ⟨w.heap.size+1,0,none⟩=some (.bool s2)/\w'.cell? ⟨w.heap.size+1,1,none⟩=some (.slice N2 l2 c2)/\w'.cell? ⟨g7,0,none⟩=some (.bool false)/\w'.cell? ⟨g7,1,none⟩=some (.slice R7 lm r7))) (by kernel_rfl) (kc _ BZ) (λhHeld=>?_);generalize wB.drew=Z at*
   repeat' (first
     |(refine gLd 0 68 (.pointer (some ⟨w.heap.size,0,none⟩)) rfl rfl hHeld ?_;(try simp only[jA]))
     |(refine gLd 1 69 (.agg #[.bool s1,.slice N1 l1 c1]) rfl rfl hHeld ?_;(try simp only[jA]))
     |(refine gLd 2 70 (.agg #[.bool false,.slice R6 ll r6]) rfl rfl hHeld ?_;(try simp only[jA]))
     |(refine gLd 4 72 (.pointer (some ⟨w.heap.size+1,0,none⟩)) rfl rfl hHeld ?_;(try simp only[jA]))
     |(refine gLd 5 73 (.agg #[.bool s2,.slice N2 l2 c2]) rfl rfl hHeld ?_;(try simp only[jA]))
     |(refine gLd 6 74 (.agg #[.bool false,.slice R7 lm r7]) rfl rfl hHeld ?_;(try simp only[jA]))
     |(refine gRd [9] ?_)
     |(refine gRd [10] ?_)
     |(refine gRd [8] ?_)
     |(refine gRd [7] ?_)
     |(refine gRd [3] ?_)
     |(refine gRd [3,9] ?_)
     |(refine gRd [7,9] ?_)
     |(refine gRd [8,9] ?_)
     |(exact dM)
     |(refine gCs rfl ?_ ?_)
     |(have _:OpN 3:=tg;clear tg;with_reducible refine bE (HMA1.o _ BZ) ?_;rintro e Zn ⟨Ra,ra,rfl,nax,hb⟩;(try replace Y8:=zh (Y8.o.keep hb Y8.o.lt));have NA:=zh nax;replace BZ:=dW BZ hb;(try go_simp);clear hHeld;refine hK.o _ _ (kc _ BZ) (λhHeld=>?_);clear hK K hb nax;obtain⟨Z,rfl⟩:∃x,x=Zn:=⟨_,rfl⟩;(try (replace BZ:=BZn;clear BZn));(try simp only[jA]))
     |(have _:OpN 7:=tg;clear tg;with_reducible refine bE (HMB1.o _ BZ) ?_;rintro e Zn ⟨Rb,rb,rfl,nbx,hb⟩;replace NA:=zh (NA.o.keep hb);(try replace Y8:=zh (Y8.o.keep hb Y8.o.lt));have NB:=zh nbx;replace BZ:=dW BZ hb;(try go_simp);clear hHeld;refine hK.o _ _ (kc _ BZ) (λhHeld=>?_);clear hK K hb nbx;obtain⟨Z,rfl⟩:∃x,x=Zn:=⟨_,rfl⟩;(try (replace BZ:=BZn;clear BZn));(try simp only[jA]))
     |(have _:OpN 8:=tg;clear tg;with_reducible refine bE (HAD1.o _ BZ _ _ _ _ NA.o NB.o) ?_;rintro e Zn ⟨R8,r8,rfl,n8x,hb⟩;replace NA:=zh (NA.o.keep hb);replace NB:=zh (NB.o.keep hb);(try replace Y8:=zh (Y8.o.keep hb Y8.o.lt));have N8:=zh n8x;replace BZ:=dW BZ hb;(try go_simp);clear hHeld;refine hK.o _ _ (kc _ BZ) (λhHeld=>?_);clear hK K hb n8x;obtain⟨Z,rfl⟩:∃x,x=Zn:=⟨_,rfl⟩;(try (replace BZ:=BZn;clear BZn));(try simp only[jA]))
     |(have _:OpN 9:=tg;clear tg;have hba:=aAU Z (.cells #[.bool false,.slice none 0 0] 118);have BZn:=dW BZ hba;(try replace NA:=zh (NA.o.keep hba));(try replace NB:=zh (NB.o.keep hba));(try replace N8:=zh (N8.o.keep hba));have Y8:=zh (Blk.new Z 118 #[.bool false,.slice none 0 0]);have hg8:=BZ.size;clear hHeld;refine hK.o _ _ (kc _ BZn) (λhHeld=>?_);clear hK K hba;(try simp only[jA]);generalize Z.alloc (.cells #[.bool false,.slice none 0 0] 118)=Zn at*;generalize Z.heap.size=g8 at*;obtain⟨Z,rfl⟩:∃x,x=Zn:=⟨_,rfl⟩;(try (replace BZ:=BZn;clear BZn));(try simp only[jA]))
     |(have _:OpN 10:=tg;clear tg;obtain⟨t0,t1,f0,f1⟩:=Y8.o.two;(try go_simp);have Yx:=zh (vM (Y8.o) (.bool sn) (.slice R8 ln r8));replace NA:=zh (NA.o.two Y8.o (.bool sn) (.slice R8 ln r8));replace NB:=zh (NB.o.two Y8.o (.bool sn) (.slice R8 ln r8));replace N8:=zh (N8.o.two Y8.o (.bool sn) (.slice R8 ln r8));have BZn:=hJ (hJ BZ hg8 0 (.bool sn)) hg8 1 (.slice R8 ln r8);clear Y8 t0 t1 f0 f1;have Y8:=Yx;clear Yx hHeld;refine hK.o _ _ (kc _ BZn) (λhHeld=>?_);clear hK K;(try simp only[jA]);generalize (Z.setCell ⟨g8,0,none⟩ (.bool sn)).setCell ⟨g8,1,none⟩ (.slice R8 ln r8)=Zn at*;obtain⟨Z,rfl⟩:∃x,x=Zn:=⟨_,rfl⟩;(try (replace BZ:=BZn;clear BZn));(try simp only[jA]))
     |(refine fD (by decide+kernel) ?_ _)
     |(intro K hK tg;go_simp))
   all_goals
     go_wp2;go_meet;exact⟨g8,R8,r8,rfl,zh ⟨BZ,Y8.o,hg8,N8.o⟩⟩
  obtain⟨g8,R8,r8,rfl,HC9⟩:=hcut;obtain⟨wC,rfl⟩:∃x,x=wc:=⟨_,rfl⟩;have HBC:=zh (dW HBB.o HC9.o.below);have x2:=gL HC9.o.below x2;have x3:=gL HC9.o.below x3;have y2:=gL HC9.o.below y2;have y3:=gL HC9.o.below y3;have u0:=gL HC9.o.below u0;have u1:=gL HC9.o.below u1;have o0:=gL (dW HC8.o.below HC9.o.below) HB5.o.two.1;have o1:=gL (dW HC8.o.below HC9.o.below) HB5.o.two.2.1;obtain⟨v0,v1,_,_⟩:=HC9.o.bg.two;have HR0:=zh (HB2.o.keep HBC.o HB2.o.lt);have hWC:=HBC.o.size;have hAs:=HBE.o.size;have hBs:=HBB.o.size;have hg6:=HC8.o.hg;have hg7:=HC8.o.hh;have hg8:=HC9.o.hg;have HN5C:=zh (HN5.o.keep (dW HC8.o.below HC9.o.below));clear HMA1 HMB1 HAD1 x0 x1 y0 y1 p0 p1
  by_cases hn0:n=0
  ·have dn:decide (n=0)=true:=dT hn0;obtain⟨t0,t1,t2,t3,f0,f1,f2,f3⟩:=HR0.o.four
   go_wp2_with (go_at_call 94;refine(HIZ.o _ HBC.o _ _).mono ?_;rintro e wD ⟨rfl,hb⟩;have H9:=zh (HNIL.o hn0 wD (dW HBC.o hb));obtain⟨t0,t1,t2,t3,f0,f1,f2,f3⟩:=(HR0.o.keep hb HR0.o.lt).four;clear hb)
   exact aO (v:=.agg #[.bool false,.slice none 0 0,.bool false,.slice none 0 0]) (by simp[results,Tryz.results59,go_sem,t0,t1,t2,t3]) rfl H9.o
  have dn:decide (n=0)=false:=dF hn0;clear hn0 HNIL
  go_upto_region 12 with(go_at_call 94;refine(HIZ.o _ HBC.o _ _).mono ?_;rintro e wD ⟨rfl,hb⟩;have HBD:=zh hb;clear hb)
  have x2:=gL HBD.o x2;have x3:=gL HBD.o x3;have y2:=gL HBD.o y2;have y3:=gL HBD.o y3;have u0:=gL HBD.o u0;have u1:=gL HBD.o u1;have o0:=gL HBD.o o0;have o1:=gL HBD.o o1;have v0:=gL HBD.o v0;have v1:=gL HBD.o v1
  by_cases hg1:g=1
  ·have dgo:decide (g=1)=true:=dT hg1;obtain⟨i1,i2,i3⟩:=HONE.o hg1;subst i2 i3;have HI1:=zh i1;have HG1:=zh hg1;clear i1 hg1
   go_upto_region 13 with(go_at_call 99;refine(HIO.o _ (dW HBC.o HBD.o) _ _ (HN5C.o.keep HBD.o)).mono ?_;rintro e wE ⟨rfl,hb⟩;have HBF:=zh (dW HBD.o hb);clear hb)
   obtain⟨x2,x3⟩:wE.cell? ⟨w.heap.size,2,none⟩=some (.bool false)/\wE.cell? ⟨w.heap.size,3,none⟩=some (.slice D1 k1 d1):=by
    have Y:=(HB0.o.keep (dW HBC.o HBF.o) HB0.o.lt).four;exact⟨Y.2.2.1,Y.2.2.2.1⟩
   obtain⟨y2,y3⟩:wE.cell? ⟨w.heap.size+1,2,none⟩=some (.bool false)/\wE.cell? ⟨w.heap.size+1,3,none⟩=some (.slice D2 k2 d2):=by
    have Y:=(HB1.o.keep (dW HBC.o HBF.o) HB1.o.lt).four;exact⟨Y.2.2.1,Y.2.2.2.1⟩
   obtain⟨v0,v1,_,_⟩:=(HC9.o.bg.keep HBF.o HC9.o.bg.lt).two;have HBE2:=zh (dW HBC.o HBF.o);have HRE:=zh (HR0.o.keep HBF.o HR0.o.lt);have HM1:Hid (∀V,Below wE.heap.size wE V->Calls Tryz.prog 96 #[.agg #[.bool false,.slice D1 k1 d1],.agg #[.bool false,.slice D2 k2 d2]] V λe w'=>∃R c,e=.returned (.agg #[.bool false,.slice R xr c])/\NW w' R c (p+q).den/\Below V.heap.size V w'):=zh (λV hV=>HMD.o HG1.o V (dW HBE2.o hV))
   have HL1:Hid (∀V,Below wE.heap.size wE V->∀B b,NW V B b (p+q).den->Calls Tryz.prog 100 #[.agg #[.bool sn,.slice R8 ln r8],.agg #[.bool false,.slice B xr b]] V λe w'=>∃A' a' kr B' b',e=.returned (.agg #[.bool sn,.slice A' ln a',.bool false,.slice B' kr b'])/\Hid (mJ w' (p+q) A' a' B' b'/\kr=(dg (dnz (p+q).den)).length)/\Below V.heap.size V w'):=zh (λV hV B b hB=>HLW.o V R8 r8 B b (by rw[<-HI1.o];exact(HC9.o.na.keep HBF.o).keep hV) hB);have hEs:=HBF.o.size;clear o0 o1 u0 u1
   have kc:∀V,Below wE.heap.size wE V->V.cell? ⟨g8,0,none⟩=some (.bool sn)/\V.cell? ⟨g8,1,none⟩=some (.slice R8 ln r8)/\V.cell? ⟨w.heap.size,2,none⟩=some (.bool false)/\V.cell? ⟨w.heap.size,3,none⟩=some (.slice D1 k1 d1)/\V.cell? ⟨w.heap.size+1,2,none⟩=some (.bool false)/\V.cell? ⟨w.heap.size+1,3,none⟩=some (.slice D2 k2 d2):=λV h=>⟨gL h v0,gL h v1,gL h x2,gL h x3,gL h y2,gL h y3⟩
   have BZ:Below wE.heap.size wE wE.drew:=brf.drew;refine dG (S:=(λw'=>w'.cell? ⟨g8,0,none⟩=some (.bool sn)/\w'.cell? ⟨g8,1,none⟩=some (.slice R8 ln r8)/\w'.cell? ⟨w.heap.size,2,none⟩=some (.bool false)/\w'.cell? ⟨w.heap.size,3,none⟩=some (.slice D1 k1 d1)/\w'.cell? ⟨w.heap.size+1,2,none⟩=some (.bool false)/\w'.cell? ⟨w.heap.size+1,3,none⟩=some (.slice D2 k2 d2))) (by kernel_rfl) (kc _ BZ) (λhHeld=>?_);generalize wE.drew=Z at*
   repeat' (first
     |(refine gLd 0 82 (.agg #[.bool sn,.slice R8 ln r8]) rfl rfl hHeld ?_;(try simp only[jA]))
     |(refine gLd 1 83 (.pointer (some ⟨w.heap.size,2,none⟩)) rfl rfl hHeld ?_;(try simp only[jA]))
     |(refine gLd 2 84 (.agg #[.bool false,.slice D1 k1 d1]) rfl rfl hHeld ?_;(try simp only[jA]))
     |(refine gLd 3 85 (.pointer (some ⟨w.heap.size+1,2,none⟩)) rfl rfl hHeld ?_;(try simp only[jA]))
     |(refine gLd 4 86 (.agg #[.bool false,.slice D2 k2 d2]) rfl rfl hHeld ?_;(try simp only[jA]))
     |(refine gRd [5] ?_)
     |(refine gRd [6] ?_)
     |(refine gRd [7] ?_)
     |(exact dM)
     |(refine gCs rfl ?_ ?_)
     |(have _:OpN 5:=tg;clear tg;with_reducible refine bE (HM1.o _ BZ) ?_;rintro e Zn ⟨Rm,rm,rfl,nmx,hb⟩;have NM:=zh nmx;replace BZ:=dW BZ hb;(try go_simp);clear hHeld;refine hK.o _ _ (kc _ BZ) (λhHeld=>?_);clear hK K hb nmx;obtain⟨Z,rfl⟩:∃x,x=Zn:=⟨_,rfl⟩;(try (replace BZ:=BZn;clear BZn));(try simp only[jA]))
     |(have _:OpN 6:=tg;clear tg;with_reducible refine bE (HL1.o _ BZ _ _ NM.o) ?_;rintro e Zn ⟨Rx,rx,kr,Ry,ry,rfl,nxx,hb⟩;replace NM:=zh (NM.o.keep hb);have NX:=zh nxx;replace BZ:=dW BZ hb;(try go_simp);clear hHeld;refine hK.o _ _ (kc _ BZ) (λhHeld=>?_);clear hK K hb nxx;obtain⟨Z,rfl⟩:∃x,x=Zn:=⟨_,rfl⟩;(try (replace BZ:=BZn;clear BZn));(try simp only[jA]))
     |(have _:OpN 7:=tg;clear tg;have YR:=HRE.o.keep BZ HRE.o.lt;obtain⟨t0,t1,t2,t3,f0,f1,f2,f3⟩:=YR.four;have HEND:=zh (HFIN.o Z Rx rx kr Ry ry (dW HBE2.o BZ) NX.o.o.1 NX.o.o.2);have YT:=rM YR (.bool sn) (.slice Rx ln rx) (.bool false) (.slice Ry kr ry);(try go_simp);clear hHeld;refine hK.o _ _ ⟨kF (gL BZ v0) (by omega),kF (gL BZ v1) (by omega),kF (gL BZ x2) (by omega),kF (gL BZ x3) (by omega),kF (gL BZ y2) (by omega),kF (gL BZ y3) (by omega)⟩ (λhHeld=>?_);clear hK K t0 f0 t1 f1 t2 f2 t3 f3;obtain⟨t0,t1,t2,t3,f0,f1,f2,f3⟩:=YT.four;obtain⟨Zn,hZn⟩:∃x,x=Z:=⟨_,rfl⟩;clear hZn;obtain⟨Z,rfl⟩:∃x,x=Zn:=⟨_,rfl⟩;(try (replace BZ:=BZn;clear BZn));(try simp only[jA]))
     |(refine fD (by decide+kernel) ?_ _)
     |(intro K hK tg;go_simp))
   all_goals
     go_wp2;exact aO (v:=.agg #[.bool sn,.slice Rx ln rx,.bool false,.slice Ry kr ry]) (by simp[results,Tryz.results59,go_sem,t0,t1,t2,t3]) rfl HEND.o
  have dgo:decide (g=1)=false:=dF hg1;clear hg1 HONE HMD
  go_upto_region 14 with(go_at_call 99;refine(HIO.o _ (dW HBC.o HBD.o) _ _ (HN5C.o.keep HBD.o)).mono ?_;rintro e wE ⟨rfl,hb⟩;have HBF:=zh (dW HBD.o hb);clear hb)
  obtain⟨v0,v1,_,_⟩:=(HC9.o.bg.keep HBF.o HC9.o.bg.lt).two;have o0:=gL (dW (dW HC8.o.below HC9.o.below) HBF.o) HB5.o.two.1;have o1:=gL (dW (dW HC8.o.below HC9.o.below) HBF.o) HB5.o.two.2.1
  go_upto_region 15 with(go_at_call 97;refine(HG2.o _ (dW HBC.o HBF.o) _ _ _ _ (HC9.o.na.keep HBF.o) (HN5C.o.keep HBF.o)).mono ?_;rintro e wY ⟨G9,q9,rfl,hG9,hb⟩;have hby:=dW HBF.o hb;have HG9:=zh hG9;clear hb hG9)
  obtain⟨g9,hg9⟩:=eqx (wY.heap.size);obtain⟨wF,hwF⟩:=eqx (wY.alloc (.cells #[.bool false,.slice G9 lk q9] 118))
  have hal:Below wY.heap.size wY wF:=by rw[<-hwF];exact bal
  have hB9:Blk wF g9 118 #[.bool false,.slice G9 lk q9]:=by rw[<-hwF,<-hg9];exact Blk.new _ _ _
  have HBG:=zh (dW hby hal);have HB9:=zh hB9;have HN9:=zh (HG9.o.keep hal)
  have hs9:wC.heap.size<=g9:=by rw[<-hg9];exact hby.size
  rw[hwF,hg9];clear hwF hg9 hal hB9 hby HG9 x2 x3 y2 y3 u0 u1 v0 v1 o0 o1
  obtain⟨y2,y3⟩:wF.cell? ⟨w.heap.size+1,2,none⟩=some (.bool false)/\wF.cell? ⟨w.heap.size+1,3,none⟩=some (.slice D2 k2 d2):=by
   have Y:=(HB1.o.keep (dW HBC.o HBG.o) HB1.o.lt).four;exact⟨Y.2.2.1,Y.2.2.2.1⟩
  obtain⟨v0,v1,_,_⟩:=(HC9.o.bg.keep HBG.o HC9.o.bg.lt).two;obtain⟨u0,u1,_,_⟩:=(HC8.o.bh.keep (dW HC9.o.below HBG.o) HC8.o.bh.lt).two;obtain⟨o0,o1,_,_⟩:=HB9.o.two;have HBE2:=zh (dW HBC.o HBG.o);have HRE:=zh (HR0.o.keep HBG.o HR0.o.lt);have HQ1:Hid (∀V,Below wF.heap.size wF V->Calls Tryz.prog 98 #[.agg #[.bool sn,.slice R8 ln r8],.agg #[.bool false,.slice G9 lk q9]] V λe w'=>∃R c,e=.returned (.agg #[.bool sr,.slice R lr c])/\NW w' R c (p+q).num.natAbs/\Below V.heap.size V w'):=zh (λV hV=>HQN.o V (dW HBE2.o hV) _ _ _ _ ((HC9.o.na.keep HBG.o).keep hV) (HN9.o.keep hV))
  have HQ2:Hid (∀V,Below wF.heap.size wF V->Calls Tryz.prog 98 #[.agg #[.bool false,.slice D2 k2 d2],.agg #[.bool false,.slice G9 lk q9]] V λe w'=>∃R c,e=.returned (.agg #[.bool false,.slice R ld c])/\NW w' R c md/\Below V.heap.size V w'):=zh (λV hV=>HQD.o V (dW HBE2.o hV) _ _ (HN9.o.keep hV));have HM1:Hid (∀V,Below wF.heap.size wF V->∀B b,NW V B b md->Calls Tryz.prog 96 #[.agg #[.bool false,.slice R7 lm r7],.agg #[.bool false,.slice B ld b]] V λe w'=>∃R c,e=.returned (.agg #[.bool false,.slice R xr c])/\NW w' R c (p+q).den/\Below V.heap.size V w'):=zh (λV hV B b hB=>HMR.o V (dW HBE2.o hV) _ _ _ _ ((HC8.o.nd.keep (dW HC9.o.below HBG.o)).keep hV) hB)
  have HL1:Hid (∀V,Below wF.heap.size wF V->∀A a B b,NW V A a (p+q).num.natAbs->NW V B b (p+q).den->Calls Tryz.prog 100 #[.agg #[.bool sr,.slice A lr a],.agg #[.bool false,.slice B xr b]] V λe w'=>∃A' a' kr B' b',e=.returned (.agg #[.bool sr,.slice A' lr a',.bool false,.slice B' kr b'])/\Hid (mJ w' (p+q) A' a' B' b'/\kr=(dg (dnz (p+q).den)).length)/\Below V.heap.size V w'):=zh (λV hV=>HLW.o V);have hEs:=HBG.o.size;clear HQN HQD HMR HLW HIZ HIO HG2
  have kc:∀V,Below wF.heap.size wF V->V.cell? ⟨g8,0,none⟩=some (.bool sn)/\V.cell? ⟨g8,1,none⟩=some (.slice R8 ln r8)/\V.cell? ⟨g9,0,none⟩=some (.bool false)/\V.cell? ⟨g9,1,none⟩=some (.slice G9 lk q9)/\V.cell? ⟨g7,0,none⟩=some (.bool false)/\V.cell? ⟨g7,1,none⟩=some (.slice R7 lm r7)/\V.cell? ⟨w.heap.size+1,2,none⟩=some (.bool false)/\V.cell? ⟨w.heap.size+1,3,none⟩=some (.slice D2 k2 d2):=λV h=>⟨gL h v0,gL h v1,gL h o0,gL h o1,gL h u0,gL h u1,gL h y2,gL h y3⟩
  have BZ:Below wF.heap.size wF wF.drew:=brf.drew;refine dG (S:=(λw'=>w'.cell? ⟨g8,0,none⟩=some (.bool sn)/\w'.cell? ⟨g8,1,none⟩=some (.slice R8 ln r8)/\w'.cell? ⟨g9,0,none⟩=some (.bool false)/\w'.cell? ⟨g9,1,none⟩=some (.slice G9 lk q9)/\w'.cell? ⟨g7,0,none⟩=some (.bool false)/\w'.cell? ⟨g7,1,none⟩=some (.slice R7 lm r7)/\w'.cell? ⟨w.heap.size+1,2,none⟩=some (.bool false)/\w'.cell? ⟨w.heap.size+1,3,none⟩=some (.slice D2 k2 d2))) (by kernel_rfl) (kc _ BZ) (λhHeld=>?_);generalize wF.drew=Z at*
  repeat' (first
    |(refine gLd 0 92 (.agg #[.bool sn,.slice R8 ln r8]) rfl rfl hHeld ?_;(try simp only[jA]))
    |(refine gLd 1 93 (.agg #[.bool false,.slice G9 lk q9]) rfl rfl hHeld ?_;(try simp only[jA]))
    |(refine gLd 3 95 (.agg #[.bool false,.slice R7 lm r7]) rfl rfl hHeld ?_;(try simp only[jA]))
    |(refine gLd 4 96 (.pointer (some ⟨w.heap.size+1,2,none⟩)) rfl rfl hHeld ?_;(try simp only[jA]))
    |(refine gLd 5 97 (.agg #[.bool false,.slice D2 k2 d2]) rfl rfl hHeld ?_;(try simp only[jA]))
    |(refine gLd 6 98 (.agg #[.bool false,.slice G9 lk q9]) rfl rfl hHeld ?_;(try simp only[jA]))
    |(refine gRd [2] ?_)
    |(refine gRd [7] ?_)
    |(refine gRd [8] ?_)
    |(refine gRd [9] ?_)
    |(refine gRd [10] ?_)
    |(exact dM)
    |(refine gCs rfl ?_ ?_)
    |(have _:OpN 2:=tg;clear tg;with_reducible refine bE (HQ1.o _ BZ) ?_;rintro e Zn ⟨Rn,rn,rfl,nnx,hb⟩;have NN:=zh nnx;replace BZ:=dW BZ hb;(try go_simp);clear hHeld;refine hK.o _ _ (kc _ BZ) (λhHeld=>?_);clear hK K hb nnx;obtain⟨Z,rfl⟩:∃x,x=Zn:=⟨_,rfl⟩;(try (replace BZ:=BZn;clear BZn));(try simp only[jA]))
    |(have _:OpN 7:=tg;clear tg;with_reducible refine bE (HQ2.o _ BZ) ?_;rintro e Zn ⟨Rd,rd,rfl,ndx,hb⟩;replace NN:=zh (NN.o.keep hb);have ND:=zh ndx;replace BZ:=dW BZ hb;(try go_simp);clear hHeld;refine hK.o _ _ (kc _ BZ) (λhHeld=>?_);clear hK K hb ndx;obtain⟨Z,rfl⟩:∃x,x=Zn:=⟨_,rfl⟩;(try (replace BZ:=BZn;clear BZn));(try simp only[jA]))
    |(have _:OpN 8:=tg;clear tg;with_reducible refine bE (HM1.o _ BZ _ _ ND.o) ?_;rintro e Zn ⟨Rm,rm,rfl,nmx,hb⟩;replace NN:=zh (NN.o.keep hb);replace ND:=zh (ND.o.keep hb);have NM:=zh nmx;replace BZ:=dW BZ hb;(try go_simp);clear hHeld;refine hK.o _ _ (kc _ BZ) (λhHeld=>?_);clear hK K hb nmx;obtain⟨Z,rfl⟩:∃x,x=Zn:=⟨_,rfl⟩;(try (replace BZ:=BZn;clear BZn));(try simp only[jA]))
    |(have _:OpN 9:=tg;clear tg;with_reducible refine bE (HL1.o _ BZ _ _ _ _ NN.o NM.o) ?_;rintro e Zn ⟨Rx,rx,kr,Ry,ry,rfl,nxx,hb⟩;replace NN:=zh (NN.o.keep hb);replace ND:=zh (ND.o.keep hb);replace NM:=zh (NM.o.keep hb);have NX:=zh nxx;replace BZ:=dW BZ hb;(try go_simp);clear hHeld;refine hK.o _ _ (kc _ BZ) (λhHeld=>?_);clear hK K hb nxx;obtain⟨Z,rfl⟩:∃x,x=Zn:=⟨_,rfl⟩;(try (replace BZ:=BZn;clear BZn));(try simp only[jA]))
    |(have _:OpN 10:=tg;clear tg;have YR:=HRE.o.keep BZ HRE.o.lt;obtain⟨t0,t1,t2,t3,f0,f1,f2,f3⟩:=YR.four;have HEND:=zh (HFIN.o Z Rx rx kr Ry ry (dW HBE2.o BZ) NX.o.o.1 NX.o.o.2);have YT:=rM YR (.bool sr) (.slice Rx lr rx) (.bool false) (.slice Ry kr ry);(try go_simp);clear hHeld;refine hK.o _ _ ⟨kF (gL BZ v0) (by omega),kF (gL BZ v1) (by omega),kF (gL BZ o0) (by omega),kF (gL BZ o1) (by omega),kF (gL BZ u0) (by omega),kF (gL BZ u1) (by omega),kF (gL BZ y2) (by omega),kF (gL BZ y3) (by omega)⟩ (λhHeld=>?_);clear hK K t0 f0 t1 f1 t2 f2 t3 f3;obtain⟨t0,t1,t2,t3,f0,f1,f2,f3⟩:=YT.four;obtain⟨Zn,hZn⟩:∃x,x=Z:=⟨_,rfl⟩;clear hZn;obtain⟨Z,rfl⟩:∃x,x=Zn:=⟨_,rfl⟩;(try (replace BZ:=BZn;clear BZn));(try simp only[jA]))
    |(refine fD (by decide+kernel) ?_ _)
    |(intro K hK tg;go_simp))
  all_goals
    go_wp2;exact aO (v:=.agg #[.bool sr,.slice Rx lr rx,.bool false,.slice Ry kr ry]) (by simp[results,Tryz.results59,go_sem,t0,t1,t2,t3]) rfl HEND.o
end Go.Proofs.Tg.Iw
