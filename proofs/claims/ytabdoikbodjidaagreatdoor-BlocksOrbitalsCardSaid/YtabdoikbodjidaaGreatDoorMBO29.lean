/- Parts of the proof. -/
import Derived.Test.YtabdoikbodjidaaGreatDoorMBO28
set_option maxHeartbeats 64000000
set_option maxRecDepth 100000
namespace Go.Proofs.Tg.Iw
open Go.RowKit Go.Bw Go.Gr Go.Proofs.Tg Go.Rq
theorem aBV {w V:World}(hb:Below w.heap.size w V):mR 0 w (.returned (.agg #[.bool false,.slice none 0 0,.bool false,.slice none 0 0])) V:=by
 have e1:(0:Rat).num=0:=rfl
 have e2:(0:Rat).den=1:=rfl
 refine⟨none,0,none,0,?_,⟨?_,?_⟩,hb⟩
 ·unfold rval
  rw[e1,e2,lK,Int.natAbs_zero,jS]
  rfl
 ·rw[e1];exact NW.zero _ _ _
 rw[e2,lK];exact NW.zero _ _ _
theorem aBW (p q:Rat)(N1 D1 N2 D2:Option Addr)(c1 d1 c2 d2:Nat)(w:World)(h:p.num=0∨q.num=0):
    Calls Tryz.prog 104 #[rval p N1 c1 D1 d1,rval q N2 c2 D2 d2] w (mR 0 w):=by
  unfold rval;obtain⟨s1,hs1⟩:=eqx (decide (p.num<0));obtain⟨s2,hs2⟩:=eqx (decide (q.num<0));obtain⟨l1,hl1⟩:=eqx ((dg p.num.natAbs).length);obtain⟨l2,hl2⟩:=eqx ((dg q.num.natAbs).length);generalize (dg (dnz p.den)).length=k1;generalize (dg (dnz q.den)).length=k2;rw[hs1,hs2,hl1,hl2]
  have hl:l1=0∨(l1≠0/\l2=0):=by
   have a1:p.num=0->l1=0:=λe=>by rw[<-hl1,e,Int.natAbs_zero,jS];rfl
   have a2:q.num=0->l2=0:=λe=>by rw[<-hl2,e,Int.natAbs_zero,jS];rfl
   rcases h with h|h
   ·exact .inl (a1 h)
   by_cases h0:l1=0
   ·exact .inl h0
   exact .inr ⟨h0,a2 h⟩
  clear h hs1 hs2 hl1 hl2;obtain⟨W,hW⟩:=eqx (((w.alloc (.cells #[.bool s1,.slice N1 l1 c1,.bool false,.slice D1 k1 d1] 120)).alloc (.cells #[.bool s2,.slice N2 l2 c2,.bool false,.slice D2 k2 d2] 120)).alloc (.cells #[.bool false,.slice none 0 0,.bool false,.slice none 0 0] 120))
  have B0:Blk W w.heap.size 120 #[.bool s1,.slice N1 l1 c1,.bool false,.slice D1 k1 d1]:=by rw[<-hW];exact((Blk.new _ _ _).alloc _).alloc _
  have B1:Blk W (w.heap.size+1) 120 #[.bool s2,.slice N2 l2 c2,.bool false,.slice D2 k2 d2]:=by
   rw[<-hW];have:=(Blk.new (w.alloc (.cells #[.bool s1,.slice N1 l1 c1,.bool false,.slice D1 k1 d1] 120)) 120 #[.bool s2,.slice N2 l2 c2,.bool false,.slice D2 k2 d2]).alloc (.cells #[.bool false,.slice none 0 0,.bool false,.slice none 0 0] 120);simpa using this
  have B2:Blk W (w.heap.size+1+1) 120 #[.bool false,.slice none 0 0,.bool false,.slice none 0 0]:=by
   rw[<-hW];have:=Blk.new ((w.alloc (.cells #[.bool s1,.slice N1 l1 c1,.bool false,.slice D1 k1 d1] 120)).alloc (.cells #[.bool s2,.slice N2 l2 c2,.bool false,.slice D2 k2 d2] 120)) 120 #[.bool false,.slice none 0 0,.bool false,.slice none 0 0];simpa using this
  have hbW:Below w.heap.size w W:=by rw[<-hW];exact((bal).alloc (by simp) _).alloc (by simp;omega) _
  have HB0:=zh B0;have HB1:=zh B1;have HB2:=zh B2;have HWW:=zh hW;have HBW:=zh hbW;have HZ:Hid (∀V x A n c,Calls Tryz.prog 94 #[.agg #[.bool x,.slice A n c]] V λe w'=>e=.returned (.bool (decide (n=0)))/\Below V.heap.size V w'):=zh (λV x A n c=>lW x A n c V)
  have HEND:Hid (∀V,Below W.heap.size W V->mR 0 w (.returned (.agg #[.bool false,.slice none 0 0,.bool false,.slice none 0 0])) ((((V.setCell ⟨w.heap.size+1+1,0,none⟩ (.bool false)).setCell ⟨w.heap.size+1+1,1,none⟩ (.slice none 0 0)).setCell ⟨w.heap.size+1+1,2,none⟩ (.bool false)).setCell ⟨w.heap.size+1+1,3,none⟩ (.slice none 0 0))):=zh (λV hV=>
   aBV (hJ (hJ (hJ (hJ (dW hbW hV) (by omega) _ _) (by omega) _ _) (by omega) _ _) (by omega) _ _))
  obtain⟨Q,hQ⟩:=eqx (mR 0 w);rw[hQ]at HEND ⊢;obtain⟨x0,x1,x2,x3,_,_,_,_⟩:=B0.four;obtain⟨y0,y1,y2,y3,_,_,_,_⟩:=B1.four;have hbe:Below W.heap.size W W:=bM _ _;clear hQ hW hbW B0 B1 B2
  rcases hl with h0|⟨h0,h1⟩
  ·subst h0
   have d1:decide ((0:Nat)=0)=true:=by decide
   go_enter Tryz.func104,Tryz.ntmps104;go_upto_region 1 with(fail);rw[HWW.o]
   go_wp2_with (go_at_call 94;refine(HZ.o _ _ _ _ _).mono ?_;rintro e wA ⟨rfl,hb⟩;have hbe:=dW hbe hb;obtain⟨x0,x1,x2,x3,_,_,_,_⟩:=(HB0.o.keep hbe HB0.o.lt).four;obtain⟨y0,y1,y2,y3,_,_,_,_⟩:=(HB1.o.keep hbe HB1.o.lt).four;have Y2:=HB2.o.keep hbe HB2.o.lt;have H9:=zh (HEND.o wA hbe);obtain⟨r0,r1,r2,r3,r4,r5,r6,r7⟩:=Y2.four;clear hb)
   exact aO (v:=.agg #[.bool false,.slice none 0 0,.bool false,.slice none 0 0]) (by simp[results,Tryz.results104,go_sem,r0,r1,r2,r3]) rfl H9.o
  subst h1;have d1:decide (l1=0)=false:=dF h0
  have d2:decide ((0:Nat)=0)=true:=by decide
  go_enter Tryz.func104,Tryz.ntmps104;go_upto_region 1 with(fail);rw[HWW.o]
  go_wp2_with (go_at_call 94;refine(HZ.o _ _ _ _ _).mono ?_;rintro e wA ⟨rfl,hb⟩;have hbe:=dW hbe hb;obtain⟨x0,x1,x2,x3,_,_,_,_⟩:=(HB0.o.keep hbe HB0.o.lt).four;obtain⟨y0,y1,y2,y3,_,_,_,_⟩:=(HB1.o.keep hbe HB1.o.lt).four;have Y2:=HB2.o.keep hbe HB2.o.lt;have H9:=zh (HEND.o wA hbe);obtain⟨r0,r1,r2,r3,r4,r5,r6,r7⟩:=Y2.four;clear hb)
  exact aO (v:=.agg #[.bool false,.slice none 0 0,.bool false,.slice none 0 0]) (by simp[results,Tryz.results104,go_sem,r0,r1,r2,r3]) rfl H9.o
theorem aFc (p q:Rat)(N1 D1 N2 D2:Option Addr)(c1 d1 c2 d2:Nat)(w:World)(h1:mJ w p N1 c1 D1 d1)(h2:mJ w q N2 c2 D2 d2)(hp:p.num≠0)(hq:q.num≠0)(e1:p.den=1)(e2:q.den=1)
    (bn1:(dg p.num.natAbs).length<=400000) (bn2:(dg q.num.natAbs).length<=400000) (hs:(dg p.num.natAbs).length<40∨(dg q.num.natAbs).length<40):
    Calls Tryz.prog 104 #[rval p N1 c1 D1 d1,rval q N2 c2 D2 d2] w (mR (p*q) w):=by
  obtain⟨m1,m2⟩:=aBU p q;rw[e1,e2,fS,fS]at m1 m2;rw[show p.num.tdiv ((1:Nat):Int)=p.num by simp,show q.num.tdiv ((1:Nat):Int)=q.num by simp]at m1
  have m3:(p*q).den=1:=by rw[m2]
  unfold rval;rw[e1,e2,lK,jS];obtain⟨s1,hs1⟩:=eqx (decide (p.num<0));obtain⟨s2,hs2⟩:=eqx (decide (q.num<0));obtain⟨l1,hl1⟩:=eqx ((dg p.num.natAbs).length);obtain⟨l2,hl2⟩:=eqx ((dg q.num.natAbs).length);rw[hs1,hs2,hl1,hl2]
  show Calls _ _ #[.agg #[.bool s1,.slice N1 l1 c1,.bool false,.slice D1 0 d1],.agg #[.bool s2,.slice N2 l2 c2,.bool false,.slice D2 0 d2]] _ _
  have dn1:decide (l1=0)=false:=dF (by rw[<-hl1];have:=(kB (u:=p.num.natAbs)).2 (by omega);omega);have dn2:decide (l2=0)=false:=dF (by rw[<-hl2];have:=(kB (u:=q.num.natAbs)).2 (by omega);omega)
  have dz:decide ((0:Nat)=0)=true:=by decide
  obtain⟨W,hW⟩:=eqx (((w.alloc (.cells #[.bool s1,.slice N1 l1 c1,.bool false,.slice D1 0 d1] 120)).alloc (.cells #[.bool s2,.slice N2 l2 c2,.bool false,.slice D2 0 d2] 120)).alloc (.cells #[.bool false,.slice none 0 0,.bool false,.slice none 0 0] 120))
  have B0:Blk W w.heap.size 120 #[.bool s1,.slice N1 l1 c1,.bool false,.slice D1 0 d1]:=by rw[<-hW];exact((Blk.new _ _ _).alloc _).alloc _
  have B1:Blk W (w.heap.size+1) 120 #[.bool s2,.slice N2 l2 c2,.bool false,.slice D2 0 d2]:=by
   rw[<-hW];have:=(Blk.new (w.alloc (.cells #[.bool s1,.slice N1 l1 c1,.bool false,.slice D1 0 d1] 120)) 120 #[.bool s2,.slice N2 l2 c2,.bool false,.slice D2 0 d2]).alloc (.cells #[.bool false,.slice none 0 0,.bool false,.slice none 0 0] 120);simpa using this
  have B2:Blk W (w.heap.size+1+1) 120 #[.bool false,.slice none 0 0,.bool false,.slice none 0 0]:=by
   rw[<-hW];have:=Blk.new ((w.alloc (.cells #[.bool s1,.slice N1 l1 c1,.bool false,.slice D1 0 d1] 120)).alloc (.cells #[.bool s2,.slice N2 l2 c2,.bool false,.slice D2 0 d2] 120)) 120 #[.bool false,.slice none 0 0,.bool false,.slice none 0 0];simpa using this
  have hbW:Below w.heap.size w W:=by rw[<-hW];exact((bal).alloc (by simp) _).alloc (by simp;omega) _
  have HB0:=zh B0;have HB1:=zh B1;have HB2:=zh B2;have HWW:=zh hW;have H1:=zh (h1.keep hbW);have H2:=zh (h2.keep hbW);have HZ:Hid (∀V x A n c,Calls Tryz.prog 94 #[.agg #[.bool x,.slice A n c]] V λe w'=>e=.returned (.bool (decide (n=0)))/\Below V.heap.size V w'):=zh (λV x A n c=>lW x A n c V);obtain⟨sr,hsr⟩:=eqx (decide ((p*q).num<0));obtain⟨lr,hlr⟩:=eqx ((dg (p*q).num.natAbs).length)
  have HM:Hid (∀V,Below W.heap.size W V->Calls Tryz.prog 96 #[.agg #[.bool s1,.slice N1 l1 c1],.agg #[.bool s2,.slice N2 l2 c2]] V λe w'=>∃R c,e=.returned (.agg #[.bool sr,.slice R lr c])/\NW w' R c (p*q).num.natAbs/\Below V.heap.size V w'):=zh (λV hV=>by
   have:=oO p.num q.num N1 N2 c1 c2 V (H1.o.num.keep hV) (H2.o.num.keep hV) bn1 bn2 hs;rw[<-m1]at this;unfold oT at this;rw[hs1,hs2,hl1,hl2,hsr,hlr]at this
   exact this)
  obtain⟨Q,hQ⟩:=eqx (mR (p*q) w)
  have HFIN:Hid (∀V R c,Below W.heap.size W V->NW V R c (p*q).num.natAbs->Q (.returned (.agg #[.bool sr,.slice R lr c,.bool false,.slice none 0 0])) ((((V.setCell ⟨w.heap.size+1+1,0,none⟩ (.bool sr)).setCell ⟨w.heap.size+1+1,1,none⟩ (.slice R lr c)).setCell ⟨w.heap.size+1+1,2,none⟩ (.bool false)).setCell ⟨w.heap.size+1+1,3,none⟩ (.slice none 0 0))):=zh (λV R c hV hR=>by
   have Y:=HB2.o.keep hV HB2.o.lt;rw[<-hQ];refine⟨R,c,none,0,?_,⟨lY hR (hR.offB Y rW) _ _ _ _,?_⟩,?_⟩
   ·unfold rval;rw[hsr,hlr,m3,lK,jS];rfl
   ·rw[m3,lK];exact NW.zero _ _ _
   exact hJ (hJ (hJ (hJ (dW hbW hV) (by omega) _ _) (by omega) _ _) (by omega) _ _) (by omega) _ _)
  rw[hQ];obtain⟨x0,x1,x2,x3,_,_,_,_⟩:=B0.four;obtain⟨y0,y1,y2,y3,_,_,_,_⟩:=B1.four;have hbe:Below W.heap.size W W:=bM _ _;clear hQ hW hbW B0 B1 B2 h1 h2 hp hq bn1 bn2 hs m1 m2 m3 e1 e2 hs1 hs2 hl1 hl2 hsr hlr;go_enter Tryz.func104,Tryz.ntmps104;go_upto_region 1 with(fail);rw[HWW.o]
  go_wp2_with (first
    |(go_at_call 94;refine(HZ.o _ _ _ _ _).mono ?_;rintro e wA ⟨rfl,hb⟩;have hbe:=dW hbe hb;obtain⟨x0,x1,x2,x3,_,_,_,_⟩:=(HB0.o.keep hbe HB0.o.lt).four;obtain⟨y0,y1,y2,y3,_,_,_,_⟩:=(HB1.o.keep hbe HB1.o.lt).four;clear hb)
    |(go_at_call 96;refine(HM.o _ hbe).mono ?_;rintro e wB ⟨R,c,rfl,hR,hb⟩;have hbe:=dW hbe hb;have H9:=zh (HFIN.o wB R c hbe hR);obtain⟨r0,r1,r2,r3,r4,r5,r6,r7⟩:=(HB2.o.keep hbe HB2.o.lt).four;clear hb hR))
  exact aO (v:=.agg #[.bool sr,.slice R lr c,.bool false,.slice none 0 0]) (by simp[results,Tryz.results104,go_sem,r0,r1,r2,r3]) rfl H9.o
theorem aKL (p q:Rat)(N1 D1 N2 D2:Option Addr)(c1 d1 c2 d2:Nat)(w:World)(h1:mJ w p N1 c1 D1 d1)(h2:mJ w q N2 c2 D2 d2)
    (bn1:(dg p.num.natAbs).length<40) (bd1:(dg p.den).length<40) (bn2:(dg q.num.natAbs).length<40) (bd2:(dg q.den).length<40) (hT:Tab w):
    Calls Tryz.prog 104 #[rval p N1 c1 D1 d1,rval q N2 c2 D2 d2] w (mR (p*q) w):=by
  by_cases hp:p.num=0
  ·have e:p*q=0:=by rw[Rat.num_eq_zero.1 hp,Rat.zero_mul]
   rw[e];exact aBW p q N1 D1 N2 D2 c1 d1 c2 d2 w (.inl hp)
  by_cases hq:q.num=0
  ·have e:p*q=0:=by rw[Rat.num_eq_zero.1 hq,Rat.mul_zero]
   rw[e];exact aBW p q N1 D1 N2 D2 c1 d1 c2 d2 w (.inr hq)
  by_cases hw:p.den=1/\q.den=1
  ·exact aFc p q N1 D1 N2 D2 c1 d1 c2 d2 w h1 h2 hp hq hw.1 hw.2 (by omega) (by omega) (.inl bn1)
  exact aKK p q N1 D1 N2 D2 c1 d1 c2 d2 w h1 h2 hp hq hw bn1 bd1 bn2 bd2 hT
end Go.Proofs.Tg.Iw
namespace Go.Proofs.Tg.Iw
open Go.RowKit Go.Bw Go.Gr Go.Proofs.Tg
theorem aHy (p:Bool)(X Y:Option Addr)(cx cy a b:Nat)(w:World)(hX:NW w X cx a)(hY:NW w Y cy b)(ha:(dg a).length<=400000)(hb:(dg b).length<=400000)(hr:(dg (a+b)).length<=1000000):
    Calls Tryz.prog 95 #[.agg #[.bool p,.slice X (dg a).length cx],.agg #[.bool p,.slice Y (dg b).length cy]] w (lT (p&&decide (0<(dg (a+b)).length)) (a+b) w):=by
  obtain⟨na,hna⟩:=eqx ((dg a).length);obtain⟨nb,hnb⟩:=eqx ((dg b).length);obtain⟨W,hW⟩:=eqx (((w.alloc (.cells #[.bool p,.slice X na cx] 118)).alloc (.cells #[.bool p,.slice Y nb cy] 118)).alloc (.cells #[.bool false,.slice none 0 0] 118))
  have B0:Blk W w.heap.size 118 #[.bool p,.slice X na cx]:=by rw[<-hW];exact((Blk.new _ _ _).alloc _).alloc _
  have B1:Blk W (w.heap.size+1) 118 #[.bool p,.slice Y nb cy]:=by
   rw[<-hW];have:=(Blk.new (w.alloc (.cells #[.bool p,.slice X na cx] 118)) 118 #[.bool p,.slice Y nb cy]).alloc (.cells #[.bool false,.slice none 0 0] 118);simpa using this
  have B2:Blk W (w.heap.size+1+1) 118 #[.bool false,.slice none 0 0]:=by
   rw[<-hW];have:=Blk.new ((w.alloc (.cells #[.bool p,.slice X na cx] 118)).alloc (.cells #[.bool p,.slice Y nb cy] 118)) 118 #[.bool false,.slice none 0 0];simpa using this
  have hbW:Below w.heap.size w W:=by rw[<-hW];exact((bal).alloc (by simp) _).alloc (by simp;omega) _
  have HF:Hid (∀V,Below W.heap.size W V->Calls Tryz.prog 142 #[.slice X na cx,.slice Y nb cy] V (nV (a+b) V)):=zh (λV h=>by rw[<-hna,<-hnb];exact aKl X Y cx cy a b V ((hX.keep hbW).keep h) ((hY.keep hbW).keep h) ⟨by omega,by omega⟩);obtain⟨m,hm⟩:=eqx (a+b);rw[hm]at HF hr ⊢;unfold nV at HF;obtain⟨nm,hnm⟩:=eqx ((dg m).length);have HLST:Hid (∀(V:World) (R:Option Addr) (c:Nat) (v:Bool),Below W.heap.size W V->NW V R c m->Blk V (w.heap.size+1+1) 118 #[.bool false,.slice none 0 0]->lT v m w (.returned (.agg #[.bool v,.slice R nm c])) ((V.setCell ⟨w.heap.size+1+1,0,none⟩ (.bool v)).setCell ⟨w.heap.size+1+1,1,none⟩ (.slice R nm c))):=zh (λV R c v h1 h2 h3=>by rw[<-hnm];exact nE hbW h1 h2 (by omega) h3)
  have HM:Hid (∀V R c,Calls Tryz.prog 141 #[.bool p,.slice R nm c] V λe w'=>e=.returned (.agg #[.bool (p&&decide (0<nm)),.slice R nm c])/\Below V.heap.size V w'):=zh (λV R c=>qQ (p) R nm c V _ rfl);rw[hnm]at HF ⊢;rw[hna,hnb];obtain⟨v,hv⟩:=eqx ((p&&decide (0<nm)));rw[hv]at HM ⊢;have HW:=zh hW;have HB0:=zh B0;have HB1:=zh B1;have HB2:=zh B2;obtain⟨a0,a1,_,_⟩:=B0.two;obtain⟨b0,b1,_,_⟩:=B1.two;obtain⟨d0,d1,d2,d3⟩:=B2.two;have hl2:=B2.lt;have n1:(w.heap.size=w.heap.size+1+1)=False:=bX (by omega);have n2:(w.heap.size+1+1=w.heap.size)=False:=bX (by omega);have z0:=a0;have z1:=a1;have y0:=b0;have y1:=b1;clear hX hY hna hnb hm hnm hv hW B0 B1 B2 ha hb hr
  cases p
  ·go_enter Tryz.func95,Tryz.ntmps95;go_upto_region 1 with(fail);rw[HW.o];have hbe:Below W.heap.size W W.drew:=brf.drew;go_upto_region 2 with(fail)
   go_region_held3 (λw'=>w'.cell? ⟨w.heap.size,0,none⟩=some (.bool false)/\w'.cell? ⟨w.heap.size,1,none⟩=some (.slice X na cx)/\w'.cell? ⟨w.heap.size+1,0,none⟩=some (.bool false)/\w'.cell? ⟨w.heap.size+1,1,none⟩=some (.slice Y nb cy))
     (first|exact⟨gL hbe a0,gL hbe a1,gL hbe b0,gL hbe b1⟩|exact⟨gL hbe z0,gL hbe z1,gL hbe y0,gL hbe y1⟩|go_keep|(dsimp only;refine⟨?_,?_,?_,?_⟩<;>go_keep)|(refine⟨?_,?_,?_,?_⟩<;>(rw[World.cell?_setCell_ne,World.cell?_setCell_ne]<;>first|exact gL hbe z0|exact gL hbe z1|exact gL hbe y0|exact gL hbe y1|(simp;omega)|simp)))
     (first
       |(go_at_call 142;with_reducible refine bE (HF.o _ (by assumption)) ?_;rintro e w5 ⟨R,cr,rfl,hR,hb5⟩
         have hbe:=dW hbe hb5)
       |(go_at_call 141;with_reducible refine bE (HM.o _ _ _) ?_;rintro e w6 ⟨rfl,hb6⟩
         have hR:=hR.keep hb6;have hbe:=dW hbe hb6;have E2:=HB2.o.keep hbe hl2
         obtain⟨d0,d1,d2,d3⟩:=E2.two))
   all_goals
     go_wp2;exact aO (v:=.agg #[.bool v,.slice R nm cr]) (by simp[results,Tryz.results95,go_sem,d0,d1]) rfl (HLST.o w6 R cr v hbe hR E2)
  go_enter Tryz.func95,Tryz.ntmps95;go_upto_region 1 with(fail);rw[HW.o];have hbe:Below W.heap.size W W.drew:=brf.drew;go_upto_region 2 with(fail)
  go_region_held3 (λw'=>w'.cell? ⟨w.heap.size,0,none⟩=some (.bool true)/\w'.cell? ⟨w.heap.size,1,none⟩=some (.slice X na cx)/\w'.cell? ⟨w.heap.size+1,0,none⟩=some (.bool true)/\w'.cell? ⟨w.heap.size+1,1,none⟩=some (.slice Y nb cy))
    (first|exact⟨gL hbe a0,gL hbe a1,gL hbe b0,gL hbe b1⟩|exact⟨gL hbe z0,gL hbe z1,gL hbe y0,gL hbe y1⟩|go_keep|(dsimp only;refine⟨?_,?_,?_,?_⟩<;>go_keep)|(refine⟨?_,?_,?_,?_⟩<;>(rw[World.cell?_setCell_ne,World.cell?_setCell_ne]<;>first|exact gL hbe z0|exact gL hbe z1|exact gL hbe y0|exact gL hbe y1|(simp;omega)|simp)))
    (first
      |(go_at_call 142;with_reducible refine bE (HF.o _ (by assumption)) ?_;rintro e w5 ⟨R,cr,rfl,hR,hb5⟩
        have hbe:=dW hbe hb5)
      |(go_at_call 141;with_reducible refine bE (HM.o _ _ _) ?_;rintro e w6 ⟨rfl,hb6⟩
        have hR:=hR.keep hb6;have hbe:=dW hbe hb6;have E2:=HB2.o.keep hbe hl2
        obtain⟨d0,d1,d2,d3⟩:=E2.two))
  all_goals
    go_wp2;exact aO (v:=.agg #[.bool v,.slice R nm cr]) (by simp[results,Tryz.results95,go_sem,d0,d1]) rfl (HLST.o w6 R cr v hbe hR E2)
theorem aME (p q:Bool)(hpq:(p==q)=false)(X Y:Option Addr)(cx cy a b:Nat)(w:World)(hX:NW w X cx a)(hY:NW w Y cy b)(hab:b<=a)(ha:(dg a).length<=400000)(hb:(dg b).length<=400000)(hr:(dg (a-b)).length<=1000000):
    Calls Tryz.prog 95 #[.agg #[.bool p,.slice X (dg a).length cx],.agg #[.bool q,.slice Y (dg b).length cy]] w (lT (p&&decide (0<(dg (a-b)).length)) (a-b) w):=by
  obtain⟨na,hna⟩:=eqx ((dg a).length);obtain⟨nb,hnb⟩:=eqx ((dg b).length);obtain⟨W,hW⟩:=eqx (((w.alloc (.cells #[.bool p,.slice X na cx] 118)).alloc (.cells #[.bool q,.slice Y nb cy] 118)).alloc (.cells #[.bool false,.slice none 0 0] 118))
  have B0:Blk W w.heap.size 118 #[.bool p,.slice X na cx]:=by rw[<-hW];exact((Blk.new _ _ _).alloc _).alloc _
  have B1:Blk W (w.heap.size+1) 118 #[.bool q,.slice Y nb cy]:=by
   rw[<-hW];have:=(Blk.new (w.alloc (.cells #[.bool p,.slice X na cx] 118)) 118 #[.bool q,.slice Y nb cy]).alloc (.cells #[.bool false,.slice none 0 0] 118);simpa using this
  have B2:Blk W (w.heap.size+1+1) 118 #[.bool false,.slice none 0 0]:=by
   rw[<-hW];have:=Blk.new ((w.alloc (.cells #[.bool p,.slice X na cx] 118)).alloc (.cells #[.bool q,.slice Y nb cy] 118)) 118 #[.bool false,.slice none 0 0];simpa using this
  have hbW:Below w.heap.size w W:=by rw[<-hW];exact((bal).alloc (by simp) _).alloc (by simp;omega) _
  have HF:Hid (∀V,Below W.heap.size W V->Calls Tryz.prog 144 #[.slice X na cx,.slice Y nb cy] V (nV (a-b) V)):=zh (λV h=>by rw[<-hna,<-hnb];exact aDz X Y cx cy a b V ((hX.keep hbW).keep h) ((hY.keep hbW).keep h) hab (by omega));obtain⟨m,hm⟩:=eqx (a-b);rw[hm]at HF hr ⊢;unfold nV at HF;obtain⟨nm,hnm⟩:=eqx ((dg m).length);have HLST:Hid (∀(V:World) (R:Option Addr) (c:Nat) (v:Bool),Below W.heap.size W V->NW V R c m->Blk V (w.heap.size+1+1) 118 #[.bool false,.slice none 0 0]->lT v m w (.returned (.agg #[.bool v,.slice R nm c])) ((V.setCell ⟨w.heap.size+1+1,0,none⟩ (.bool v)).setCell ⟨w.heap.size+1+1,1,none⟩ (.slice R nm c))):=zh (λV R c v h1 h2 h3=>by rw[<-hnm];exact nE hbW h1 h2 (by omega) h3)
  have HM:Hid (∀V R c,Calls Tryz.prog 141 #[.bool p,.slice R nm c] V λe w'=>e=.returned (.agg #[.bool (p&&decide (0<nm)),.slice R nm c])/\Below V.heap.size V w'):=zh (λV R c=>qQ (p) R nm c V _ rfl);rw[hnm]at HF ⊢;have HC:=zh (aBO X Y cx cy a b W (hX.keep hbW).wds (hY.keep hbW).wds (by omega));rw[hna,hnb]at HC;obtain⟨z,hz,hz0⟩:∃z:Int,(if a<b then(-1:Int)else if a=b then 0 else 1)=z/\0<=z:=⟨_,rfl,by rw[aJ (by omega)];split<;>decide⟩;rw[hz]at HC;have hzd:decide (z<0)=false:=dF (by omega);have hzd':decide (0<=z)=true:=dT hz0;clear hz;rw[hna,hnb];obtain⟨v,hv⟩:=eqx ((p&&decide (0<nm)));rw[hv]at HM ⊢;have HW:=zh hW;have HB0:=zh B0;have HB1:=zh B1;have HB2:=zh B2;obtain⟨a0,a1,_,_⟩:=B0.two;obtain⟨b0,b1,_,_⟩:=B1.two;obtain⟨d0,d1,d2,d3⟩:=B2.two
  have hl2:=B2.lt;have n1:(w.heap.size=w.heap.size+1+1)=False:=bX (by omega);have n2:(w.heap.size+1+1=w.heap.size)=False:=bX (by omega);have z0:=a0;have z1:=a1;have y0:=b0;have y1:=b1;clear hX hY hna hnb hm hnm hv hW B0 B1 B2 ha hb hr hab
  obtain⟨rfl,rfl⟩|⟨rfl,rfl⟩:(p=false/\q=true)∨(p=true/\q=false):=by revert hpq;cases p<;>cases q<;>decide
  ·go_enter Tryz.func95,Tryz.ntmps95;go_upto_region 1 with(fail);rw[HW.o];go_upto_region 3 with(fail);go_wp2_with (fail);refine HC.o.mono ?_;rintro e W1 ⟨rfl,hdr⟩;have hbe:Below W.heap.size W W1.drew:=hdr.below.drew;have hbe1:=hdr.below;clear hdr a0 a1 b0 b1 d0 d1 d2 d3;obtain⟨a0,a1,_,_⟩:=(HB0.o.keep hbe1 HB0.o.lt).two;obtain⟨b0,b1,_,_⟩:=(HB1.o.keep hbe1 HB1.o.lt).two;obtain⟨d0,d1,d2,d3⟩:=(HB2.o.keep hbe1 HB2.o.lt).two;go_upto_region 4 with(fail)
   go_region_held3 (λw'=>w'.cell? ⟨w.heap.size,0,none⟩=some (.bool false)/\w'.cell? ⟨w.heap.size,1,none⟩=some (.slice X na cx)/\w'.cell? ⟨w.heap.size+1,0,none⟩=some (.bool true)/\w'.cell? ⟨w.heap.size+1,1,none⟩=some (.slice Y nb cy))
     (first|exact⟨gL hbe a0,gL hbe a1,gL hbe b0,gL hbe b1⟩|exact⟨gL hbe z0,gL hbe z1,gL hbe y0,gL hbe y1⟩|go_keep|(dsimp only;refine⟨?_,?_,?_,?_⟩<;>go_keep)|(refine⟨?_,?_,?_,?_⟩<;>(rw[World.cell?_setCell_ne,World.cell?_setCell_ne]<;>first|exact gL hbe z0|exact gL hbe z1|exact gL hbe y0|exact gL hbe y1|(simp;omega)|simp)))
     (first
       |(go_at_call 144;with_reducible refine bE (HF.o _ (by assumption)) ?_;rintro e w5 ⟨R,cr,rfl,hR,hb5⟩
         have hbe:=dW hbe hb5)
       |(go_at_call 141;with_reducible refine bE (HM.o _ _ _) ?_;rintro e w6 ⟨rfl,hb6⟩
         have hR:=hR.keep hb6;have hbe:=dW hbe hb6;have E2:=HB2.o.keep hbe hl2
         obtain⟨d0,d1,d2,d3⟩:=E2.two))
   all_goals
     go_wp2;exact aO (v:=.agg #[.bool v,.slice R nm cr]) (by simp[results,Tryz.results95,go_sem,d0,d1]) rfl (HLST.o w6 R cr v hbe hR E2)
  go_enter Tryz.func95,Tryz.ntmps95;go_upto_region 1 with(fail);rw[HW.o];go_upto_region 3 with(fail);go_wp2_with (fail);refine HC.o.mono ?_;rintro e W1 ⟨rfl,hdr⟩;have hbe:Below W.heap.size W W1.drew:=hdr.below.drew;have hbe1:=hdr.below;clear hdr a0 a1 b0 b1 d0 d1 d2 d3;obtain⟨a0,a1,_,_⟩:=(HB0.o.keep hbe1 HB0.o.lt).two;obtain⟨b0,b1,_,_⟩:=(HB1.o.keep hbe1 HB1.o.lt).two;obtain⟨d0,d1,d2,d3⟩:=(HB2.o.keep hbe1 HB2.o.lt).two;go_upto_region 4 with(fail)
  go_region_held3 (λw'=>w'.cell? ⟨w.heap.size,0,none⟩=some (.bool true)/\w'.cell? ⟨w.heap.size,1,none⟩=some (.slice X na cx)/\w'.cell? ⟨w.heap.size+1,0,none⟩=some (.bool false)/\w'.cell? ⟨w.heap.size+1,1,none⟩=some (.slice Y nb cy))
    (first|exact⟨gL hbe a0,gL hbe a1,gL hbe b0,gL hbe b1⟩|exact⟨gL hbe z0,gL hbe z1,gL hbe y0,gL hbe y1⟩|go_keep|(dsimp only;refine⟨?_,?_,?_,?_⟩<;>go_keep)|(refine⟨?_,?_,?_,?_⟩<;>(rw[World.cell?_setCell_ne,World.cell?_setCell_ne]<;>first|exact gL hbe z0|exact gL hbe z1|exact gL hbe y0|exact gL hbe y1|(simp;omega)|simp)))
    (first
      |(go_at_call 144;with_reducible refine bE (HF.o _ (by assumption)) ?_;rintro e w5 ⟨R,cr,rfl,hR,hb5⟩
        have hbe:=dW hbe hb5)
      |(go_at_call 141;with_reducible refine bE (HM.o _ _ _) ?_;rintro e w6 ⟨rfl,hb6⟩
        have hR:=hR.keep hb6;have hbe:=dW hbe hb6;have E2:=HB2.o.keep hbe hl2
        obtain⟨d0,d1,d2,d3⟩:=E2.two))
  all_goals
    go_wp2;exact aO (v:=.agg #[.bool v,.slice R nm cr]) (by simp[results,Tryz.results95,go_sem,d0,d1]) rfl (HLST.o w6 R cr v hbe hR E2)
theorem aMF (p q:Bool)(hpq:(p==q)=false)(X Y:Option Addr)(cx cy a b:Nat)(w:World)(hX:NW w X cx a)(hY:NW w Y cy b)(hab:a<b)(ha:(dg a).length<=400000)(hb:(dg b).length<=400000)(hr:(dg (b-a)).length<=1000000):
    Calls Tryz.prog 95 #[.agg #[.bool p,.slice X (dg a).length cx],.agg #[.bool q,.slice Y (dg b).length cy]] w (lT (q&&decide (0<(dg (b-a)).length)) (b-a) w):=by
  obtain⟨na,hna⟩:=eqx ((dg a).length);obtain⟨nb,hnb⟩:=eqx ((dg b).length);obtain⟨W,hW⟩:=eqx (((w.alloc (.cells #[.bool p,.slice X na cx] 118)).alloc (.cells #[.bool q,.slice Y nb cy] 118)).alloc (.cells #[.bool false,.slice none 0 0] 118))
  have B0:Blk W w.heap.size 118 #[.bool p,.slice X na cx]:=by rw[<-hW];exact((Blk.new _ _ _).alloc _).alloc _
  have B1:Blk W (w.heap.size+1) 118 #[.bool q,.slice Y nb cy]:=by
   rw[<-hW];have:=(Blk.new (w.alloc (.cells #[.bool p,.slice X na cx] 118)) 118 #[.bool q,.slice Y nb cy]).alloc (.cells #[.bool false,.slice none 0 0] 118);simpa using this
  have B2:Blk W (w.heap.size+1+1) 118 #[.bool false,.slice none 0 0]:=by
   rw[<-hW];have:=Blk.new ((w.alloc (.cells #[.bool p,.slice X na cx] 118)).alloc (.cells #[.bool q,.slice Y nb cy] 118)) 118 #[.bool false,.slice none 0 0];simpa using this
  have hbW:Below w.heap.size w W:=by rw[<-hW];exact((bal).alloc (by simp) _).alloc (by simp;omega) _
  have HF:Hid (∀V,Below W.heap.size W V->Calls Tryz.prog 144 #[.slice Y nb cy,.slice X na cx] V (nV (b-a) V)):=zh (λV h=>by rw[<-hna,<-hnb];exact aDz Y X cy cx b a V ((hY.keep hbW).keep h) ((hX.keep hbW).keep h) (by omega) (by omega));obtain⟨m,hm⟩:=eqx (b-a);rw[hm]at HF hr ⊢;unfold nV at HF;obtain⟨nm,hnm⟩:=eqx ((dg m).length);have HLST:Hid (∀(V:World) (R:Option Addr) (c:Nat) (v:Bool),Below W.heap.size W V->NW V R c m->Blk V (w.heap.size+1+1) 118 #[.bool false,.slice none 0 0]->lT v m w (.returned (.agg #[.bool v,.slice R nm c])) ((V.setCell ⟨w.heap.size+1+1,0,none⟩ (.bool v)).setCell ⟨w.heap.size+1+1,1,none⟩ (.slice R nm c))):=zh (λV R c v h1 h2 h3=>by rw[<-hnm];exact nE hbW h1 h2 (by omega) h3)
  have HM:Hid (∀V R c,Calls Tryz.prog 141 #[.bool q,.slice R nm c] V λe w'=>e=.returned (.agg #[.bool (q&&decide (0<nm)),.slice R nm c])/\Below V.heap.size V w'):=zh (λV R c=>qQ (q) R nm c V _ rfl);rw[hnm]at HF ⊢;have HC:=zh (aBO X Y cx cy a b W (hX.keep hbW).wds (hY.keep hbW).wds (by omega));rw[hna,hnb]at HC;rw[aQ hab]at HC;rw[hna,hnb];obtain⟨v,hv⟩:=eqx ((q&&decide (0<nm)));rw[hv]at HM ⊢;have HW:=zh hW;have HB0:=zh B0;have HB1:=zh B1;have HB2:=zh B2;obtain⟨a0,a1,_,_⟩:=B0.two;obtain⟨b0,b1,_,_⟩:=B1.two;obtain⟨d0,d1,d2,d3⟩:=B2.two;have hl2:=B2.lt;have n1:(w.heap.size=w.heap.size+1+1)=False:=bX (by omega);have n2:(w.heap.size+1+1=w.heap.size)=False:=bX (by omega);have z0:=a0;have z1:=a1;have y0:=b0;have y1:=b1
  clear hX hY hna hnb hm hnm hv hW B0 B1 B2 ha hb hr hab
  obtain⟨rfl,rfl⟩|⟨rfl,rfl⟩:(p=false/\q=true)∨(p=true/\q=false):=by revert hpq;cases p<;>cases q<;>decide
  ·go_enter Tryz.func95,Tryz.ntmps95;go_upto_region 1 with(fail);rw[HW.o];go_upto_region 3 with(fail);go_wp2_with (fail);refine HC.o.mono ?_;rintro e W1 ⟨rfl,hdr⟩;have hbe:Below W.heap.size W W1.drew:=hdr.below.drew;have hbe1:=hdr.below;clear hdr a0 a1 b0 b1 d0 d1 d2 d3;obtain⟨a0,a1,_,_⟩:=(HB0.o.keep hbe1 HB0.o.lt).two;obtain⟨b0,b1,_,_⟩:=(HB1.o.keep hbe1 HB1.o.lt).two;obtain⟨d0,d1,d2,d3⟩:=(HB2.o.keep hbe1 HB2.o.lt).two;go_upto_region 5 with(fail)
   go_region_held3 (λw'=>w'.cell? ⟨w.heap.size,0,none⟩=some (.bool false)/\w'.cell? ⟨w.heap.size,1,none⟩=some (.slice X na cx)/\w'.cell? ⟨w.heap.size+1,0,none⟩=some (.bool true)/\w'.cell? ⟨w.heap.size+1,1,none⟩=some (.slice Y nb cy))
     (first|exact⟨gL hbe a0,gL hbe a1,gL hbe b0,gL hbe b1⟩|exact⟨gL hbe z0,gL hbe z1,gL hbe y0,gL hbe y1⟩|go_keep|(dsimp only;refine⟨?_,?_,?_,?_⟩<;>go_keep)|(refine⟨?_,?_,?_,?_⟩<;>(rw[World.cell?_setCell_ne,World.cell?_setCell_ne]<;>first|exact gL hbe z0|exact gL hbe z1|exact gL hbe y0|exact gL hbe y1|(simp;omega)|simp)))
     (first
       |(go_at_call 144;with_reducible refine bE (HF.o _ (by assumption)) ?_;rintro e w5 ⟨R,cr,rfl,hR,hb5⟩
         have hbe:=dW hbe hb5)
       |(go_at_call 141;with_reducible refine bE (HM.o _ _ _) ?_;rintro e w6 ⟨rfl,hb6⟩
         have hR:=hR.keep hb6;have hbe:=dW hbe hb6;have E2:=HB2.o.keep hbe hl2
         obtain⟨d0,d1,d2,d3⟩:=E2.two))
   all_goals
     go_wp2;exact aO (v:=.agg #[.bool v,.slice R nm cr]) (by simp[results,Tryz.results95,go_sem,d0,d1]) rfl (HLST.o w6 R cr v hbe hR E2)
  go_enter Tryz.func95,Tryz.ntmps95;go_upto_region 1 with(fail);rw[HW.o];go_upto_region 3 with(fail);go_wp2_with (fail);refine HC.o.mono ?_;rintro e W1 ⟨rfl,hdr⟩;have hbe:Below W.heap.size W W1.drew:=hdr.below.drew;have hbe1:=hdr.below;clear hdr a0 a1 b0 b1 d0 d1 d2 d3;obtain⟨a0,a1,_,_⟩:=(HB0.o.keep hbe1 HB0.o.lt).two;obtain⟨b0,b1,_,_⟩:=(HB1.o.keep hbe1 HB1.o.lt).two;obtain⟨d0,d1,d2,d3⟩:=(HB2.o.keep hbe1 HB2.o.lt).two;go_upto_region 5 with(fail)
  go_region_held3 (λw'=>w'.cell? ⟨w.heap.size,0,none⟩=some (.bool true)/\w'.cell? ⟨w.heap.size,1,none⟩=some (.slice X na cx)/\w'.cell? ⟨w.heap.size+1,0,none⟩=some (.bool false)/\w'.cell? ⟨w.heap.size+1,1,none⟩=some (.slice Y nb cy))
    (first|exact⟨gL hbe a0,gL hbe a1,gL hbe b0,gL hbe b1⟩|exact⟨gL hbe z0,gL hbe z1,gL hbe y0,gL hbe y1⟩|go_keep|(dsimp only;refine⟨?_,?_,?_,?_⟩<;>go_keep)|(refine⟨?_,?_,?_,?_⟩<;>(rw[World.cell?_setCell_ne,World.cell?_setCell_ne]<;>first|exact gL hbe z0|exact gL hbe z1|exact gL hbe y0|exact gL hbe y1|(simp;omega)|simp)))
    (first
      |(go_at_call 144;with_reducible refine bE (HF.o _ (by assumption)) ?_;rintro e w5 ⟨R,cr,rfl,hR,hb5⟩
        have hbe:=dW hbe hb5)
      |(go_at_call 141;with_reducible refine bE (HM.o _ _ _) ?_;rintro e w6 ⟨rfl,hb6⟩
        have hR:=hR.keep hb6;have hbe:=dW hbe hb6;have E2:=HB2.o.keep hbe hl2
        obtain⟨d0,d1,d2,d3⟩:=E2.two))
  all_goals
    go_wp2;exact aO (v:=.agg #[.bool v,.slice R nm cr]) (by simp[results,Tryz.results95,go_sem,d0,d1]) rfl (HLST.o w6 R cr v hbe hR E2)
theorem wT (x y:Int)(X Y:Option Addr)(cx cy:Nat)(w:World)(hX:NW w X cx x.natAbs)(hY:NW w Y cy y.natAbs)(ha:(dg x.natAbs).length<=400000)(hb:(dg y.natAbs).length<=400000)(hr:(dg (x.natAbs+y.natAbs)).length<=1000000):
    Calls Tryz.prog 95 #[.agg #[.bool (decide (x<0)),.slice X (dg x.natAbs).length cx],.agg #[.bool (decide (y<0)),.slice Y (dg y.natAbs).length cy]] w (oT (x+y) w):=by
  by_cases hs:(decide (x<0))=(decide (y<0))
  ·have h:=aHy (decide (x<0)) X Y cx cy x.natAbs y.natAbs w hX hY ha hb hr;rw[hs]at h ⊢
   refine h.mono λ_ _ h=>uU h ?_ ?_
   ·have:=dH.1 hs;omega
   have hi:=dH.1 hs
   by_cases hy:y<0
   ·have hx:x<0:=hi.2 hy
    have h0:x.natAbs+y.natAbs≠0:=by omega
    rw[dT (kB.2 h0),dT hy,dT (show x+y<0 by omega)];rfl
   have hx:¬x<0:=λh=>hy (hi.1 h)
   rw[dF hy,dF (show ¬x+y<0 by omega)];rfl
  have hpq:((decide (x<0))==(decide (y<0)))=false:=aG.2 hs
  rcases eN x.natAbs y.natAbs with hlt|hge
  ·have h:=aMF (decide (x<0)) (decide (y<0)) hpq X Y cx cy x.natAbs y.natAbs w hX hY hlt ha hb (aR (Go.Bw.jT (by omega)) hr)
   refine h.mono λ_ _ h=>uU h ?_ ?_
   ·by_cases hx:x<0<;>by_cases hy:y<0<;>simp[hx,hy]at hs<;>omega
   have h0:y.natAbs-x.natAbs≠0:=by omega
   rw[dT (kB.2 h0),Bool.and_true];apply dH.2
   by_cases hx:x<0<;>by_cases hy:y<0<;>simp[hx,hy]at hs ⊢<;>omega
  have h:=aME (decide (x<0)) (decide (y<0)) hpq X Y cx cy x.natAbs y.natAbs w hX hY hge ha hb (aR (Go.Bw.jT (by omega)) hr)
  refine h.mono λ_ _ h=>uU h ?_ ?_
  ·by_cases hx:x<0<;>by_cases hy:y<0<;>simp[hx,hy]at hs<;>omega
  by_cases h0:x.natAbs-y.natAbs=0
  ·rw[h0,jS]
   have:¬x+y<0:=by
    by_cases hx:x<0<;>by_cases hy:y<0<;>simp[hx,hy]at hs<;>omega
   rw[dF this];simp
  rw[dT (kB.2 h0),Bool.and_true];apply dH.2
  by_cases hx:x<0<;>by_cases hy:y<0<;>simp[hx,hy]at hs ⊢<;>omega
end Go.Proofs.Tg.Iw
namespace Go.Proofs.Tg.Iw
open Go.RowKit Go.Bw Go.Gr Go.Proofs.Tg Go.Rq
theorem uV (p q:Rat)(g:Nat)(hg:Nat.gcd p.den q.den=g)(n:Int)(hn:p.num*((q.den/g:Nat):Int)+q.num*((p.den/g:Nat):Int)=n):
    (p+q).num=n.tdiv (Nat.gcd n.natAbs g:Nat)/\(p+q).den=(p.den/g)*(q.den/Nat.gcd n.natAbs g):=by
  have hgd:g∣q.den:=by rw[<-hg];exact jE _ _
  have hrd:Nat.gcd n.natAbs g∣q.den:=fW (jE _ _) hgd;have h:p+q=Rat.add p q:=rfl;rw[h];unfold Rat.add;simp only[]
  by_cases h1:Nat.gcd p.den q.den=1
  ·rw[jP h1];rw[hg]at h1;subst h1;rw[fV,fV]at hn;rw[fS,fV,fV];refine⟨?_,rfl⟩
   show p.num*q.den+q.num*p.den=n.tdiv ((1:Nat):Int)
   rw[hn];simp
  rw[dif_neg h1];unfold Rat.maybeNormalize;simp only[hg,hn]
  split
  ·rename_i h2
   refine⟨?_,?_⟩
   ·show n=_
    rw[h2];simp
   show p.den/g*q.den=_
   rw[h2,fV]
  simp only[Int.divExact_eq_tdiv,Nat.divExact_eq_div];exact⟨trivial,Nat.mul_div_assoc _ hrd⟩
theorem zT {a b i j:Nat}(ha:(dg a).length<=i)(hb:(dg b).length<=j):(dg (a*b)).length<=i+j:=by
 refine Nat.le_of_lt_succ (Nat.lt_succ_of_le ?_)
 by_cases h0:a*b=0
 ·rw[h0,jS];exact aW _
 have h1:a<B^i:=aH (lC a) (aP (by decide) ha)
 have h2:b<B^j:=aH (lC b) (aP (by decide) hb);refine mC ?_;rw[eU];exact Nat.mul_lt_mul'' h1 h2
theorem zU {a b i:Nat}(ha:(dg a).length<=i)(hb:(dg b).length<=i):(dg (a+b)).length<=i+1:=by
 have h1:a<B^i:=aH (lC a) (aP (by decide) ha)
 have h2:b<B^i:=aH (lC b) (aP (by decide) hb)
 refine mC ?_
 have h3:B^(i+1)=B^i*B:=bS ..
 have h4:B^i*2<=B^i*B:=bJ _ (by decide)
 omega
end Go.Proofs.Tg.Iw
