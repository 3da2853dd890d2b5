/- Parts of the proof. -/
import Derived.Test.YtabdoikbodjidaaGreatDoorMBO29
set_option maxHeartbeats 64000000
set_option maxRecDepth 100000
namespace Go.Proofs.Tg.Iw
open Go.RowKit Go.Bw Go.Gr Go.Proofs.Tg Go.Rq
theorem aHF (p q:Rat)(N1 D1 N2 D2:Option Addr)(c1 d1 c2 d2:Nat)(w:World)(h1:mJ w p N1 c1 D1 d1)(h2:mJ w q N2 c2 D2 d2)(e1:p.den=1)(e2:q.den=1)(b1:(dg p.num.natAbs).length<=1000)(b2:(dg q.num.natAbs).length<=1000):
    Calls Tryz.prog 59 #[rval p N1 c1 D1 d1,rval q N2 c2 D2 d2] w (mR (p+q) w):=by
  obtain⟨m1,m2⟩:=uV p q 1 (by rw[e1];exact Nat.gcd_one_left _) (p.num+q.num) (by rw[e1,e2];simp);rw[e1,e2,fS]at m2;rw[fS,show(p.num+q.num).tdiv ((1:Nat):Int)=p.num+q.num by simp]at m1
  replace m2:(p+q).den=1:=by rw[m2]
  unfold rval;obtain⟨s1,hs1⟩:=eqx (decide (p.num<0));obtain⟨s2,hs2⟩:=eqx (decide (q.num<0));obtain⟨l1,hl1⟩:=eqx ((dg p.num.natAbs).length);obtain⟨l2,hl2⟩:=eqx ((dg q.num.natAbs).length);obtain⟨k1,hk1⟩:=eqx ((dg (dnz p.den)).length);obtain⟨k2,hk2⟩:=eqx ((dg (dnz q.den)).length);rw[hs1,hs2,hl1,hl2,hk1,hk2]
  have hk1z:k1=0:=by rw[<-hk1,e1,lK,jS];rfl
  have hk2z:k2=0:=by rw[<-hk2,e2,lK,jS];rfl
  clear hk1 hk2;subst hk1z hk2z
  have dz:decide ((0:Nat)=0)=true:=by decide
  obtain⟨W,hW⟩:=eqx (((w.alloc (.cells #[.bool s1,.slice N1 l1 c1,.bool false,.slice D1 0 d1] 120)).alloc (.cells #[.bool s2,.slice N2 l2 c2,.bool false,.slice D2 0 d2] 120)).alloc (.cells #[.bool false,.slice none 0 0,.bool false,.slice none 0 0] 120))
  have B0:Blk W w.heap.size 120 #[.bool s1,.slice N1 l1 c1,.bool false,.slice D1 0 d1]:=by rw[<-hW];exact((Blk.new _ _ _).alloc _).alloc _
  have B1:Blk W (w.heap.size+1) 120 #[.bool s2,.slice N2 l2 c2,.bool false,.slice D2 0 d2]:=by
   rw[<-hW];have:=(Blk.new (w.alloc (.cells #[.bool s1,.slice N1 l1 c1,.bool false,.slice D1 0 d1] 120)) 120 #[.bool s2,.slice N2 l2 c2,.bool false,.slice D2 0 d2]).alloc (.cells #[.bool false,.slice none 0 0,.bool false,.slice none 0 0] 120);simpa using this
  have B2:Blk W (w.heap.size+1+1) 120 #[.bool false,.slice none 0 0,.bool false,.slice none 0 0]:=by
   rw[<-hW];have:=Blk.new ((w.alloc (.cells #[.bool s1,.slice N1 l1 c1,.bool false,.slice D1 0 d1] 120)).alloc (.cells #[.bool s2,.slice N2 l2 c2,.bool false,.slice D2 0 d2] 120)) 120 #[.bool false,.slice none 0 0,.bool false,.slice none 0 0];simpa using this
  have hbW:Below w.heap.size w W:=by rw[<-hW];exact((bal).alloc (by simp) _).alloc (by simp;omega) _
  have hsW:w.heap.size+3<=W.heap.size:=by rw[<-hW];simp
  have HB0:=zh B0;have HB1:=zh B1;have HB2:=zh B2;have HWW:=zh hW;have HBW:=zh hbW;have H1:=zh (h1.keep hbW);have H2:=zh (h2.keep hbW);have HZ:Hid (∀V x A n c,Calls Tryz.prog 94 #[.agg #[.bool x,.slice A n c]] V λe w'=>e=.returned (.bool (decide (n=0)))/\Below V.heap.size V w'):=zh (λV x A n c=>lW x A n c V);obtain⟨sr,hsr⟩:=eqx (decide ((p+q).num<0));obtain⟨lr,hlr⟩:=eqx ((dg (p+q).num.natAbs).length);obtain⟨Q,hQ⟩:=eqx (mR (p+q) w)
  have HA:Hid (∀V,Below W.heap.size W V->Calls Tryz.prog 95 #[.agg #[.bool s1,.slice N1 l1 c1],.agg #[.bool s2,.slice N2 l2 c2]] V λe w'=>∃R c,e=.returned (.agg #[.bool sr,.slice R lr c])/\NW w' R c (p+q).num.natAbs/\Below V.heap.size V w'):=zh (λV hV=>by
   have:=wT p.num q.num N1 N2 c1 c2 V (H1.o.num.keep hV) (H2.o.num.keep hV) (by omega) (by omega) (aR (zU b1 b2) (by omega));rw[<-m1]at this;unfold oT at this;rw[hs1,hs2,hl1,hl2,hsr,hlr]at this
   exact this)
  have HFIN:Hid (∀V R c,Below W.heap.size W V->NW V R c (p+q).num.natAbs->Q (.returned (.agg #[.bool sr,.slice R lr c,.bool false,.slice none 0 0])) ((((V.setCell ⟨w.heap.size+1+1,0,none⟩ (.bool sr)).setCell ⟨w.heap.size+1+1,1,none⟩ (.slice R lr c)).setCell ⟨w.heap.size+1+1,2,none⟩ (.bool false)).setCell ⟨w.heap.size+1+1,3,none⟩ (.slice none 0 0))):=zh (λV R c hV hR=>by
   have Y:=HB2.o.keep hV HB2.o.lt;rw[<-hQ];refine⟨R,c,_,_,by unfold rval;rw[hsr,hlr,m2,lK,jS,List.length_nil],⟨lY hR (hR.offB Y rW) _ _ _ _,?_⟩,?_⟩
   ·rw[m2];rw[lK];exact NW.zero _ _ _
   exact hJ (hJ (hJ (hJ (dW hbW hV) (by omega) _ _) (by omega) _ _) (by omega) _ _) (by omega) _ _)
  rw[hQ];obtain⟨x0,x1,x2,x3,_,_,_,_⟩:=B0.four;obtain⟨y0,y1,y2,y3,_,_,_,_⟩:=B1.four;have hbe:Below W.heap.size W W:=bM _ _;clear hQ hW hbW B0 B1 B2 h1 h2 e1 e2 b1 b2 m1 m2 hs1 hs2 hl1 hl2 hsr hlr;go_enter Tryz.func59,Tryz.ntmps59;go_upto_region 1 with(fail);rw[HWW.o]
  go_wp2_with (first
    |(go_at_call 94;refine(HZ.o _ _ _ _ _).mono ?_;rintro e wA ⟨rfl,hb⟩;have hbe:=dW hbe hb;obtain⟨x0,x1,x2,x3,_,_,_,_⟩:=(HB0.o.keep hbe HB0.o.lt).four;obtain⟨y0,y1,y2,y3,_,_,_,_⟩:=(HB1.o.keep hbe HB1.o.lt).four;clear hb)
    |(go_at_call 95;refine(HA.o _ hbe).mono ?_;rintro e wB ⟨R,c,rfl,hR,hb⟩;have hbe:=dW hbe hb;have HEND:=zh (HFIN.o wB R c hbe hR);obtain⟨t0,t1,t2,t3,r4,r5,r6,r7⟩:=(HB2.o.keep hbe HB2.o.lt).four;clear hb hR))
  exact aO (v:=.agg #[.bool sr,.slice R lr c,.bool false,.slice none 0 0]) (by simp[results,Tryz.results59,go_sem,t0,t1,t2,t3]) rfl HEND.o
theorem aFd (p q:Rat)(N1 D1 N2 D2:Option Addr)(c1 d1 c2 d2:Nat)(w:World)(h1:mJ w p N1 c1 D1 d1)(h2:mJ w q N2 c2 D2 d2)(e1:p.den=1)(e2:q.den≠1)(b1:(dg p.num.natAbs).length<=1000)(b2:(dg q.num.natAbs).length<=1000)(b3:(dg q.den).length<=1000)(hs:(dg p.num.natAbs).length<40∨(dg q.den).length<40):
    Calls Tryz.prog 59 #[rval p N1 c1 D1 d1,rval q N2 c2 D2 d2] w (mR (p+q) w):=by
  obtain⟨m1,m2⟩:=uV p q 1 (by rw[e1];exact Nat.gcd_one_left _) (p.num*(q.den:Int)+q.num) (by rw[e1];simp);rw[e1,fS,fV,fV,fJ]at m2;rw[fS,show(p.num*(q.den:Int)+q.num).tdiv ((1:Nat):Int)=p.num*(q.den:Int)+q.num by simp]at m1;unfold rval;obtain⟨s1,hs1⟩:=eqx (decide (p.num<0));obtain⟨s2,hs2⟩:=eqx (decide (q.num<0));obtain⟨l1,hl1⟩:=eqx ((dg p.num.natAbs).length);obtain⟨l2,hl2⟩:=eqx ((dg q.num.natAbs).length);obtain⟨k1,hk1⟩:=eqx ((dg (dnz p.den)).length);obtain⟨k2,hk2⟩:=eqx ((dg (dnz q.den)).length);rw[hs1,hs2,hl1,hl2,hk1,hk2];have dd1:decide (k1=0)=true:=dT (by rw[<-hk1,e1,lK,jS];rfl);have dd2:decide (k2=0)=false:=dF (by rw[<-hk2,lH e2];have:=(kB (u:=q.den)).2 q.den_nz;omega)
  have hkd:(dg q.den).length=k2:=by rw[<-hk2,lH e2]
  have hrd:(dg (dnz (p+q).den)).length=k2:=by rw[m2,lH e2];exact hkd
  obtain⟨W,hW⟩:=eqx (((w.alloc (.cells #[.bool s1,.slice N1 l1 c1,.bool false,.slice D1 k1 d1] 120)).alloc (.cells #[.bool s2,.slice N2 l2 c2,.bool false,.slice D2 k2 d2] 120)).alloc (.cells #[.bool false,.slice none 0 0,.bool false,.slice none 0 0] 120))
  have B0:Blk W w.heap.size 120 #[.bool s1,.slice N1 l1 c1,.bool false,.slice D1 k1 d1]:=by rw[<-hW];exact((Blk.new _ _ _).alloc _).alloc _
  have B1:Blk W (w.heap.size+1) 120 #[.bool s2,.slice N2 l2 c2,.bool false,.slice D2 k2 d2]:=by
   rw[<-hW];have:=(Blk.new (w.alloc (.cells #[.bool s1,.slice N1 l1 c1,.bool false,.slice D1 k1 d1] 120)) 120 #[.bool s2,.slice N2 l2 c2,.bool false,.slice D2 k2 d2]).alloc (.cells #[.bool false,.slice none 0 0,.bool false,.slice none 0 0] 120);simpa using this
  have B2:Blk W (w.heap.size+1+1) 120 #[.bool false,.slice none 0 0,.bool false,.slice none 0 0]:=by
   rw[<-hW];have:=Blk.new ((w.alloc (.cells #[.bool s1,.slice N1 l1 c1,.bool false,.slice D1 k1 d1] 120)).alloc (.cells #[.bool s2,.slice N2 l2 c2,.bool false,.slice D2 k2 d2] 120)) 120 #[.bool false,.slice none 0 0,.bool false,.slice none 0 0];simpa using this
  have hbW:Below w.heap.size w W:=by rw[<-hW];exact((bal).alloc (by simp) _).alloc (by simp;omega) _
  have hsW:w.heap.size+3<=W.heap.size:=by rw[<-hW];simp
  have HB0:=zh B0;have HB1:=zh B1;have HB2:=zh B2;have HWW:=zh hW;have HBW:=zh hbW;have H1:=zh (h1.keep hbW);have H2:=zh (h2.keep hbW);have HZ:Hid (∀V x A n c,Calls Tryz.prog 94 #[.agg #[.bool x,.slice A n c]] V λe w'=>e=.returned (.bool (decide (n=0)))/\Below V.heap.size V w'):=zh (λV x A n c=>lW x A n c V);obtain⟨sr,hsr⟩:=eqx (decide ((p+q).num<0));obtain⟨lr,hlr⟩:=eqx ((dg (p+q).num.natAbs).length);obtain⟨Q,hQ⟩:=eqx (mR (p+q) w);have hO:=H2.o.den;rw[lH e2]at hO;have HO:=zh hO;obtain⟨z,hz⟩:=eqx (p.num*(q.den:Int));obtain⟨sz,hsz⟩:=eqx (decide (z<0));obtain⟨lz,hlz⟩:=eqx ((dg z.natAbs).length)
  have hzl:(dg z.natAbs).length<=2000:=by rw[<-hz,fA,aU];exact zT (by omega) b3
  rw[hz]at m1
  have HM:Hid (∀V,Below W.heap.size W V->Calls Tryz.prog 96 #[.agg #[.bool s1,.slice N1 l1 c1],.agg #[.bool false,.slice D2 k2 d2]] V λe w'=>∃R c,e=.returned (.agg #[.bool sz,.slice R lz c])/\NW w' R c z.natAbs/\Below V.heap.size V w'):=zh (λV hV=>by
   have:=oO p.num (q.den:Int) N1 D2 c1 d2 V (H1.o.num.keep hV) (by rw[aU];exact HO.o.keep hV) (by omega) (by rw[aU];omega) (by rw[aU];exact hs);rw[hz]at this;unfold oT at this;rw[aU,dF (show ¬(q.den:Int)<0 by omega),hs1,hl1,hkd,hsz,hlz]at this
   exact this)
  have HA:Hid (∀V,Below W.heap.size W V->∀R c,NW V R c z.natAbs->Calls Tryz.prog 95 #[.agg #[.bool sz,.slice R lz c],.agg #[.bool s2,.slice N2 l2 c2]] V λe w'=>∃R c,e=.returned (.agg #[.bool sr,.slice R lr c])/\NW w' R c (p+q).num.natAbs/\Below V.heap.size V w'):=zh (λV hV R c hR=>by
   have:=wT z q.num R N2 c c2 V hR (H2.o.num.keep hV) (by omega) (by omega) (aR (zU hzl (show(dg q.num.natAbs).length<=2000 by omega)) (by omega));rw[<-m1]at this;unfold oT at this;rw[hsz,hlz,hs2,hl2,hsr,hlr]at this
   exact this)
  have HFIN:Hid (∀V R c,Below W.heap.size W V->NW V R c (p+q).num.natAbs->Q (.returned (.agg #[.bool sr,.slice R lr c,.bool false,.slice D2 k2 d2])) ((((V.setCell ⟨w.heap.size+1+1,0,none⟩ (.bool sr)).setCell ⟨w.heap.size+1+1,1,none⟩ (.slice R lr c)).setCell ⟨w.heap.size+1+1,2,none⟩ (.bool false)).setCell ⟨w.heap.size+1+1,3,none⟩ (.slice D2 k2 d2))):=zh (λV R c hV hR=>by
   have Y:=HB2.o.keep hV HB2.o.lt;have hD:=HO.o.keep hV;rw[<-hQ];refine⟨R,c,D2,d2,by unfold rval;rw[hsr,hlr,hrd],⟨lY hR (hR.offB Y rW) _ _ _ _,?_⟩,?_⟩
   ·rw[m2,lH e2];exact lY hD (hD.offB Y rW) _ _ _ _
   exact hJ (hJ (hJ (hJ (dW hbW hV) (by omega) _ _) (by omega) _ _) (by omega) _ _) (by omega) _ _)
  rw[hQ];obtain⟨x0,x1,x2,x3,_,_,_,_⟩:=B0.four;obtain⟨y0,y1,y2,y3,_,_,_,_⟩:=B1.four;have hbe:Below W.heap.size W W:=bM _ _;clear hQ hW hbW B0 B1 B2 h1 h2 e1 e2 b1 b2 b3 m1 m2 hs1 hs2 hl1 hl2 hk1 hk2 hsr hlr hO hz hsz hlz hzl hkd hrd hs;go_enter Tryz.func59,Tryz.ntmps59;go_upto_region 1 with(fail);rw[HWW.o]
  go_upto_region 4 with(go_at_call 94;refine(HZ.o _ _ _ _ _).mono ?_;rintro e wA ⟨rfl,hb⟩;have hbe:=dW hbe hb;obtain⟨x0,x1,x2,x3,_,_,_,_⟩:=(HB0.o.keep hbe HB0.o.lt).four;obtain⟨y0,y1,y2,y3,_,_,_,_⟩:=(HB1.o.keep hbe HB1.o.lt).four;clear hb)
  have HBE:=zh hbe;have HM1:Hid (∀V,Below wA.heap.size wA V->Calls Tryz.prog 96 #[.agg #[.bool s1,.slice N1 l1 c1],.agg #[.bool false,.slice D2 k2 d2]] V λe w'=>∃R c,e=.returned (.agg #[.bool sz,.slice R lz c])/\NW w' R c z.natAbs/\Below V.heap.size V w'):=zh (λV hV=>HM.o V (dW HBE.o hV));have HA1:Hid (∀V,Below wA.heap.size wA V->∀R c,NW V R c z.natAbs->Calls Tryz.prog 95 #[.agg #[.bool sz,.slice R lz c],.agg #[.bool s2,.slice N2 l2 c2]] V λe w'=>∃R c,e=.returned (.agg #[.bool sr,.slice R lr c])/\NW w' R c (p+q).num.natAbs/\Below V.heap.size V w'):=zh (λV hV=>HA.o V (dW HBE.o hV));have HR0:=zh (HB2.o.keep hbe HB2.o.lt);have hWC:=hbe.size;clear HM HA HZ dd1 dd2 hbe
  have kc:∀V,Below wA.heap.size wA V->V.cell? ⟨w.heap.size,0,none⟩=some (.bool s1)/\V.cell? ⟨w.heap.size,1,none⟩=some (.slice N1 l1 c1)/\V.cell? ⟨w.heap.size+1,0,none⟩=some (.bool s2)/\V.cell? ⟨w.heap.size+1,1,none⟩=some (.slice N2 l2 c2)/\V.cell? ⟨w.heap.size+1,2,none⟩=some (.bool false)/\V.cell? ⟨w.heap.size+1,3,none⟩=some (.slice D2 k2 d2):=λV h=>⟨gL h x0,gL h x1,gL h y0,gL h y1,gL h y2,gL h y3⟩
  have BZ:Below wA.heap.size wA wA.drew:=brf.drew;refine dG (S:=(λw'=>w'.cell? ⟨w.heap.size,0,none⟩=some (.bool s1)/\w'.cell? ⟨w.heap.size,1,none⟩=some (.slice N1 l1 c1)/\w'.cell? ⟨w.heap.size+1,0,none⟩=some (.bool s2)/\w'.cell? ⟨w.heap.size+1,1,none⟩=some (.slice N2 l2 c2)/\w'.cell? ⟨w.heap.size+1,2,none⟩=some (.bool false)/\w'.cell? ⟨w.heap.size+1,3,none⟩=some (.slice D2 k2 d2))) (by kernel_rfl) (kc _ BZ) (λhHeld=>?_);generalize wA.drew=Z at*
  repeat' (first
    |(refine gLd 0 29 (.pointer (some ⟨w.heap.size,0,none⟩)) rfl rfl hHeld ?_;(try simp only[jA]))
    |(refine gLd 1 30 (.agg #[.bool s1,.slice N1 l1 c1]) rfl rfl hHeld ?_;(try simp only[jA]))
    |(refine gLd 2 31 (.pointer (some ⟨w.heap.size+1,2,none⟩)) rfl rfl hHeld ?_;(try simp only[jA]))
    |(refine gLd 3 32 (.agg #[.bool false,.slice D2 k2 d2]) rfl rfl hHeld ?_;(try simp only[jA]))
    |(refine gLd 5 34 (.pointer (some ⟨w.heap.size+1,0,none⟩)) rfl rfl hHeld ?_;(try simp only[jA]))
    |(refine gLd 6 35 (.agg #[.bool s2,.slice N2 l2 c2]) rfl rfl hHeld ?_;(try simp only[jA]))
    |(refine gLd 8 37 (.pointer (some ⟨w.heap.size+1,2,none⟩)) rfl rfl hHeld ?_;(try simp only[jA]))
    |(refine gLd 9 38 (.agg #[.bool false,.slice D2 k2 d2]) rfl rfl hHeld ?_;(try simp only[jA]))
    |(refine gLd 10 39 (.agg #[.bool sr,.slice Ra lr ra,.bool false,.slice D2 k2 d2]) rfl rfl hHeld ?_;(try simp only[jA]))
    |(refine gRd [4] ?_)
    |(refine gRd [7] ?_)
    |(refine gRd [11] ?_)
    |(exact dM)
    |(refine gCs rfl ?_ ?_)
    |(have _:OpN 4:=tg;clear tg;with_reducible refine bE (HM1.o _ BZ) ?_;rintro e Zn ⟨Rm,rm,rfl,nmx,hb⟩;have NM:=zh nmx;replace BZ:=dW BZ hb;(try go_simp);clear hHeld;refine hK.o _ _ (kc _ BZ) (λhHeld=>?_);clear hK K hb nmx;obtain⟨Z,rfl⟩:∃x,x=Zn:=⟨_,rfl⟩;(try (replace BZ:=BZn;clear BZn));(try simp only[jA]))
    |(have _:OpN 7:=tg;clear tg;with_reducible refine bE (HA1.o _ BZ _ _ NM.o) ?_;rintro e Zn ⟨Ra,ra,rfl,nax,hb⟩;replace NM:=zh (NM.o.keep hb);have NA:=zh nax;replace BZ:=dW BZ hb;(try go_simp);clear hHeld;refine hK.o _ _ (kc _ BZ) (λhHeld=>?_);clear hK K hb nax;obtain⟨Z,rfl⟩:∃x,x=Zn:=⟨_,rfl⟩;(try (replace BZ:=BZn;clear BZn));(try simp only[jA]))
    |(have _:OpN 11:=tg;clear tg;have YR:=HR0.o.keep BZ HR0.o.lt;obtain⟨t0,t1,t2,t3,f0,f1,f2,f3⟩:=YR.four;have HEND:=zh (HFIN.o Z Ra ra (dW HBE.o BZ) NA.o);have YT:=rM YR (.bool sr) (.slice Ra lr ra) (.bool false) (.slice D2 k2 d2);(try go_simp);clear hHeld;refine hK.o _ _ ⟨kF (gL BZ x0) (by omega),kF (gL BZ x1) (by omega),kF (gL BZ y0) (by omega),kF (gL BZ y1) (by omega),kF (gL BZ y2) (by omega),kF (gL BZ y3) (by omega)⟩ (λhHeld=>?_);clear hK K t0 f0 t1 f1 t2 f2 t3 f3;obtain⟨t0,t1,t2,t3,f0,f1,f2,f3⟩:=YT.four;obtain⟨Zn,hZn⟩:∃x,x=Z:=⟨_,rfl⟩;clear hZn;obtain⟨Z,rfl⟩:∃x,x=Zn:=⟨_,rfl⟩;(try (replace BZ:=BZn;clear BZn));(try simp only[jA]))
    |(refine fD (by decide+kernel) ?_ _)
    |(intro K hK tg;go_simp))
  all_goals
    go_wp2;exact aO (v:=.agg #[.bool sr,.slice Ra lr ra,.bool false,.slice D2 k2 d2]) (by simp[results,Tryz.results59,go_sem,t0,t1,t2,t3]) rfl HEND.o
theorem aDK (p q:Rat)(N1 D1 N2 D2:Option Addr)(c1 d1 c2 d2:Nat)(w:World)(h1:mJ w p N1 c1 D1 d1)(h2:mJ w q N2 c2 D2 d2)(e1:p.den≠1)(e2:q.den=1)(b1:(dg p.num.natAbs).length<=1000)(b2:(dg q.num.natAbs).length<=1000)(b3:(dg p.den).length<=1000)(hs:(dg q.num.natAbs).length<40∨(dg p.den).length<40):
    Calls Tryz.prog 59 #[rval p N1 c1 D1 d1,rval q N2 c2 D2 d2] w (mR (p+q) w):=by
  obtain⟨m1,m2⟩:=uV p q 1 (by rw[e2];exact fS _) (q.num*(p.den:Int)+p.num) (by rw[e2];simp;omega);rw[e2,fS,fV,fV,dI]at m2;rw[fS,show(q.num*(p.den:Int)+p.num).tdiv ((1:Nat):Int)=q.num*(p.den:Int)+p.num by simp]at m1;unfold rval;obtain⟨s1,hs1⟩:=eqx (decide (p.num<0));obtain⟨s2,hs2⟩:=eqx (decide (q.num<0));obtain⟨l1,hl1⟩:=eqx ((dg p.num.natAbs).length);obtain⟨l2,hl2⟩:=eqx ((dg q.num.natAbs).length);obtain⟨k1,hk1⟩:=eqx ((dg (dnz p.den)).length);obtain⟨k2,hk2⟩:=eqx ((dg (dnz q.den)).length);rw[hs1,hs2,hl1,hl2,hk1,hk2];have dd1:decide (k1=0)=false:=dF (by rw[<-hk1,lH e1];have:=(kB (u:=p.den)).2 p.den_nz;omega);have dd2:decide (k2=0)=true:=dT (by rw[<-hk2,e2,lK,jS];rfl)
  have hkd:(dg p.den).length=k1:=by rw[<-hk1,lH e1]
  have hrd:(dg (dnz (p+q).den)).length=k1:=by rw[m2,lH e1];exact hkd
  obtain⟨W,hW⟩:=eqx (((w.alloc (.cells #[.bool s1,.slice N1 l1 c1,.bool false,.slice D1 k1 d1] 120)).alloc (.cells #[.bool s2,.slice N2 l2 c2,.bool false,.slice D2 k2 d2] 120)).alloc (.cells #[.bool false,.slice none 0 0,.bool false,.slice none 0 0] 120))
  have B0:Blk W w.heap.size 120 #[.bool s1,.slice N1 l1 c1,.bool false,.slice D1 k1 d1]:=by rw[<-hW];exact((Blk.new _ _ _).alloc _).alloc _
  have B1:Blk W (w.heap.size+1) 120 #[.bool s2,.slice N2 l2 c2,.bool false,.slice D2 k2 d2]:=by
   rw[<-hW];have:=(Blk.new (w.alloc (.cells #[.bool s1,.slice N1 l1 c1,.bool false,.slice D1 k1 d1] 120)) 120 #[.bool s2,.slice N2 l2 c2,.bool false,.slice D2 k2 d2]).alloc (.cells #[.bool false,.slice none 0 0,.bool false,.slice none 0 0] 120);simpa using this
  have B2:Blk W (w.heap.size+1+1) 120 #[.bool false,.slice none 0 0,.bool false,.slice none 0 0]:=by
   rw[<-hW];have:=Blk.new ((w.alloc (.cells #[.bool s1,.slice N1 l1 c1,.bool false,.slice D1 k1 d1] 120)).alloc (.cells #[.bool s2,.slice N2 l2 c2,.bool false,.slice D2 k2 d2] 120)) 120 #[.bool false,.slice none 0 0,.bool false,.slice none 0 0];simpa using this
  have hbW:Below w.heap.size w W:=by rw[<-hW];exact((bal).alloc (by simp) _).alloc (by simp;omega) _
  have hsW:w.heap.size+3<=W.heap.size:=by rw[<-hW];simp
  have HB0:=zh B0;have HB1:=zh B1;have HB2:=zh B2;have HWW:=zh hW;have HBW:=zh hbW;have H1:=zh (h1.keep hbW);have H2:=zh (h2.keep hbW);have HZ:Hid (∀V x A n c,Calls Tryz.prog 94 #[.agg #[.bool x,.slice A n c]] V λe w'=>e=.returned (.bool (decide (n=0)))/\Below V.heap.size V w'):=zh (λV x A n c=>lW x A n c V);obtain⟨sr,hsr⟩:=eqx (decide ((p+q).num<0));obtain⟨lr,hlr⟩:=eqx ((dg (p+q).num.natAbs).length);obtain⟨Q,hQ⟩:=eqx (mR (p+q) w);have hO:=H1.o.den;rw[lH e1]at hO;have HO:=zh hO;obtain⟨z,hz⟩:=eqx (q.num*(p.den:Int));obtain⟨sz,hsz⟩:=eqx (decide (z<0));obtain⟨lz,hlz⟩:=eqx ((dg z.natAbs).length)
  have hzl:(dg z.natAbs).length<=2000:=by rw[<-hz,fA,aU];exact zT (by omega) b3
  rw[hz]at m1
  have HM:Hid (∀V,Below W.heap.size W V->Calls Tryz.prog 96 #[.agg #[.bool s2,.slice N2 l2 c2],.agg #[.bool false,.slice D1 k1 d1]] V λe w'=>∃R c,e=.returned (.agg #[.bool sz,.slice R lz c])/\NW w' R c z.natAbs/\Below V.heap.size V w'):=zh (λV hV=>by
   have:=oO q.num (p.den:Int) N2 D1 c2 d1 V (H2.o.num.keep hV) (by rw[aU];exact HO.o.keep hV) (by omega) (by rw[aU];omega) (by rw[aU];exact hs);rw[hz]at this;unfold oT at this;rw[aU,dF (show ¬(p.den:Int)<0 by omega),hs2,hl2,hkd,hsz,hlz]at this
   exact this)
  have HA:Hid (∀V,Below W.heap.size W V->∀R c,NW V R c z.natAbs->Calls Tryz.prog 95 #[.agg #[.bool sz,.slice R lz c],.agg #[.bool s1,.slice N1 l1 c1]] V λe w'=>∃R c,e=.returned (.agg #[.bool sr,.slice R lr c])/\NW w' R c (p+q).num.natAbs/\Below V.heap.size V w'):=zh (λV hV R c hR=>by
   have:=wT z p.num R N1 c c1 V hR (H1.o.num.keep hV) (by omega) (by omega) (aR (zU hzl (show(dg p.num.natAbs).length<=2000 by omega)) (by omega));rw[<-m1]at this;unfold oT at this;rw[hsz,hlz,hs1,hl1,hsr,hlr]at this
   exact this)
  have HFIN:Hid (∀V R c,Below W.heap.size W V->NW V R c (p+q).num.natAbs->Q (.returned (.agg #[.bool sr,.slice R lr c,.bool false,.slice D1 k1 d1])) ((((V.setCell ⟨w.heap.size+1+1,0,none⟩ (.bool sr)).setCell ⟨w.heap.size+1+1,1,none⟩ (.slice R lr c)).setCell ⟨w.heap.size+1+1,2,none⟩ (.bool false)).setCell ⟨w.heap.size+1+1,3,none⟩ (.slice D1 k1 d1))):=zh (λV R c hV hR=>by
   have Y:=HB2.o.keep hV HB2.o.lt;have hD:=HO.o.keep hV;rw[<-hQ];refine⟨R,c,D1,d1,by unfold rval;rw[hsr,hlr,hrd],⟨lY hR (hR.offB Y rW) _ _ _ _,?_⟩,?_⟩
   ·rw[m2,lH e1];exact lY hD (hD.offB Y rW) _ _ _ _
   exact hJ (hJ (hJ (hJ (dW hbW hV) (by omega) _ _) (by omega) _ _) (by omega) _ _) (by omega) _ _)
  rw[hQ];obtain⟨x0,x1,x2,x3,_,_,_,_⟩:=B0.four;obtain⟨y0,y1,y2,y3,_,_,_,_⟩:=B1.four;have hbe:Below W.heap.size W W:=bM _ _;clear hQ hW hbW B0 B1 B2 h1 h2 e1 e2 b1 b2 b3 m1 m2 hs1 hs2 hl1 hl2 hk1 hk2 hsr hlr hO hz hsz hlz hzl hkd hrd hs;go_enter Tryz.func59,Tryz.ntmps59;go_upto_region 1 with(fail);rw[HWW.o]
  go_upto_region 6 with(go_at_call 94;refine(HZ.o _ _ _ _ _).mono ?_;rintro e wA ⟨rfl,hb⟩;have hbe:=dW hbe hb;obtain⟨x0,x1,x2,x3,_,_,_,_⟩:=(HB0.o.keep hbe HB0.o.lt).four;obtain⟨y0,y1,y2,y3,_,_,_,_⟩:=(HB1.o.keep hbe HB1.o.lt).four;clear hb)
  have HBE:=zh hbe;have HM1:Hid (∀V,Below wA.heap.size wA V->Calls Tryz.prog 96 #[.agg #[.bool s2,.slice N2 l2 c2],.agg #[.bool false,.slice D1 k1 d1]] V λe w'=>∃R c,e=.returned (.agg #[.bool sz,.slice R lz c])/\NW w' R c z.natAbs/\Below V.heap.size V w'):=zh (λV hV=>HM.o V (dW HBE.o hV));have HA1:Hid (∀V,Below wA.heap.size wA V->∀R c,NW V R c z.natAbs->Calls Tryz.prog 95 #[.agg #[.bool sz,.slice R lz c],.agg #[.bool s1,.slice N1 l1 c1]] V λe w'=>∃R c,e=.returned (.agg #[.bool sr,.slice R lr c])/\NW w' R c (p+q).num.natAbs/\Below V.heap.size V w'):=zh (λV hV=>HA.o V (dW HBE.o hV));have HR0:=zh (HB2.o.keep hbe HB2.o.lt);have hWC:=hbe.size;clear HM HA HZ dd1 dd2 hbe
  have kc:∀V,Below wA.heap.size wA V->V.cell? ⟨w.heap.size+1,0,none⟩=some (.bool s2)/\V.cell? ⟨w.heap.size+1,1,none⟩=some (.slice N2 l2 c2)/\V.cell? ⟨w.heap.size,0,none⟩=some (.bool s1)/\V.cell? ⟨w.heap.size,1,none⟩=some (.slice N1 l1 c1)/\V.cell? ⟨w.heap.size,2,none⟩=some (.bool false)/\V.cell? ⟨w.heap.size,3,none⟩=some (.slice D1 k1 d1):=λV h=>⟨gL h y0,gL h y1,gL h x0,gL h x1,gL h x2,gL h x3⟩
  have BZ:Below wA.heap.size wA wA.drew:=brf.drew;refine dG (S:=(λw'=>w'.cell? ⟨w.heap.size+1,0,none⟩=some (.bool s2)/\w'.cell? ⟨w.heap.size+1,1,none⟩=some (.slice N2 l2 c2)/\w'.cell? ⟨w.heap.size,0,none⟩=some (.bool s1)/\w'.cell? ⟨w.heap.size,1,none⟩=some (.slice N1 l1 c1)/\w'.cell? ⟨w.heap.size,2,none⟩=some (.bool false)/\w'.cell? ⟨w.heap.size,3,none⟩=some (.slice D1 k1 d1))) (by kernel_rfl) (kc _ BZ) (λhHeld=>?_);generalize wA.drew=Z at*
  repeat' (first
    |(refine gLd 0 44 (.pointer (some ⟨w.heap.size+1,0,none⟩)) rfl rfl hHeld ?_;(try simp only[jA]))
    |(refine gLd 1 45 (.agg #[.bool s2,.slice N2 l2 c2]) rfl rfl hHeld ?_;(try simp only[jA]))
    |(refine gLd 2 46 (.pointer (some ⟨w.heap.size,2,none⟩)) rfl rfl hHeld ?_;(try simp only[jA]))
    |(refine gLd 3 47 (.agg #[.bool false,.slice D1 k1 d1]) rfl rfl hHeld ?_;(try simp only[jA]))
    |(refine gLd 5 49 (.pointer (some ⟨w.heap.size,0,none⟩)) rfl rfl hHeld ?_;(try simp only[jA]))
    |(refine gLd 6 50 (.agg #[.bool s1,.slice N1 l1 c1]) rfl rfl hHeld ?_;(try simp only[jA]))
    |(refine gLd 8 52 (.pointer (some ⟨w.heap.size,2,none⟩)) rfl rfl hHeld ?_;(try simp only[jA]))
    |(refine gLd 9 53 (.agg #[.bool false,.slice D1 k1 d1]) rfl rfl hHeld ?_;(try simp only[jA]))
    |(refine gLd 10 54 (.agg #[.bool sr,.slice Ra lr ra,.bool false,.slice D1 k1 d1]) rfl rfl hHeld ?_;(try simp only[jA]))
    |(refine gRd [4] ?_)
    |(refine gRd [7] ?_)
    |(refine gRd [11] ?_)
    |(exact dM)
    |(refine gCs rfl ?_ ?_)
    |(have _:OpN 4:=tg;clear tg;with_reducible refine bE (HM1.o _ BZ) ?_;rintro e Zn ⟨Rm,rm,rfl,nmx,hb⟩;have NM:=zh nmx;replace BZ:=dW BZ hb;(try go_simp);clear hHeld;refine hK.o _ _ (kc _ BZ) (λhHeld=>?_);clear hK K hb nmx;obtain⟨Z,rfl⟩:∃x,x=Zn:=⟨_,rfl⟩;(try (replace BZ:=BZn;clear BZn));(try simp only[jA]))
    |(have _:OpN 7:=tg;clear tg;with_reducible refine bE (HA1.o _ BZ _ _ NM.o) ?_;rintro e Zn ⟨Ra,ra,rfl,nax,hb⟩;replace NM:=zh (NM.o.keep hb);have NA:=zh nax;replace BZ:=dW BZ hb;(try go_simp);clear hHeld;refine hK.o _ _ (kc _ BZ) (λhHeld=>?_);clear hK K hb nax;obtain⟨Z,rfl⟩:∃x,x=Zn:=⟨_,rfl⟩;(try (replace BZ:=BZn;clear BZn));(try simp only[jA]))
    |(have _:OpN 11:=tg;clear tg;have YR:=HR0.o.keep BZ HR0.o.lt;obtain⟨t0,t1,t2,t3,f0,f1,f2,f3⟩:=YR.four;have HEND:=zh (HFIN.o Z Ra ra (dW HBE.o BZ) NA.o);have YT:=rM YR (.bool sr) (.slice Ra lr ra) (.bool false) (.slice D1 k1 d1);(try go_simp);clear hHeld;refine hK.o _ _ ⟨kF (gL BZ y0) (by omega),kF (gL BZ y1) (by omega),kF (gL BZ x0) (by omega),kF (gL BZ x1) (by omega),kF (gL BZ x2) (by omega),kF (gL BZ x3) (by omega)⟩ (λhHeld=>?_);clear hK K t0 f0 t1 f1 t2 f2 t3 f3;obtain⟨t0,t1,t2,t3,f0,f1,f2,f3⟩:=YT.four;obtain⟨Zn,hZn⟩:∃x,x=Z:=⟨_,rfl⟩;clear hZn;obtain⟨Z,rfl⟩:∃x,x=Zn:=⟨_,rfl⟩;(try (replace BZ:=BZn;clear BZn));(try simp only[jA]))
    |(refine fD (by decide+kernel) ?_ _)
    |(intro K hK tg;go_simp))
  all_goals
    go_wp2;exact aO (v:=.agg #[.bool sr,.slice Ra lr ra,.bool false,.slice D1 k1 d1]) (by simp[results,Tryz.results59,go_sem,t0,t1,t2,t3]) rfl HEND.o
end Go.Proofs.Tg.Iw
