/- Parts of the proof. -/
import Derived.Test.YtabdoikbodjidaaGreatDoorMBO33
set_option maxHeartbeats 64000000
set_option maxRecDepth 100000
namespace Go.Proofs.Tg.Bk
open Go.RowKit Go.Gr Go.Sp Go.Ev Go.Maps Go.WideShapes Go.Pm
def ki (p:Nat):Lit:=.int .i64 (p:Int)
def aHH (p:Nat):Prop:=p<=1000000
theorem aOJ {p q:Nat}(e:ki p=ki q):p=q:=by
 unfold ki at e
 injection e with _ e
 omega
theorem aGs:Keyed Tryz.prog 3:=int_keyed Tryz.underlying3
theorem aBX {p:Nat}(h:aHH p):keyOf Tryz.prog 3 (.int .i64 (p:Int))=some (ki p):=
  keyOf_int_mk Tryz.underlying3 (nK (by unfold aHH at h;omega))
def rF (w:World)(mb cnt:Nat)(S:List Nat):Prop:=
  ∃D:DataW Unit,w.ownsMap Tryz.prog 3 (plainElem Tryz.prog 4) mb cnt D/\yN ki aHH S D
theorem rF.mapB {w:World}{mb cnt:Nat}{S:List Nat}(h:rF w mb cnt S):qU w mb:=by
 obtain⟨D,h,_⟩:=h
 exact uG h
theorem rF.made (w:World):rF (w.alloc (.map #[] 0)) w.heap.size 0 []:=⟨_,World.ownsMap_made _ _ _ _,yN.nil _ _⟩
theorem rF.below {w w':World}{B mb cnt:Nat}{S:List Nat}(h:rF w mb cnt S)(hb:Below B w w')(hB:mb<B):rF w' mb cnt S:=by
 obtain⟨D,⟨es,clock,hh,r⟩,h2⟩:=h
 exact⟨D,⟨es,clock,(hb.block mb hB).trans hh,r⟩,h2⟩
theorem rF.lt {w:World}{mb cnt:Nat}{S:List Nat}(h:rF w mb cnt S):mb<w.heap.size:=by
 obtain⟨es,clock,hh⟩:=h.mapB
 exact(cR.1 hh).1
theorem rF.same {w w':World}{mb cnt:Nat}{S:List Nat}(h:rF w mb cnt S)(hs:w'.heap[mb]?=w.heap[mb]?):rF w' mb cnt S:=by
 obtain⟨D,⟨es,clock,hh,r⟩,h2⟩:=h
 exact⟨D,⟨es,clock,hs.trans hh,r⟩,h2⟩
theorem rF.grown {w w':World}{mb cnt:Nat}{S:List Nat}{r:Option Nat}(h:rF w mb cnt S)(hg:w.grownBy w' r)(hr:some mb≠r):rF w' mb cnt S:=h.same (hg.block mb h.lt hr)
theorem rF.look {w:World}{mb cnt:Nat}{S:List Nat}(h:rF w mb cnt S){p:Nat}(hp:aHH p){c:Bool}(hc:decide (p∈S)=c):
    (Instr.lookup 74 (.map (some mb)) (.int .i64 (p:Int)) false).run Tryz.prog w=.ok (.bool c) w:=by
  obtain⟨D,h1,h2⟩:=h;obtain⟨v',ps,hrun,hv2⟩:=h1.lookup aGs Tryz.underlying74 (aEi w) (plainElem_bool Tryz.underlying4 false) (aBX hp);obtain⟨c',rfl,e⟩:=nF Tryz.underlying4 hv2;rw[h2.at' p hp,(dH.2 Iff.rfl).trans hc]at e
  injection e with e _
  injection e with e
  injection e with e
  subst e;exact hrun
theorem aOK (p:Nat):WideAt.IsKeyLit (ki p):=by
 unfold ki
 first
   |exact trivial
   |exact⟨_,rfl⟩
   |exact .inl ⟨_,_,rfl⟩
   |exact WideAt.IsKeyLit.int _ _
   |simp[WideAt.IsKeyLit]
theorem rF.put {w:World}{mb cnt:Nat}{S:List Nat}(h:rF w mb cnt S)(hcnt:cnt<=1000000000){p:Nat}(hp:aHH p)(hnew:p∉S):
    ∃w',(Instr.mapUpdate 74 (.map (some mb)) (.int .i64 (p:Int)) (.bool true)).run Tryz.prog w=.ok () w'/\rF w' mb (cnt+1) (p::S)/\w.grownBy w' (some mb):=by
  obtain⟨D,h1,h2⟩:=h;obtain⟨w',hrun,h3,h4⟩:=h1.update aGs Tryz.underlying74 (by simp only[maxLen];omega) (aBX hp) (plainElem_bool Tryz.underlying4 true);exact⟨w',hrun,⟨_,h3,h2.put (λ_ _=>aOK _) (λ_ _ _ _ e=>aOJ e) hp hnew⟩,h4⟩
end Go.Proofs.Tg.Bk
namespace Go.Proofs.Tg
open Go.RowKit Go.Gr Go.Bn Go.Rq
theorem aOd (p q:Rat)(hq:0<q.num):p/q=mkRat (p.num*(q.den:Int)) (p.den*q.num.natAbs):=by
 obtain⟨n,hn⟩:∃n:Nat,q.num=n:=⟨q.num.toNat,by omega⟩
 have hn0:n≠0:=by omega
 have hinv:q⁻¹=mkRat q.den n:=by
  rw[Rat.inv_def,hn]
  rfl
 rw[Rat.div_def,hinv,hn,aU]
 conv=>lhs;lhs;rw[<-Rat.mkRat_self p]
 rw[Rat.mkRat_mul_mkRat]
end Go.Proofs.Tg
namespace Go.Proofs.Tg.Iw
open Go.RowKit Go.Bw Go.Gr Go.Proofs.Tg Go.Rq
open Go.Proofs.Tg.Fi (PT mX qK aAC vI rK)
theorem aAV {q:Rat}(h:0<q.num):q⁻¹.num=(q.den:Int)/\q⁻¹.den=q.num.natAbs:=by
 show(Rat.inv q).num=_/\(Rat.inv q).den=_
 unfold Rat.inv
 rw[dif_neg (by omega),jP h]
 exact⟨rfl,rfl⟩
theorem aHG (A:Option Addr)(n c:Nat)(w:World)(hn:0<n):
    Calls Tryz.prog 151 #[.agg #[.bool false,.slice A n c]] w λe w'=>e=.returned (.int .i64 1)/\Below w.heap.size w w':=by
  have e1:((n:Int)==0)=false:=aG.2 (by omega);have e1':(n==0)=false:=aG.2 (by omega);go_enter Tryz.func151,Tryz.ntmps151;go_wp2;go_ret;exact⟨rfl,bal⟩
theorem aMP (q:Rat)(N D:Option Addr)(cn cd:Nat)(w:World)(h:mJ w q N cn D cd)(hq:0<q.num):
    Calls Tryz.prog 105 #[rval q N cn D cd] w (mR q⁻¹ w):=by
  obtain⟨e1,e2⟩:=aAV hq;unfold rval;have hsq:decide (q.num<0)=false:=dF (by omega);rw[hsq];obtain⟨ln,hln⟩:=eqx ((dg q.num.natAbs).length);obtain⟨ld,hld⟩:=eqx ((dg (dnz q.den)).length);obtain⟨lq,hlq⟩:=eqx ((dg q.den).length);obtain⟨lr,hlr⟩:=eqx ((dg (dnz q⁻¹.den)).length);rw[hln,hld]
  have hn0:0<ln:=by rw[<-hln];exact(kB (u:=q.num.natAbs)).2 (by omega)
  obtain⟨W,hW⟩:=eqx ((w.alloc (.cells #[.bool false,.slice N ln cn,.bool false,.slice D ld cd] 120)).alloc (.cells #[.bool false,.slice none 0 0,.bool false,.slice none 0 0] 120))
  have B0:Blk W w.heap.size 120 #[.bool false,.slice N ln cn,.bool false,.slice D ld cd]:=by rw[<-hW];exact(Blk.new _ _ _).alloc _
  have B1:Blk W (w.heap.size+1) 120 #[.bool false,.slice none 0 0,.bool false,.slice none 0 0]:=by
   rw[<-hW];have:=Blk.new (w.alloc (.cells #[.bool false,.slice N ln cn,.bool false,.slice D ld cd] 120)) 120 #[.bool false,.slice none 0 0,.bool false,.slice none 0 0];simpa using this
  have hbW:Below w.heap.size w W:=by rw[<-hW];exact(bal).alloc (by simp) _
  have HB0:=zh B0;have HB1:=zh B1;have HWW:=zh hW;have H:=zh (h.keep hbW);have HSG:Hid (Calls Tryz.prog 151 #[.agg #[.bool false,.slice N ln cn]] W λe w'=>e=.returned (.int .i64 1)/\Below W.heap.size W w'):=zh (aHG N ln cn W hn0)
  have HDN:Hid (∀V,Below W.heap.size W V->Calls Tryz.prog 150 #[.agg #[.bool false,.slice N ln cn,.bool false,.slice D ld cd]] V λe w'=>∃R c,e=.returned (.agg #[.bool false,.slice R lq c])/\NW w' R c q.den/\Below V.heap.size V w'):=zh (λV hV=>by
   have:=aKI q N D cn cd V (H.o.keep hV);unfold rval at this;rw[nJ,hsq,hln,hld]at this;unfold lT at this;rw[hlq]at this
   exact this)
  have HLW:Hid (∀V R c,Below W.heap.size W V->NW V R c q.den->Calls Tryz.prog 100 #[.agg #[.bool false,.slice R lq c],.agg #[.bool false,.slice N ln cn]] V λe w'=>∃N' c' D' d',e=.returned (.agg #[.bool false,.slice N' lq c',.bool false,.slice D' lr d'])/\mJ w' q⁻¹ N' c' D' d'/\Below V.heap.size V w'):=zh (λV R c hV hR=>by
   have:=aAT q⁻¹ R N c cn V (by rw[e1,aU];exact hR) (by rw[e2];exact H.o.num.keep hV);unfold mR rval at this;rw[e1,aU,hlq,dF (show ¬(q.den:Int)<0 by omega),hlr]at this;rw[e2,hln]at this
   exact this)
  obtain⟨Q,hQ⟩:=eqx (mR q⁻¹ w)
  have HFIN:Hid (∀V N' c' D' d',Below W.heap.size W V->mJ V q⁻¹ N' c' D' d'->Q (.returned (.agg #[.bool false,.slice N' lq c',.bool false,.slice D' lr d'])) ((((V.setCell ⟨w.heap.size+1,0,none⟩ (.bool false)).setCell ⟨w.heap.size+1,1,none⟩ (.slice N' lq c')).setCell ⟨w.heap.size+1,2,none⟩ (.bool false)).setCell ⟨w.heap.size+1,3,none⟩ (.slice D' lr d'))):=zh (λV N' c' D' d' hV hR=>by
   have Y:=HB1.o.keep hV HB1.o.lt;rw[<-hQ];refine⟨N',c',D',d',?_,⟨lY hR.num (hR.num.offB Y rW) _ _ _ _,lY hR.den (hR.den.offB Y rW) _ _ _ _⟩,?_⟩
   ·unfold rval;rw[e1,aU,hlq,dF (show ¬(q.den:Int)<0 by omega),hlr]
   exact hJ (hJ (hJ (hJ (dW hbW hV) (by omega) _ _) (by omega) _ _) (by omega) _ _) (by omega) _ _)
  rw[hQ];have hl1:=B1.lt;obtain⟨a0,a1,a2,a3,_,_,_,_⟩:=B0.four;clear hW hbW B0 B1 h hsq hln hld hlq hlr hn0 e1 e2 hq hQ;go_enter Tryz.func105,Tryz.ntmps105;go_upto_region 1 with(fail);rw[HWW.o]
  go_upto_region 6 with(go_at_call 151;refine HSG.o.mono ?_;rintro e w1 ⟨rfl,hb1⟩;have HBE:=zh hb1;clear hb1)
  have hbe:Below W.heap.size W w1.drew:=HBE.o.drew;have Y2:=HB1.o.keep hbe hl1;obtain⟨d0,d1,d2,d3,f0,f1,f2,f3⟩:=Y2.four
  go_region_held3 (λw'=>w'.cell? ⟨w.heap.size,0,none⟩=some (.bool false)/\w'.cell? ⟨w.heap.size,1,none⟩=some (.slice N ln cn)/\w'.cell? ⟨w.heap.size,2,none⟩=some (.bool false)/\w'.cell? ⟨w.heap.size,3,none⟩=some (.slice D ld cd))
    (first|exact⟨gL hbe a0,gL hbe a1,gL hbe a2,gL hbe a3⟩|exact⟨mP (gL hbe a0) (by simp),mP (gL hbe a1) (by simp),mP (gL hbe a2) (by simp),mP (gL hbe a3) (by simp)⟩|go_keep)
    (first
      |(go_at_call 150;with_reducible refine bE (HDN.o _ (by assumption)) ?_;rintro e w2 ⟨R1,k1,rfl,hR1,hb2⟩;have hbe:=dW hbe hb2;have Y2:=HB1.o.keep hbe hl1;obtain⟨d0,d1,d2,d3,f0,f1,f2,f3⟩:=Y2.four)
      |(go_at_call 100;with_reducible refine bE (HLW.o _ _ _ (by assumption) hR1) ?_;rintro e w2 ⟨N3,c3,D3,d3',rfl,hR3,hb2⟩;have hbe:=dW hbe hb2;have Y2:=HB1.o.keep hbe hl1;obtain⟨d0,d1,d2,d3,f0,f1,f2,f3⟩:=Y2.four))
  all_goals
    go_wp2;obtain⟨g0,g1,g2,g3,_⟩:=(wK (a':=.bool false) (b':=.slice N3 lq c3) (c':=.bool false) (d':=.slice D3 lr d3') Y2).four;exact aO (v:=.agg #[.bool false,.slice N3 lq c3,.bool false,.slice D3 lr d3']) (by simp[results,Tryz.results105,go_sem,g0,g1,g2,g3]) rfl (HFIN.o _ N3 c3 D3 d3' hbe hR3)
theorem aKP (p q:Rat)(N1 D1 N2 D2:Option Addr)(c1 d1 c2 d2:Nat)(w:World)(h1:mJ w p N1 c1 D1 d1)(h2:mJ w q N2 c2 D2 d2)(hq:0<q.num)
    (bn1:(dg p.num.natAbs).length<40) (bd1:(dg p.den).length<40) (bn2:(dg q.num.natAbs).length<40) (bd2:(dg q.den).length<40) (hT:Tab w):
    Calls Tryz.prog 62 #[rval p N1 c1 D1 d1,rval q N2 c2 D2 d2] w (mR (p/q) w):=by
  obtain⟨e1,e2⟩:=aAV hq;obtain⟨qi,hqi⟩:=eqx (q⁻¹);rw[hqi]at e1 e2;obtain⟨W,hW⟩:=eqx (((w.alloc (.cells #[.bool (decide (p.num<0)),.slice N1 (dg p.num.natAbs).length c1,.bool false,.slice D1 (dg (dnz p.den)).length d1] 120)).alloc (.cells #[.bool (decide (q.num<0)),.slice N2 (dg q.num.natAbs).length c2,.bool false,.slice D2 (dg (dnz q.den)).length d2] 120)).alloc (.cells #[.bool false,.slice none 0 0,.bool false,.slice none 0 0] 120))
  have B0:Blk W w.heap.size 120 #[.bool (decide (p.num<0)),.slice N1 (dg p.num.natAbs).length c1,.bool false,.slice D1 (dg (dnz p.den)).length d1]:=by rw[<-hW];exact((Blk.new _ _ _).alloc _).alloc _
  have B1:Blk W (w.heap.size+1) 120 #[.bool (decide (q.num<0)),.slice N2 (dg q.num.natAbs).length c2,.bool false,.slice D2 (dg (dnz q.den)).length d2]:=by
   rw[<-hW];have:=(Blk.new (w.alloc (.cells #[.bool (decide (p.num<0)),.slice N1 (dg p.num.natAbs).length c1,.bool false,.slice D1 (dg (dnz p.den)).length d1] 120)) 120 #[.bool (decide (q.num<0)),.slice N2 (dg q.num.natAbs).length c2,.bool false,.slice D2 (dg (dnz q.den)).length d2]).alloc (.cells #[.bool false,.slice none 0 0,.bool false,.slice none 0 0] 120);simpa using this
  have B2:Blk W (w.heap.size+1+1) 120 #[.bool false,.slice none 0 0,.bool false,.slice none 0 0]:=by
   rw[<-hW];have:=Blk.new ((w.alloc (.cells #[.bool (decide (p.num<0)),.slice N1 (dg p.num.natAbs).length c1,.bool false,.slice D1 (dg (dnz p.den)).length d1] 120)).alloc (.cells #[.bool (decide (q.num<0)),.slice N2 (dg q.num.natAbs).length c2,.bool false,.slice D2 (dg (dnz q.den)).length d2] 120)) 120 #[.bool false,.slice none 0 0,.bool false,.slice none 0 0];simpa using this
  have hbW:Below w.heap.size w W:=by rw[<-hW];exact((bal).alloc (by simp) _).alloc (by simp;omega) _
  have HB2:=zh B2;have HWW:=zh hW;have H1:=zh (h1.keep hbW);have H2:=zh (h2.keep hbW);have hTW:=hT.below hbW hT.1;have hTB:1<W.heap.size:=aH hT.1 hbW.size;have HIV:Hid (∀V,Below W.heap.size W V->Calls Tryz.prog 105 #[rval q N2 c2 D2 d2] V (mR qi V)):=zh (λV hV=>by rw[<-hqi];exact aMP q N2 D2 c2 d2 V (H2.o.keep hV) hq);have HML:Hid (∀V N c D d,Below W.heap.size W V->mJ V qi N c D d->Calls Tryz.prog 104 #[rval p N1 c1 D1 d1,rval qi N c D d] V (mR (p*qi) V)):=zh (λV N c D d hV hR=>aKL p qi N1 D1 N D c1 d1 c d V (H1.o.keep hV) hR bn1 bd1 (by rw[e1,aU];exact bd2) (by rw[e2];exact bn2) (hTW.below hV hTB))
  have epq:p/q=p*qi:=by rw[<-hqi];exact Rat.div_def p q
  rw[epq];unfold mR at HIV HML;unfold rval at HIV HML ⊢;obtain⟨s1,hs1⟩:=eqx (decide (p.num<0));obtain⟨s2,hs2⟩:=eqx (decide (q.num<0));obtain⟨s3,hs3⟩:=eqx (decide (qi.num<0));obtain⟨s4,hs4⟩:=eqx (decide ((p*qi).num<0));obtain⟨l1,hl1⟩:=eqx ((dg p.num.natAbs).length);obtain⟨l2,hl2⟩:=eqx ((dg q.num.natAbs).length);obtain⟨l3,hl3⟩:=eqx ((dg qi.num.natAbs).length);obtain⟨l4,hl4⟩:=eqx ((dg (p*qi).num.natAbs).length);obtain⟨k1,hk1⟩:=eqx ((dg (dnz p.den)).length);obtain⟨k2,hk2⟩:=eqx ((dg (dnz q.den)).length);obtain⟨k3,hk3⟩:=eqx ((dg (dnz qi.den)).length);obtain⟨k4,hk4⟩:=eqx ((dg (dnz (p*qi).den)).length);obtain⟨Q,hQ⟩:=eqx (mR (p*qi) w)
  have HFIN:Hid (∀V N c D d,Below W.heap.size W V->mJ V (p*qi) N c D d->Q (.returned (.agg #[.bool s4,.slice N l4 c,.bool false,.slice D k4 d])) ((((V.setCell ⟨w.heap.size+1+1,0,none⟩ (.bool s4)).setCell ⟨w.heap.size+1+1,1,none⟩ (.slice N l4 c)).setCell ⟨w.heap.size+1+1,2,none⟩ (.bool false)).setCell ⟨w.heap.size+1+1,3,none⟩ (.slice D k4 d))):=zh (λV N c D d hV hR=>by
   have Y:=HB2.o.keep hV HB2.o.lt;rw[<-hQ];refine⟨N,c,D,d,?_,⟨lY hR.num (hR.num.offB Y rW) _ _ _ _,lY hR.den (hR.den.offB Y rW) _ _ _ _⟩,?_⟩
   ·unfold rval;rw[hs4,hl4,hk4]
   exact hJ (hJ (hJ (hJ (dW hbW hV) (by omega) _ _) (by omega) _ _) (by omega) _ _) (by omega) _ _)
  simp only[hs1,hs2,hl1,hl2,hk1,hk2]at B0 B1 HWW ⊢;rw[hs2,hl2,hk2,hs3,hl3,hk3]at HIV;rw[hs1,hl1,hk1,hs3,hl3,hk3,hs4,hl4,hk4]at HML;rw[hs1,hs2,hl1,hl2,hk1,hk2]at hW;rw[hQ];have hm2:=B2.lt;obtain⟨a0,a1,a2,a3,_,_,_,_⟩:=B0.four;obtain⟨b0,b1,b2,b3,_,_,_,_⟩:=B1.four;have hbe:Below W.heap.size W W.drew:=brf.drew;have Y2:=HB2.o.keep hbe hm2;obtain⟨y0,y1,y2,y3,f0,f1,f2,f3⟩:=Y2.four;have n1:(w.heap.size=w.heap.size+1+1)=False:=bX (by omega);have n2:(w.heap.size+1+1=w.heap.size)=False:=bX (by omega);clear hW hbW B0 B1 B2 h1 h2 hq bn1 bn2 bd1 bd2 hT hTW hTB e1 e2 hs1 hs2 hs3 hs4 hl1 hl2 hl3 hl4 hk1 hk2 hk3 hk4 hQ epq;generalize p*qi=pq at*;go_enter Tryz.func62,Tryz.ntmps62;go_upto_region 1 with(fail);rw[HWW.o]
  have kc:∀V,Below W.heap.size W V->V.cell? ⟨w.heap.size,0,none⟩=some (.bool s1)/\V.cell? ⟨w.heap.size,1,none⟩=some (.slice N1 l1 c1)/\V.cell? ⟨w.heap.size,2,none⟩=some (.bool false)/\V.cell? ⟨w.heap.size,3,none⟩=some (.slice D1 k1 d1)/\V.cell? ⟨w.heap.size+1,0,none⟩=some (.bool s2)/\V.cell? ⟨w.heap.size+1,1,none⟩=some (.slice N2 l2 c2)/\V.cell? ⟨w.heap.size+1,2,none⟩=some (.bool false)/\V.cell? ⟨w.heap.size+1,3,none⟩=some (.slice D2 k2 d2):=λV h=>⟨gL h a0,gL h a1,gL h a2,gL h a3,gL h b0,gL h b1,gL h b2,gL h b3⟩
  have BZ:Below W.heap.size W W.drew:=brf.drew;refine dG (S:=(λw'=>w'.cell? ⟨w.heap.size,0,none⟩=some (.bool s1)/\w'.cell? ⟨w.heap.size,1,none⟩=some (.slice N1 l1 c1)/\w'.cell? ⟨w.heap.size,2,none⟩=some (.bool false)/\w'.cell? ⟨w.heap.size,3,none⟩=some (.slice D1 k1 d1)/\w'.cell? ⟨w.heap.size+1,0,none⟩=some (.bool s2)/\w'.cell? ⟨w.heap.size+1,1,none⟩=some (.slice N2 l2 c2)/\w'.cell? ⟨w.heap.size+1,2,none⟩=some (.bool false)/\w'.cell? ⟨w.heap.size+1,3,none⟩=some (.slice D2 k2 d2))) (by kernel_rfl) (kc _ BZ) (λhHeld=>?_);generalize W.drew=Z at*;refine kW 0 5 (.agg #[.bool s1,.slice N1 l1 c1,.bool false,.slice D1 k1 d1]) rfl rfl (by kernel_rfl) (by kernel_rfl) (by rfl) hHeld ?_ ?_
  ·(intro w hSw;(try dsimp only at hSw);go_simp;all_goals(try with_reducible rfl))
  (try simp only[jA]);refine kW 1 6 (.agg #[.bool s2,.slice N2 l2 c2,.bool false,.slice D2 k2 d2]) rfl rfl (by kernel_rfl) (by kernel_rfl) (by rfl) hHeld ?_ ?_
  ·(intro w hSw;(try dsimp only at hSw);go_simp;all_goals(try with_reducible rfl))
  (try simp only[jA]);refine iO (rs:=[2]) (by kernel_rfl) (by simp) ?_
  refine tI rfl λK hK=>?_
  go_simp
  with_reducible refine bE (HIV.o _ BZ) ?_
  rintro e Z1 ⟨N3,c3,D3,d3,rfl,hR3,hb⟩;have BZ1:=dW BZ hb;clear hb;(try go_simp);refine hK.o _ _ (kc _ BZ1) (λhHeld=>?_);clear hK K;(try simp only[jA]);obtain⟨Zq,rfl⟩:∃x,x=Z1:=⟨_,rfl⟩;have BZq:=BZ1;clear BZ1;rotate_left
  all_goals
    refine iO (rs:=[3]) (by kernel_rfl) (by simp) ?_
    refine tI rfl λK hK=>?_
    go_simp
    with_reducible refine bE (HML.o _ _ _ _ _ BZq hR3) ?_
    rintro e Z2 ⟨N4,c4,D4,d4,rfl,hR4,hb⟩;have BZ2:=dW BZq hb;clear hb;(try go_simp);refine hK.o _ _ (kc _ BZ2) (λhHeld=>?_);clear hK K;(try simp only[jA]);refine iO (rs:=[4]) (by kernel_rfl) (by simp) ?_
    refine tI rfl λK hK=>?_
    have Y2:=HB2.o.keep BZ2 hm2;obtain⟨y0,y1,y2,y3,f0,f1,f2,f3⟩:=Y2.four;go_simp;refine hK.o _ _ ⟨mP (gL BZ2 a0) (by simp;omega),mP (gL BZ2 a1) (by simp;omega),mP (gL BZ2 a2) (by simp;omega),mP (gL BZ2 a3) (by simp;omega),mP (gL BZ2 b0) (by simp),mP (gL BZ2 b1) (by simp),mP (gL BZ2 b2) (by simp),mP (gL BZ2 b3) (by simp)⟩ (λhHeld=>?_);clear hK K;(try simp only[jA]);refine fD (by kernel_rfl) ?_ _;go_wp2;obtain⟨g0,g1,g2,g3,_⟩:=(wK (a':=.bool s4) (b':=.slice N4 l4 c4) (c':=.bool false) (d':=.slice D4 k4 d4) Y2).four;exact aO (v:=.agg #[.bool s4,.slice N4 l4 c4,.bool false,.slice D4 k4 d4]) (by simp[results,Tryz.results62,go_sem,g0,g1,g2,g3]) rfl (HFIN.o _ N4 c4 D4 d4 BZ2 hR4)
theorem aDL (b:Bool)(N D:Option Addr)(n m c d:Nat)(w:World)(hn:0<n):
    Calls Tryz.prog 61 #[.agg #[.bool b,.slice N n c,.bool false,.slice D m d]] w λe w'=>e=.returned (.bool false)/\Below w.heap.size w w':=by
  obtain⟨W,hW⟩:=eqx (w.alloc (.cells #[.bool b,.slice N n c,.bool false,.slice D m d] 120))
  have B0:Blk W w.heap.size 120 #[.bool b,.slice N n c,.bool false,.slice D m d]:=by rw[<-hW];exact Blk.new _ _ _
  have hbW:Below w.heap.size w W:=by rw[<-hW];exact bal
  have HZ:Hid (Calls Tryz.prog 94 #[.agg #[.bool b,.slice N n c]] W λe w'=>e=.returned (.bool false)/\Below W.heap.size W w'):=zh (by
   have:=lW b N n c W
   rwa [dF (by omega)]at this)
  have HWW:=zh hW;have HBW:=zh hbW;obtain⟨a0,a1,a2,a3,_,_,_,_⟩:=B0.four;clear hW hbW B0 hn;go_enter Tryz.func61,Tryz.ntmps61;go_upto_region 1 with(fail);rw[HWW.o]
  go_wp2_with (go_at_call 94;refine HZ.o.mono ?_;rintro e w2 ⟨rfl,hb2⟩;have HB2:=zh (dW HBW.o hb2);clear hb2)
  go_ret;exact⟨rfl,HB2.o⟩
def aAW (q:Rat)(w:World)(e:Ending)(w':World):Prop:=e=.returned (.tuple #[.string (qtx q),.bool true])/\Below w.heap.size w w'
theorem aPE (p q:Rat)(hp:Sh p)(hq:Sh q)(hq0:0<q.num)(w:World)(ht:PT w):
    Calls Tryz.prog 31 #[.string (qtx p),.string (qtx q)] w (aAW (p/q) w):=by
  have H:=zh (aAC p q hp hq w);have a1:=vI hp;have c1:=vI hq
  have b1:-1000000000<(p.den:Int)/\(p.den:Int)<1000000000:=by have:=hp.2;omega
  have d1:-1000000000<(q.den:Int)/\(q.den:Int)<1000000000:=by have:=hq.2;omega
  have m1:=rK a1 d1;have m3:=rK b1 c1;have hpq:mkRat (p.num*(q.den:Int)) (p.den*q.num.natAbs)=p/q:=(Go.Proofs.Tg.aOd p q hq0).symm;have hne:p.den*q.num.natAbs≠0:=Nat.mul_ne_zero p.den_nz (by omega)
  have hcast:(p.den:Int)*q.num=((p.den*q.num.natAbs:Nat):Int):=by rw[iS,Int.natAbs_of_nonneg (by omega)]
  rw[hcast]at m3
  have hl:p.den*q.num.natAbs<9000000000000000000:=by omega
  have HF:=zh (λV (h:PT V)=>qK (p.num*(q.den:Int)) (p.den*q.num.natAbs) V (by omega) hl hne h);rw[hpq,<-hcast]at HF;rw[<-hcast]at m3;have k1:(q.num==0)=false:=aG.2 (by omega);have k2:decide (q.num=0)=false:=dF (by omega);have HT:=zh ht;unfold mX at HF;unfold aAW;generalize p/q=R at*;generalize qtx p=S at*;generalize qtx q=T at*;generalize qtx R=U at*;clear hpq hne hcast hl hp hq ht hq0;generalize (q.den:Int)=d at*;generalize (p.den:Int)=b at*;generalize q.num=c at*;generalize p.num=a at*;have w1:IntKind.i64.wrap (a*d)=a*d:=IntWalk.i64_in _ (by omega);have w3:IntKind.i64.wrap (b*c)=b*c:=IntWalk.i64_in _ (by omega);clear m1 m3 a1 b1 c1 d1;go_enter Tryz.func31,Tryz.ntmps31;go_wp2_with (fail);refine H.o.mono ?_;rintro e w2 ⟨rfl,hb2⟩
  have HTT:=zh (λV (h:Below w2.heap.size w2 V)=>(HT.o.keep hb2).keep h);go_wp2_with (fail);refine(HF.o _ (HTT.o _ ((bal).alloc (by simp) _))).mono ?_;rintro e w3 ⟨rfl,hb3⟩;go_wp2
  go_ret2
  exact⟨rfl,(hb2.trans ((((bM w2.heap.size w2).alloc (aA _) _).alloc (by simp) _).mono hb2.size)).trans (hb3.mono (by have:=hb2.size;simp;omega))⟩
theorem aNH (p q:Rat)(hq0:0<q.num)(w:World)(bn1:(dg p.num.natAbs).length<28)(bd1:(dg p.den).length<28)(bn2:(dg q.num.natAbs).length<28)(bd2:(dg q.den).length<28)(hnl:(dg (p/q).num.natAbs).length<=28)(hdl:(dg (p/q).den).length<=28)(ht:PT w)(hT:Tab w):
    Calls Tryz.prog 31 #[.string (qtx p),.string (qtx q)] w (aAW (p/q) w):=by
  by_cases hs:Sh p/\Sh q
  ·exact aPE p q hs.1 hs.2 hq0 w ht
  have H:=zh (aGr p q hs w);have HV1:Hid (∀V,Below w.heap.size w V->Calls Tryz.prog 58 #[.string (qtx p)] V (mR p V)):=zh (λV h=>zV p V (by omega) (by omega) (hT.below h hT.1));have HV2:Hid (∀V,Below w.heap.size w V->Calls Tryz.prog 58 #[.string (qtx q)] V (mR q V)):=zh (λV h=>zV q V (by omega) (by omega) (hT.below h hT.1));have HM:Hid (∀V N1 c1 D1 d1 N2 c2 D2 d2,Below w.heap.size w V->mJ V p N1 c1 D1 d1->mJ V q N2 c2 D2 d2->Calls Tryz.prog 62 #[rval p N1 c1 D1 d1,rval q N2 c2 D2 d2] V (mR (p/q) V)):=zh (λV N1 c1 D1 d1 N2 c2 D2 d2 h h1 h2=>aKP p q N1 D1 N2 D2 c1 d1 c2 d2 V h1 h2 hq0 (by omega) (by omega) (by omega) (by omega) (hT.below h hT.1))
  have HS:Hid (∀V N c D d,Below w.heap.size w V->mJ V (p/q) N c D d->Calls Tryz.prog 60 #[rval (p/q) N c D d] V λe w'=>e=.returned (.string (qtx (p/q)))/\Below V.heap.size V w'):=zh (λV N c D d h h1=>aKA (p/q) N D c d V h1 hnl hdl (ht.keep h));have HZ:Hid (∀V N c D d,Calls Tryz.prog 61 #[rval q N c D d] V λe w'=>e=.returned (.bool false)/\Below V.heap.size V w'):=zh (λV N c D d=>aDL _ N D _ _ c d V (kB.2 (by omega)));obtain⟨W,hW⟩:=eqx (aAW (p/q) w);have HF:Hid (∀V,Below w.heap.size w V->W (.returned (.tuple #[.string (qtx (p/q)),.bool true])) V):=zh (λV h=>by rw[<-hW];exact⟨rfl,h⟩);rw[hW];unfold mR at HV1 HV2 HM;unfold rval at HV1 HV2 HM HS HZ;clear hs bn1 bd1 bn2 bd2 hT ht hnl hdl hW hq0;generalize qtx p=S at*;generalize qtx q=T at*;generalize qtx (p/q)=U at*
  go_enter Tryz.func31,Tryz.ntmps31;go_wp2_with (fail);refine H.o.mono ?_;rintro e w2 ⟨rfl,hb2⟩;obtain⟨W3,hW3⟩:=eqx ((w2.alloc (.cells #[.int .i64 0,.int .i64 0] 112)).alloc (.cells #[.int .i64 0,.int .i64 0] 112));have HB3:Hid (Below w.heap.size w W3):=zh (by rw[<-hW3];exact(hb2.alloc hb2.size _).alloc (by have:=hb2.size;simp;omega) _);have HW3:=zh hW3;clear hW3;go_upto_region 2 with(fail);rw[HW3.o];clear HW3 hb2 H;go_wp2_with (fail);refine(HV2.o _ HB3.o).mono ?_;rintro e w4 ⟨N2,c2,D2,d2,rfl,hR2,hb4⟩;have HB4:=zh (dW HB3.o hb4);have HR2:=zh hR2;clear hR2 hb4;obtain⟨s2,hs2⟩:=eqx (decide (q.num<0));obtain⟨l2,hl2⟩:=eqx ((dg q.num.natAbs).length);obtain⟨k2,hk2⟩:=eqx ((dg (dnz q.den)).length);rw[hs2,hl2,hk2]at HM HZ ⊢
  obtain⟨W5,hW5⟩:=eqx (w4.alloc (.cells #[.bool s2,.slice N2 l2 c2,.bool false,.slice D2 k2 d2] 120))
  have B5:Blk W5 w4.heap.size 120 #[.bool s2,.slice N2 l2 c2,.bool false,.slice D2 k2 d2]:=by rw[<-hW5];exact Blk.new _ _ _
  have hb5:Below w4.heap.size w4 W5:=by rw[<-hW5];exact bal
  have HB5:=zh hb5;have HW5:=zh hW5;obtain⟨a0,a1,a2,a3,_,_,_,_⟩:=B5.four;clear hW5 hb5 B5 hs2 hl2 hk2;go_upto_region 5 with(fail);rw[HW5.o];clear HW5
  go_upto_region 7 with(go_at_call 61;refine(HZ.o _ _ _ _ _).mono ?_;rintro e w6 ⟨rfl,hb6⟩;have HB65:=zh hb6;clear hb6)
  have a0:=gL HB65.o a0;have a1:=gL HB65.o a1;have a2:=gL HB65.o a2;have a3:=gL HB65.o a3;have HB6:=zh (dW (dW HB4.o HB5.o) HB65.o);have HR2:=zh ((HR2.o.keep HB5.o).keep HB65.o);clear HV2 HZ HB3 HB4 HB5 HB65
  have kc:∀V,Below w6.heap.size w6 V->V.cell? ⟨w4.heap.size,0,none⟩=some (.bool s2)/\V.cell? ⟨w4.heap.size,1,none⟩=some (.slice N2 l2 c2)/\V.cell? ⟨w4.heap.size,2,none⟩=some (.bool false)/\V.cell? ⟨w4.heap.size,3,none⟩=some (.slice D2 k2 d2):=λV h=>⟨gL h a0,gL h a1,gL h a2,gL h a3⟩
  have BZ:Below w6.heap.size w6 w6.drew:=brf.drew;refine dG (S:=(λw'=>w'.cell? ⟨w4.heap.size,0,none⟩=some (.bool s2)/\w'.cell? ⟨w4.heap.size,1,none⟩=some (.slice N2 l2 c2)/\w'.cell? ⟨w4.heap.size,2,none⟩=some (.bool false)/\w'.cell? ⟨w4.heap.size,3,none⟩=some (.slice D2 k2 d2))) (by kernel_rfl) (kc _ BZ) (λhHeld=>?_);generalize w6.drew=Z at*;refine kW 0 38 (.string S) rfl rfl (by kernel_rfl) (by kernel_rfl) (by rfl) hHeld ?_ ?_
  ·(intro w hSw;(try dsimp only at hSw);go_simp;all_goals(try with_reducible rfl))
  (try simp only[jA]);refine kW 2 40 (.agg #[.bool s2,.slice N2 l2 c2,.bool false,.slice D2 k2 d2]) rfl rfl (by kernel_rfl) (by kernel_rfl) (by rfl) hHeld ?_ ?_
  ·(intro w hSw;(try dsimp only at hSw);go_simp;all_goals(try with_reducible rfl))
  (try simp only[jA]);refine iO (rs:=[1]) (by kernel_rfl) (by simp) ?_
  refine tI rfl λK hK=>?_
  go_simp
  with_reducible refine bE (HV1.o _ (dW HB6.o BZ)) ?_
  rintro e Z1 ⟨N1,c1,D1,d1,rfl,hR1,hb⟩;have BZ1:=dW BZ hb;clear hb;(try go_simp);refine hK.o _ _ (kc _ BZ1) (λhHeld=>?_);clear hK K;(try simp only[jA]);obtain⟨Zq,rfl⟩:∃x,x=Z1:=⟨_,rfl⟩;have BZq:=BZ1;clear BZ1;rotate_left
  all_goals
    refine iO (rs:=[3]) (by kernel_rfl) (by simp) ?_
    refine tI rfl λK hK=>?_
    go_simp
    with_reducible refine bE (HM.o _ _ _ _ _ _ _ _ _ (dW HB6.o BZq) hR1 (HR2.o.keep BZq)) ?_
    rintro e Z2 ⟨N3,c3,D3,d3,rfl,hR3,hb⟩;have BZ2:=dW BZq hb;clear hb;(try go_simp);refine hK.o _ _ (kc _ BZ2) (λhHeld=>?_);clear hK K;(try simp only[jA]);refine iO (rs:=[4]) (by kernel_rfl) (by simp) ?_
    refine tI rfl λK hK=>?_
    go_simp
    with_reducible refine bE (HS.o _ _ _ _ _ (dW HB6.o BZ2) hR3) ?_
    rintro e Z3 ⟨rfl,hb⟩;have BZ3:=dW BZ2 hb;clear hb;(try go_simp);refine hK.o _ _ (kc _ BZ3) (λhHeld=>?_);clear hK K;(try simp only[jA]);refine kW 5 4 (.string U) rfl rfl (by kernel_rfl) (by kernel_rfl) (by rfl) hHeld ?_ ?_
    ·(intro w hSw;(try dsimp only at hSw);go_simp;all_goals(try with_reducible rfl))
    (try simp only[jA]);refine kW 6 5 (.bool true) rfl rfl (by kernel_rfl) (by kernel_rfl) (by rfl) hHeld ?_ ?_
    ·(intro w hSw;(try dsimp only at hSw);go_simp;all_goals(try with_reducible rfl))
    (try simp only[jA]);refine fD (by kernel_rfl) ?_ _;go_wp2;have HE:=HF.o _ (dW HB6.o BZ3);exact HE
end Go.Proofs.Tg.Iw
namespace Go.Proofs.Tg.Fi
open Go.RowKit Go.Gr Go.Rq
theorem aBI (n:Int)(w:World)(hn:n.natAbs<9000000000000000000)(ht:PT w):
    Calls Tryz.prog 32 #[.int .i64 n] w (mX (n:Rat) w):=by
  have HF:=zh (qI n (by omega) (by omega) w ht);have HQ:=zh (rJ n);clear ht;unfold mX;go_enter Tryz.func32,Tryz.ntmps32;go_wp2_with (fail);refine HF.o.mono ?_;rintro e w2 ⟨rfl,hb⟩;go_wp2;go_ret;exact⟨by rw[HQ.o];rfl,hb⟩
end Go.Proofs.Tg.Fi
namespace Go.Av
def kD {α:Type}[DecidableEq α](l:List α):List α:=l.foldl (λo p=>if p∈o then o else o++[p]) []
theorem oW {α:Type}[DecidableEq α](l:List α)(p:α):kD (l++[p])=if p∈kD l then kD l else kD l++[p]:=by
 unfold kD
 rw[eR]
 rfl
theorem aFL {α:Type}{P:List α->Prop}(h0:P [])(h1:∀l x,P l->P (l++[x])):∀l,P l:=by
 intro l
 rw[<-List.reverse_reverse l]
 induction l.reverse with
 |nil=>exact h0
 |cons x t ih=>rw[List.reverse_cons];exact h1 _ _ ih
theorem nH {α:Type}[DecidableEq α](l:List α):∀p,p∈kD l↔p∈l:=by
 induction l using aFL with
 |h0=>simp[kD]
 |h1 l x ih=>
  intro p;rw[oW]
  split
  ·rename_i h
   rw[ih p]
   constructor
   ·intro h2;simp[h2]
   intro h2
   rcases aK.1 h2 with h2|h2
   ·exact h2
   simp at h2;subst h2;exact(ih p).1 h
  rw[aK,aK,ih p]
theorem sP {α:Type}[DecidableEq α](l:List α):(kD l).Nodup:=by
 induction l using aFL with
 |h0=>simp[kD]
 |h1 l x ih=>
  rw[oW]
  split
  ·exact ih
  rename_i h
  rw[eL];refine⟨ih,by simp,λa ha b hb=>?_⟩;simp at hb;subst hb;intro e;subst e;exact h ha
def sm {α:Type}(f:α->Rat):List α->Rat
  |[]=>0
  |x::l=>f x+sm f l
theorem aNR {α:Type}(f:α->Rat)(l l':List α):sm f (l++l')=sm f l+sm f l':=by
 induction l with
 |nil=>simp only[dB,sm];grind
 |cons x l ih=>simp only[jH,sm];rw[ih];grind
theorem aNS {α:Type}(f g:α->Rat)(l:List α):sm (λx=>f x+g x) l=sm f l+sm g l:=by
 induction l with
 |nil=>simp only[sm];grind
 |cons x l ih=>simp only[sm];rw[ih];grind
theorem aNT {α:Type}(c:Rat)(f:α->Rat)(l:List α):sm (λx=>c*f x) l=c*sm f l:=by
 induction l with
 |nil=>simp only[sm];grind
 |cons x l ih=>simp only[sm];rw[ih];grind
theorem xR {α:Type}{f g:α->Rat}{l:List α}(h:∀x∈l,f x=g x):sm f l=sm g l:=by
 induction l with
 |nil=>rfl
 |cons x l ih=>simp only[sm];rw[h x (by simp),ih λy hy=>h y (by simp[hy])]
theorem aIQ {α β:Type}(f:β->Rat)(h:α->β)(l:List α):sm f (l.map h)=sm (λx=>f (h x)) l:=by
 induction l with
 |nil=>rfl
 |cons x l ih=>simp only[fH,sm];rw[ih]
theorem aLV {α:Type}{f:α->Rat}{l l':List α}(h:l.Perm l'):sm f l=sm f l':=by
 induction h with
 |nil=>rfl
 |cons x _ ih=>simp only[sm];rw[ih]
 |swap x y l=>simp only[sm];grind
 |trans _ _ ih1 ih2=>rw[ih1,ih2]
theorem aIR {α:Type}(l:List α):sm (λ_=>1) l=(l.length:Rat):=by
 induction l with
 |nil=>rfl
 |cons x l ih=>simp only[sm,bP];rw[ih];push_cast;grind
theorem aFM {α:Type}(l:List α):sm (λ_=>0) l=0:=by
 induction l with
 |nil=>rfl
 |cons x l ih=>simp only[sm];rw[ih];grind
theorem aIS {α:Type}[DecidableEq α](x:α)(f:α->Rat):∀{d:List α},d.Nodup->x∈d->sm (λq=>(if q=x then 1 else 0)*f q) d=f x
  |[],_,h=>absurd h (by simp)
  |y::d,hn,h=>by
   rw[fK]at hn;simp only[sm]
   by_cases e:y=x
   ·subst e;rw[aQ rfl,xR (g:=λ_=>0) (λq hq=>?_),aFM]
    ·grind
    have:q≠y:=λe=>hn.1 (e▸hq)
    rw[aJ this];grind
   have hx:x∈d:=by
    rcases bA.1 h with h|h
    ·exact absurd h.symm e
    exact h
   rw[aJ e,aIS x f hn.2 hx]
   grind
theorem aDb {α:Type}[DecidableEq α](f:α->Rat){d:List α}(hd:d.Nodup):∀(l:List α),(∀x∈l,x∈d)->sm f l=sm (λq=>(l.count q:Rat)*f q) d
  |[],_=>by
   have e:sm (λq=>(([]:List α).count q:Rat)*f q) d=sm (λ_=>0) d:=xR λq _=>by
    rw[List.count_nil];exact Rat.zero_mul _
   rw[e,aFM]
   rfl
  |x::l,h=>by
   have ih:=aDb f hd l λy hy=>h y (by simp[hy])
   have hx:=aIS x f hd (h x (by simp))
   have e:sm (λq=>((x::l).count q:Rat)*f q) d=sm (λq=>(l.count q:Rat)*f q+(if q=x then 1 else 0)*f q) d:=xR λq _=>by
    rw[List.count_cons]
    by_cases e:q=x
    ·subst e;rw[aQ (by simp),aQ rfl,Rat.natCast_add]
     grind
    have:(x==q)=false:=by simp;exact λh=>e h.symm
    rw[this,aJ e,aJ (by simp),bW]
    grind
   rw[e,aNS,<-ih,hx];simp only[sm];grind
theorem aGT {α:Type}[DecidableEq α](f:α->Rat){l:List α}{c:Nat}(h0:l≠[])(hc:∀q∈l,l.count q=c):sm f (kD l)/((kD l).length:Rat)=sm f l/(l.length:Rat):=by
 have hs:∀g:α->Rat,sm g l=(c:Rat)*sm g (kD l):=λg=>by
  rw[aDb g (sP l) l (λx hx=>(nH l x).2 hx),<-aNT]
  exact xR λq hq=>by rw[hc q ((nH l q).1 hq)]
 have h1:=hs f
 have h2:=hs (λ_=>1)
 rw[aIR,aIR]at h2
 have hl:0<l.length:=fF.2 h0
 have hn:(l.length:Rat)≠0:=by
  intro e;have:(l.length:Rat)=((0:Nat):Rat):=e;have:=Rat.natCast_inj.1 this;omega
 rw[h1,h2]at*
 generalize sm f (kD l)=s at*
 generalize ((kD l).length:Rat)=n at*
 generalize (c:Rat)=k at*
 have hk:k≠0:=λe=>hn (by rw[e];grind)
 have hnn:n≠0:=λe=>hn (by rw[e];grind)
 rw[Rat.div_def,Rat.div_def,Rat.inv_mul_rev]
 have:=Rat.mul_inv_cancel k hk
 grind
theorem aLW {α:Type}(f:α->Rat)(l:List α)(x:α):sm f (l++[x])=sm f l+f x:=by
 rw[aNR];simp only[sm];grind
end Go.Av
