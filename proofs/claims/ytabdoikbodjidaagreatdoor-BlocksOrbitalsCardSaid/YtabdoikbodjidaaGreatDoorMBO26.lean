/- Parts of the proof. -/
import Derived.Test.YtabdoikbodjidaaGreatDoorMBO25
set_option maxHeartbeats 64000000
set_option maxRecDepth 100000
namespace Go.Proofs.Tg.Iw
open Go.RowKit Go.Bw Go.Gr Go.Proofs.Tg Go.Rq Go.Qn
open Go.Proofs.Tg.Fi (TxS TxR Buf kY mG lM nI PT rJ tS qI)
theorem aHA (q:Rat)(N D:Option Addr)(cn cd:Nat)(w:World)(h:mJ w q N cn D cd)(h1:q.den≠1)(hn:(dg q.num.natAbs).length<=28)(hd:(dg q.den).length<=28)(ht:PT w):
    Calls Tryz.prog 60 #[.agg #[.bool (decide (q.num<0)),.slice N (dg q.num.natAbs).length cn,.bool false,.slice D (dg q.den).length cd]] w λe w'=>e=.returned (.string (bs (Lib.itoa q.num++47::Lib.itoa (q.den:Int))))/\Below w.heap.size w w':=by
  have hD:NW w D cd q.den:=by have:=h.den;rwa [lH h1]at this
  have hd0:q.den≠0:=q.den_nz;obtain⟨W,hW⟩:=eqx (w.alloc (.cells #[.bool (decide (q.num<0)),.slice N (dg q.num.natAbs).length cn,.bool false,.slice D (dg q.den).length cd] 120))
  have hbW:Below w.heap.size w W:=by rw[<-hW];exact bal
  have HBW:=zh hbW
  have B0:Blk W w.heap.size 120 #[.bool (decide (q.num<0)),.slice N (dg q.num.natAbs).length cn,.bool false,.slice D (dg q.den).length cd]:=by rw[<-hW];exact Blk.new _ _ _
  have HB0:=zh B0;have hpd:=kB.2 hd0
  have HZ:Hid (∀V,Calls Tryz.prog 94 #[.agg #[.bool false,.slice D (dg q.den).length cd]] V λe w'=>e=.returned (.bool false)/\Below V.heap.size V w'):=zh (λV=>by
   have:=lW false D (dg q.den).length cd V
   rwa [dF (by omega)]at this)
  have hin:(dg q.num.natAbs).length<=28->(Lib.itoa q.num).length<=20000:=λh=>aKz h
  have HA1:Hid (∀V,Below W.heap.size W V->Calls Tryz.prog 103 #[.agg #[.bool (decide (q.num<0)),.slice N (dg q.num.natAbs).length cn],.slice none 0 0] V λe w'=>∃A' n' c',e=.returned (.slice A' n' c')/\Hid (n'=(Lib.itoa q.num).length/\TxS w' A' c' (Lib.itoa q.num)/\TxR none V A' w')):=zh (λV hb=>by
   refine(aFa q.num N none cn 0 [] V ((h.num.keep hbW).keep hb) (Fi.TxS.zero V) hn (by simp) ((ht.keep hbW).keep hb) (λ_ h=>by cases h)).mono ?_;rintro e w' ⟨A',c',rfl,h1,h2⟩
   exact⟨A',_,c',rfl,zh ⟨by simp,by simpa using h1,h2⟩⟩)
  have HA2:Hid (∀V V2 A' n' c',Below W.heap.size W V->TxS V2 A' c' (Lib.itoa q.num++[47])->TxR none V A' V2->n'=(Lib.itoa q.num++[47]).length->Calls Tryz.prog 103 #[.agg #[.bool false,.slice D (dg q.den).length cd],.slice A' n' c'] V2 λe w'=>∃g n2 c2,e=.returned (.slice (some ⟨g,0,none⟩) n2 c2)/\(convert 150 9 (.slice (some ⟨g,0,none⟩) n2 c2)).run Tryz.prog w'=.ok (.string (bs (Lib.itoa q.num++47::Lib.itoa (q.den:Int)))) w'/\Hid (Below V.heap.size V w')):=zh (λV V2 A' n' c' hb hT hR hn'=>by
   have hp:=(ht.keep hbW).keep hb
   have hlen:(Lib.itoa q.num++[47]).length<=500000:=by
    have:=hin hn;rw[aC];simp;omega
   have:=aFa (q.den:Int) D A' cd c' (Lib.itoa q.num++[47]) V2 (((hD.keep hbW).keep hb).txr (Fi.TxS.zero V) hR) hT (by simpa using hd) hlen (aEZ hp hR (λ_ h=>by cases h)) (aKD hR hp (λ_ h=>by cases h));rw[hn'];refine this.mono ?_;rintro e w' ⟨A3,c3,rfl,h1,h2⟩
   have e1:Lib.itoa q.num++[47]++Lib.itoa (q.den:Int)=Lib.itoa q.num++47::Lib.itoa (q.den:Int):=by simp
   rw[e1]at h1;obtain⟨g,rfl,hc⟩:=TxS.cells h1 (by simp)
   have e2:(Lib.itoa q.num++[47]).length+(Lib.itoa (q.den:Int)).length=(Lib.itoa q.num++47::Lib.itoa (q.den:Int)).length:=by rw[<-e1];simp only[aC]
   refine⟨g,_,c3,rfl,?_,zh ((hR.trans h2).below (aA _) (λ_ h=>by cases h))⟩;rw[e2]
   exact run_convert_bytes_back (P:=Tryz.prog) w' 150 9 5 ⟨g,0,none⟩ c3 _ Tryz.underlying150 Tryz.underlying5 Tryz.underlying9 hc)
  have HNL:Hid ((Lib.itoa q.num).length+1<=500000):=zh (by have:=hin hn;omega);have HWW:=zh hW;clear hW hbW B0 h h1 hn hd ht hD hd0 hpd hin;generalize decide (q.num<0)=x at*;generalize (dg q.num.natAbs).length=nx at*;generalize (dg q.den).length=nd at*;generalize bs (Lib.itoa q.num++47::Lib.itoa (q.den:Int))=S at*;generalize Lib.itoa q.num=L at*;obtain⟨x0,x1,x2,x3,_,_,_,_⟩:=HB0.o.four;go_enter Tryz.func60,Tryz.ntmps60;go_upto_region 1 with(fail);rw[HWW.o]
  go_upto_region 6 with(go_at_call 94;refine(HZ.o _).mono ?_;rintro e w1 ⟨rfl,hb1⟩;have HB1:=zh hb1;have Y:=HB0.o.keep hb1 HB0.o.lt;obtain⟨x0,x1,x2,x3,_,_,_,_⟩:=Y.four;clear hb1 Y)
  go_upto_region 7 with(first
    |(go_at_call 103;refine(HA1.o _ HB1.o).mono ?_;rintro e w2 ⟨A1,n1,c1,rfl,HT1⟩;obtain⟨A2,c2,w3,hr,hT2,hR2⟩:=wW HT1.o.2.1 47 (by have:=HNL.o;omega);rw[<-HT1.o.1]at hr;have HRUN:=zh hr;have hR3:=HT1.o.2.2.trans hR2;have Y:=((HB0.o.keep HB1.o HB0.o.lt).same' hR3 (Fi.TxS.zero _));obtain⟨x0,x1,x2,x3,_,_,_,_⟩:=Y.four;have HN2:=zh (HA2.o _ _ _ (n1+1) _ HB1.o hT2 hR3 (by rw[aC,HT1.o.1];rfl));clear hr hT2 hR2 hR3 Y)
    |(at_builtin;refine Fi.wpList_append_run _ rfl _ _ 150 150 rfl _ _ HRUN.o ?_))
  go_wp2_with (go_at_call 103;refine HN2.o.mono ?_;rintro e w4 ⟨g,n2,c2,rfl,hcv,hbe⟩)
  go_ret;exact⟨rfl,dW HBW.o (dW HB1.o hbe.o)⟩
theorem aKA (q:Rat)(N D:Option Addr)(cn cd:Nat)(w:World)(h:mJ w q N cn D cd)(hn:(dg q.num.natAbs).length<=28)(hd:(dg q.den).length<=28)(ht:PT w):
    Calls Tryz.prog 60 #[rval q N cn D cd] w λe w'=>e=.returned (.string (qtx q))/\Below w.heap.size w w':=by
  unfold rval
  by_cases h1:q.den=1
  ·have e:qtx q=bs (Lib.itoa q.num):=by
    have hq:q=(q.num:Rat):=by
     apply Rat.ext
     ·rfl
     exact h1
    conv=>lhs;rw[hq]
    exact rJ _
   rw[e,h1,lK,jS];exact aEY q N D cn cd w h h1 hn ht
  rw[tS h1,lH h1];exact aHA q N D cn cd w h h1 hn hd ht
end Go.Proofs.Tg.Iw
namespace Go.Proofs.Tg.Iw
open Go.RowKit Go.Bw Go.Gr Go.Proofs.Tg Go.Rq
theorem NW.offB {w:World}{R:Option Addr}{c n g:Nat}{t:TypeId}{cs:Array Value}(h:NW w R c n)(B:Blk w g t cs)(hc:∀v∈cs.toList,∀x:Int,v≠.int .u64 x):Off R (dg n).length g:=
  h.wds.off (by decide) B λv hv hm=>by
   obtain⟨x,_,rfl⟩:=aM.1 hm;exact hc _ hv _ rfl
theorem aBT (z:Int)(b:Nat)(A B:Option Addr)(c d:Nat)(w:World)(hA:NW w A c z.natAbs)(hB:NW w B d b)(ha:(dg z.natAbs).length<=400000)(hbl:(dg b).length<=400000)(hb:b≠0)(hs:(dg b).length<80∨(dg z.natAbs).length<(dg b).length+80):
    Calls Tryz.prog 98 #[.agg #[.bool (decide (z<0)),.slice A (dg z.natAbs).length c],.agg #[.bool false,.slice B (dg b).length d]] w (oT (z.tdiv (b:Int)) w):=by
  obtain⟨W,hW⟩:=eqx (((w.alloc (.cells #[.bool (decide (z<0)),.slice A (dg z.natAbs).length c] 118)).alloc (.cells #[.bool false,.slice B (dg b).length d] 118)).alloc (.cells #[.bool false,.slice none 0 0] 118))
  have B0:Blk W w.heap.size 118 #[.bool (decide (z<0)),.slice A (dg z.natAbs).length c]:=by rw[<-hW];exact((Blk.new _ _ _).alloc _).alloc _
  have B1:Blk W (w.heap.size+1) 118 #[.bool false,.slice B (dg b).length d]:=by
   rw[<-hW];have:=(Blk.new (w.alloc (.cells #[.bool (decide (z<0)),.slice A (dg z.natAbs).length c] 118)) 118 #[.bool false,.slice B (dg b).length d]).alloc (.cells #[.bool false,.slice none 0 0] 118);simpa using this
  have B2:Blk W (w.heap.size+1+1) 118 #[.bool false,.slice none 0 0]:=by
   rw[<-hW];have:=Blk.new ((w.alloc (.cells #[.bool (decide (z<0)),.slice A (dg z.natAbs).length c] 118)).alloc (.cells #[.bool false,.slice B (dg b).length d] 118)) 118 #[.bool false,.slice none 0 0];simpa using this
  have hbW:Below w.heap.size w W:=by rw[<-hW];exact((bal).alloc (by simp) _).alloc (by simp;omega) _
  have HBW:=zh hbW;have HB0:=zh B0;have HB1:=zh B1;have HB2:=zh B2;have HWW:=zh hW;have HO:=zh (sZ B d b W (hB.keep hbW));have HA:=zh (hA.keep hbW)
  have tna:(z.tdiv (b:Int)).natAbs=z.natAbs/b:=by rw[Int.natAbs_tdiv];rfl
  have tsg:((decide (z<0)!=false)&&decide (z.natAbs/b≠0))=decide (z.tdiv (b:Int)<0):=by
   by_cases hz:z<0
   ·rw[dT hz]
    have h1:z.tdiv (b:Int)=-((z.natAbs/b:Nat):Int):=by
     have e:z=-(z.natAbs:Int):=by omega
     conv=>lhs;rw[e]
     rw[Int.neg_tdiv,iG]
    rw[h1]
    show decide _=decide _
    rw[dH];omega
   rw[dF hz]
   have h1:z.tdiv (b:Int)=((z.natAbs/b:Nat):Int):=by
    have e:z=(z.natAbs:Int):=by omega
    conv=>lhs;rw[e]
    rw[iG]
   rw[h1,dF (show ¬((z.natAbs/b:Nat):Int)<0 by omega)]
   rfl
  obtain⟨x0,x1,_,_⟩:=B0.two;obtain⟨y0,y1,_,_⟩:=B1.two;obtain⟨r0,r1,r2,r3⟩:=B2.two
  by_cases h1:b=1
  ·subst h1
   have e:z.tdiv ((1:Nat):Int)=z:=by simp
   rw[e];have e2:oT z w=lT (decide (z<0)) z.natAbs w:=rfl;rw[e2];have HL:Hid (∀V,Below W.heap.size W V->lT (decide (z<0)) z.natAbs w (.returned (.agg #[.bool (decide (z<0)),.slice A (dg z.natAbs).length c])) ((V.setCell ⟨w.heap.size+1+1,0,none⟩ (.bool (decide (z<0)))).setCell ⟨w.heap.size+1+1,1,none⟩ (.slice A (dg z.natAbs).length c))):=zh (λV hV=>nE HBW.o hV (HA.o.keep hV) (by omega) (HB2.o.keep hV HB2.o.lt));generalize lT (decide (z<0)) z.natAbs w=Q at*;generalize decide (z<0)=x at*;generalize (dg z.natAbs).length=na at*;clear hW hbW B0 B1 B2 hA hB tna tsg e e2 ha hs;generalize (dg 1).length=nb at*;go_enter Tryz.func98,Tryz.ntmps98;go_upto_region 1 with(fail);rw[HWW.o]
   go_wp2_with (go_at_call 99;refine HO.o.mono ?_;rintro e w1 ⟨rfl,hb1⟩;have HB3:=zh hb1;obtain⟨x0,x1,_,_⟩:=(HB0.o.keep hb1 HB0.o.lt).two;have Y2:=HB2.o.keep hb1 HB2.o.lt;obtain⟨r0,r1,r2,r3⟩:=Y2.two;clear hb1)
   exact aO (v:=.agg #[.bool x,.slice A na c]) (by simp[results,Tryz.results98,go_sem,r0,r1]) rfl (HL.o w1 HB3.o)
  rw[dF h1]at HO;have HQ:=zh (λV (hV:Below W.heap.size W V)=>sT (decide (z<0)) false A B c d z.natAbs b V ((hA.keep hbW).keep hV) ((hB.keep hbW).keep hV) ha hbl hb hs);unfold wJ at HQ
  have e2:oT (z.tdiv (b:Int)) w=lT ((decide (z<0)!=false)&&decide (z.natAbs/b≠0)) (z.natAbs/b) w:=by
   unfold oT lT;rw[tna,tsg]
  rw[e2];obtain⟨s1,hs1⟩:=eqx (((decide (z<0)!=false)&&decide (z.natAbs/b≠0)));obtain⟨qn,hqn⟩:=eqx (z.natAbs/b);obtain⟨s2,hs2⟩:=eqx ((decide (z<0)&&decide (z.natAbs%b≠0)));rw[hs1,hs2,hqn]at HQ;rw[hs1,hqn];obtain⟨nq,hnq⟩:=eqx ((dg qn).length);have HL:Hid (∀V Q cq,Below W.heap.size W V->NW V Q cq qn->lT s1 qn w (.returned (.agg #[.bool s1,.slice Q nq cq])) ((V.setCell ⟨w.heap.size+1+1,0,none⟩ (.bool s1)).setCell ⟨w.heap.size+1+1,1,none⟩ (.slice Q nq cq))):=zh (λV Q cq hV hN=>by rw[<-hnq];exact nE HBW.o hV hN (by omega) (HB2.o.keep hV HB2.o.lt));rw[hnq]at HQ;generalize lT s1 qn w=Q at*;generalize decide (z<0)=x at*;generalize (dg z.natAbs).length=na at*;generalize (dg (z.natAbs%b)).length=nr at*;clear hW hbW B0 B1 B2 hA hB tna tsg e2 ha hs hbl hb h1 hs1 hs2 hqn hnq
  generalize (dg b).length=nb at*;go_enter Tryz.func98,Tryz.ntmps98;go_upto_region 1 with(fail);rw[HWW.o]
  go_upto_region 3 with(go_at_call 99;refine HO.o.mono ?_;rintro e w1 ⟨rfl,hb1⟩;have HB3:=zh hb1;obtain⟨x0,x1,_,_⟩:=(HB0.o.keep hb1 HB0.o.lt).two;obtain⟨y0,y1,_,_⟩:=(HB1.o.keep hb1 HB1.o.lt).two;clear hb1)
  go_wp2_with (go_at_call 147;refine(HQ.o _ HB3.o).mono ?_;rintro e w2 ⟨Q1,cq,R1,cr,rfl,hN1,hN2,hb2⟩;have HB4:=zh (dW HB3.o hb2);have HN1:=zh hN1;have Y2:=HB2.o.keep HB4.o HB2.o.lt;have hal:Below w2.heap.size w2 ((w2.alloc (.cells #[.bool s1,.slice Q1 nq cq] 118)).alloc (.cells #[.bool s2,.slice R1 nr cr] 118)):=(bal).alloc (by simp) _;have HAL:=zh hal;have Y3:=Y2.keep hal Y2.lt;obtain⟨r0,r1,r2,r3⟩:=Y3.two;clear hb2 hN1 hN2 hal)
  exact aO (v:=.agg #[.bool s1,.slice Q1 nq cq]) (by simp[results,Tryz.results98,go_sem,r0,r1]) rfl (HL.o _ Q1 cq (dW HB4.o HAL.o) (HN1.o.keep HAL.o))
def mR (q:Rat)(w:World)(e:Ending)(w':World):Prop:=∃N cn D cd,e=.returned (rval q N cn D cd)/\mJ w' q N cn D cd/\Below w.heap.size w w'
theorem nJ (n:Nat)(w:World):oT (n:Int) w=lT false n w:=by
 unfold oT lT
 have e1:decide ((n:Int)<0)=false:=dF (by omega)
 rw[e1,aU]
theorem aMN (q:Rat)(x:Bool)(N D:Option Addr)(ln cn cd:Nat)(w:World)(h1:q.den=1):
    Calls Tryz.prog 150 #[.agg #[.bool x,.slice N ln cn,.bool false,.slice D 0 cd]] w (oT (q.den:Int) w):=by
  rw[nJ,h1];obtain⟨W,hW⟩:=eqx ((w.alloc (.cells #[.bool x,.slice N ln cn,.bool false,.slice D 0 cd] 120)).alloc (.cells #[.bool false,.slice none 0 0] 118))
  have B0:Blk W w.heap.size 120 #[.bool x,.slice N ln cn,.bool false,.slice D 0 cd]:=by rw[<-hW];exact(Blk.new _ _ _).alloc _
  have B1:Blk W (w.heap.size+1) 118 #[.bool false,.slice none 0 0]:=by
   rw[<-hW];have:=Blk.new (w.alloc (.cells #[.bool x,.slice N ln cn,.bool false,.slice D 0 cd] 120)) 118 #[.bool false,.slice none 0 0];simpa using this
  have hbW:Below w.heap.size w W:=by rw[<-hW];exact(bal).alloc (by simp) _
  have HWW:=zh hW;have HB1:=zh B1;have HZ:=zh (lW false D 0 cd W);have HN:Hid (∀V,Calls Tryz.prog 181 #[.int .i64 1] V (lT false 1 V)):=zh (λV=>aKv V);unfold lT at HN;obtain⟨l1,hl1⟩:=eqx ((dg 1).length);have HL:Hid (∀V R c,Below W.heap.size W V->NW V R c 1->lT false 1 w (.returned (.agg #[.bool false,.slice R l1 c])) ((V.setCell ⟨w.heap.size+1,0,none⟩ (.bool false)).setCell ⟨w.heap.size+1,1,none⟩ (.slice R l1 c))):=zh (λV R c hV hR=>by rw[<-hl1];exact nE hbW hV hR (by omega) (HB1.o.keep hV HB1.o.lt));rw[hl1]at HN;generalize lT false 1 w=Q at*;obtain⟨x0,x1,x2,x3,_,_,_,_⟩:=B0.four;clear hW hbW B0 B1 hl1;go_enter Tryz.func150,Tryz.ntmps150;go_upto_region 1 with(fail);rw[HWW.o]
  go_wp2_with (first
    |(go_at_call 94;refine HZ.o.mono ?_;rintro e w1 ⟨rfl,hb1⟩;have HB2:=zh hb1;clear hb1)
    |(go_at_call 181;refine(HN.o _).mono ?_;rintro e w2 ⟨R,c,rfl,hR,hb2⟩;have HR:=zh hR;have HB3:=zh (dW HB2.o hb2);obtain⟨r0,r1,r2,r3⟩:=(HB1.o.keep HB3.o HB1.o.lt).two;clear hR hb2))
  exact aO (v:=.agg #[.bool false,.slice R l1 c]) (by simp[results,Tryz.results150,go_sem,r0,r1]) rfl (HL.o w2 R c HB3.o HR.o)
theorem aKH (m:Nat)(x:Bool)(N D:Option Addr)(ln cn cd:Nat)(w:World)(h0:m≠0)(hD:NW w D cd m):
    Calls Tryz.prog 150 #[.agg #[.bool x,.slice N ln cn,.bool false,.slice D (dg m).length cd]] w (oT (m:Int) w):=by
  rw[nJ];obtain⟨W,hW⟩:=eqx ((w.alloc (.cells #[.bool x,.slice N ln cn,.bool false,.slice D (dg m).length cd] 120)).alloc (.cells #[.bool false,.slice none 0 0] 118))
  have B0:Blk W w.heap.size 120 #[.bool x,.slice N ln cn,.bool false,.slice D (dg m).length cd]:=by rw[<-hW];exact(Blk.new _ _ _).alloc _
  have B1:Blk W (w.heap.size+1) 118 #[.bool false,.slice none 0 0]:=by
   rw[<-hW];have:=Blk.new (w.alloc (.cells #[.bool x,.slice N ln cn,.bool false,.slice D (dg m).length cd] 120)) 118 #[.bool false,.slice none 0 0];simpa using this
  have hbW:Below w.heap.size w W:=by rw[<-hW];exact(bal).alloc (by simp) _
  have HWW:=zh hW;have HB0:=zh B0;have HB1:=zh B1;have hp:=kB.2 h0
  have HZ:Hid (Calls Tryz.prog 94 #[.agg #[.bool false,.slice D (dg m).length cd]] W λe w'=>e=.returned (.bool false)/\Below W.heap.size W w'):=zh (by
   have:=lW false D (dg m).length cd W
   rwa [dF (by omega)]at this)
  have HL:Hid (∀V,Below W.heap.size W V->lT false m w (.returned (.agg #[.bool false,.slice D (dg m).length cd])) ((V.setCell ⟨w.heap.size+1,0,none⟩ (.bool false)).setCell ⟨w.heap.size+1,1,none⟩ (.slice D (dg m).length cd))):=zh (λV hV=>nE hbW hV ((hD.keep hbW).keep hV) (by omega) (HB1.o.keep hV HB1.o.lt));generalize lT false m w=Q at*;obtain⟨x0,x1,x2,x3,_,_,_,_⟩:=B0.four;clear hW hbW B0 B1 hp hD h0;generalize (dg m).length=lm at*;go_enter Tryz.func150,Tryz.ntmps150;go_upto_region 1 with(fail);rw[HWW.o]
  go_wp2_with (go_at_call 94;refine HZ.o.mono ?_;rintro e w1 ⟨rfl,hb1⟩;have HB2:=zh hb1;obtain⟨x0,x1,x2,x3,_,_,_,_⟩:=(HB0.o.keep hb1 HB0.o.lt).four;obtain⟨r0,r1,r2,r3⟩:=(HB1.o.keep hb1 HB1.o.lt).two;clear hb1)
  exact aO (v:=.agg #[.bool false,.slice D lm cd]) (by simp[results,Tryz.results150,go_sem,r0,r1]) rfl (HL.o w1 HB2.o)
theorem aKI (q:Rat)(N D:Option Addr)(cn cd:Nat)(w:World)(h:mJ w q N cn D cd):
    Calls Tryz.prog 150 #[rval q N cn D cd] w (oT (q.den:Int) w):=by
  unfold rval
  by_cases h1:q.den=1
  ·have:=aMN q (decide (q.num<0)) N D (dg q.num.natAbs).length cn cd w h1;rw[h1,lK,jS]
   rwa [h1]at this
  have hD:=h.den;rw[lH h1]at hD ⊢;exact aKH q.den _ N D _ cn cd w q.den_nz hD
theorem lY {w:World}{R:Option Addr}{c n g:Nat}(h:NW w R c n)(ho:Off R (dg n).length g)(a b e f:Value):NW ((((w.setCell ⟨g,0,none⟩ a).setCell ⟨g,1,none⟩ b).setCell ⟨g,2,none⟩ e).setCell ⟨g,3,none⟩ f) R c n:=
  (((h.far ho _ _).far ho _ _).far ho _ _).far ho _ _
theorem rW:∀v∈(#[.bool false,.slice none 0 0,.bool false,.slice none 0 0]:Array Value).toList,∀x:Int,v≠.int .u64 x:=by simp
theorem aAT (q:Rat)(N D:Option Addr)(cn cd:Nat)(w:World)(hN:NW w N cn q.num.natAbs)(hD:NW w D cd q.den):
    Calls Tryz.prog 100 #[.agg #[.bool (decide (q.num<0)),.slice N (dg q.num.natAbs).length cn],.agg #[.bool false,.slice D (dg q.den).length cd]] w (mR q w):=by
  obtain⟨W,hW⟩:=eqx (((w.alloc (.cells #[.bool (decide (q.num<0)),.slice N (dg q.num.natAbs).length cn] 118)).alloc (.cells #[.bool false,.slice D (dg q.den).length cd] 118)).alloc (.cells #[.bool false,.slice none 0 0,.bool false,.slice none 0 0] 120))
  have B0:Blk W w.heap.size 118 #[.bool (decide (q.num<0)),.slice N (dg q.num.natAbs).length cn]:=by rw[<-hW];exact((Blk.new _ _ _).alloc _).alloc _
  have B1:Blk W (w.heap.size+1) 118 #[.bool false,.slice D (dg q.den).length cd]:=by
   rw[<-hW];have:=(Blk.new (w.alloc (.cells #[.bool (decide (q.num<0)),.slice N (dg q.num.natAbs).length cn] 118)) 118 #[.bool false,.slice D (dg q.den).length cd]).alloc (.cells #[.bool false,.slice none 0 0,.bool false,.slice none 0 0] 120);simpa using this
  have B2:Blk W (w.heap.size+1+1) 120 #[.bool false,.slice none 0 0,.bool false,.slice none 0 0]:=by
   rw[<-hW];have:=Blk.new ((w.alloc (.cells #[.bool (decide (q.num<0)),.slice N (dg q.num.natAbs).length cn] 118)).alloc (.cells #[.bool false,.slice D (dg q.den).length cd] 118)) 120 #[.bool false,.slice none 0 0,.bool false,.slice none 0 0];simpa using this
  have hbW:Below w.heap.size w W:=by rw[<-hW];exact((bal).alloc (by simp) _).alloc (by simp;omega) _
  have HBW:=zh hbW;have HB0:=zh B0;have HB1:=zh B1;have HB2:=zh B2;have HWW:=zh hW;have HO:=zh (sZ D cd q.den W (hD.keep hbW));obtain⟨x0,x1,_,_⟩:=B0.two;obtain⟨y0,y1,_,_⟩:=B1.two
  by_cases h1:q.den=1
  ·rw[dT h1]at HO
   have HL:Hid (∀V,Below W.heap.size W V->mR q w (.returned (.agg #[.bool (decide (q.num<0)),.slice N (dg q.num.natAbs).length cn,.bool false,.slice none 0 0])) ((((V.setCell ⟨w.heap.size+1+1,0,none⟩ (.bool (decide (q.num<0)))).setCell ⟨w.heap.size+1+1,1,none⟩ (.slice N (dg q.num.natAbs).length cn)).setCell ⟨w.heap.size+1+1,2,none⟩ (.bool false)).setCell ⟨w.heap.size+1+1,3,none⟩ (.slice none 0 0))):=zh (λV hV=>by
    have Y:=HB2.o.keep hV HB2.o.lt;have hN2:=(hN.keep hbW).keep hV;refine⟨N,cn,none,0,?_,⟨lY hN2 (hN2.offB Y rW) _ _ _ _,?_⟩,?_⟩
    ·unfold rval;rw[h1,lK,jS];rfl
    ·rw[h1,lK];exact NW.zero _ _ _
    exact hJ (hJ (hJ (hJ (dW hbW hV) (by omega) _ _) (by omega) _ _) (by omega) _ _) (by omega) _ _)
   generalize mR q w=Q at*;generalize decide (q.num<0)=x at*;generalize (dg q.num.natAbs).length=ln at*;generalize (dg q.den).length=ld at*;clear hW hbW B0 B1 B2 hN hD h1;go_enter Tryz.func100,Tryz.ntmps100;go_upto_region 1 with(fail);rw[HWW.o]
   go_wp2_with (go_at_call 99;refine HO.o.mono ?_;rintro e w1 ⟨rfl,hb1⟩;have HB3:=zh hb1;obtain⟨x0,x1,_,_⟩:=(HB0.o.keep hb1 HB0.o.lt).two;obtain⟨r0,r1,r2,r3,r4,r5,r6,r7⟩:=(HB2.o.keep hb1 HB2.o.lt).four;clear hb1)
   exact aO (v:=.agg #[.bool x,.slice N ln cn,.bool false,.slice none 0 0]) (by simp[results,Tryz.results100,go_sem,r0,r1,r2,r3]) rfl (HL.o w1 HB3.o)
  rw[dF h1]at HO
  have HL:Hid (∀V,Below W.heap.size W V->mR q w (.returned (.agg #[.bool (decide (q.num<0)),.slice N (dg q.num.natAbs).length cn,.bool false,.slice D (dg q.den).length cd])) ((((V.setCell ⟨w.heap.size+1+1,0,none⟩ (.bool (decide (q.num<0)))).setCell ⟨w.heap.size+1+1,1,none⟩ (.slice N (dg q.num.natAbs).length cn)).setCell ⟨w.heap.size+1+1,2,none⟩ (.bool false)).setCell ⟨w.heap.size+1+1,3,none⟩ (.slice D (dg q.den).length cd))):=zh (λV hV=>by
   have Y:=HB2.o.keep hV HB2.o.lt;have hN2:=(hN.keep hbW).keep hV;have hD2:=(hD.keep hbW).keep hV;refine⟨N,cn,D,cd,?_,⟨lY hN2 (hN2.offB Y rW) _ _ _ _,?_⟩,?_⟩
   ·unfold rval;rw[lH h1]
   ·rw[lH h1];exact lY hD2 (hD2.offB Y rW) _ _ _ _
   exact hJ (hJ (hJ (hJ (dW hbW hV) (by omega) _ _) (by omega) _ _) (by omega) _ _) (by omega) _ _)
  generalize mR q w=Q at*;generalize decide (q.num<0)=x at*;generalize (dg q.num.natAbs).length=ln at*;generalize (dg q.den).length=ld at*;clear hW hbW B0 B1 B2 hN hD h1;go_enter Tryz.func100,Tryz.ntmps100;go_upto_region 1 with(fail);rw[HWW.o]
  go_wp2_with (go_at_call 99;refine HO.o.mono ?_;rintro e w1 ⟨rfl,hb1⟩;have HB3:=zh hb1;obtain⟨x0,x1,_,_⟩:=(HB0.o.keep hb1 HB0.o.lt).two;obtain⟨y0,y1,_,_⟩:=(HB1.o.keep hb1 HB1.o.lt).two;obtain⟨r0,r1,r2,r3,r4,r5,r6,r7⟩:=(HB2.o.keep hb1 HB2.o.lt).four;clear hb1)
  exact aO (v:=.agg #[.bool x,.slice N ln cn,.bool false,.slice D ld cd]) (by simp[results,Tryz.results100,go_sem,r0,r1,r2,r3]) rfl (HL.o w1 HB3.o)
end Go.Proofs.Tg.Iw
namespace Go.Proofs.Tg
open Go.RowKit Go.Qn
def qD (b:Bool)(n d:Nat)(w:World)(e:Ending)(w':World):Prop:=
  e=.returned (.tuple #[.agg #[.bool b,.string (bs (Lib.decDigits n)),.string (bs (if d=1 then[]else Lib.decDigits d))],.bool true])/\Below w.heap.size w w'
theorem rR (b:Bool)(n d:Nat)(w:World)(hc:xA b n d)(hs:(lN b n d).length<=4000):
    Calls Tryz.prog 118 #[.string (bs (lN b n d))] w (qD b n d w):=by
  refine(zF (bs (lN b n d)) w (by rw[kA];exact hs)).mono ?_;rintro e w' ⟨b2,num,den,ok,rfl,⟨hS,hb2,hnum,hden⟩,hb⟩;rw[kG]at hS hb2 hnum hden;rw[aBb]at hb2 hnum hden;simp only at hb2 hnum hden;subst hb2;obtain⟨e1,e2⟩:=yK (p:=isD) (Lib.decDigits n) (if d=1 then[]else 47::Lib.decDigits d) (mK n) (aBZ d);rw[e1]at hnum;rw[e2]at hden;subst hnum;obtain⟨_,_,h0,h1⟩:=hS;have hrd:=xB hc
  have hok:ok=true:=by
   cases ok with
   |true=>rfl
   |false=>rw[h0 rfl]at hrd;cases hrd
  subst hok;obtain⟨_,h2,h3⟩:=h1 rfl
  have hD:den=if d=1 then[]else Lib.decDigits d:=by
   by_cases hd:d=1
   ·rw[aQ hd]at hden ⊢
    rcases hden with h|h
    ·exact h
    rw[h];rfl
   rw[aJ hd]at hden ⊢
   rcases hden with h|h
   ·have:=h2 h;rw[hrd]at this
    injection this with this
    injection this with _ this
    injection this with _ this
    exact absurd this hd
   rw[h,List.tail_cons];have:=(yK (p:=isD) (Lib.decDigits d) [] (mK d) (.inl rfl)).1;rwa [eA]at this
  subst hD;exact⟨rfl,hb⟩
theorem aFE (b:Bool)(n d:Nat)(w:World)(hc:xA b n d)(hs:(lN b n d).length<=64):
    Calls Tryz.prog 118 #[.string (bs (lN b n d))] w (qD b n d w):=rR b n d w hc (by omega)
end Go.Proofs.Tg
namespace Go.Proofs.Tg.Iw
open Go.RowKit Go.Bw Go.Gr Go.Proofs.Tg Go.Rq
def yX (z:Int)(m:Nat)(w:World)(e:Ending)(w':World):Prop:=
  ∃N cn D cd,e=.returned (.tuple #[.agg #[.bool (decide (z<0)),.slice N (dg z.natAbs).length cn],.agg #[.bool false,.slice D (dg m).length cd]])/\NW w' N cn z.natAbs/\NW w' D cd m/\Below w.heap.size w w'
theorem aFb (z:Int)(A B:Option Addr)(c d:Nat)(w:World)(hA:NW w A c z.natAbs)(hB:NW w B d 1):
    Calls Tryz.prog 149 #[.agg #[.bool (decide (z<0)),.slice A (dg z.natAbs).length c],.agg #[.bool false,.slice B (dg 1).length d]] w (yX z 1 w):=by
  obtain⟨x,hx⟩:=eqx (decide (z<0));obtain⟨na,hna⟩:=eqx ((dg z.natAbs).length);obtain⟨nb,hnb⟩:=eqx ((dg 1).length);rw[hx,hna,hnb];obtain⟨W,hW⟩:=eqx ((((w.alloc (.cells #[.bool x,.slice A na c] 118)).alloc (.cells #[.bool false,.slice B nb d] 118)).alloc (.cells #[.bool false,.slice none 0 0] 118)).alloc (.cells #[.bool false,.slice none 0 0] 118))
  have B0:Blk W w.heap.size 118 #[.bool x,.slice A na c]:=by rw[<-hW];exact(((Blk.new _ _ _).alloc _).alloc _).alloc _
  have B1:Blk W (w.heap.size+1) 118 #[.bool false,.slice B nb d]:=by
   rw[<-hW];have:=((Blk.new (w.alloc (.cells #[.bool x,.slice A na c] 118)) 118 #[.bool false,.slice B nb d]).alloc (.cells #[.bool false,.slice none 0 0] 118)).alloc (.cells #[.bool false,.slice none 0 0] 118);simpa using this
  have B2:Blk W (w.heap.size+1+1) 118 #[.bool false,.slice none 0 0]:=by
   rw[<-hW];have:=(Blk.new ((w.alloc (.cells #[.bool x,.slice A na c] 118)).alloc (.cells #[.bool false,.slice B nb d] 118)) 118 #[.bool false,.slice none 0 0]).alloc (.cells #[.bool false,.slice none 0 0] 118);simpa using this
  have B3:Blk W (w.heap.size+1+1+1) 118 #[.bool false,.slice none 0 0]:=by
   rw[<-hW];have:=(Blk.new (((w.alloc (.cells #[.bool x,.slice A na c] 118)).alloc (.cells #[.bool false,.slice B nb d] 118)).alloc (.cells #[.bool false,.slice none 0 0] 118)) 118 #[.bool false,.slice none 0 0]);simpa using this
  have hbW:Below w.heap.size w W:=by rw[<-hW];exact(((bal).alloc (by simp) _).alloc (by simp;omega) _).alloc (by simp;omega) _
  have HB0:=zh B0;have HB1:=zh B1;have HB2:=zh B2;have HB3:=zh B3;have HWW:=zh hW;have HO:Hid (Calls Tryz.prog 99 #[.agg #[.bool false,.slice B nb d]] W λe w'=>e=.returned (.bool true)/\Below W.heap.size W w'):=zh (by rw[<-hnb];exact sZ B d 1 W (hB.keep hbW))
  have HL:Hid (∀V V',Below W.heap.size W V->(((((V.setCell ⟨w.heap.size+1+1,0,none⟩ (.bool x)).setCell ⟨w.heap.size+1+1,1,none⟩ (.slice A na c)).setCell ⟨w.heap.size+1+1+1,0,none⟩ (.bool false)).setCell ⟨w.heap.size+1+1+1,1,none⟩ (.slice B nb d))=V'∨((((V.setCell ⟨w.heap.size+1+1+1,0,none⟩ (.bool false)).setCell ⟨w.heap.size+1+1+1,1,none⟩ (.slice B nb d)).setCell ⟨w.heap.size+1+1,0,none⟩ (.bool x)).setCell ⟨w.heap.size+1+1,1,none⟩ (.slice A na c))=V')->yX z 1 w (.returned (.tuple #[.agg #[.bool x,.slice A na c],.agg #[.bool false,.slice B nb d]])) V'.drew):=zh (λV V' hV hor=>by
   have Y2:=HB2.o.keep hV HB2.o.lt;have Y3:=HB3.o.keep hV HB3.o.lt;have hA2:=(hA.keep hbW).keep hV;have hB2:=(hB.keep hbW).keep hV;have hd:Below V'.heap.size V' V'.drew:=brf.drew;refine⟨A,c,B,d,by rw[hx,hna,hnb],NW.keep ?_ hd,NW.keep ?_ hd,Below.drew ?_⟩
   ·rcases hor with rfl|rfl
    ·exact(((hA2.far (hA2.off Y2) _ _).far (hA2.off Y2) _ _).far (hA2.off Y3) _ _).far (hA2.off Y3) _ _
    exact(((hA2.far (hA2.off Y3) _ _).far (hA2.off Y3) _ _).far (hA2.off Y2) _ _).far (hA2.off Y2) _ _
   ·rcases hor with rfl|rfl
    ·exact(((hB2.far (hB2.off Y2) _ _).far (hB2.off Y2) _ _).far (hB2.off Y3) _ _).far (hB2.off Y3) _ _
    exact(((hB2.far (hB2.off Y3) _ _).far (hB2.off Y3) _ _).far (hB2.off Y2) _ _).far (hB2.off Y2) _ _
   rcases hor with rfl|rfl<;>exact hJ (hJ (hJ (hJ (dW hbW hV) (by omega) _ _) (by omega) _ _) (by omega) _ _) (by omega) _ _)
  obtain⟨x0,x1,_,_⟩:=B0.two;obtain⟨y0,y1,_,_⟩:=B1.two;have n1:(w.heap.size+1+1=w.heap.size+1+1+1)=False:=bX (by omega);have n2:(w.heap.size+1+1+1=w.heap.size+1+1)=False:=bX (by omega);have m0:(w.heap.size=w.heap.size+1+1)=False:=bX (by omega);have m1:(w.heap.size+1+1=w.heap.size)=False:=bX (by omega);have m2:(w.heap.size=w.heap.size+1+1+1)=False:=bX (by omega);have m3:(w.heap.size+1+1+1=w.heap.size)=False:=bX (by omega);have m4:(w.heap.size+1=w.heap.size+1+1)=False:=bX (by omega);have m5:(w.heap.size+1+1=w.heap.size+1)=False:=bX (by omega);have m6:(w.heap.size+1=w.heap.size+1+1+1)=False:=bX (by omega);have m7:(w.heap.size+1+1+1=w.heap.size+1)=False:=bX (by omega)
  generalize yX z 1 w=Q at*;clear hW hbW B0 B1 B2 B3 hA hB hx hna hnb;go_enter Tryz.func149,Tryz.ntmps149;go_upto_region 1 with(fail);rw[HWW.o]
  go_upto_region 2 with(go_at_call 99;refine HO.o.mono ?_;rintro e w1 ⟨rfl,hb1⟩;have HBE:=zh hb1;obtain⟨x0,x1,_,_⟩:=(HB0.o.keep hb1 HB0.o.lt).two;obtain⟨y0,y1,_,_⟩:=(HB1.o.keep hb1 HB1.o.lt).two;have Y2:=HB2.o.keep hb1 HB2.o.lt;have Y3:=HB3.o.keep hb1 HB3.o.lt;obtain⟨i0,i1,i2,i3⟩:=Y2.two;obtain⟨k0,k1,k2,k3⟩:=Y3.two;clear hb1)
  have hbe:Below w1.heap.size w1 w1.drew:=brf.drew
  go_region_held3 (λw'=>w'.cell? ⟨w.heap.size,0,none⟩=some (.bool x)/\w'.cell? ⟨w.heap.size,1,none⟩=some (.slice A na c)/\w'.cell? ⟨w.heap.size+1,0,none⟩=some (.bool false)/\w'.cell? ⟨w.heap.size+1,1,none⟩=some (.slice B nb d))
    (first|exact⟨gL hbe x0,gL hbe x1,gL hbe y0,gL hbe y1⟩|go_keep|(dsimp only;refine⟨?_,?_,?_,?_⟩<;>go_keep)|(refine⟨?_,?_,?_,?_⟩<;>(simp[World.cell?_setCell,m0,m1,m2,m3,m4,m5,m6,m7]<;>first|exact x0|exact x1|exact y0|exact y1)))
    (fail)
  all_goals
    go_wp2;exact aO (v:=.tuple #[.agg #[.bool x,.slice A na c],.agg #[.bool false,.slice B nb d]]) (by simp[results,Tryz.results149,go_sem,i0,i1,k0,k1]) rfl (HL.o w1 _ HBE.o (by first|exact .inl rfl|exact .inr rfl))
theorem aDI (z:Int)(b:Nat)(A B:Option Addr)(c d:Nat)(w:World)(hA:NW w A c z.natAbs)(hB:NW w B d b)(hb0:b≠0)(hb1:b≠1)(ha:(dg z.natAbs).length<=400000)(hbl:(dg b).length<=400000)(hs:(dg z.natAbs).length<80∨(dg b).length<80)(hT:Tab w):
    Calls Tryz.prog 149 #[.agg #[.bool (decide (z<0)),.slice A (dg z.natAbs).length c],.agg #[.bool false,.slice B (dg b).length d]] w (yX (z.tdiv (Nat.gcd z.natAbs b:Nat)) (b/Nat.gcd z.natAbs b) w):=by
  obtain⟨x,hx⟩:=eqx (decide (z<0));obtain⟨na,hna⟩:=eqx ((dg z.natAbs).length);obtain⟨nb,hnb⟩:=eqx ((dg b).length);rw[hx,hna,hnb];obtain⟨W,hW⟩:=eqx ((((w.alloc (.cells #[.bool x,.slice A na c] 118)).alloc (.cells #[.bool false,.slice B nb d] 118)).alloc (.cells #[.bool false,.slice none 0 0] 118)).alloc (.cells #[.bool false,.slice none 0 0] 118))
  have B0:Blk W w.heap.size 118 #[.bool x,.slice A na c]:=by rw[<-hW];exact(((Blk.new _ _ _).alloc _).alloc _).alloc _
  have B1:Blk W (w.heap.size+1) 118 #[.bool false,.slice B nb d]:=by
   rw[<-hW];have:=((Blk.new (w.alloc (.cells #[.bool x,.slice A na c] 118)) 118 #[.bool false,.slice B nb d]).alloc (.cells #[.bool false,.slice none 0 0] 118)).alloc (.cells #[.bool false,.slice none 0 0] 118);simpa using this
  have B2:Blk W (w.heap.size+1+1) 118 #[.bool false,.slice none 0 0]:=by
   rw[<-hW];have:=(Blk.new ((w.alloc (.cells #[.bool x,.slice A na c] 118)).alloc (.cells #[.bool false,.slice B nb d] 118)) 118 #[.bool false,.slice none 0 0]).alloc (.cells #[.bool false,.slice none 0 0] 118);simpa using this
  have B3:Blk W (w.heap.size+1+1+1) 118 #[.bool false,.slice none 0 0]:=by
   rw[<-hW];have:=(Blk.new (((w.alloc (.cells #[.bool x,.slice A na c] 118)).alloc (.cells #[.bool false,.slice B nb d] 118)).alloc (.cells #[.bool false,.slice none 0 0] 118)) 118 #[.bool false,.slice none 0 0]);simpa using this
  have hbW:Below w.heap.size w W:=by rw[<-hW];exact(((bal).alloc (by simp) _).alloc (by simp;omega) _).alloc (by simp;omega) _
  have HB0:=zh B0;have HB1:=zh B1;have HB2:=zh B2;have HB3:=zh B3;have HWW:=zh hW;obtain⟨g,hg⟩:=eqx (Nat.gcd z.natAbs b)
  have hg0:g≠0:=by rw[<-hg];exact fM.1 (fI _ (eG hb0))
  have hgb:(dg g).length<=(dg b).length:=Go.Bw.jT (by rw[<-hg];exact iE _ (eG hb0))
  have hgz:z.natAbs≠0->(dg g).length<=(dg z.natAbs).length:=λh=>Go.Bw.jT (by rw[<-hg];exact Nat.gcd_le_left _ (eG h))
  have hs2:(dg g).length<80∨(dg b).length<(dg g).length+80:=by
   rcases hs with h|h
   ·by_cases hz:z.natAbs=0
    ·right;rw[<-hg,hz,Nat.gcd_zero_left];omega
    left;have:=hgz hz;omega
   left;omega
  have HO:Hid (Calls Tryz.prog 99 #[.agg #[.bool false,.slice B nb d]] W λe w'=>e=.returned (.bool false)/\Below W.heap.size W w'):=zh (by
   have:=sZ B d b W (hB.keep hbW);rw[dF hb1]at this
   rw[<-hnb];exact this)
  have HG:Hid (∀V,Below W.heap.size W V->Calls Tryz.prog 97 #[.agg #[.bool x,.slice A na c],.agg #[.bool false,.slice B nb d]] V (zK false g V)):=zh (λV hV=>by
   rw[<-hna,<-hnb,<-hg];exact aAJ A B c d z.natAbs b x false V ((hA.keep hbW).keep hV) ((hB.keep hbW).keep hV) ha hbl hs ((hT.below hbW hT.1).below hV (aH hT.1 hbW.size)))
  unfold zK at HG;obtain⟨ng,hng⟩:=eqx ((dg g).length)
  have HQ1:Hid (∀V G cg,Below W.heap.size W V->NW V G cg g->Calls Tryz.prog 98 #[.agg #[.bool x,.slice A na c],.agg #[.bool false,.slice G ng cg]] V (oT (z.tdiv (g:Int)) V)):=zh (λV G cg hV hG=>by
   rw[<-hx,<-hna,<-hng];exact aBT z g A G c cg V ((hA.keep hbW).keep hV) hG ha (by omega) hg0 (by omega))
  have HQ2:Hid (∀V G cg,Below W.heap.size W V->NW V G cg g->Calls Tryz.prog 98 #[.agg #[.bool false,.slice B nb d],.agg #[.bool false,.slice G ng cg]] V (oT ((b/g:Nat):Int) V)):=zh (λV G cg hV hG=>by
   have h1:(b:Int).tdiv (g:Int)=((b/g:Nat):Int):=by rw[iG]
   have h2:=aBT (b:Int) g B G d cg V (by rw[aU];exact(hB.keep hbW).keep hV) hG (by rw[aU];exact hbl) (by omega) hg0 (by rw[aU];omega);rw[h1,aU,dF (show ¬(b:Int)<0 by omega)]at h2
   rw[<-hnb,<-hng];exact h2)
  rw[hg];obtain⟨t,ht⟩:=eqx (z.tdiv (g:Int));obtain⟨m,hm⟩:=eqx (b/g);rw[ht]at HQ1 ⊢;rw[hm]at HQ2 ⊢;have HQ2':Hid (∀V G cg,Below W.heap.size W V->NW V G cg g->Calls Tryz.prog 98 #[.agg #[.bool false,.slice B nb d],.agg #[.bool false,.slice G ng cg]] V (lT false m V)):=zh (λV G cg h1 h2=>by rw[<-nJ];exact HQ2.o V G cg h1 h2);clear HQ2;unfold oT at HQ1;unfold lT at HQ2';unfold yX;obtain⟨s1,hs1⟩:=eqx (decide (t<0));obtain⟨l1,hl1⟩:=eqx ((dg t.natAbs).length);obtain⟨l2,hl2⟩:=eqx ((dg m).length);rw[hs1,hl1]at HQ1;rw[hl2]at HQ2';rw[hs1,hl1,hl2];rw[hng]at HG;obtain⟨x0,x1,_,_⟩:=B0.two;obtain⟨y0,y1,_,_⟩:=B1.two;have HBW:=zh hbW
  have hWs:W.heap.size=w.heap.size+4:=by rw[<-hW];simp
  clear hW hbW B0 B1 B2 B3 hA hB hx hna hnb hng hs1 hl1 hl2 hg0 hgb hgz hs2 hs ha hbl hb0 hb1 ht hm hT hg;go_enter Tryz.func149,Tryz.ntmps149;go_upto_region 1 with(fail);rw[HWW.o]
  go_upto_region 4 with(first
    |(go_at_call 99;refine HO.o.mono ?_;rintro e w1 ⟨rfl,hb1⟩;have HBE:=zh hb1;obtain⟨x0,x1,_,_⟩:=(HB0.o.keep hb1 HB0.o.lt).two;obtain⟨y0,y1,_,_⟩:=(HB1.o.keep hb1 HB1.o.lt).two;clear hb1)
    |(go_at_call 97;refine(HG.o _ HBE.o).mono ?_;rintro e w2 ⟨G,cg,rfl,hG,hb2⟩;have HGG:=zh hG;have HB4:=zh (dW HBE.o hb2);clear hG hb2))
  obtain⟨V,hV⟩:=eqx (w2.alloc (.cells #[.bool false,.slice G ng cg] 118))
  have hbV:Below w2.heap.size w2 V:=by rw[<-hV];exact bal
  have C4:Blk V w2.heap.size 118 #[.bool false,.slice G ng cg]:=by rw[<-hV];exact Blk.new _ _ _
  have hWV:=dW HB4.o hbV;have C0:=HB0.o.keep hWV HB0.o.lt;have C1:=HB1.o.keep hWV HB1.o.lt;have C2:=HB2.o.keep hWV HB2.o.lt;have C3:=HB3.o.keep hWV HB3.o.lt;have HGV:=zh (HGG.o.keep hbV);have HWV:=zh hWV;have HP1:Hid (∀U,Below V.heap.size V U->Calls Tryz.prog 98 #[.agg #[.bool x,.slice A na c],.agg #[.bool false,.slice G ng cg]] U λe w'=>∃R1 k1,e=.returned (.agg #[.bool s1,.slice R1 l1 k1])/\NW w' R1 k1 t.natAbs/\Below U.heap.size U w'/\Below V.heap.size V w'):=zh (λU hU=>(HQ1.o U G cg (dW HWV.o hU) (HGV.o.keep hU)).mono λe w' ⟨R,k,h1,h2,h3⟩=>⟨R,k,h1,h2,h3,dW hU h3⟩)
  have HP2:Hid (∀U,Below V.heap.size V U->Calls Tryz.prog 98 #[.agg #[.bool false,.slice B nb d],.agg #[.bool false,.slice G ng cg]] U λe w'=>∃R2 k2,e=.returned (.agg #[.bool false,.slice R2 l2 k2])/\NW w' R2 k2 m/\Below U.heap.size U w'/\Below V.heap.size V w'):=zh (λU hU=>(HQ2'.o U G cg (dW HWV.o hU) (HGV.o.keep hU)).mono λe w' ⟨R,k,h1,h2,h3⟩=>⟨R,k,h1,h2,h3,dW hU h3⟩);have hbe:Below V.heap.size V V.drew:=brf.drew;have hww:=dW HBW.o hWV;have HC0:=zh C0;have HC1:=zh C1;have HC2:=zh C2;have HC3:=zh C3;have HC4:=zh C4;obtain⟨e0,e1,_,_⟩:=C0.two;obtain⟨g0,g1,_,_⟩:=C1.two;obtain⟨i0,i1,i2,i3⟩:=C2.two;obtain⟨k0,k1,k2,k3⟩:=C3.two;obtain⟨o0,o1,_,_⟩:=C4.two
  have hw2:w.heap.size+4<=w2.heap.size:=by rw[<-hWs];exact HB4.o.size
  rw[hV];clear hV hbV C0 C1 C2 C3 C4 hWV HQ1 HQ2' HG HO;have m0:(w.heap.size+1+1=w.heap.size)=False:=bX (by omega);have m1:(w.heap.size=w.heap.size+1+1)=False:=bX (by omega);have m2:(w.heap.size+1+1=w.heap.size+1)=False:=bX (by omega);have m3:(w.heap.size+1=w.heap.size+1+1)=False:=bX (by omega);have m4:(w.heap.size+1+1=w2.heap.size)=False:=bX (by omega);have m5:(w2.heap.size=w.heap.size+1+1)=False:=bX (by omega);have m6:(w.heap.size+1+1+1=w.heap.size)=False:=bX (by omega);have m7:(w.heap.size=w.heap.size+1+1+1)=False:=bX (by omega);have m8:(w.heap.size+1+1+1=w.heap.size+1)=False:=bX (by omega);have m9:(w.heap.size+1=w.heap.size+1+1+1)=False:=bX (by omega)
  have m10:(w.heap.size+1+1+1=w2.heap.size)=False:=bX (by omega);have m11:(w2.heap.size=w.heap.size+1+1+1)=False:=bX (by omega);have m12:(w.heap.size+1+1=w.heap.size+1+1+1)=False:=bX (by omega);have m13:(w.heap.size+1+1+1=w.heap.size+1+1)=False:=bX (by omega)
  go_region_held3 (λw'=>w'.cell? ⟨w.heap.size,0,none⟩=some (.bool x)/\w'.cell? ⟨w.heap.size,1,none⟩=some (.slice A na c)/\w'.cell? ⟨w.heap.size+1,0,none⟩=some (.bool false)/\w'.cell? ⟨w.heap.size+1,1,none⟩=some (.slice B nb d)/\w'.cell? ⟨w2.heap.size,0,none⟩=some (.bool false)/\w'.cell? ⟨w2.heap.size,1,none⟩=some (.slice G ng cg))
    (first|exact⟨gL hbe e0,gL hbe e1,gL hbe g0,gL hbe g1,gL hbe o0,gL hbe o1⟩|exact⟨e0,e1,g0,g1,o0,o1⟩|go_keep|(refine⟨?_,?_,?_,?_,?_,?_⟩<;>(simp[World.cell?_setCell,m0,m1,m2,m3,m4,m5,m6,m7,m8,m9,m10,m11,m12,m13]<;>first|exact e0|exact e1|exact g0|exact g1|exact o0|exact o1)))
    (first
      |(go_at_call 98;with_reducible refine bE (HP1.o _ (by assumption)) ?_;rintro e w' ⟨R1,q1,rfl,hN1,hbu,hbe⟩;(try have hN2:=hN2.keep hbu);have D0:=HC0.o.keep hbe HC0.o.lt;have D1:=HC1.o.keep hbe HC1.o.lt;have D4:=HC4.o.keep hbe HC4.o.lt;obtain⟨e0,e1,_,_⟩:=D0.two;obtain⟨g0,g1,_,_⟩:=D1.two;obtain⟨o0,o1,_,_⟩:=D4.two;have D2:=HC2.o.keep hbe HC2.o.lt;have D3:=HC3.o.keep hbe HC3.o.lt;obtain⟨i0,i1,i2,i3⟩:=D2.two;obtain⟨k0,k1,k2,k3⟩:=D3.two)
      |(go_at_call 98;with_reducible refine bE (HP2.o _ (by assumption)) ?_;rintro e w' ⟨R2,q2,rfl,hN2,hbu,hbe⟩;(try have hN1:=hN1.keep hbu);have D0:=HC0.o.keep hbe HC0.o.lt;have D1:=HC1.o.keep hbe HC1.o.lt;have D4:=HC4.o.keep hbe HC4.o.lt;obtain⟨e0,e1,_,_⟩:=D0.two;obtain⟨g0,g1,_,_⟩:=D1.two;obtain⟨o0,o1,_,_⟩:=D4.two;have D2:=HC2.o.keep hbe HC2.o.lt;have D3:=HC3.o.keep hbe HC3.o.lt;obtain⟨i0,i1,i2,i3⟩:=D2.two;obtain⟨k0,k1,k2,k3⟩:=D3.two))
  all_goals
    go_wp2;refine aO (v:=.tuple #[.agg #[.bool s1,.slice R1 l1 q1],.agg #[.bool false,.slice R2 l2 q2]]) (by simp[results,Tryz.results149,go_sem,i0,i1,k0,k1]) rfl ⟨R1,q1,R2,q2,rfl,?_,?_,?_⟩
    ·exact(((hN1.far (hN1.off D2) _ _).far (hN1.off D2) _ _).far (hN1.off D3) _ _).far (hN1.off D3) _ _
    ·exact(((hN2.far (hN2.off D2) _ _).far (hN2.off D2) _ _).far (hN2.off D3) _ _).far (hN2.off D3) _ _
    exact hJ (hJ (hJ (hJ (dW hww hbe) (by omega) _ _) (by omega) _ _) (by omega) _ _) (by omega) _ _
theorem aDJ (z:Int)(b:Nat)(A B:Option Addr)(c d:Nat)(w:World)(hA:NW w A c z.natAbs)(hB:NW w B d b)(hb0:b≠0)(ha:(dg z.natAbs).length<=400000)(hbl:(dg b).length<=400000)(hs:(dg z.natAbs).length<80∨(dg b).length<80)(hT:Tab w):
    Calls Tryz.prog 149 #[.agg #[.bool (decide (z<0)),.slice A (dg z.natAbs).length c],.agg #[.bool false,.slice B (dg b).length d]] w (yX (z.tdiv (Nat.gcd z.natAbs b:Nat)) (b/Nat.gcd z.natAbs b) w):=by
  by_cases h1:b=1
  ·subst h1;have e:Nat.gcd z.natAbs 1=1:=fS _;rw[e,fV,show z.tdiv ((1:Nat):Int)=z by simp];exact aFb z A B c d w hA hB
  exact aDI z b A B c d w hA hB hb0 h1 ha hbl hs hT
end Go.Proofs.Tg.Iw
