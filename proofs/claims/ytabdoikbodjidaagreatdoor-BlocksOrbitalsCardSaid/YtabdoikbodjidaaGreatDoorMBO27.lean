/- Parts of the proof. -/
import Derived.Test.YtabdoikbodjidaaGreatDoorMBO26
set_option maxHeartbeats 64000000
set_option maxRecDepth 100000
namespace Go.Proofs.Tg.Iw
open Go.RowKit Go.Bw Go.Gr Go.Proofs.Tg Go.Rq
theorem vM {V:World}{g:Nat}{t:TypeId}{a b:Value}(h:Blk V g t #[a,b])(u v:Value):Blk ((V.setCell ⟨g,0,none⟩ u).setCell ⟨g,1,none⟩ v) g t #[u,v]:=by
 have:=(h.set 0 u).set 1 v
 simpa using this
theorem rM {V:World}{g:Nat}{t:TypeId}{a b c d:Value}(h:Blk V g t #[a,b,c,d])(u v y z:Value):Blk ((((V.setCell ⟨g,0,none⟩ u).setCell ⟨g,1,none⟩ v).setCell ⟨g,2,none⟩ y).setCell ⟨g,3,none⟩ z) g t #[u,v,y,z]:=by
 have:=(((h.set 0 u).set 1 v).set 2 y).set 3 z
 simpa using this
theorem yG {V:World}{g k:Nat}{t:TypeId}{cs:Array Value}(h:Blk V g t cs)(hne:g≠k)(u v:Value):Blk ((V.setCell ⟨k,0,none⟩ u).setCell ⟨k,1,none⟩ v) g t cs:=(h.far hne _).far hne _
theorem aKJ {V:World}{b o g:Nat}{x u v:Value}(h:V.cell? ⟨b,o,none⟩=some x)(hne:b≠g):((V.setCell ⟨g,0,none⟩ u).setCell ⟨g,1,none⟩ v).cell? ⟨b,o,none⟩=some x:=by
 rw[bR _ _ _ _ (by intro e;injection e with e;exact hne e.symm),bR _ _ _ _ (by intro e;injection e with e;exact hne e.symm)]
 exact h
theorem kF {V:World}{b o g:Nat}{x u v y z:Value}(h:V.cell? ⟨b,o,none⟩=some x)(hne:b≠g):((((V.setCell ⟨g,0,none⟩ u).setCell ⟨g,1,none⟩ v).setCell ⟨g,2,none⟩ y).setCell ⟨g,3,none⟩ z).cell? ⟨b,o,none⟩=some x:=by
 rw[bR _ _ _ _ (by intro e;injection e with e;exact hne e.symm),bR _ _ _ _ (by intro e;injection e with e;exact hne e.symm)]
 exact aKJ h hne
theorem aAU (Z:World)(o:Obj):Below Z.heap.size Z (Z.alloc o):=bal
theorem NW.two {w:World}{R:Option Addr}{c n g:Nat}{b:Bool}{S:Option Addr}{l m:Nat}(h:NW w R c n)(B:Blk w g 118 #[.bool b,.slice S l m])(u v:Value):NW ((w.setCell ⟨g,0,none⟩ u).setCell ⟨g,1,none⟩ v) R c n:=(h.far (h.off B) 0 u).far (h.off B) 1 v
theorem aBU (p q:Rat):(p*q).num=p.num.tdiv (Nat.gcd p.num.natAbs q.den:Nat)*q.num.tdiv (Nat.gcd q.num.natAbs p.den:Nat)/\(p*q).den=(p.den/Nat.gcd q.num.natAbs p.den)*(q.den/Nat.gcd p.num.natAbs q.den):=by
 have h:p*q=Rat.mul p q:=rfl
 rw[h]
 unfold Rat.mul
 simp only[Int.divExact_eq_tdiv,Nat.divExact_eq_div]
 exact⟨trivial,trivial⟩
theorem pD {n:Nat}(h:(dg n).length<=28):(Lib.decDigits n).length<=560:=by
 by_cases h0:n=0
 ·subst h0;rw[Go.Qn.pK];decide
 have h1:n<B^(dg n).length:=lC n
 have h2:B^(dg n).length<=(10^20)^(dg n).length:=gX (by decide) _;rw[<-Nat.pow_mul]at h2;have h3:=Dt.wV (aH h1 h2);unfold Dt.wU at h3;rw[aJ h0]at h3;omega
def aNG (q:Rat)(w:World)(e:Ending)(w':World):Prop:=∃N cn D cd,e=.returned (.tuple #[rval q N cn D cd,.bool true])/\mJ w' q N cn D cd/\Below w.heap.size w w'
theorem aPB {V:World}{g:Nat}{t:TypeId}{a b c d:Value}(h:Blk V g t #[a,b,c,d])(u v:Value):Blk ((V.setCell ⟨g,2,none⟩ u).setCell ⟨g,3,none⟩ v) g t #[a,b,u,v]:=by
 have:=(h.set 2 u).set 3 v
 simpa using this
theorem aPC {V:World}{g:Nat}{t:TypeId}{a b c d:Value}(h:Blk V g t #[a,b,c,d])(u v:Value):Blk ((V.setCell ⟨g,0,none⟩ u).setCell ⟨g,1,none⟩ v) g t #[u,v,c,d]:=by
 have:=(h.set 0 u).set 1 v
 simpa using this
theorem aOI (q:Rat)(w:World)(bn:(dg q.num.natAbs).length<=28)(bd:(dg q.den).length<=28)(hT:Tab w):
    Calls Tryz.prog 93 #[.string (qtx q)] w (aNG q w):=by
  obtain⟨sg,hsg⟩:=eqx (decide (q.num<0));have ln1:=pD bn;have ln2:=pD bd
  have htl:(Go.Qn.lN (decide (q.num<0)) q.num.natAbs q.den).length<=4000:=by
   unfold Go.Qn.lN;simp only[aC]
   split<;>(try split)<;>simp<;>omega
  obtain⟨SD,hSD,HSP⟩:∃SD,(SD=if q.den=1 then ByteArray.empty else bs (Lib.decDigits q.den))/\Hid (∀V,Calls Tryz.prog 118 #[.string (qtx q)] V λe w'=>e=.returned (.tuple #[.agg #[.bool sg,.string (bs (Lib.decDigits q.num.natAbs)),.string SD],.bool true])/\Below V.heap.size V w'):=⟨_,rfl,zh (λV=>by
   have:=rR (decide (q.num<0)) q.num.natAbs q.den V (aBm q) htl;unfold qD at this;unfold qtx;rw[hsg]at this ⊢
   by_cases hd:q.den=1
   ·rw[aQ hd]at this ⊢;exact this
   rw[aJ hd]at this ⊢;exact this)⟩
  obtain⟨ln,hln⟩:=eqx ((dg q.num.natAbs).length);obtain⟨ld,hld⟩:=eqx ((dg (dnz q.den)).length)
  have HPN:Hid (∀V,Calls Tryz.prog 119 #[.string (bs (Lib.decDigits q.num.natAbs))] V λe w'=>∃R c,e=.returned (.agg #[.bool false,.slice R ln c])/\NW w' R c q.num.natAbs/\Below V.heap.size V w'):=zh (λV=>by
   have:=zS (bs (Lib.decDigits q.num.natAbs)) V (by rw[kA];omega) (by rw[kG];exact Go.Qn.mK _);rw[kG,Go.Qn.mS]at this;unfold zK at this;rw[hln]at this
   exact this)
  have HNG:Hid (sg=true->∀V A c,Calls Tryz.prog 140 #[.agg #[.bool false,.slice A ln c]] V λe w'=>e=.returned (.agg #[.bool true,.slice A ln c])/\Below V.heap.size V w'):=zh (λh V A c=>aOA false A ln c V true (by
   have h0:q.num<0:=dQ (hsg.trans h);have:=(kB (u:=q.num.natAbs)).2 (by omega);rw[hln]at this
   simp;omega))
  have HPD:Hid (q.den≠1->∀V,Calls Tryz.prog 119 #[.string SD] V λe w'=>∃R c,e=.returned (.agg #[.bool false,.slice R ld c])/\NW w' R c q.den/\Below V.heap.size V w'):=zh (λh V=>by
   have:=zS (bs (Lib.decDigits q.den)) V (by rw[kA];omega) (by rw[kG];exact Go.Qn.mK _);rw[kG,Go.Qn.mS]at this;unfold zK at this;rw[hSD,aJ h,<-hld,lH h]
   exact this)
  obtain⟨l1,hl1⟩:=eqx ((dg 1).length)
  have HGC:Hid (q.den≠1->∀V A a B b,Below w.heap.size w V->NW V A a q.num.natAbs->NW V B b q.den->Calls Tryz.prog 97 #[.agg #[.bool sg,.slice A ln a],.agg #[.bool false,.slice B ld b]] V λe w'=>∃R c,e=.returned (.agg #[.bool false,.slice R l1 c])/\NW w' R c 1/\Below V.heap.size V w'):=zh (λh V A a B b hV hA hB=>by
   have:=aAJ A B a b q.num.natAbs q.den sg false V hA hB (by omega) (by omega) (.inl (by omega)) (hT.below hV hT.1);rw[q.reduced]at this;unfold zK at this;rw[<-hld,lH h,<-hln,<-hl1]
   exact this)
  have HIO:Hid (∀V A a,NW V A a 1->Calls Tryz.prog 99 #[.agg #[.bool false,.slice A l1 a]] V λe w'=>e=.returned (.bool true)/\Below V.heap.size V w'):=zh (λV A a hA=>by
   have:=sZ A a 1 V hA;rw[hl1]at this
   exact this)
  obtain⟨Q,hQ⟩:=eqx (aNG q w);obtain⟨W,hW⟩:=eqx (w.alloc (.cells #[.bool false,.slice none 0 0,.bool false,.slice none 0 0] 120))
  have B0:Blk W w.heap.size 120 #[.bool false,.slice none 0 0,.bool false,.slice none 0 0]:=by rw[<-hW];exact Blk.new _ _ _
  have hbW:Below w.heap.size w W:=by rw[<-hW];exact bal
  have HB0:=zh B0;have HWW:=zh hW;have HBW:=zh hbW
  have HFIN:Hid (∀V R c RD cD,Below W.heap.size W V->NW V R c q.num.natAbs->NW V RD cD (dnz q.den)->Q (.returned (.tuple #[.agg #[.bool sg,.slice R ln c,.bool false,.slice RD ld cD],.bool true])) ((((V.setCell ⟨w.heap.size,0,none⟩ (.bool sg)).setCell ⟨w.heap.size,1,none⟩ (.slice R ln c)).setCell ⟨w.heap.size,2,none⟩ (.bool false)).setCell ⟨w.heap.size,3,none⟩ (.slice RD ld cD))):=zh (λV R c RD cD hV hR hD=>by
   have Y:=HB0.o.keep hV HB0.o.lt;rw[<-hQ];refine⟨R,c,RD,cD,?_,⟨lY hR (hR.offB Y rW) _ _ _ _,lY hD (hD.offB Y rW) _ _ _ _⟩,?_⟩
   ·unfold rval;rw[hsg,hln,hld]
   exact hJ (hJ (hJ (hJ (dW hbW hV) (by omega) _ _) (by omega) _ _) (by omega) _ _) (by omega) _ _)
  have HSD:Hid (SD=if q.den=1 then ByteArray.empty else bs (Lib.decDigits q.den)):=zh hSD;have HLD:Hid (q.den=1->ld=0):=zh (λh=>by rw[<-hld,h,lK,jS];rfl);rw[hQ];obtain⟨SN,hSN⟩:=eqx (bs (Lib.decDigits q.num.natAbs));obtain⟨S0,hS0⟩:=eqx (qtx q);rw[hSN]at HSP HPN;rw[hS0]at HSP ⊢;obtain⟨r0,r1,r2,r3,_,_,_,_⟩:=B0.four;obtain⟨bv,hbv⟩:∃v,v=Value.bool sg:=⟨_,rfl⟩;clear hQ hW hbW B0 hT bn bd ln1 ln2 htl hln hld hsg hSN hS0 hSD hl1;go_enter Tryz.func93,Tryz.ntmps93;go_upto_region 1 with(fail);rw[HWW.o]
  go_upto_region 2 with(go_at_call 118;refine(HSP.o _).mono ?_;rintro e w1 ⟨rfl,hb1⟩;have HB1:=zh hb1;clear hb1)
  obtain⟨gf,hgf⟩:=eqx (w1.heap.size);obtain⟨w2,hw2⟩:=eqx (w1.alloc (.cells #[.bool sg,.string SN,.string SD] 173))
  have hal:Below w1.heap.size w1 w2:=by rw[<-hw2];exact bal
  have Bf:Blk w2 gf 173 #[.bool sg,.string SN,.string SD]:=by rw[<-hw2,<-hgf];exact Blk.new _ _ _
  have HBf:=zh Bf;have HB2:=zh (dW HB1.o hal);rw[hw2,hgf];clear hw2 hgf hal HB1 HSP;obtain⟨f0,f1,f2,_,_,_⟩:=Bf.three;clear Bf
  go_upto_region 5 with(go_at_call 119;refine(HPN.o _).mono ?_;rintro e w3 ⟨RN,cN,rfl,hRN,hb3⟩;have HB3:=zh hb3;have HRN:=zh hRN;clear hb3 hRN)
  obtain⟨g6,hg6⟩:=eqx (w3.heap.size);obtain⟨w4,hw4⟩:=eqx (w3.alloc (.cells #[.bool false,.slice RN ln cN,.bool false,.slice none 0 0] 120))
  have hal:Below w3.heap.size w3 w4:=by rw[<-hw4];exact bal
  have B6:Blk w4 g6 120 #[.bool false,.slice RN ln cN,.bool false,.slice none 0 0]:=by rw[<-hw4,<-hg6];exact Blk.new _ _ _
  have hw26:w2.heap.size<=g6:=by rw[<-hg6];exact HB3.o.size
  have HB4:=zh (dW HB3.o hal);have HN4:=zh (HRN.o.keep hal);have HB6:=zh B6;rw[hw4,hg6];clear hw4 hg6 hal HB3 HRN HPN B6 f0 f1 f2;obtain⟨f0,f1,f2,_,_,_⟩:=(HBf.o.keep HB4.o HBf.o.lt).three;obtain⟨x0,x1,x2,x3,x4,x5,x6,x7⟩:=HB6.o.four;have hfl:=HBf.o.lt
  cases sg
  case' true=>
   have HNG:=zh (HNG.o rfl)
   go_upto_region 7 with(go_at_call 140;refine(HNG.o _ _ _).mono ?_;rintro e w5 ⟨rfl,hb5⟩;have HB5:=zh hb5;obtain⟨x0,x1,x2,x3,x4,x5,x6,x7⟩:=(HB6.o.keep hb5 HB6.o.lt).four;clear hb5)
   obtain⟨wA,hwA⟩:=eqx ((w5.setCell ⟨g6,0,none⟩ (.bool true)).setCell ⟨g6,1,none⟩ (.slice RN ln cN));have Y6:=HB6.o.keep HB5.o HB6.o.lt
   have C6:Blk wA g6 120 #[.bool true,.slice RN ln cN,.bool false,.slice none 0 0]:=by rw[<-hwA];exact aPC Y6 _ _
   have hN5:=HN4.o.keep HB5.o;have hoff:Off RN (dg q.num.natAbs).length g6:=hN5.offB Y6 (by simp);have HNA:Hid (NW wA RN cN q.num.natAbs):=zh (by rw[<-hwA];exact(hN5.far hoff _ _).far hoff _ _);have HBA:Hid (Below w2.heap.size w2 wA):=zh (by rw[<-hwA];exact hJ (hJ (dW HB4.o HB5.o) hw26 _ _) hw26 _ _);rw[hwA];clear hwA hN5 hoff Y6
  case' false=>
   go_upto_region 7 with(fail);obtain⟨wA,rfl⟩:∃x,x=w4:=⟨_,rfl⟩;have C6:=HB6.o;have HNA:=HN4;have HBA:=HB4
  all_goals
    have HC6:=zh C6;clear C6 x0 x1 x2 x3 x4 x5 x6 x7 f0 f1 f2;obtain⟨f0,f1,f2,_,_,_⟩:=(HBf.o.keep HBA.o HBf.o.lt).three;obtain⟨x0,x1,x2,x3,x4,x5,x6,x7⟩:=HC6.o.four
    by_cases hden:q.den=1
    ·obtain rfl:SD=ByteArray.empty:=by rw[HSD.o,aQ hden]
     obtain rfl:ld=0:=HLD.o hden;have HWA:=zh (dW HB2.o HBA.o);have Y0:=HB0.o.keep HWA.o HB0.o.lt;have HEND:=zh (HFIN.o wA RN cN none 0 HWA.o HNA.o (by rw[hden,lK];exact NW.zero _ _ _));have YT:=rM Y0 bv (.slice RN ln cN) (.bool false) (.slice none 0 0);obtain⟨t0,t1,t2,t3,t4,t5,t6,t7⟩:=Y0.four;go_wp2;rw[hbv]at YT;obtain⟨t0,t1,t2,t3,_,_,_,_⟩:=YT.four;exact aO (v:=.tuple #[.agg #[bv,.slice RN ln cN,.bool false,.slice none 0 0],.bool true]) (by rw[hbv];simp[results,Tryz.results93,go_sem,t0,t1,t2,t3]) rfl (by rw[hbv];exact HEND.o)
    have hne2:¬SD.toList=[]:=by rw[HSD.o,aJ hden,jW];exact Go.Qn.pS _
    have hne:SD.toList.isEmpty=false:=by simpa using hne2
    have HPD:=zh (HPD.o hden);have HGC:=zh (HGC.o hden)
    go_upto_region 10 with(go_at_call 119;refine(HPD.o _).mono ?_;rintro e w6 ⟨RD,cD,rfl,hRD,hb6⟩;have HB7:=zh hb6;have HRD:=zh hRD;obtain⟨x0,x1,x2,x3,x4,x5,x6,x7⟩:=(HC6.o.keep hb6 HC6.o.lt).four;clear hb6 hRD)
    obtain⟨wB,hwB⟩:=eqx ((w6.setCell ⟨g6,2,none⟩ (.bool false)).setCell ⟨g6,3,none⟩ (.slice RD ld cD));have Y6:=HC6.o.keep HB7.o HC6.o.lt;have D6:=aPB Y6 (.bool false) (.slice RD ld cD);rw[hwB]at D6;have hN6:=HNA.o.keep HB7.o;have hoff:Off RN (dg q.num.natAbs).length g6:=hN6.offB Y6 (by simp);have hoffD:Off RD (dg q.den).length g6:=HRD.o.offB Y6 (by simp);have HNB:Hid (NW wB RN cN q.num.natAbs):=zh (by rw[<-hwB];exact(hN6.far hoff _ _).far hoff _ _);have HDB:Hid (NW wB RD cD q.den):=zh (by rw[<-hwB];exact(HRD.o.far hoffD _ _).far hoffD _ _);have HBB:Hid (Below w2.heap.size w2 wB):=zh (by rw[<-hwB];exact hJ (hJ (dW HBA.o HB7.o) hw26 _ _) hw26 _ _);have HD6:=zh D6;rw[hwB];clear hwB hN6 hoff hoffD Y6 D6 x0 x1 x2 x3 x4 x5 x6 x7;obtain⟨x0,x1,x2,x3,x4,x5,x6,x7⟩:=HD6.o.four
    have hbe:=dW HBW.o (dW HB2.o HBB.o);have HBE:=zh hbe;clear hbe
    go_wp2_with (first
      |(go_at_call 97;refine(HGC.o _ _ _ _ _ HBE.o HNB.o HDB.o).mono ?_;rintro e w7 ⟨RG,cG,rfl,hRG,hb7⟩;have HB8:=zh hb7;have HRG:=zh hRG;clear hb7 hRG)
      |(go_at_call 99;refine(HIO.o _ _ _ HRG.o).mono ?_;rintro e w8 ⟨rfl,hb8⟩;have HB9:=zh (dW HB8.o hb8);obtain⟨x0,x1,x2,x3,x4,x5,x6,x7⟩:=(HD6.o.keep HB9.o HD6.o.lt).four;have HW8:=zh (dW HB2.o (dW HBB.o HB9.o));have Y0:=HB0.o.keep HW8.o HB0.o.lt;have HEND:=zh (HFIN.o w8 RN cN RD cD HW8.o (HNB.o.keep HB9.o) (by rw[lH hden];exact HDB.o.keep HB9.o));have YT:=rM Y0 bv (.slice RN ln cN) (.bool false) (.slice RD ld cD);obtain⟨t0,t1,t2,t3,_,_,_,_⟩:=Y0.four;clear hb8))
    rw[hbv]at YT;obtain⟨t0,t1,t2,t3,_,_,_,_⟩:=YT.four;exact aO (v:=.tuple #[.agg #[bv,.slice RN ln cN,.bool false,.slice RD ld cD],.bool true]) (by rw[hbv];simp[results,Tryz.results93,go_sem,t0,t1,t2,t3]) rfl (by rw[hbv];exact HEND.o)
end Go.Proofs.Tg.Iw
namespace Go.Proofs.Tg.Iw
open Go.RowKit Go.Bw Go.Gr Go.Proofs.Tg
theorem aKw (p q:Bool)(X Y:Option Addr)(cx cy a b:Nat)(w:World)(hX:NW w X cx a)(hY:NW w Y cy b)(ha:(dg a).length<=400000)(hb:(dg b).length<=400000)(hs:(dg a).length<40∨(dg b).length<40):
    Calls Tryz.prog 96 #[.agg #[.bool p,.slice X (dg a).length cx],.agg #[.bool q,.slice Y (dg b).length cy]] w (lT ((p !=q)&&decide (0<(dg (a*b)).length)) (a*b) w):=by
  obtain⟨na,hna⟩:=eqx ((dg a).length);obtain⟨nb,hnb⟩:=eqx ((dg b).length);obtain⟨W,hW⟩:=eqx (((w.alloc (.cells #[.bool p,.slice X na cx] 118)).alloc (.cells #[.bool q,.slice Y nb cy] 118)).alloc (.cells #[.bool false,.slice none 0 0] 118))
  have B0:Blk W w.heap.size 118 #[.bool p,.slice X na cx]:=by rw[<-hW];exact((Blk.new _ _ _).alloc _).alloc _
  have B1:Blk W (w.heap.size+1) 118 #[.bool q,.slice Y nb cy]:=by
   rw[<-hW];have:=(Blk.new (w.alloc (.cells #[.bool p,.slice X na cx] 118)) 118 #[.bool q,.slice Y nb cy]).alloc (.cells #[.bool false,.slice none 0 0] 118);simpa using this
  have B2:Blk W (w.heap.size+1+1) 118 #[.bool false,.slice none 0 0]:=by
   rw[<-hW];have:=Blk.new ((w.alloc (.cells #[.bool p,.slice X na cx] 118)).alloc (.cells #[.bool q,.slice Y nb cy] 118)) 118 #[.bool false,.slice none 0 0];simpa using this
  have hbW:Below w.heap.size w W:=by rw[<-hW];exact((bal).alloc (by simp) _).alloc (by simp;omega) _
  have HF:Hid (∀V,Below W.heap.size W V->Calls Tryz.prog 145 #[.slice X na cx,.slice Y nb cy] V (nV (a*b) V)):=zh (λV h=>by rw[<-hna,<-hnb];exact aEJ X Y cx cy a b V ((hX.keep hbW).keep h) ((hY.keep hbW).keep h) ha hb hs);obtain⟨m,hm⟩:=eqx (a*b);rw[hm]at HF ⊢;unfold nV at HF;obtain⟨nm,hnm⟩:=eqx ((dg m).length);have HLST:Hid (∀(V:World) (R:Option Addr) (c:Nat) (v:Bool),Below W.heap.size W V->NW V R c m->Blk V (w.heap.size+1+1) 118 #[.bool false,.slice none 0 0]->lT v m w (.returned (.agg #[.bool v,.slice R nm c])) ((V.setCell ⟨w.heap.size+1+1,0,none⟩ (.bool v)).setCell ⟨w.heap.size+1+1,1,none⟩ (.slice R nm c))):=zh (λV R c v h1 h2 h3=>by rw[<-hnm];exact nE hbW h1 h2 (by omega) h3);obtain⟨v,hv⟩:=eqx (((p !=q)&&decide (0<nm)))
  have HM:Hid (∀V R c,Calls Tryz.prog 141 #[.bool (!(p==q)),.slice R nm c] V λe w'=>e=.returned (.agg #[.bool v,.slice R nm c])/\Below V.heap.size V w'):=zh (λV R c=>qQ (!(p==q)) R nm c V v hv);rw[hnm]at HF ⊢;rw[hna,hnb];rw[hv];have HW:=zh hW;have HB2:=zh B2;have hl2:=B2.lt;have n1:(w.heap.size=w.heap.size+1+1)=False:=bX (by omega);have n2:(w.heap.size+1+1=w.heap.size)=False:=bX (by omega);obtain⟨a0,a1,_,_⟩:=B0.two;obtain⟨b0,b1,_,_⟩:=B1.two;obtain⟨d0,d1,d2,d3⟩:=B2.two;have hbe:Below W.heap.size W W.drew:=brf.drew;clear hX hY hna hnb hm hnm hv hW B0 B1 B2 ha hb hs;go_enter Tryz.func96,Tryz.ntmps96;go_upto_region 1 with(fail);rw[HW.o]
  go_region_held3 (λw'=>w'.cell? ⟨w.heap.size,0,none⟩=some (.bool p)/\w'.cell? ⟨w.heap.size,1,none⟩=some (.slice X na cx)/\w'.cell? ⟨w.heap.size+1,0,none⟩=some (.bool q)/\w'.cell? ⟨w.heap.size+1,1,none⟩=some (.slice Y nb cy))
    (first|exact⟨gL hbe a0,gL hbe a1,gL hbe b0,gL hbe b1⟩|go_keep|(dsimp only;refine⟨?_,?_,?_,?_⟩<;>go_keep)|(refine⟨?_,?_,?_,?_⟩<;>(rw[World.cell?_setCell_ne,World.cell?_setCell_ne]<;>first|exact gL hbe a0|exact gL hbe a1|exact gL hbe b0|exact gL hbe b1|(simp;omega)|simp)))
    (first
      |(go_at_call 145;with_reducible refine bE (HF.o _ (by assumption)) ?_;rintro e w2 ⟨R,c,rfl,hD,hb2⟩
        have hbe:=dW hbe hb2)
      |(go_at_call 141;with_reducible refine bE (HM.o _ _ _) ?_;rintro e w3 ⟨rfl,hb3⟩
        have hD:=hD.keep hb3;have hbe:=dW hbe hb3;have Y2:=HB2.o.keep hbe hl2
        obtain⟨d0,d1,d2,d3⟩:=Y2.two))
  all_goals
    go_wp2;exact aO (v:=.agg #[.bool v,.slice R nm c]) (by simp[results,Tryz.results96,go_sem,d0,d1]) rfl (HLST.o w3 R c v hbe hD Y2)
theorem oO (x y:Int)(X Y:Option Addr)(cx cy:Nat)(w:World)(hX:NW w X cx x.natAbs)(hY:NW w Y cy y.natAbs)(ha:(dg x.natAbs).length<=400000)(hb:(dg y.natAbs).length<=400000)(hs:(dg x.natAbs).length<40∨(dg y.natAbs).length<40):
    Calls Tryz.prog 96 #[.agg #[.bool (decide (x<0)),.slice X (dg x.natAbs).length cx],.agg #[.bool (decide (y<0)),.slice Y (dg y.natAbs).length cy]] w (oT (x*y) w):=
  (aKw _ _ X Y cx cy _ _ w hX hY ha hb hs).mono λ_ _ h=>uU h (fA x y) (by
   by_cases h0:x.natAbs*y.natAbs=0
   ·have e:x*y=0:=by rw[<-Int.natAbs_eq_zero,fA];exact h0
    rw[h0,e,jS];simp
   have hp:=kB.2 h0
   have hx:x≠0:=λe=>h0 (by rw[e];simp)
   have hy:y≠0:=λe=>h0 (by rw[e];simp)
   rw[dT hp,Bool.and_true]
   rcases Int.lt_or_gt_of_ne hx with h1|h1<;>rcases Int.lt_or_gt_of_ne hy with h2|h2
   ·have:=Int.mul_pos_of_neg_of_neg h1 h2;simp[h1,h2];omega
   ·have:=Int.mul_neg_of_neg_of_pos h1 h2
    have h3:¬y<0:=by omega
    simp[h1,h3];omega
   ·have:=Int.mul_neg_of_pos_of_neg h1 h2
    have h3:¬x<0:=by omega
    simp[h2,h3];omega
   have:=Int.mul_pos h1 h2
   have h3:¬x<0:=by omega
   have h4:¬y<0:=by omega
   simp[h3,h4];omega)
end Go.Proofs.Tg.Iw
