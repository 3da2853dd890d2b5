/- Parts of the proof. -/
import Derived.Test.YtabdoikbodjidaaGreatDoorMBO16
set_option maxHeartbeats 64000000
set_option maxRecDepth 100000
section
namespace Go.Bw
theorem aDu {us zs:List Nat}{j n:Nat}(hj:j+n<us.length)(hz:zs.length=n)(d:Nat):(us.take j++(zs++us.drop (j+n))).set (j+n) d=us.take j++(zs++d::us.drop (j+n+1)):=by
 rw[wS hj hz,cJ];rfl
theorem aJX {us zs ts:List Nat}{j n:Nat}(hj:j<=us.length)(hz:zs.length=n):((us.take j++(zs++ts)).drop j).take n=zs:=by
 rw[gY (by rw[aS];omega),cS (by rw[aS];omega),dB,<-hz,List.take_left]
theorem aJY {us ts:List Nat}{j:Nat}(hj:j<=us.length):(us.take j++ts).take j=us.take j:=by
 have:(us.take j).length=j:=by rw[aS];omega
 rw[List.take_append_of_le_length (by omega),bF (by omega)]
theorem aJZ {us zs ts:List Nat}{j n:Nat}(hj:j<=us.length)(hz:zs.length=n):(us.take j++(zs++ts)).drop (j+n)=ts:=by
 rw[<-cJ,gY (by simp;omega),cS (by simp;omega),dB]
end Go.Bw
namespace Go.Proofs.Tg.Iw
open Go.RowKit Go.Bw Go.Gr Go.Proofs.Tg
structure DsM (w1:World)(A V L M gu gq:Nat)(wr:World)(k:Nat)(us qs:List Nat):Prop where
  st:wR A V L M k us qs
  bu:Blk wr gu 170 (jZ us)
  bq:Blk wr gq 170 (jZ (List.replicate k 0++qs))
  below:Below w1.heap.size w1 wr
theorem DsM.keep {w1 wr wz:World}{A V L M gu gq k:Nat}{us qs:List Nat}(h:DsM w1 A V L M gu gq wr k us qs)(hb:Below wr.heap.size wr wz):DsM w1 A V L M gu gq wz k us qs:=
  ⟨h.st,h.bu.keep hb h.bu.lt,h.bq.keep hb h.bq.lt,dW h.below hb⟩
theorem DsM.next {w1 wo wr:World}{A V L M gu gq j n q:Nat}{us qs zs:List Nat}(h:DsM w1 A V L M gu gq wo (j+1) us qs)(hV:V<=B^n)(hj:j+n<L)(hn:0<n)(hq:q=val (us.drop j)/V)(hV0:0<V)(hz:val zs=val (us.drop j)%V)(hzl:zs.length=n)(hzd:Dig zs)
    (bu:Blk wr gu 170 (jZ (us.take j++(zs++0::us.drop (j+n+1))))) (bq:Blk wr gq 170 (jZ (List.replicate (j+1) 0++qs))) (hb:Below w1.heap.size w1 wr) (hg:w1.heap.size<=gq) (hne:gu≠gq):
    DsM w1 A V L M gu gq (wr.setCell ⟨gq,j,none⟩ (.int .u64 (q:Nat))) j (us.take j++(zs++0::us.drop (j+n+1))) (q::qs):=by
  have hb2:=bq.set j (.int .u64 (q:Nat));rw[kX,aKo]at hb2;exact⟨h.st.next hV hj hn hq hV0 hz hzl hzd,bu.far hne _,hb2,hJ hb hg _ _⟩
def oN (a b:Nat)(w:World)(e:Ending)(w':World):Prop:=∃Q cq R cr,e=.returned (.tuple #[.slice Q (dg (a/b)).length cq,.slice R (dg (a%b)).length cr])/\NW w' Q cq (a/b)/\NW w' R cr (a%b)/\Below w.heap.size w w'
theorem aEP {m:Nat}(h:m<18446744073709551616):wds m=dg m:=by
 unfold wds
 by_cases h0:m=0
 ·subst h0;rw[aQ rfl,jS]
 rw[aJ h0,lD h0 h]
theorem aEQ (m:Nat)(w:World)(hm:m<18446744073709551616):Calls Tryz.prog 176 #[.int .u64 (m:Nat)] w (nV m w):=by
 have h:=aIp m w hm
 rw[aEP hm]at h
 refine h.mono ?_
 rintro e w' ⟨A,c,rfl,hc,hS,hb⟩
 exact⟨A,c,rfl,⟨hS,hc⟩,hb⟩
theorem aHs (X Y:Option Addr)(cx cy a b:Nat)(w:World)(hX:NW w X cx a)(hY:NW w Y cy b)(hn:(dg a).length<=400000)(h:a<b):
    Calls Tryz.prog 196 #[.slice X (dg a).length cx,.slice Y (dg b).length cy] w (oN a b w):=by
  have HC:=zh (aBO X Y cx cy a b w hX.wds hY.wds (by omega));rw[aQ h]at HC
  have HRET:Hid (∀w',Dr w w'->oN a b w (.returned (.tuple #[.slice none 0 0,.slice X (dg a).length cx])) w'):=zh (λw' hd=>by
   refine⟨none,0,X,cx,?_,?_,?_,hd.below⟩
   ·rw[cT h,cU h,jS];rfl
   ·rw[cT h];exact NW.zero _ _ _
   rw[cU h];exact hX.keep hd.below)
  obtain⟨Q,hQ⟩:=eqx (oN a b w);rw[hQ]at HRET ⊢;clear hX hY h hQ;generalize (dg a).length=la at*;generalize (dg b).length=lb at*;go_enter Tryz.func196,Tryz.ntmps196
  go_wp2_with (go_at_call 143;refine HC.o.mono ?_;rintro e w1 ⟨rfl,hd1⟩;have HD1:=zh hd1;clear hd1)
  exact HRET.o _ HD1.o
theorem div_one (X Y:Option Addr)(cx cy a b:Nat)(w:World)(hX:NW w X cx a)(hY:NW w Y cy b)(hn:(dg a).length<=400000)(hab:b<=a)(h1:(dg b).length=1):
    Calls Tryz.prog 196 #[.slice X (dg a).length cx,.slice Y (dg b).length cy] w (oN a b w):=by
  have hb0:b≠0:=λe=>by rw[e,jS]at h1;simp at h1
  have hbB:b<18446744073709551616:=by
   have:=lC b
   rwa [h1,Nat.pow_one]at this
  obtain⟨z,hz⟩:=eqx ((if a<b then(-1:Int)else if a=b then 0 else 1):Int);have HC:=zh (aBO X Y cx cy a b w hX.wds hY.wds (by omega));rw[hz]at HC
  have hzb:decide (z<0)=false:=by
   rw[<-hz,aJ (by omega)]
   split<;>simp
  clear hz
  obtain⟨yd,rfl,hy0⟩:∃yd,Y=some yd/\∀V,Below w.heap.size w V->V.cell? yd=some (.int .u64 (b:Nat)):=by
   obtain⟨yd,e,_,hc⟩:=Sl.lies hY.wds (by omega);refine⟨yd,e,λV hV=>?_⟩;have h2:=gL hV (hc 0 (.int .u64 (b:Nat)) (by rw[lD hb0 hbB];rfl))
   rwa [show yd.add 0=yd by simp[Addr.add]]at h2
  have HY0:=zh hy0
  have HDW:Hid (∀V,Below w.heap.size w V->Calls Tryz.prog 210 #[.slice X (dg a).length cx,.int .u64 (b:Nat)] V λe w'=>∃R c,e=.returned (.tuple #[.slice R (dg (a/b)).length c,.int .u64 (a%b:Nat)])/\NW w' R c (a/b)/\Below V.heap.size V w'):=zh (λV hV=>by
   have:=aOw X cx b (dg a) V (hX.wds.keep hV) (kH a) (by omega) hbB (by omega);unfold aKp at this
   rwa [kE]at this)
  have HMB:a%b<b:=bL _ (by omega);have HFW:=zh (λV=>aEQ (a%b) V (by omega))
  have HRET:Hid (∀w2 w3 R c e,Below w.heap.size w w2->NW w2 R c (a/b)->nV (a%b) w2 e w3->∃v,e=.returned v/\oN a b w (.returned (.tuple #[.slice R (dg (a/b)).length c,v])) w3):=zh (λw2 w3 R c e hb hN h=>by
   obtain⟨R2,c2,rfl,hN2,hb2⟩:=h
   exact⟨_,rfl,R,c,R2,c2,rfl,hN.keep hb2,hN2,dW hb hb2⟩)
  obtain⟨Q,hQ⟩:=eqx (oN a b w);rw[hQ]at HRET ⊢;rw[h1]at HC ⊢;clear hX hY hy0 hQ h1 HMB hab hb0;generalize (dg a).length=la at*;generalize a%b=rm at*;generalize (dg (a/b)).length=lq at*;go_enter Tryz.func196,Tryz.ntmps196
  go_upto_region 3 with(go_at_call 143;refine HC.o.mono ?_;rintro e w1 ⟨rfl,hd1⟩;have HB1:=zh hd1.below;clear hd1)
  have c0:=HY0.o _ HB1.o
  go_upto_region 5 with(go_at_call 210;refine(HDW.o _ HB1.o).mono ?_;rintro e w2 ⟨R,c,rfl,hN2,hb2⟩;have HN2:=zh hN2;have HB2:=zh (dW HB1.o hb2);clear hN2 hb2)
  go_wp2_with (go_at_call 176;refine(HFW.o _).mono ?_;rintro e w3 h3;obtain⟨v3,rfl,hq3⟩:=HRET.o _ _ _ _ _ HB2.o HN2.o h3;have HQ3:=zh hq3;clear hq3 h3)
  exact HQ3.o
end Go.Proofs.Tg.Iw
end
section
namespace Go.Bw
theorem aKa {A V L M j n c q d kb:Nat}{us qs zs:List Nat}(h:wR A V L M (j+1) us qs)(hVn:V<=B^n)(hjl:j+n<L)(hn:0<n)(hc:us[j+n]?=some c)(hq:q=val (us.drop j)/V)(hV0:0<V)(he:d=q∨d=q+1)(hs:val zs+d*V=val ((us.drop j).take n)+B^n*kb)(hzl:zs.length=n)(hzd:Dig zs):
    (kb<=c->d=q/\val zs=val (us.drop j)%V/\c=kb)/\(c<kb->d=q+1/\kb=c+1/\val zs+V=val (us.drop j)%V+B^n):=by
  obtain⟨h1,_,_⟩:=h.window hVn hjl hn
  have e:(us.drop j).getD n 0=c:=by rw[aE,iB,hc];rfl
  rw[e]at h1
  have hz:val zs<B^n:=by have:=kR hzd;rwa [hzl]at this
  have hs':val zs+d*V=val ((us.drop j).take n)+B^n*(kb+0):=hs;exact⟨λh=>aDA hq hV0 hVn he h1 hs' hz h,λh=>aDB hq hV0 hVn he h1 hs' hz h⟩
end Go.Bw
namespace Go.Proofs.Tg.Iw
open Go.RowKit Go.Bw Go.Gr Go.Proofs.Tg
theorem aKb (X Y:Option Addr)(cx cy a b:Nat)(w:World)(hX:NW w X cx a)(hY:NW w Y cy b)(hn:(dg a).length<=400000)(hab:b<=a)(hb2:2<=(dg b).length):
    Calls Tryz.prog 196 #[.slice X (dg a).length cx,.slice Y (dg b).length cy] w (oN a b w):=by
  have hb0:b≠0:=λe=>by rw[e,jS]at hb2;simp at hb2
  have hlen:=Go.Bw.jT hab;obtain⟨z,hz⟩:=eqx ((if a<b then(-1:Int)else if a=b then 0 else 1):Int);have HC:=zh (aBO X Y cx cy a b w hX.wds hY.wds (by omega));rw[hz]at HC
  have hzb:decide (z<0)=false:=by
   rw[<-hz,aJ (by omega)]
   split<;>simp
  clear hz;obtain⟨lo,t,hlo,ht0,htB⟩:=yF hb0;obtain⟨k1,k2,k3⟩:=aCx ht0 htB;obtain⟨k,hk⟩:=eqx (64-Lib.bitLen t);have HLZ:=zh (aOu t k htB hk (aCw ht0 htB).2.1);rw[hk]at k1 k2 k3;clear hk;obtain⟨n,hnn⟩:=eqx ((dg b).length);obtain⟨la,hla⟩:=eqx ((dg a).length)
  have hll:lo.length=n-1:=by
   have:=bK List.length hlo;rw[aC,hnn]at this;simp at this;omega
  obtain⟨vs',x,y,hV,hvl,hvd,hxB,hyB,hbig⟩:=aKr hlo hll (by omega) k1 k2 k3;obtain⟨V,hVV⟩:=eqx (b*2^k);rw[hVV]at hV
  have hVl:(dg V).length=n:=by rw[hV];simp[hvl];omega
  have hV0:0<V:=by rw[<-hVV];exact iJ (by omega) (dE k)
  have hVn:V<=B^n:=by rw[<-hVl];exact eM (lC V)
  have hbge:B^(n-1)<=b:=by
   have h:=mC (n:=b) (k:=n-1)
   rcases eN b (B^(n-1))with h1|h1
   ·have:=h h1;omega
   exact h1
  have haB:a<B^la:=by rw[<-hla];exact lC a
  have hAB:a*2^k<B^(la+1):=by
   rw[bS];exact aH (gP haB (dE k)) (bJ _ (aP (show 0<2 by decide) (show k<=64 by omega)))
  obtain⟨A,hA⟩:=eqx (a*2^k);rw[hA]at hAB;have hmA:(dg A).length<=la+1:=mC hAB
  have hA0:0<(dg A).length:=by
   rcases cC (dg A).length with h|h
   ·have:=mI h;rw[<-hA]at this;have h2:0<a*2^k:=iJ (by omega) (dE k);omega
   exact h
  --the contracts
  obtain⟨yd,hYd,hty⟩:∃yd,Y=some yd/\∀V,Below w.heap.size w V->V.cell? (yd.add (n-1))=some (.int .u64 (t:Nat)):=by
   obtain⟨yd,e,_,hc⟩:=Sl.lies hY.wds (by omega);refine⟨yd,e,λV hV=>gL hV (hc _ _ ?_)⟩;rw[hlo,cK,bC (by omega),hll,cP]
   rfl
  have HTY:=zh hty
  have HSY:Hid (∀W,Below w.heap.size w W->Calls Tryz.prog 204 #[.slice Y n cy,.int .u64 (k:Nat)] W λe w'=>∃D cd,e=.returned (.slice (some D) n cd)/\NW w' (some D) cd V/\Below W.heap.size W w'):=zh (λW h=>by
   have:=aNE Y cy b k W (hY.keep h) k1 (by omega);rw[hnn]at this;refine this.mono ?_;rintro e w' ⟨R,c,rfl,hN,hb⟩;rw[hVV]at hN ⊢;obtain⟨D,hD,_⟩:=Sl.lies hN.wds (by omega);subst hD
   exact⟨D,c,by rw[hVl],hN,hb⟩)
  have HSX:Hid (∀W,Below w.heap.size w W->Calls Tryz.prog 204 #[.slice X la cx,.int .u64 (k:Nat)] W λe w'=>∃R c,e=.returned (.slice (some R) (dg A).length c)/\NW w' (some R) c A/\Below W.heap.size W w'):=zh (λW h=>by
   have:=aNE X cx a k W (hX.keep h) k1 (by omega);rw[hla]at this;refine this.mono ?_;rintro e w' ⟨R,c,rfl,hN,hb⟩;rw[hA]at hN ⊢;obtain⟨D,hD,_⟩:=Sl.lies hN.wds (by omega);subst hD
   exact⟨D,c,rfl,hN,hb⟩)
  have HFIN:Hid (A/V=a/b/\A%V/2^k=a%b):=zh (by
   obtain⟨g1,g2⟩:=aBM (a:=a) (b:=b) (s:=k);rw[hA,hVV]at g1 g2
   exact⟨g1,by rw[g2,Nat.mul_div_cancel _ (dE k)]⟩)
  have HDV0:Hid (∀us,us.length=la+1->Dig us->val us=A->wR A V (la+1) (la-n+1) (la-n+1) us []):=zh (λus h1 h2 h3=>by
   have:=aKs (a:=a) (b:=b) (k:=k) (n:=n) (la:=la) (us:=us) hbge haB (by omega) (by omega) h1 h2 (by rw[h3,hA])
   rwa [hA,hVV]at this)
  obtain⟨Q,hQ⟩:=eqx (oN a b w)
  have HRET:Hid (∀wr us qs gu gq w1,Below w.heap.size w w1->DsM w1 A V (la+1) (la-n+1) gu gq wr 0 us qs->w1.heap.size<=gu->w1.heap.size<=gq->
      Calls Tryz.prog 167 #[.slice (some ⟨gq,0,none⟩) (la-n+1) (la-n+1)] wr λe w2=>wr=w2/\∃m1 c1,e=.returned (.slice (some ⟨gq,0,none⟩) m1 c1)/\
      Calls Tryz.prog 167 #[.slice (some ⟨gu,0,none⟩) (la+1) (la+1)] wr λe w3=>wr=w3/\∃m2 c2,e=.returned (.slice (some ⟨gu,0,none⟩) m2 c2)/\
      Calls Tryz.prog 209 #[.slice (some ⟨gu,0,none⟩) m2 c2,.int .u64 (k:Nat)] wr λe w4=>∃v,e=.returned v/\Q (.returned (.tuple #[.slice (some ⟨gq,0,none⟩) m1 c1,v])) w4):=zh (λwr us qs gu gq w1 hw1 h _ _=>by
    obtain⟨g1,g2⟩:=h.st.done
    have hql:qs.length=la-n+1:=by have:=h.st.qlen;omega
    have hul:=h.st.len;have hb:=h.bq;rw[fE,dB]at hb;have ht1:=qP (some ⟨gq,0,none⟩) (la-n+1) qs wr (qO hb rfl) h.st.qdig (by omega) (by omega);rw[hql,g1]at ht1;refine ht1.mono ?_;rintro e w2 ⟨rfl,rfl,hN1⟩;refine⟨rfl,_,_,rfl,?_⟩;have ht2:=qP (some ⟨gu,0,none⟩) (la+1) us wr (qO h.bu rfl) h.st.dig (by omega) (by omega);rw[hul,g2]at ht2;refine ht2.mono ?_;rintro e w3 ⟨rfl,rfl,hN2⟩;refine⟨rfl,_,_,rfl,?_⟩
    have hs:=aPx (some ⟨gu,0,none⟩) (la+1) (A%V) k wr hN2 k1 (by
     have h1:=kR (xs:=us) h.st.dig;rw[g2,hul]at h1;have:=mC h1
     omega)
    refine hs.mono ?_;rintro e w4 ⟨R,c,rfl,hN3,hb4⟩;obtain⟨e1,e2⟩:=HFIN.o;rw[e2]at hN3;refine⟨_,rfl,?_⟩;rw[<-hQ,e2,e1];rw[e1]at hN1
    exact⟨_,_,_,_,rfl,hN1.keep hb4,hN3,dW (dW hw1 h.below) hb4⟩)
  have HVX:Hid (∃vs x y,dg V=vs++[x,y]/\vs.length=n-2/\x<B/\y<B/\B<=2*y):=zh ⟨vs',x,y,hV,hvl,hxB,hyB,hbig⟩;have HVN:=zh hVn;have HVL:=zh hVl;have HMA:=zh hmA;have HAL:=zh hA0;subst hYd;rw[hQ,hnn,hla];rw[hnn,hla]at HC;rw[hnn]at hb2 hlen;rw[hla]at hlen hn;clear hX hY hQ hlo hll hV hvl hvd hxB hyB hbig hVn hbge haB hAB hA hVV hVl hty hnn hla k2 k3 ht0 hab hb0 htB hmA hA0;obtain⟨m,hm⟩:=eqx (la-n);rw[hm]at HRET HDV0
  have hlm:la=m+n:=by omega
  have HLM:=zh hlm;clear hm;have n1:((n:Int)==1)=false:=aG.2 (by omega);have n1':(n==1)=false:=aG.2 (by omega);have n1n:(n=1)=False:=bX (by omega)
  have n2:(n:Int)-1=((n-1:Nat):Int):=by omega
  obtain⟨n',hn'⟩:=eqx (n-1);rw[hn']at n2 HTY;have n3:IntKind.i64.wrap (n':Int)=(n':Int):=IntWalk.i64_in _ (by omega);have n4:IntKind.i64.wrap ((n:Int)-1)=(n':Int):=(IntWalk.i64_in _ (by omega)).trans n2
  have n5:(0:Int)<=(n':Int):=by omega
  have n6:(n':Int)<(n:Int):=by omega
  have n7:((n':Int)).toNat=n':=by omega
  have k4:IntKind.u64.wrap (k:Int)=(k:Int):=Go.Proofs.Mul64.wrapN _ (by omega);clear hlm;go_enter Tryz.func196,Tryz.ntmps196
  go_upto_region 7 with(go_at_call 143;refine HC.o.mono ?_;rintro e w1 ⟨rfl,hd1⟩;have HB1:=zh hd1.below;clear hd1)
  have c0:=HTY.o _ HB1.o
  go_upto_region 9 with(first
    |(go_at_call 194;refine(HLZ.o _).mono ?_;rintro e w2 ⟨rfl,rfl⟩)
    |(go_at_call 204;refine(HSY.o _ HB1.o).mono ?_;rintro e w2 ⟨D,cd,rfl,hD2,hb2⟩;have HD2:=zh hD2;have HB2:=zh (dW HB1.o hb2);clear hD2 hb2))
  clear c0 HSY HLZ HC HTY
  have hmk:=λW=>nQ (la+1) (by omega) W
  have hc1:((la+1:Nat):Int)=(la:Int)+1:=by omega
  rw[hc1]at hmk;clear hc1;have l1:IntKind.i64.wrap ((la:Int)+1)=(la:Int)+1:=IntWalk.i64_in _ (by omega);go_upto_region 10 with(fail);clear hmk;obtain⟨gu,hgu⟩:=eqx (w2.heap.size);rw[hgu];obtain⟨W,hW⟩:=eqx (w2.alloc (.cells (madeCells #[.int .u64 0] (la+1)) 170));have HBW:Hid (Blk W gu 170 (jZ (List.replicate (la+1) 0))):=zh (by rw[<-hW,<-nU,<-hgu];exact Blk.new _ _ _);have HW2:Hid (Below w2.heap.size w2 W):=zh (by rw[<-hW];exact bal);rw[hW];clear hW;obtain⟨ex,hex⟩:∃ex,(dg A).length+ex=la+1:=⟨la+1-(dg A).length,by have:=HMA.o;omega⟩;have HCP:=zh (vK (xs:=dg A) rfl ex);rw[hex]at HCP;have HLN:Hid ((((dg A).map vs)).length=Nat.min (dg A).length (la+1)):=zh (by rw[aI];exact(dA (by omega)).symm)
  have HFT:Hid (0+((dg A).map vs).length<=(jZ (List.replicate (la+1) 0)).size):=zh (by rw[qB];simp;omega);have HON:=zh (aCA (dg A))
  have HSRC:Hid (∀(V:World) (R:Addr) (c:Nat),NW V (some R) c A->∀j u,((dg A).map vs)[j]?=some u->V.cell? (R.add j)=some u):=zh (λV R c hN j u hu=>by
   obtain⟨R',e,_,hc⟩:=Sl.lies hN.wds HAL.o
   injection e with e
   subst e
   exact hc j u hu)
  have HU0:Hid (wR A V (la+1) (m+1) (m+1) (dg A++List.replicate ex 0) []):=zh (HDV0.o _ (by rw[aC,bU,hex]) (pT (kH A) (λx hx=>by rw[fO hx];decide)) (by rw[lG,uL,dN,bW,kE]));obtain⟨us0,hus0⟩:=eqx (dg A++List.replicate ex 0);rw[hus0]at HU0 HCP;clear hus0 hex HDV0;generalize dg A=As at*;generalize hAs:As.length=lA at*;clear hAs
  go_upto_region 11 with(first
    |(go_at_call 204;refine(HSX.o _ (dW HB2.o HW2.o)).mono ?_;rintro e w3 ⟨R,cr,rfl,hN3,hb3⟩
      have HB3:=zh (HBW.o.keep hb3 HBW.o.lt);have HC3:=zh (HSRC.o w3 R cr hN3);have HW3:=zh (dW HW2.o hb3)
      clear hN3 hb3)
    |(refine wpList_copy_own rfl (.tmp 57) (.tmp 60) 116 116 rfl 170 Tryz.underlying116 aAO gu 0 (la+1) (la+1) R lA cr rfl rfl (jZ (List.replicate (la+1) 0)) 170 HB3.o (As.map vs) HLN.o HC3.o HFT.o HON.o ?_
      rw[HCP.o]))
  have hB4:Blk (w3.setRow gu (jZ us0)) gu 170 (jZ us0):=setRow_heap w3 gu _ _ _ _ HB3.o;have hW4:Below w2.heap.size w2 (w3.setRow gu (jZ us0)):=below_setRow HW3.o (by omega) _;generalize w3.setRow gu (jZ us0)=w4 at*;have HB4:=zh hB4;have HW4:=zh hW4;have hgul:=hB4.lt;clear hB4 hW4 HB3 HC3 HW3 HBW HW2 HCP HLN HFT HON HSRC HSX
  have hla:(la:Int)=(m:Int)+(n:Int):=by have:=HLM.o;omega
  have e1:IntKind.i64.wrap ((la:Int)-(n:Int))=(m:Int):=(IntWalk.i64_in _ (by omega)).trans (by omega)
  have e2:(la:Int)-(n:Int)=(m:Int):=by omega
  have e3:IntKind.i64.wrap ((m:Int)+1)=(m:Int)+1:=IntWalk.i64_in _ (by omega);have e4:IntKind.i64.wrap (m:Int)=(m:Int):=IntWalk.i64_in _ (by omega);clear hla
  have hmk:=λW=>nQ (m+1) (by omega) W
  have hc1:((m+1:Nat):Int)=(m:Int)+1:=by omega
  rw[hc1]at hmk;clear hc1;go_upto_region 12 with(fail);clear hmk;obtain⟨gq,hgq⟩:=eqx (w4.heap.size);rw[hgq];obtain⟨W,hW⟩:=eqx (w4.alloc (.cells (madeCells #[.int .u64 0] (m+1)) 170))
  have HD0:Hid (DsM w2 A V (la+1) (m+1) gu gq W (m+1) us0 []):=zh (by
   refine⟨HU0.o,?_,?_,?_⟩
   ·rw[<-hW];exact HB4.o.alloc _
   ·rw[<-hW,eA,<-nU,<-hgq];exact Blk.new _ _ _
   rw[<-hW];exact HW4.o.alloc HW4.o.size _)
  rw[hW]
  have hne:gu≠gq:=by omega
  have hg1:w2.heap.size<=gu:=by omega
  have hg2:w2.heap.size<=gq:=by omega
  clear hW HB4 HW4 HU0 hgul hgq hgu;go_wp2
  go_loopw [13] (λs13 wr=>∃(kk:Nat) (us qs:List Nat),s13=.int .i64 ((kk:Int)-1)/\kk<=m+1/\Hid (DsM w2 A V (la+1) (m+1) gu gq wr kk us qs)) (λs13 _=>(intOf s13+1).toNat)
  case atStart=>exact⟨m+1,us0,[],by congr 1;omega,aA _,HD0⟩
  case round=>
   clear HD0;obtain⟨wo,rfl⟩:∃wo:World,wo=wr:=⟨_,rfl⟩;obtain⟨kk,us,qs,rfl,hkk,HST⟩:=hrel
   cases kk with
   |zero=>
    have dd:decide ((0:Int)<=((0:Nat):Int)-1)=false:=by decide
    have HR:=zh (HRET.o wo us qs gu gq w2 HB2.o HST.o hg1 hg2);clear HRET HST;go_upto_region 29 with(fail);go_wp2_with (fail);refine HR.o.mono ?_;rintro e w5 ⟨rfl,m1,c1,rfl,h1⟩;have H1:=zh h1;clear h1;go_wp2_with (fail);refine H1.o.mono ?_;rintro e w5 ⟨rfl,m2,c2,rfl,h2⟩;have H2:=zh h2;clear h2;go_wp2_with (fail);refine H2.o.mono ?_;rintro e w5 ⟨v,rfl,h3⟩;have H3:=zh h3;clear h3;go_wp2;exact H3.o
   |succ j=>
    have hkj:((j+1:Nat):Int)-1=(j:Int):=by omega
    rw[hkj];clear hkj
    have hjm:j<=m:=by omega
    have hjl:j+n<la+1:=by have:=HLM.o;omega
    have hul:=HST.o.st.len
    have gu1:j+n<us.length:=by omega
    have gu2:j+n-1<us.length:=by omega
    have gu3:j+n-2<us.length:=by omega
    obtain⟨c,hc⟩:∃c,us[j+n]?=some c:=⟨_,aF gu1⟩;obtain⟨b',hb'⟩:∃c,us[j+n-1]?=some c:=⟨_,aF gu2⟩;obtain⟨a',ha'⟩:∃c,us[j+n-2]?=some c:=⟨_,aF gu3⟩
    have hcB:c<18446744073709551616:=by obtain⟨_,e⟩:=aX.1 hc;rw[<-e];exact HST.o.st.dig _ (aB _)
    have hbB:b'<18446744073709551616:=by obtain⟨_,e⟩:=aX.1 hb';rw[<-e];exact HST.o.st.dig _ (aB _)
    obtain⟨q,hq⟩:=eqx (val (us.drop j)/V);have HQQ:=zh hq.symm
    have HEST:Hid (Calls Tryz.prog 211 #[.slice (some ⟨gu,j,none⟩) (n+1) (la+1-j),.slice (some D) n cd] wo (aAM q wo)):=zh (by
     obtain⟨vs,x,y,hV,hvl,hxB,hyB,hbig⟩:=HVX.o;have hT:=HST.o.st.tops hV hvl hb2 hjl hxB hyB hbig ha' hb' hc;obtain⟨_,hw,_⟩:=HST.o.st.window HVN.o hjl (by omega)
     have hcell:∀i v,us[i]?=some v->wo.cell? ⟨gu,i,none⟩=some (.int .u64 (v:Nat)):=λi v h=>(HST.o.bu.cell i).trans (lL h)
     have hDs:=HD2.o.wds.keep HST.o.below
     have hyc:∀i v,(dg V)[i]?=some v->wo.cell? (D.add i)=some (.int .u64 (v:Nat)):=λi v h=>by
      obtain⟨D',e,_,hc⟩:=Sl.lies hDs (by rw[HVL.o];omega)
      injection e with e
      subst e;exact hc i _ (by rw[cK,h];rfl)
     refine aMv ⟨gu,j,none⟩ D (la+1-j) cd n (n-1) (n-2) (n+1) c b' a' y x (val (us.drop j)) V (B^(n-2)) q wo (by omega) (by omega) rfl (by omega) ?_ ?_ ?_ ?_ ?_ hT (eK (by decide)) hV0 hq.symm hw hcB hbB
     ·rw[kI];exact hcell _ _ hc
     ·rw[kI];exact hcell _ _ (by rw[show j+(n-1)=j+n-1 by omega];exact hb')
     ·rw[kI];exact hcell _ _ (by rw[show j+(n-2)=j+n-2 by omega];exact ha')
     ·exact hyc _ _ (by rw[hV,bC (by omega),hvl,show n-1-(n-2)=1 by omega];rfl)
     exact hyc _ _ (by rw[hV,bC (by omega),hvl,cP];rfl))
    have q0:(0:Int)<=(j:Int):=by omega
    have q1:(0:Int)<=(j:Int)+(n:Int):=by omega
    have q2:(j:Int)+(n:Int)<(la:Int)+1:=by omega
    have q3:((j:Int)+(n:Int)).toNat=j+n:=by omega
    have q4:IntKind.i64.wrap ((j:Int)+(n:Int))=(j:Int)+(n:Int):=IntWalk.i64_in _ (by omega);have q5:IntKind.i64.wrap ((j:Int)+(n:Int)+1)=(j:Int)+(n:Int)+1:=IntWalk.i64_in _ (by omega)
    have q6:((j:Int)).toNat=j:=by omega
    have q7:(j:Int)<=(la:Int)+1:=by omega
    have q8:(j:Int)+(n:Int)+1<=(la:Int)+1:=by omega
    have q9:(j:Int)<=(j:Int)+(n:Int)+1:=by omega
    have hs1:j+n+1-j=n+1:=by omega
    have hs2:j+n-j=n:=by omega
    have HSUB:Hid (∀V' d,Below wo.heap.size wo V'->d<B->Calls Tryz.prog 212 #[.slice (some ⟨gu,j,none⟩) n (la+1-j),.slice (some D) n cd,.int .u64 (d:Nat)] V' λe w'=>∃kb zs,e=.returned (.int .u64 (kb:Nat))/\kb<B/\zs.length=n/\Dig zs/\val zs+d*V=val ((us.drop j).take n)+B^n*kb/\Blk w' gu 170 (jZ (us.take j++(zs++us.drop (j+n))))/\Blk w' gq 170 (jZ (List.replicate (j+1) 0++qs))/\Below w2.heap.size w2 w'):=zh (λV' d hV' hd=>by
     have hk:=HST.o.keep hV'
     have hne2:∀ad,some D=some ad->ad.block≠gu:=λad e=>by
      injection e with e
      subst e;obtain⟨D',e',hlt,_⟩:=Sl.lies HD2.o.wds (by rw[HVL.o];omega)
      injection e' with e'
      subst e';omega
     have:=aKg gu j d (la+1-j) cd us (dg V) (some D) V' hk.bu (HD2.o.wds.keep hk.below) hne2 hk.st.dig (kH V) hd (by rw[HVL.o];omega) (by omega);rw[HVL.o]at this;refine this.mono ?_;rintro e w' ⟨kb,zs,rfl,hsp⟩;have he:=hsp.eq;rw[HVL.o]at he;have hbk:=hsp.blk;rw[HVL.o]at hbk;rw[mZ (by rw[HVL.o];exact aA _),kE]at he
     exact⟨kb,zs,rfl,hsp.lt,hsp.len.trans HVL.o,hsp.dig,he,hbk,hsp.only.blk hk.bq (λe=>hne e.symm),hsp.only.below hk.below hg1⟩)
    have HDR:Hid (∀d kb zs,(d=q∨d=q+1)->val zs+d*V=val ((us.drop j).take n)+B^n*kb->zs.length=n->Dig zs->(kb<=c->d=q/\val zs=val (us.drop j)%V/\c=kb)/\(c<kb->d=q+1/\kb=c+1/\val zs+V=val (us.drop j)%V+B^n)):=zh (λd kb zs h1 h2 h3 h4=>aKa HST.o.st HVN.o hjl (by omega) hc hq.symm hV0 h1 h2 h3 h4);have HUC:=zh hc;have HUD:=zh HST.o.st.dig;clear hc hb' ha' gu1 gu2 gu3 hq hbB;go_upto_region 15 with(fail);go_wp2_with (fail)
    try rw[hs1]
    refine HEST.o.mono ?_;rintro e w5 ⟨d,rfl,hd1,hdB,hb5⟩;have HS5:=zh (HSUB.o w5 d hb5 hdB);have HD1:=zh hd1;clear HEST HSUB hd1 hb5;go_wp2_with (fail)
    try rw[hs2]
    refine HS5.o.mono ?_;rintro e w6 ⟨kb,zs,rfl,hkB,hzl,hzd,he,hbu,hbq,hb6⟩;obtain⟨g1,g2⟩:=HDR.o d kb zs HD1.o he hzl hzd;have hlu:us.length=la+1:=hul
    have gj:j+n<us.length:=by omega
    have ht6:(us.take j++(zs++us.drop (j+n)))[j+n]?=some c:=by
     rw[aGk gj hzl];have:=HUC.o
     rwa [aF gj]at this
    have c6:=(hbu.cell (j+n)).trans (lL ht6);have f6:=hbu.frozen (j+n);have HZL:=zh hzl;have HZD:=zh hzd;clear HS5 HDR HD1 he hzl hzd ht6;have hdB2:d<18446744073709551616:=hdB;have hkB2:kb<18446744073709551616:=hkB;have r0:(0:Int)<=(j:Int):=q0
    have r1:(j:Int)<(m:Int)+1:=by omega
    by_cases hck:c<kb
    ·obtain⟨rfl,rfl,hzV⟩:=g2 hck;have HZV:=zh hzV;clear g1 g2 hzV
     have y1:IntKind.u64.wrap ((c:Int)-((c+1:Nat):Int))=18446744073709551615:=by
      rw[show(c:Int)-((c+1:Nat):Int)=-1 by omega];rfl
     obtain⟨kb,hkb⟩:=eqx (c+1);rw[hkb]at y1 hck ⊢
     have y2:IntKind.u64.wrap (((q+1:Nat):Int)-1)=(q:Int):=by
      rw[show((q+1:Nat):Int)-1=(q:Int) by omega];exact Go.Proofs.Mul64.wrapN _ (by omega)
     obtain⟨dd,hdd⟩:=eqx (q+1);rw[hdd]at y2 ⊢;have d1:decide ((c:Int)<(kb:Int))=true:=dT (by omega);have d2:decide (c<kb)=true:=dT hck;clear hkb hdd hck
     have hB7:Blk (w6.setCell ⟨gu,j+n,none⟩ (.int .u64 18446744073709551615)) gu 170 (jZ (us.take j++(zs++18446744073709551615::us.drop (j+n+1)))):=by
      have:=hbu.set (j+n) (.int .u64 ((18446744073709551615:Nat):Int));rw[kX,aDu gj HZL.o]at this;exact this
     have hQ7:=hbq.far (p:=⟨gu,j+n,none⟩) (λe=>hne e.symm) (.int .u64 18446744073709551615);have hb7:=hJ hb6 hg1 (j+n) (.int .u64 18446744073709551615);have HNX:=zh (λV' zs2 (h0:val zs2=val (us.drop j)%V) (h4:zs2.length=n) (h5:Dig zs2) (h1:Blk V' gu 170 (jZ (us.take j++(zs2++0::us.drop (j+n+1))))) h2 h3=>HST.o.next (wr:=V') HVN.o hjl (by omega) HQQ.o hV0 h0 h4 h5 h1 h2 h3 hg2 hne);clear hbu hbq hb6;go_upto_region 22 with(fail);clear c6 f6;generalize w6.setCell ⟨gu,j+n,none⟩ (.int .u64 18446744073709551615)=w7 at*;obtain⟨us1,hus1⟩:=eqx (us.take j++(zs++18446744073709551615::us.drop (j+n+1)));rw[hus1]at hB7;have HUS1:=zh hus1
     have hl1:us1.length=la+1:=by
      rw[<-hus1];simp only[aC,aS,bP,cZ,HZL.o];omega
     have HDG1:Hid (Dig us1):=zh (by
      rw[<-hus1]
      exact pT (tD HUD.o _) (pT HZD.o (sI (by decide) (tX HUD.o _))))
     have HNE2:Hid (D.block≠gu):=zh (by
      obtain⟨D',e',hlt,_⟩:=Sl.lies HD2.o.wds (by rw[HVL.o];omega)
      injection e' with e'
      subst e'
      omega)
     have HDC:Hid (∀i v,(dg V)[i]?=some v->w7.cell? (D.add i)=some (.int .u64 (v:Nat))):=zh (λi v h=>by
      obtain⟨D',e,_,hc⟩:=Sl.lies (HD2.o.wds.keep hb7) (by rw[HVL.o];omega)
      injection e with e
      subst e
      exact hc i _ (by rw[cK,h];rfl))
     have H0:Hid (AdM w7 gu j us1 (dg V) w7 0 0 []):=zh ⟨rfl,λ_ hx=>absurd hx (by simp),by decide,by simp[val],by
      rw[dB,bW,cY];exact hB7,pU.refl _ _⟩
     have HQ7:=zh hQ7;have HB7:=zh hb7;have HL1:=zh hl1;clear hus1 hB7 hQ7 hb7 hl1;go_wp2
     go_loopw [17,115] (λs17 s115 wr=>∃(i cr:Nat) (ws:List Nat),s115=.int .i64 i/\i<=n/\s17=.int .u64 (cr:Nat)/\Hid (AdM w7 gu j us1 (dg V) wr i cr ws)) (λ_ s115 _=>n-(intOf s115).toNat)
     case atStart=>exact⟨0,0,[],rfl,aW _,rfl,H0⟩
     case round=>
      clear H0;obtain⟨wi,rfl⟩:∃wi:World,wi=wr:=⟨_,rfl⟩;obtain⟨i,cr,ws,rfl,hi,rfl,HA⟩:=hrel;have hk1:=HA.o.le1
      by_cases hin:i<n
      ·have hiV:i<(dg V).length:=by rw[HVL.o];exact hin
       have hiu:j+i<us1.length:=by rw[HL1.o];omega
       have hcy:=(HA.o.only.cell (p:=D.add i) (by rw[kK];exact HNE2.o)).trans (HDC.o i _ (aF hiV));have hbc:=HA.o.blk.cell (j+i);rw[lL (tA HA.o.len hiu)]at hbc;have hbf:=HA.o.blk.frozen (j+i);have hxB:=HDG1.o us1[j+i] (aB _);have hyB:=kH V (dg V)[i] (aB _);obtain⟨x,hx⟩:=eqx (us1[j+i]);have HNX2:Hid (∀d k',d+B*k'=x+((dg V)[i]+cr)->d<B->k'<=1->AdM w7 gu j us1 (dg V) (wi.setCell ⟨gu,j+i,none⟩ (.int .u64 (d:Nat))) (i+1) k' (ws++[d])):=zh (λd k' a b c=>HA.o.next hiu hx (lE hiV) a b c);rw[hx]at hbc hxB;clear hx;generalize (dg V)[i]=y at*
       have hAd:∀V,(callFunc 190 #[.int .u64 (x:Nat),.int .u64 (y:Nat),.int .u64 (cr:Nat)]).run Tryz.prog V=_:=λV=>aAK x y cr hk1 V
       obtain⟨d3,hd⟩:=eqx ((x+y+cr)%B);obtain⟨c3,hc2⟩:=eqx ((x+y+cr)/B:Nat);rw[hd,hc2]at hAd;have g1:=aCy (x:=x) (y:=y) (c:=cr);rw[hd,hc2]at g1;have HY:=zh (HNX2.o d3 c3 g1 (by rw[<-hd];exact bL _ (by decide)) (by rw[<-hc2];exact aCz hxB hyB hk1));clear hd hc2 g1 HNX2 hxB hyB
       have s0:(0:Int)<=(i:Int):=by omega
       have s1:(i:Int)<(n:Int):=by omega
       have s3:((i:Int)).toNat=i:=by omega
       have s4:(0:Int)<=(j:Int)+(i:Int):=by omega
       have s5:(j:Int)+(i:Int)<(la:Int)+1:=by omega
       have s6:((j:Int)+(i:Int)).toNat=j+i:=by omega
       have s7:IntKind.i64.wrap ((j:Int)+(i:Int))=(j:Int)+(i:Int):=IntWalk.i64_in _ (by omega);have s8:decide ((i:Int)<(n:Int))=true:=dT s1;have s9:decide (i<n)=true:=dT hin;go_wp2;go_roundw
       case rel=>exact⟨i+1,c3,_,by go_num,by omega,rfl,HY⟩
       case measure=>simp[intOf];omega
      obtain rfl:i=n:=by omega
      have s8:decide ((i:Int)<(i:Int))=false:=by simp
      have hju:j<=us.length:=by omega
      have e5:(us1.drop j).take i=zs:=by rw[<-HUS1.o];exact aJX hju HZL.o
      have e6:us1.take j=us.take j:=by rw[<-HUS1.o];exact aJY hju
      have e7:us1.drop (j+i)=18446744073709551615::us.drop (j+i+1):=by rw[<-HUS1.o];exact aJZ hju HZL.o
      have he2:=HA.o.eq;have hb2:=HA.o.blk;rw[e5,mZ (ys:=dg V) (by rw[HVL.o];exact aA _),kE]at he2;rw[e6,e7]at hb2
      have hz2B:val ws<B^i:=by have:=kR HA.o.dig;rwa [HA.o.len]at this
      obtain⟨hk2,hR⟩:=aEW (bL _ hV0) HVN.o he2 HZV.o hz2B;subst hk2;have hlw:=HA.o.len;have hwd:=HA.o.dig;have hbi:=HA.o.only.below HB7.o hg1;have hqi:=HA.o.only.blk HQ7.o (λe=>hne e.symm)
      have hli:(us.take j++(ws++18446744073709551615::us.drop (j+i+1)))[j+i]?=some 18446744073709551615:=by
       rw[<-cJ,bC (by simp;omega)]
       have:j+i-(us.take j++ws).length=0:=by simp;omega
       rw[this];rfl
      have c8:wi.cell? ⟨gu,j+i,none⟩=some (.int .u64 18446744073709551615):=(hb2.cell (j+i)).trans (lL hli);have f8:=hb2.frozen (j+i)
      have hB9:Blk (wi.setCell ⟨gu,j+i,none⟩ (.int .u64 0)) gu 170 (jZ (us.take j++(ws++0::us.drop (j+i+1)))):=by
       have:=hb2.set (j+i) (.int .u64 ((0:Nat):Int));rw[kX]at this
       have e:(us.take j++(ws++18446744073709551615::us.drop (j+i+1))).set (j+i) 0=us.take j++(ws++0::us.drop (j+i+1)):=by
        rw[<-cJ,cX _ _ (by simp;omega)]
        have:j+i-(us.take j++ws).length=0:=by simp;omega
        rw[this,dL,cJ]
       rw[e]at this;exact this
      have hQ9:=hqi.far (p:=⟨gu,j+i,none⟩) (λe=>hne e.symm) (.int .u64 0);have hb9:=hJ hbi hg1 (j+i) (.int .u64 0);have HY:=zh (HNX.o _ ws hR hlw hwd hB9 hQ9 hb9);have c9:=hQ9.cell j;rw[lL (v:=0) (by rw[bY (by simp),iD,aQ (by omega)])]at c9;have f9:=hQ9.frozen j;have v1:IntKind.i64.wrap ((j:Int)-1)=(j:Int)-1:=IntWalk.i64_in _ (by omega);have v3:IntKind.u64.wrap (18446744073709551616:Int)=0:=rfl;clear HNX hB9 hQ9 hb9 e5 e6 e7 he2 hb2 hz2B hR hlw hwd hbi hqi hli HA;go_upto_region 28 with(fail);generalize wi.setCell ⟨gu,j+i,none⟩ (.int .u64 0)=w9 at*;go_wp2;go_roundw
      case rel=>exact⟨j,_,_,rfl,by omega,HY⟩
      case measure=>simp[intOf]
    obtain⟨rfl,hzV,rfl⟩:=g1 (by omega);have HZV:=zh hzV;clear g1 g2 hzV
    have y1:IntKind.u64.wrap ((c:Int)-(c:Int))=0:=by rw[Int.sub_self];rfl
    have d1:decide ((c:Int)<(c:Int))=false:=by simp
    have hB7:=hbu.set (j+n) (.int .u64 ((0:Nat):Int));rw[kX,aDu gj HZL.o]at hB7;have hQ7:=hbq.far (p:=⟨gu,j+n,none⟩) (λe=>hne e.symm) (.int .u64 ((0:Nat):Int));have hb7:=hJ hb6 hg1 (j+n) (.int .u64 ((0:Nat):Int));have HNX:=zh (λV' (h1:Blk V' gu 170 (jZ (us.take j++(zs++0::us.drop (j+n+1))))) h2 h3=>HST.o.next (wr:=V') HVN.o hjl (by omega) HQQ.o hV0 HZV.o HZL.o HZD.o h1 h2 h3 hg2 hne);clear hbu hbq hb6;go_upto_region 19 with(fail);clear c6 f6;have hst0:w6.setCell ⟨gu,j+n,none⟩ (.int .u64 ((0:Nat):Int))=w6.setCell ⟨gu,j+n,none⟩ (.int .u64 0):=rfl;rw[hst0]at hB7 hQ7 hb7;generalize w6.setCell ⟨gu,j+n,none⟩ (.int .u64 0)=w7 at*;have c7:=hQ7.cell j
    rw[lL (v:=0) (by rw[bY (by simp),iD,aQ (by omega)])]at c7;have f7:=hQ7.frozen j;have HY:=zh (HNX.o w7 hB7 hQ7 hb7);have v1:IntKind.i64.wrap ((j:Int)-1)=(j:Int)-1:=IntWalk.i64_in _ (by omega);clear HNX hB7 hQ7 hb7 hst0;go_wp2;go_roundw
    case rel=>exact⟨j,_,_,rfl,by omega,HY⟩
    case measure=>simp[intOf]
end Go.Proofs.Tg.Iw
end
namespace Go.Proofs.Tg.Iw
open Go.RowKit Go.Bw Go.Gr Go.Proofs.Tg
theorem aKc (X Y:Option Addr)(cx cy a b:Nat)(w:World)(hX:NW w X cx a)(hY:NW w Y cy b)(hn:(dg a).length<=400000)(hb:b≠0):
    Calls Tryz.prog 196 #[.slice X (dg a).length cx,.slice Y (dg b).length cy] w (oN a b w):=by
  by_cases h:a<b
  ·exact aHs X Y cx cy a b w hX hY hn h
  by_cases h1:(dg b).length=1
  ·exact div_one X Y cx cy a b w hX hY hn (by omega) h1
  refine aKb X Y cx cy a b w hX hY hn (by omega) ?_
  have:(dg b).length≠0:=λe=>hb (mI e)
  omega
theorem aDv (X Y:Option Addr)(cx cy a b:Nat)(w:World)(hX:NW w X cx a)(hY:NW w Y cy b)(hn:(dg a).length<=400000)(hnb:(dg b).length<=400000)(hb:b≠0)(hs:(dg b).length<80∨(dg a).length<(dg b).length+80):
    Calls Tryz.prog 174 #[.slice X (dg a).length cx,.slice Y (dg b).length cy] w (oN a b w):=by
  have hD:=aKc X Y cx cy a b w hX hY hn hb
  have HD:Hid (Calls Tryz.prog 196 #[.slice X (dg a).length cx,.slice Y (dg b).length cy] w λe w'=>∃v1 v2,e=.returned (.tuple #[v1,v2])/\oN a b w (.returned (.tuple #[v1,v2])) w'):=zh (hD.mono λe w' h=>by
   obtain⟨Q,cq,R,cr,rfl,h2⟩:=h
   exact⟨_,_,rfl,Q,cq,R,cr,rfl,h2⟩)
  obtain⟨P,hP⟩:=eqx (oN a b w);obtain⟨la,hla⟩:=eqx ((dg a).length);obtain⟨lb,hlb2⟩:=eqx ((dg b).length);rw[hla,hlb2]at HD ⊢;rw[hla]at hn;rw[hla,hlb2]at hs;rw[hP]at HD ⊢;rw[hlb2]at hnb;clear hD hX hY hla hlb2 hP
  by_cases h80:80<=lb
  ·have d1:decide ((80:Int)<=(lb:Int))=true:=dT (by omega);have d2:decide (80<=lb)=true:=dT h80;have w1:IntKind.i64.wrap ((la:Int)-(lb:Int))=(la:Int)-(lb:Int):=IntWalk.i64_in _ (by omega);have d3:decide ((80:Int)<=(la:Int)-(lb:Int))=false:=dF (by omega);go_enter Tryz.func174,Tryz.ntmps174
   go_wp2_with (go_at_call 196;refine HD.o.mono ?_;rintro e w1 ⟨v1,v2,rfl,h1⟩;have H1:=zh h1;clear h1)
   exact H1.o
  have d1:decide ((80:Int)<=(lb:Int))=false:=dF (by omega);have d2:decide (80<=lb)=false:=dF h80;go_enter Tryz.func174,Tryz.ntmps174
  go_wp2_with (go_at_call 196;refine HD.o.mono ?_;rintro e w1 ⟨v1,v2,rfl,h1⟩;have H1:=zh h1;clear h1)
  exact H1.o
end Go.Proofs.Tg.Iw
