/- Parts of the proof. -/
import Derived.Test.YtabdoikbodjidaaGreatDoorMBO19
set_option maxHeartbeats 64000000
set_option maxRecDepth 100000
namespace Go.Proofs.Tg.Iw
open Go.RowKit Go.Bw Go.Gr Go.Proofs.Tg
def aEN:Value->Nat
  |.string s=>s.size
  |_=>0
theorem aJR (q r:List UInt8):Go.Qn.val (q++r)=Go.Qn.val q*10^r.length+Go.Qn.val r:=by
 refine Go.Qn.mQ (P:=λr=>Go.Qn.val (q++r)=Go.Qn.val q*10^r.length+Go.Qn.val r) ?_ ?_ r
 ·simp[Go.Qn.val]
 intro r c ih
 rw[<-cJ,Go.Qn.lJ,ih,Go.Qn.lJ,aC,dC,bS,aZ]
 have e:10*(Go.Qn.val q*10^r.length)=Go.Qn.val q*(10^r.length*10):=by rw[aT,aV]
 omega
theorem aJS {q:List UInt8}(h:∀c∈q,Go.Qn.isD c=true):(dg (Go.Qn.val q)).length<=q.length:=by
 refine mC (aH (Go.Qn.kR q h) ?_)
 exact gX (by decide) _
theorem aHr (s:ByteArray)(w:World)(hs:s.size<=100000)(hd:∀c∈s.data.toList,Go.Qn.isD c=true):
    Calls Tryz.prog 203 #[.string s] w (nV (Go.Qn.val s.data.toList) w):=by
  have HD:=zh hd;have HL:=zh (mF s);obtain⟨Q,hQ⟩:=eqx (nV (Go.Qn.val s.data.toList) w);have HRQ:Hid (∀e V,nV (Go.Qn.val s.data.toList) w e V->Q e V):=zh (λe V h=>by rw[<-hQ];exact h);rw[hQ];clear hd hQ;obtain⟨l,hl⟩:=eqx (s.data.toList);have HS0:Hid (s=bs l):=zh (by rw[<-hl,oR]);rw[hl]at HD HL HRQ;clear hl;go_enter Tryz.func203,Tryz.ntmps203;go_wp2
  go_loopw [0,3] (λs0 s3 wr=>∃(S:ByteArray) (A:Option Addr) (n c m:Nat),s0=.string S/\s3=.slice A n c/\S.size<=100000/\n<=100000/\Hid (∃q r,S=bs r/\l=q++r/\Go.Qn.val q=m)/\Hid ((dg m).length=n)/\Hid (c<=maxLen/\PsM w.heap.size w wr A c m)) (λs0 _ _=>aEN s0)
  case atStart=>
   refine⟨s,none,0,0,0,rfl,rfl,hs,by omega,zh ⟨[],l,HS0.o,rfl,rfl⟩,zh (by rw[jS];rfl),zh ⟨by decide,bM _ _,λ_=>⟨rfl,rfl⟩,λh=>absurd h (by omega)⟩⟩
  case round=>
   obtain⟨wo,rfl⟩:∃wo:World,wo=wr:=⟨_,rfl⟩;obtain⟨S,A,n,c,m,rfl,rfl,hSs,hn,HQR,HN,HP⟩:=hrel
   by_cases h0:S.size=0
   ·have d1:decide ((0:Int)<(S.size:Int))=false:=dF (by omega);have d2:decide (0<S.size)=false:=dF (by omega)
    have HR:Hid (Q (.returned (.slice A n c)) wo):=zh (by
     obtain⟨q,r,e1,e2,e3⟩:=HQR.o;have hr:r=[]:=bV (by rw[e1,kA]at h0;exact h0);rw[hr,eA]at e2
     have em:Go.Qn.val l=m:=by rw[e2];exact e3
     refine HRQ.o _ _ ⟨A,c,by rw[em,HN.o],?_,HP.o.2.below⟩;rw[em]
     rcases cC m with h|h
     ·rw[h];exact NW.zero _ _ _
     obtain⟨g,rfl,hp,_⟩:=HP.o.2.pos h
     exact hp.nw)
    clear h0 HQR HN HP HRQ HD HL HS0;go_wp2;exact HR.o
   have d1:decide ((0:Int)<(S.size:Int))=true:=dT (by omega);have d2:decide (0<S.size)=true:=dT (by omega);obtain⟨y,hy⟩:=eqx ((S.size-1)%19);obtain⟨z,hz⟩:=eqx (y+1)
   have hz19:z<=19:=by omega
   have hz1:1<=z:=by omega
   have hzS:z<=S.size:=by omega
   have m1:IntKind.i64.wrap ((S.size:Int)-1)=(S.size:Int)-1:=IntWalk.i64_in _ (by omega)
   have m2:((S.size:Int)-1)%19=(y:Int):=by omega
   have m2t:((S.size:Int)-1).tmod 19=(y:Int):=by rw[Int.tmod_eq_emod_of_nonneg (by omega)];exact m2
   have m3:(y:Int)+1=(z:Int):=by omega
   have m4:IntKind.i64.wrap (z:Int)=(z:Int):=IntWalk.i64_in _ (by omega);have m5:IntKind.i64.wrap (y:Int)=(y:Int):=IntWalk.i64_in _ (by omega);obtain⟨S1,hS1⟩:=eqx (S.extract 0 z);obtain⟨S2,hS2⟩:=eqx (S.extract z S.size)
   have HPT:Hid (∃q r1 r2,S1=bs r1/\S2=bs r2/\r1.length=z/\r2.length+z=S.size/\l=(q++r1)++r2/\Go.Qn.val q=m/\(∀c∈q++r1,Go.Qn.isD c=true)):=zh (by
    obtain⟨q,r,e1,e2,e3⟩:=HQR.o
    have hrl:r.length=S.size:=by rw[e1,kA]
    refine⟨q,r.take z,r.drop z,?_,?_,by rw[aS];omega,by rw[cZ];omega,by rw[cJ,cY];exact e2,e3,?_⟩
    ·rw[<-hS1,aCQ,e1,kG];rfl
    ·rw[<-hS2,tJ,e1,kG]
    intro c hc;refine HD.o c ?_;rw[e2]
    rcases aK.1 hc with h|h
    ·exact bZ _ h
    exact eF _ (eS h))
   obtain⟨c1,w1,hrun,hcell,hb1⟩:=aFC wo S1
   have hS1z:S1.size=z:=by
    obtain⟨q,r1,r2,e1,_,e3,_⟩:=HPT.o;rw[e1,kA,e3]
   rw[hS1z]at hrun;have HC:Hid (∀k (hk:k<S1.size),w1.cell? ⟨wo.heap.size,k,none⟩=some (.int .u8 (S1[k].toNat:Int))):=zh hcell;have HZ:=zh hS1z;have HB1:=zh hb1;have hzz:=hb1.size
   have q2:(0:Int)<=(z:Int):=by omega
   have q3:((z:Int)).toNat=z:=by omega
   have q4:(z:Int)<=(S.size:Int):=by omega
   have q5:decide (S.size<z)=false:=dF (by omega);clear hcell hb1 hS1z hy hz HQR;go_upto_block 2 with(fail);go_wp2
   go_loop [5,6,25] (λch ba i=>∃k:Nat,k<=z/\i=.int .i64 k/\∃v p:Nat,ch=.int .u64 v/\ba=.int .u64 p/\Hid (v=Go.Qn.val (S1.data.toList.take k)/\p=10^k/\v<10^k)) (λ_ _ i=>z-(intOf i).toNat)
   case atStart=>exact⟨0,aW _,rfl,0,1,rfl,rfl,zh ⟨rfl,rfl,by decide⟩⟩
   case round=>
    obtain⟨k,hk,rfl,v,p,rfl,rfl,HV⟩:=hrel
    by_cases hlt:k<z
    ·have hltS:k<S1.size:=by rw[HZ.o];exact hlt
     have hc:=HC.o k hltS
     have hlt':k<S1.data.toList.length:=by rw[mF];exact hltS
     have hD:Go.Qn.isD S1.data.toList[k]=true:=by
      obtain⟨q,r1,r2,e1,_,_,_,_,_,e6⟩:=HPT.o;have hm:=aB hlt';obtain⟨x,hx⟩:=eqx (S1.data.toList[k]);rw[hx]at hm ⊢;rw[show S1.data.toList=r1 by rw[e1,kG]]at hm;exact e6 _ (eF _ hm)
     obtain⟨g1,g2⟩:=aAf hD;have HX:Hid (Go.Qn.val (S1.data.toList.take (k+1))=10*v+(S1[k].toNat-48)):=zh (by rw[aBr _ _ hlt',HV.o.1];rfl)
     have hv:v<1000000000000000000:=aH HV.o.2.2 (by
      have:10^k<=10^18:=aP (by omega) (by omega)
      exact aR this (by decide))
     have hp:p<=1000000000000000000:=by
      rw[HV.o.2.1];have:10^k<=10^18:=aP (by omega) (by omega);exact aR this (by decide)
     have e1:(48:Int)<=(S1[k].toNat:Int):=g1;have e2:(S1[k].toNat:Int)<=57:=g2;clear g1 g2 hD;go_wp2;go_round
     case rel=>
      have h1:=HX.o;have h2:=HV.o;refine⟨k+1,by omega,by go_num,10*v+(S1[k].toNat-48),p*10,by go_num,by go_num,zh ⟨h1.symm,by rw[h2.2.1,bS],?_⟩⟩;rw[bS];omega
     case measure=>simp[intOf];omega
    obtain rfl:k=z:=by omega
    obtain⟨q,r1,r2,e1,e2,e3,e4,e5,e6,e7⟩:=HPT.o
    have hS1d:S1.data.toList=r1:=by rw[e1,kG]
    have hV:v=Go.Qn.val r1/\p=10^k/\v<10^k:=by
     have h:=HV.o;rw[hS1d,bF (by omega)]at h;exact h
    have hmp:m*p+v=Go.Qn.val (q++r1):=by rw[aJR,e6,e3,hV.1,<-hV.2.1]
    have hlen:(dg (m*p+v)).length<=100000:=by
     rw[hmp];refine aR (aJS e7) ?_;have h1:=bK List.length e5;have h2:=HL.o;rw[aC]at h1;omega
    have HQR2:Hid (∃q r,S2=bs r/\l=q++r/\Go.Qn.val q=m*p+v):=zh ⟨q++r1,r2,e2,e5,hmp.symm⟩
    have hS2s:S2.size+k=S.size:=by rw[e2,kA];exact e4
    have hvB:v<B:=aH hV.2.2 (aR (aLC hz19) (by decide))
    have hpB:p<B:=by rw[hV.2.1];exact bB (aLC hz19) (by decide)
    have hp0:0<p:=by rw[hV.2.1];exact eK (by decide)
    have HM0:Hid (m=0->A=none/\c=0):=zh HP.o.2.nil;have HPL:=zh (HP.o.2.start (p:=p) (v:=v) HP.o.2.below.size HB1.o HP.o.1);clear e1 e2 e3 e4 e5 e6 e7 hS1d hV hmp HPT HV HC HB1 HP hrun hlt hk;go_upto_block 4 with(fail);go_wp2
    go_loopw [9,44] (λs9 s44 wr=>∃j cy:Nat,s9=.int .u64 (cy:Nat)/\s44=.int .i64 (j:Nat)/\j<=n/\Hid (cy<B/\PsL w.heap.size w wr A c (dg m) p v j cy)) (λ_ s44 _=>n-(intOf s44).toNat)
    case atStart=>exact⟨0,v,rfl,rfl,aW _,zh ⟨hvB,HPL.o⟩⟩
    case round=>
     clear HPL;obtain⟨wi,rfl⟩:∃wi:World,wi=wr:=⟨_,rfl⟩;obtain⟨j,cy,rfl,rfl,hj,HJ⟩:=hrel
     by_cases hjn:j<n
     ·have hjl:j<(dg m).length:=by rw[HN.o];exact hjn
      obtain⟨x,hx⟩:=eqx ((dg m)[j]);obtain⟨g,rfl,cx,fx,hxB,hcB,hnx⟩:=HJ.o.2.next hjl hx (kH m) hpB HJ.o.1;have HMA:=zh (sX x p cy hxB hpB HJ.o.1 wi);have HNX:=zh hnx;have HCB:=zh hcB;have d3:decide ((j:Int)<(n:Int))=true:=dT (by omega);have d4:decide (j<n)=true:=dT hjn;obtain⟨hi,hhi⟩:=eqx ((x*p+cy)/B);obtain⟨lo,hlo⟩:=eqx ((x*p+cy)%B);rw[hhi,hlo]at HMA HNX;rw[hhi]at HCB;obtain⟨j1,hj1⟩:=eqx (j+1);rw[hj1]at HNX;have w1':IntKind.i64.wrap ((j:Int)+1)=(j1:Int):=(IntWalk.i64_in _ (by omega)).trans (by omega)
      have w2':(j:Int)+1=(j1:Int):=by omega
      have w3':IntKind.i64.wrap (j1:Int)=(j1:Int):=IntWalk.i64_in _ (by omega);clear hnx hcB hhi hlo hx hjl hj1
      go_wp2_with (go_at_call 197;refine HMA.o.mono ?_;rintro e w2 ⟨rfl,rfl⟩)
      go_roundw
      case rel=>exact⟨j1,hi,rfl,rfl,by omega,zh ⟨HCB.o,HNX.o⟩⟩
      case measure=>simp[intOf];omega
     obtain rfl:j=n:=by omega
     have d3:decide ((j:Int)<(j:Int))=false:=dF (by omega);have d4:decide (j<j)=false:=dF (by omega)
     have hms:aEN (.string S2)<aEN (.string S):=by show S2.size<S.size;omega
     have HMS:=zh hms;have hbs:w.heap.size<=wi.heap.size:=HJ.o.2.below.size;clear hms
     by_cases hc0:cy=0
     ·subst hc0;obtain⟨hPM,hln⟩:=PsL.done (h:=by have:=HJ.o.2;rw[<-HN.o]at this;exact this) hp0 HM0.o;rw[HN.o]at hln;have HNEW:Hid (Hid (∃q r,S2=bs r/\l=q++r/\Go.Qn.val q=m*p+v)/\Hid ((dg (m*p+v)).length=j)/\Hid (c<=maxLen/\PsM w.heap.size w wi A c (m*p+v))):=zh ⟨HQR2,zh hln,zh ⟨HJ.o.2.le,hPM⟩⟩
      have hb0:(((0:Nat):Int)!=0)=false:=by decide
      clear hPM hln HJ HQR2 hbs;go_wp2;exact⟨⟨S2,A,j,c,m*p+v,rfl,rfl,by omega,hn,HNEW.o.1,HNEW.o.2.1,HNEW.o.2.2⟩,HMS.o⟩
     have hb0:((cy:Int)!=0)=true:=by simp;omega
     have hb0':(cy !=0)=true:=by simp;omega
     have HWA:Below wi.heap.size wi (wi.alloc (.cells #[.int .u64 (cy:Nat)] 170)):=bal;obtain⟨g',c',w',hr,hPM,hcm⟩:=PsL.push (h:=by have:=HJ.o.2;rw[<-HN.o]at this;exact this) hc0 HJ.o.1 HWA hbs HM0.o (k:=wi.heap.size) (d:=1) ((Blk.new wi 170 #[.int .u64 (cy:Nat)]).cell 0) (by rw[HN.o];omega);rw[HN.o]at hr;obtain⟨n',hn'⟩:=eqx ((dg (m*p+v)).length);rw[hn']at hr hlen;have HNEW:Hid (Hid (∃q r,S2=bs r/\l=q++r/\Go.Qn.val q=m*p+v)/\Hid ((dg (m*p+v)).length=n')/\Hid (c'<=maxLen/\PsM w.heap.size w w' (some ⟨g',0,none⟩) c' (m*p+v))):=zh ⟨HQR2,zh hn',zh ⟨hcm,hPM⟩⟩;clear hPM hn' HJ HQR2 hbs HWA hcm;go_upto_region 19 with(fail);refine jL ?_;refine eW rfl (λK hK=>?_);go_simp;refine hK _ _ ?_;clear hK K;refine eW rfl (λK hK=>?_);go_simp
     refine hK _ _ ?_;clear hK K;refine eW rfl (λK hK=>?_);go_simp;refine hK _ _ ?_;clear hK K;refine wpList_append_run _ rfl _ _ 116 rfl (.slice A j c) (.slice (some ⟨wi.heap.size,0,none⟩) 1 1) rfl rfl hr ?_;clear hr;go_wp2;exact⟨⟨S2,some ⟨g',0,none⟩,n',c',m*p+v,rfl,rfl,by omega,hlen,HNEW.o.1,HNEW.o.2.1,HNEW.o.2.2⟩,HMS.o⟩
theorem aJT (s:ByteArray)(w:World)(hs:s.size<=570)(hd:∀c∈s.data.toList,Go.Qn.isD c=true):
    Calls Tryz.prog 188 #[.string s,.slice none 0 0] w (nV (Go.Qn.val s.data.toList) w):=by
  have HP:=zh (aHr s w (by omega) hd);obtain⟨Q,hQ⟩:=eqx (nV (Go.Qn.val s.data.toList) w);rw[hQ]at HP ⊢;have HQ:Hid (∀e V,Q e V->∃v,e=.returned v):=zh (λe V h=>by rw[<-hQ]at h;obtain⟨R,c,rfl,_⟩:=h;exact⟨_,rfl⟩);clear hd hQ;have d1:decide ((s.size:Int)<=570)=true:=dT (by omega);go_enter Tryz.func188,Tryz.ntmps188;go_wp2;refine wp_loop_rounds 1 ?_;rw[rounds_succ]
  go_wp2_with (go_at_call 203;refine HP.o.mono ?_;rintro e w' h;obtain⟨v,rfl⟩:=HQ.o _ _ h;have H:=zh h;clear h)
  exact H.o
theorem aJU (s:ByteArray)(w:World)(hs:s.size<=570)(hd:∀c∈s.data.toList,Go.Qn.isD c=true):
    Calls Tryz.prog 163 #[.string s] w (nV (Go.Qn.val s.data.toList) w):=by
  have HP:=zh (aJT s w hs hd);obtain⟨Q,hQ⟩:=eqx (nV (Go.Qn.val s.data.toList) w);rw[hQ]at HP ⊢;have HQ:Hid (∀e V,Q e V->∃v,e=.returned v):=zh (λe V h=>by rw[<-hQ]at h;obtain⟨R,c,rfl,_⟩:=h;exact⟨_,rfl⟩);clear hd hQ;have d1:decide ((570:Int)<(s.size:Int))=false:=dF (by omega);have d2:decide (570<s.size)=false:=dF (by omega);go_enter Tryz.func163,Tryz.ntmps163
  go_wp2_with (go_at_call 188;refine HP.o.mono ?_;rintro e w' h;obtain⟨v,rfl⟩:=HQ.o _ _ h;have H:=zh h;clear h)
  exact H.o
def zK (x:Bool)(n:Nat)(w:World)(e:Ending)(w':World):Prop:=∃R c,e=.returned (.agg #[.bool x,.slice R (dg n).length c])/\NW w' R c n/\Below w.heap.size w w'
theorem NW.put {w:World}{R:Option Addr}{c n:Nat}(h:NW w R c n){p:Addr}{v:Value}(hc:w.cell? p=some v)(hv:v∉(dg n).map vs)(u:Value):NW (w.setCell p u) R c n:=⟨Sl.put h.wds hc hv u,h.cap⟩
theorem zS (s:ByteArray)(w:World)(hs:s.size<=570)(hd:∀c∈s.data.toList,Go.Qn.isD c=true):
    Calls Tryz.prog 119 #[.string s] w (zK false (Go.Qn.val s.data.toList) w):=by
  have HP:=zh (λW=>aJU s W hs hd);clear hd;have hb1:Below w.heap.size w (w.alloc (.cells #[.bool false,.slice none 0 0] 118)):=bal;have B2:=Blk.new w 118 #[.bool false,.slice none 0 0];generalize Go.Qn.val s.data.toList=n at*;go_enter Tryz.func119,Tryz.ntmps119
  go_wp2_with (go_at_call 163;refine(HP.o _).mono ?_;rintro e w' ⟨A,c,rfl,h1,h3⟩
               have B3:=B2.keep h3 (by simp);have c0:=B3.cell 0;have c1:=B3.cell 1;have f0:=B3.frozen 0;have f1:=B3.frozen 1;have H1:=zh h1;clear h1
               simp at c0 c1)
  refine aO (v:=.agg #[.bool false,.slice A (dg n).length c]) (by simp[results,Tryz.results119,go_sem,c0,c1]) rfl ⟨A,c,rfl,?_,?_⟩
  ·have h4:=H1.o.put c0 (by simp[vs]) (.bool false);exact h4.put (v:=.slice none 0 0) (by rw[bR _ _ _ _ (by simp)];exact c1) (by simp[vs]) _
  exact(((hb1.trans (h3.mono (by simp))).setCell (by simp) _).setCell (by simp) _)
theorem aAJ (A B:Option Addr)(c d a b:Nat)(x y:Bool)(w:World)(hA:NW w A c a)(hB:NW w B d b)(ha:(dg a).length<=400000)(hb:(dg b).length<=400000)(hs:(dg a).length<80∨(dg b).length<80)(hT:Tab w):
    Calls Tryz.prog 97 #[.agg #[.bool x,.slice A (dg a).length c],.agg #[.bool y,.slice B (dg b).length d]] w (zK false (Nat.gcd a b) w):=by
  have hbA:Below w.heap.size w (((w.alloc (.cells #[.bool x,.slice A (dg a).length c] 118)).alloc (.cells #[.bool y,.slice B (dg b).length d] 118)).alloc (.cells #[.bool false,.slice none 0 0] 118)):=
    ((bal).alloc (by simp) _).alloc (by simp;omega) _
  have HK:=zh (aJQ A B c d a b _ (hA.keep hbA) (hB.keep hbA) ha hb hs (hT.below hbA hT.1));clear hA hB ha hb hs hT;generalize (dg a).length=la at*;generalize (dg b).length=lb at*;generalize Nat.gcd a b=G at*;go_enter Tryz.func97,Tryz.ntmps97
  go_wp2_with (go_at_call 146;refine HK.o.mono ?_;rintro e w1 ⟨A1,c1,rfl,h1,h3⟩
               have B4:Blk w1 (w.heap.size+1+1) 118 #[.bool false,.slice none 0 0]:=by
                have:=(Blk.new ((w.alloc (.cells #[.bool x,.slice A la c] 118)).alloc (.cells #[.bool y,.slice B lb d] 118)) 118 #[.bool false,.slice none 0 0]).keep h3 (by simp);simpa using this
               have q0:=B4.cell 0;have q1:=B4.cell 1;have f0:=B4.frozen 0;have f1:=B4.frozen 1;have H1:=zh h1;clear B4 h1
               simp at q0 q1)
  refine aO (v:=.agg #[.bool false,.slice A1 (dg G).length c1]) (by simp[results,Tryz.results97,go_sem,q0,q1]) rfl ⟨A1,_,rfl,?_,?_⟩
  ·have h4:=H1.o.put q0 (by simp[vs]) (.bool false);exact h4.put (v:=.slice none 0 0) (by rw[bR _ _ _ _ (by simp)];exact q1) (by simp[vs]) _
  exact(((hbA.trans (h3.mono (by simp;omega))).setCell (by simp;omega) _).setCell (by simp;omega) _)
theorem sZ (A:Option Addr)(c m:Nat)(w:World)(hA:NW w A c m):
    Calls Tryz.prog 99 #[.agg #[.bool false,.slice A (dg m).length c]] w λe w'=>e=.returned (.bool (decide (m=1)))/\Below w.heap.size w w':=by
  by_cases h1:(dg m).length=1
  ·have hm0:m≠0:=λe=>by rw[e,jS]at h1;simp at h1
   have hmB:m<18446744073709551616:=by
    have:=lC m
    rwa [h1,Nat.pow_one]at this
   have h2:=aIq A c m w (by rw[aEP hmB];exact hA.wds)
   rwa [aEP hmB]at h2
  have hne:m≠1:=λe=>h1 (by rw[e,lD (by decide) (by decide)];rfl)
  rw[dF hne];have b1:(((dg m).length:Int)==1)=false:=aG.2 (by omega);have b2:((dg m).length==1)=false:=aG.2 h1;clear hA hne;generalize (dg m).length=n at*;go_enter Tryz.func99,Tryz.ntmps99;go_wp2;go_ret;exact⟨rfl,bal⟩
theorem aOr {a b:Nat}(X Y:Option Addr)(cx cy:Nat)(w:World)(hX:NW w X cx a)(hY:NW w Y cy b)(hn:(dg a).length<=400000)(hnb:(dg b).length<=400000)(hs:(dg a).length<40∨(dg b).length<40):
    ∃x y U V cu cv,(dg y).length<=(dg x).length/\x*y=a*b/\NW w U cu x/\NW w V cv y/\(dg x).length<=400000/\(dg y).length<40/\(((dg a).length<(dg b).length/\.slice U (dg x).length cu=(.slice Y (dg b).length cy:Value)/\.slice V (dg y).length cv=(.slice X (dg a).length cx:Value))∨(¬(dg a).length<(dg b).length/\.slice U (dg x).length cu=(.slice X (dg a).length cx:Value)/\.slice V (dg y).length cv=(.slice Y (dg b).length cy:Value))):=by
  by_cases h:(dg a).length<(dg b).length
  ·exact⟨b,a,Y,X,cy,cx,eM h,aT _ _,hY,hX,hnb,by omega,.inl ⟨h,rfl,rfl⟩⟩
  exact⟨a,b,X,Y,cx,cy,by omega,rfl,hX,hY,hn,by omega,.inr ⟨h,rfl,rfl⟩⟩
structure MlM (w:World)(gz x:Nat)(ys:List Nat)(lx ly:Nat)(wr:World)(i:Nat)(zs:List Nat):Prop where
  len:zs.length=lx+i
  dig:Dig zs
  eq:val zs=x*val (ys.take i)
  blk:Blk wr gz 170 (jZ (zs++List.replicate (ly-i) 0))
  below:Below w.heap.size w wr
theorem MlM.next {w wr wr':World}{gz x h lx ly i k:Nat}{ys zs vs':List Nat}(s:MlM w gz x ys lx ly wr i zs)(hi:i<ys.length)(hly:ys.length=ly)(hh:ys[i]=h)(hlx:(dg x).length=lx)(hg:w.heap.size<=gz)
    (hr:ApM wr gz i h (zs++List.replicate (ly-i) 0) (dg x) wr' (dg x).length k vs'):
    wr'.frozen? ⟨gz,i+lx,none⟩=false/\(∃u,wr'.cell? ⟨gz,i+lx,none⟩=some u)/\MlM w gz x ys lx ly (wr'.setCell ⟨gz,i+lx,none⟩ (.int .u64 (k:Nat))) (i+1) (zs.take i++(vs'++[k])):=by
  have hzl:=s.len;have hvl:=hr.len;rw[hlx]at hvl;have hlt:zs.take i++zs.drop i=zs:=cY i zs
  have hdl:(zs.drop i).length=lx:=by rw[cZ];omega
  have hd1:(zs++List.replicate (ly-i) 0).drop i=zs.drop i++List.replicate (ly-i) 0:=gY (by omega)
  have hd2:((zs++List.replicate (ly-i) 0).drop i).take lx=zs.drop i:=by rw[hd1,<-hdl,List.take_left'];rfl
  have ht1:(zs++List.replicate (ly-i) 0).take i=zs.take i:=List.take_append_of_le_length (by omega)
  have hd3:(zs++List.replicate (ly-i) 0).drop (i+lx)=List.replicate (ly-i) 0:=by
   rw[List.drop_append,cS (by omega),show i+lx-zs.length=0 by omega];rfl
  have hB:=hr.blk;rw[ht1,hlx,hd3]at hB;obtain⟨m,hm⟩:∃m,ly-i=m+1:=⟨ly-i-1,by omega⟩
  have hm':ly-(i+1)=m:=by omega
  have hset:(zs.take i++(vs'++List.replicate (ly-i) 0)).set (i+lx) k=(zs.take i++(vs'++[k]))++List.replicate (ly-(i+1)) 0:=by
   rw[<-cJ,cX _ _ (by simp;omega),hm,hm']
   have e:i+lx-(zs.take i++vs').length=0:=by simp;omega
   rw[e,dO,dL];simp
  have heq:=hr.eq;rw[hlx,hd2,<-hlx,bF (aA _),kE,hlx]at heq;refine⟨hB.frozen _,⟨_,by rw[hB.cell];exact jC (by rw[qB];simp;omega)⟩,?_,?_,?_,?_,?_⟩
  ·simp;omega
  ·intro y hy
   rcases aK.1 hy with h1|h1
   ·exact s.dig y (eS h1)
   rcases aK.1 h1 with h2|h2
   ·exact hr.dig y h2
   simp at h2;subst h2;exact hr.lt
  ·rw[lG,lG,aS,dA (by omega),hvl]
   have e1:val [k]=k:=by simp[val]
   rw[e1,heq,lE hi,hh]
   have e2:val zs=val (zs.take i)+B^i*val (zs.drop i):=by
    conv=>lhs;rw[<-hlt,lG,aS,dA (by omega)]
   rw[aZ,aZ,<-s.eq,e2,aT h x,<-aV (B^i) x h,<-aV x (B^i) h,aT (B^i) x];omega
  ·have:=hB.set (i+lx) (.int .u64 (k:Nat))
   rwa [kX,hset]at this
  exact hJ (s.below.trans (hr.only.keepBelow hg)) hg _ _
theorem aEJ (X Y:Option Addr)(cx cy a b:Nat)(w:World)(hX:NW w X cx a)(hY:NW w Y cy b)(hn:(dg a).length<=400000)(hnb:(dg b).length<=400000)(hs:(dg a).length<40∨(dg b).length<40):
    Calls Tryz.prog 145 #[.slice X (dg a).length cx,.slice Y (dg b).length cy] w (nV (a*b) w):=by
  obtain⟨x,y,U,Vy,cu,cv,hyx,hg,hU,hV,hxl,hyl,hor⟩:=aOr X Y cx cy w hX hY hn hnb hs;have HOR:Hid _:=zh hor;rw[<-hg];obtain⟨Q,hQ⟩:=eqx (nV (x*y) w);have HRQ:Hid (∀e V,nV (x*y) w e V->Q e V):=zh (λe V h=>by rw[<-hQ];exact h);rw[hQ];have HU:=zh hU;have HV:=zh hV;obtain⟨la,hla⟩:=eqx ((dg a).length);obtain⟨lb,hlb⟩:=eqx ((dg b).length);obtain⟨lx,hlx⟩:=eqx ((dg x).length);obtain⟨ly,hly⟩:=eqx ((dg y).length);rw[hla,hlb]at HOR ⊢;rw[hlx]at HOR hxl hyx;rw[hly]at HOR hyl hyx;have HLX:=zh hlx;have HLY:=zh hly
  have hla':la<=400000:=by omega
  have hlb':lb<=400000:=by omega
  obtain⟨t,ht⟩:=eqx (decide ((la:Int)<(lb:Int)));have HTD:Hid (t=decide (la<lb)):=zh (by rw[<-ht];simp);have ht':decide (la<lb)=t:=HTD.o.symm;clear hor hg hQ hX hY hU hV hla hlb hlx hly hn hnb hs;go_enter Tryz.func145,Tryz.ntmps145;go_upto_if 21 with(fail)
  go_cut [0,1] (λs0 s1 wx=>s0=.slice U lx cu/\s1=.slice Vy ly cv/\wx=w)
  case first=>
   clear ht ht' HU HV HRQ
   rcases HOR.o with⟨h,e1,e2⟩|⟨h,e1,e2⟩
   ·obtain rfl:t=true:=HTD.o.trans (dT h);have E1:=zh e1;have E2:=zh e2;clear h e1 e2 HTD HOR;go_wp2;go_meet;exact⟨E1.o.symm,E2.o.symm,rfl⟩
   obtain rfl:t=false:=HTD.o.trans (dF h);have E1:=zh e1;have E2:=zh e2;clear h e1 e2 HTD HOR;go_wp2;go_meet;exact⟨E1.o.symm,E2.o.symm,rfl⟩
  case rest=>
   obtain⟨rfl,rfl,rfl⟩:=hcut;clear HOR HTD ht ht';have m1:IntKind.i64.wrap ((lx:Int)+1)=(lx:Int)+1:=IntWalk.i64_in _ (by omega);obtain⟨hf,hhf⟩:=eqx ((lx+1)/2)
   have m2:((lx:Int)+1).tdiv 2=(hf:Int):=by rw[<-hhf];exact(iG (lx+1) 2).symm
   have m2':((lx:Int)+1)/2=(hf:Int):=by omega
   have m3:IntKind.i64.wrap (hf:Int)=(hf:Int):=IntWalk.i64_in _ (by omega);clear hhf
   by_cases hy0:ly=0
   ·have HR:Hid (Q (.returned (.slice none 0 0)) wc):=zh (by
     have e:y=0:=mI (by rw[HLY.o];exact hy0);refine HRQ.o _ _ ?_;rw[e,dN]
     exact⟨none,0,by rw[jS];rfl,NW.zero _ _ _,bM _ _⟩)
    subst hy0;clear HRQ HU HV HLX HLY;go_wp2;exact HR.o
   have b0:((ly:Int)==0)=false:=aG.2 (by omega);have b0':(ly==0)=false:=aG.2 hy0
   by_cases hy1:y=1
   ·obtain rfl:ly=1:=by rw[<-HLY.o,hy1,lD (by decide) (by decide)];rfl
    have HR:Hid (Q (.returned (.slice U lx cu)) wc):=zh (by
     refine HRQ.o _ _ ?_;rw[hy1,dI]
     exact⟨U,cu,by rw[HLX.o],HU.o,bM _ _⟩)
    obtain⟨vd,rfl,_,hvc⟩:=Sl.lies HV.o.wds (by rw[HLY.o];omega)
    have c0:wc.cell? vd=some (.int .u64 1):=by
     have:=hvc 0 (.int .u64 ((1:Nat):Int)) (by rw[hy1,lD (by decide) (by decide)];rfl);simpa[Addr.add]using this
    have hvl:vd.block<wc.heap.size:=bQ wc _ c0;clear hvc HRQ HU HV HLX HLY hy1;go_wp2;exact HR.o
   go_upto_region 6 with(fail)
   go_cut [32] (λs32 wx=>s32=.bool false/\wx=wc)
   case first=>
    clear HRQ HU
    by_cases h1:ly=1
    ·obtain⟨vd,rfl,_,hvc⟩:=Sl.lies HV.o.wds (by rw[HLY.o];omega)
     have hyB:y<18446744073709551616:=by
      have:=lC y
      rwa [HLY.o,h1,Nat.pow_one]at this
     have c0:wc.cell? vd=some (.int .u64 (y:Nat)):=by
      have:=hvc 0 (.int .u64 (y:Nat)) (by rw[lD (λe=>hy0 (by rw[<-HLY.o,e,jS];rfl)) hyB];rfl);simpa[Addr.add]using this
     have hvl:vd.block<wc.heap.size:=bQ wc _ c0;have b1:((y:Int)==1)=false:=aG.2 (by omega);have b1':(y==1)=false:=aG.2 hy1;subst h1;clear hvc HV HLX HLY hy1;go_wp2;go_meet;exact⟨rfl,rfl⟩
    have b1:((ly:Int)==1)=false:=aG.2 (by omega);have b1':(ly==1)=false:=aG.2 h1;clear HV HLX HLY hy1;go_wp2;go_meet;exact⟨rfl,rfl⟩
   case rest=>
    obtain⟨rfl,rfl⟩:=hcut;have d40:decide ((ly:Int)<40)=true:=dT (by omega);have d40':decide (ly<40)=true:=dT hyl;have hmk:=nQ (lx+ly) (by omega) wc
    have hc1:((lx+ly:Nat):Int)=(lx:Int)+(ly:Int):=by omega
    rw[hc1]at hmk;have hwr:IntKind.i64.wrap ((lx:Int)+(ly:Int))=(lx:Int)+(ly:Int):=IntWalk.i64_in _ (by omega);obtain⟨W,hW⟩:=eqx (wc.alloc (.cells (madeCells #[.int .u64 0] (lx+ly)) 170))
    have hBW:Blk W wc.heap.size 170 (jZ (List.replicate (lx+ly) 0)):=by rw[<-hW,<-nU];exact Blk.new _ _ _
    have hbW:Below wc.heap.size wc W:=by rw[<-hW];exact bal
    rw[hW]at hmk;obtain⟨gz,hgz⟩:=eqx (wc.heap.size);have H0:Hid (MlM wc gz x (dg y) lx ly W 0 (List.replicate lx 0)):=zh ⟨by simp,λv hv=>by rw[fO hv];decide,by rw[uL];simp[val],by rw[<-hgz,gQ,List.replicate_append_replicate];exact hBW,hbW⟩;have HUW:Hid (∀V,Below wc.heap.size wc V->lU V U (dg x)):=zh (λV h=>HU.o.wds.keep h);have HVW:Hid (∀V,Below wc.heap.size wc V->lU V Vy (dg y)):=zh (λV h=>HV.o.wds.keep h)
    have HUN:Hid (∀ad,U=some ad->0<lx->ad.block≠gz):=zh (λad e h=>by
     obtain⟨ad',e2,hl,_⟩:=Sl.lies HU.o.wds (by rw[HLX.o];exact h);rw[e]at e2
     injection e2 with e2
     subst e2
     omega)
    rw[hgz]at hmk;have HGZ:=zh hgz;clear hgz hc1 hW hBW hbW HU HV;go_upto_block 1 with(fail);go_wp2
    go_loopw [55] (λs55 wr=>∃(i:Nat) (zs:List Nat),s55=.int .i64 (i:Nat)/\i<=ly/\Hid (MlM wc gz x (dg y) lx ly wr i zs)) (λs55 _=>ly-(intOf s55).toNat)
    case atStart=>exact⟨0,_,rfl,aW _,H0⟩
    case round=>
     clear H0 hmk;obtain⟨wo,rfl⟩:∃wo:World,wo=wr:=⟨_,rfl⟩;obtain⟨i,zs,rfl,hi,HM⟩:=hrel
     by_cases hil:i<ly
     ·have d1:decide ((i:Int)<(ly:Int))=true:=dT (by omega);have d2:decide (i<ly)=true:=dT hil
      have hiy:i<(dg y).length:=by rw[HLY.o];exact hil
      obtain⟨h,hh⟩:=eqx ((dg y)[i])
      have hhB:h<B:=by rw[<-hh];exact kH y _ (aB hiy)
      obtain⟨vd,rfl,_,hvc⟩:=Sl.lies (HVW.o wo HM.o.below) (by omega);have c0:wo.cell? (vd.add i)=some (.int .u64 (h:Nat)):=hvc i _ (by rw[cK,aF hiy,hh];rfl)
      have HAP:Hid (∀c,Calls Tryz.prog 171 #[.slice (some ⟨gz,i,none⟩) lx c,.slice U lx cu,.int .u64 (h:Nat)] wo λe w'=>∃k vs',e=.returned (.int .u64 (k:Nat))/\w'.frozen? ⟨gz,i+lx,none⟩=false/\(∃u,w'.cell? ⟨gz,i+lx,none⟩=some u)/\Hid (MlM wc gz x (dg y) lx ly (w'.setCell ⟨gz,i+lx,none⟩ (.int .u64 (k:Nat))) (i+1) vs')):=zh (λc=>by
       have hzl:=HM.o.len
       have:=aKf gz i h c cu (zs++List.replicate (ly-i) 0) (dg x) U wo HM.o.blk (HUW.o wo HM.o.below) (λad e=>HUN.o ad e (by omega)) (by
        intro v hv
        rcases aK.1 hv with h1|h1
        ·exact HM.o.dig v h1
        rw[fO h1];decide) (kH x) hhB (by rw[HLX.o];simp;omega) (by simp;omega)
       rw[HLX.o]at this;refine this.mono ?_;rintro e w' ⟨k,vs',rfl,hr⟩;obtain⟨f,u,hn⟩:=HM.o.next hiy HLY.o hh HLX.o (by have:=HGZ.o;omega) hr
       exact⟨k,_,rfl,f,u,zh hn⟩)
      have w1:IntKind.i64.wrap ((i:Int)+(lx:Int))=(i:Int)+(lx:Int):=IntWalk.i64_in _ (by omega);obtain⟨il,hil2⟩:=eqx (i+lx)
      have w2:(i:Int)+(lx:Int)=(il:Int):=by omega
      have w3:IntKind.i64.wrap (il:Int)=(il:Int):=IntWalk.i64_in _ (by omega);rw[hil2]at HAP
      have hill:il<lx+ly:=by omega
      have hii:i<=il:=by omega
      have hie:il-i=lx:=by omega
      obtain⟨i1,hi1⟩:=eqx (i+1);rw[hi1]at HAP
      have w4:(i:Int)+1=(i1:Int):=by omega
      have w5:IntKind.i64.wrap (i1:Int)=(i1:Int):=IntWalk.i64_in _ (by omega)
      have hi1l:i1<=ly:=by omega
      have hi1g:i<i1:=by omega
      clear hvc hh hiy HM hil2 hi1
      go_wp2_with (go_at_call 171;refine(HAP.o _).mono ?_;rintro e w2 ⟨k,vs',rfl,hfz,⟨u,hcu⟩,HN⟩)
      exact⟨⟨i1,vs',rfl,hi1l,HN⟩,by simp[intOf];omega⟩
     obtain rfl:i=ly:=by omega
     have d1:decide ((i:Int)<(i:Int))=false:=dF (by omega);have d2:decide (i<i)=false:=dF (by omega)
     have HT:Hid (Calls Tryz.prog 167 #[.slice (some ⟨gz,0,none⟩) (lx+i) (lx+i)] wo λe w'=>∃v,e=.returned v/\Hid (Q (.returned v) w')):=zh (by
      have hzl:=HM.o.len
      have hv:val zs=x*y:=by
       have:=HM.o.eq
       rwa [bF (by rw[HLY.o];exact aA _),kE]at this
      have:=qP (some ⟨gz,0,none⟩) (lx+i) zs wo (tW HM.o.blk rfl) HM.o.dig (by omega) (by omega);rw[hzl,hv]at this;refine this.mono ?_;rintro e w' ⟨rfl,rfl,hN⟩
      exact⟨_,rfl,zh (HRQ.o _ _ ⟨_,_,rfl,hN,HM.o.below⟩)⟩)
     clear HM
     go_wp2_with (go_at_call 167;refine HT.o.mono ?_;rintro e w3 ⟨v,rfl,HQ⟩)
     exact HQ.o
def oT (z:Int)(w:World)(e:Ending)(w':World):Prop:=
  ∃R c,e=.returned (.agg #[.bool (decide (z<0)),.slice R (dg z.natAbs).length c])/\NW w' R c z.natAbs/\Below w.heap.size w w'
theorem kB {u:Nat}:0<(dg u).length↔u≠0:=by
 by_cases h:u=0
 ·subst h;rw[jS];simp
 rw[oF h];simp[h]
theorem NW.off {w:World}{R:Option Addr}{c n g:Nat}{t:TypeId}{b:Bool}{S:Option Addr}{l m:Nat}(h:NW w R c n)(B:Blk w g t #[.bool b,.slice S l m]):Off R (dg n).length g:=by
 refine h.wds.off (by decide) B λv hv hm=>?_
 obtain⟨x,_,rfl⟩:=aM.1 hm
 simp[vs]at hv
theorem NW.far {w:World}{R:Option Addr}{c n g:Nat}(h:NW w R c n)(ho:Off R (dg n).length g)(i:Nat)(u:Value):NW (w.setCell ⟨g,i,none⟩ u) R c n:=⟨Sl.far h.wds ho i u,h.cap⟩
def lT (s:Bool)(m:Nat)(w:World)(e:Ending)(w':World):Prop:=
  ∃R c,e=.returned (.agg #[.bool s,.slice R (dg m).length c])/\NW w' R c m/\Below w.heap.size w w'
theorem uU {s:Bool}{m:Nat}{w:World}{e:Ending}{w':World}{z:Int}(h:lT s m w e w')(hm:z.natAbs=m)(hs:s=decide (z<0)):oT z w e w':=by
 obtain⟨R,c,rfl,h1,h2⟩:=h
 subst hm
 exact⟨R,c,by rw[hs],h1,h2⟩
theorem nE {w W V:World}{s:Bool}{m:Nat}{R:Option Addr}{c:Nat}(hbW:Below w.heap.size w W)(hb:Below W.heap.size W V)(hR:NW V R c m){g:Nat}(hg:w.heap.size<=g)(hB:Blk V g 118 #[.bool false,.slice none 0 0]):
    lT s m w (.returned (.agg #[.bool s,.slice R (dg m).length c])) ((V.setCell ⟨g,0,none⟩ (.bool s)).setCell ⟨g,1,none⟩ (.slice R (dg m).length c)):=
  ⟨R,c,rfl,(hR.far (hR.off hB) _ _).far (hR.off hB) _ _,hJ (hJ (dW hbW hb) hg _ _) hg _ _⟩
theorem qQ (b:Bool)(A:Option Addr)(n c:Nat)(w:World)(v:Bool)(hv:(b&&decide (0<n))=v):
    Calls Tryz.prog 141 #[.bool b,.slice A n c] w λe w'=>e=.returned (.agg #[.bool v,.slice A n c])/\Below w.heap.size w w':=by
  have hbA:Below w.heap.size w (w.alloc (.cells #[.bool v,.slice A n c] 118)):=bal;have hB:=Blk.new w 118 #[.bool v,.slice A n c]
  cases b with
  |false=>
   obtain rfl:v=false:=by rw[<-hv];rfl
   obtain⟨a0,a1,_,_⟩:=hB.two;go_enter Tryz.func141,Tryz.ntmps141;go_wp2;exact aO (v:=.agg #[.bool false,.slice A n c]) (by simp[results,Tryz.results141,go_sem,a0,a1]) rfl ⟨rfl,hbA⟩
  |true=>
   obtain rfl:decide (0<n)=v:=by rw[<-hv];rfl
   obtain⟨a0,a1,_,_⟩:=hB.two
   by_cases h0:0<n
   ·have hd:decide ((0:Int)<(n:Int))=true:=by simp;omega
    have hd':decide (0<n)=true:=by simp;omega
    rw[hd']at a0 a1 hbA ⊢;clear hv hB;go_enter Tryz.func141,Tryz.ntmps141;go_wp2;exact aO (v:=.agg #[.bool true,.slice A n c]) (by simp[results,Tryz.results141,go_sem,a0,a1]) rfl ⟨rfl,hbA⟩
   have hd:decide ((0:Int)<(n:Int))=false:=by simp;omega
   have hd':decide (0<n)=false:=by simp;omega
   rw[hd']at a0 a1 hbA ⊢;clear hv hB;go_enter Tryz.func141,Tryz.ntmps141;go_wp2;exact aO (v:=.agg #[.bool false,.slice A n c]) (by simp[results,Tryz.results141,go_sem,a0,a1]) rfl ⟨rfl,hbA⟩
theorem aOA (x:Bool)(A:Option Addr)(n c:Nat)(w:World)(v:Bool)(hv:((!x)&&decide (0<n))=v):
    Calls Tryz.prog 140 #[.agg #[.bool x,.slice A n c]] w λe w'=>e=.returned (.agg #[.bool v,.slice A n c])/\Below w.heap.size w w':=by
  have HS:=zh (λV=>qQ (!x) A n c V v hv)
  have hbA:Below w.heap.size w ((w.alloc (.cells #[.bool x,.slice A n c] 118)).alloc (.cells #[.bool false,.slice none 0 0] 118)):=
    (bal).alloc (by simp) _
  clear hv;go_enter Tryz.func140,Tryz.ntmps140
  go_wp2_with (go_at_call 141;refine(HS.o _).mono ?_;rintro e w1 ⟨rfl,h3⟩
               have B4:Blk w1 (w.heap.size+1) 118 #[.bool false,.slice none 0 0]:=by
                have:=(Blk.new (w.alloc (.cells #[.bool x,.slice A n c] 118)) 118 #[.bool false,.slice none 0 0]).keep h3 (by simp);simpa using this
               have q0:=B4.cell 0;have q1:=B4.cell 1;have f0:=B4.frozen 0;have f1:=B4.frozen 1;clear B4
               simp at q0 q1)
  exact aO (v:=.agg #[.bool v,.slice A n c]) (by simp[results,Tryz.results140,go_sem,q0,q1]) rfl ⟨rfl,(((hbA.trans (h3.mono (by simp;omega))).setCell (by simp) _).setCell (by simp) _)⟩
theorem aKu (z:Int)(A:Option Addr)(c:Nat)(w:World):
    Calls Tryz.prog 94 #[.agg #[.bool (decide (z<0)),.slice A (dg z.natAbs).length c]] w λe w'=>e=.returned (.bool (decide (z=0)))/\Below w.heap.size w w':=by
  refine(lW _ A _ c w).mono ?_;rintro e w' ⟨rfl,hb⟩;refine⟨?_,hb⟩;rw[dH.2]
  by_cases h:z=0
  ·subst h;simp[jS]
  have:=(kB (u:=z.natAbs)).2 (by omega)
  constructor
  ·intro h2;omega
  intro h2;exact absurd h2 h
theorem aKv (w:World):Calls Tryz.prog 181 #[.int .i64 1] w (oT 1 w):=by
 obtain⟨n,hn⟩:=eqx (1:Nat)
 obtain⟨ln,hln⟩:=eqx ((dg n).length)
 have HW:Hid (∀V,Calls Tryz.prog 176 #[.int .u64 1] V λe w'=>∃R c,e=.returned (.slice R ln c)/\NW w' R c n/\Below V.heap.size V w'):=zh (λV=>by
  rw[<-hln,<-hn]
  exact aEQ 1 V (by decide))
 have hb1:Below w.heap.size w (w.alloc (.cells #[.bool false,.slice none 0 0] 118)):=bal
 have B2:=Blk.new w 118 #[.bool false,.slice none 0 0]
 have e1:oT 1 w=lT false 1 w:=rfl
 rw[e1,hn]
 have HLN:=zh hln
 clear hln hn e1
 go_enter Tryz.func181,Tryz.ntmps181
 go_wp2_with (go_at_call 176;refine(HW.o _).mono ?_;rintro e w' ⟨A,c,rfl,h1,h3⟩
              have B3:=B2.keep h3 (by simp);obtain⟨c0,c1,f0,f1⟩:=B3.two;have H1:=zh h1;have H3:=zh h3
              clear h1 h3)
 have e2:=HLN.o
 subst e2
 exact aO (v:=.agg #[.bool false,.slice A (dg n).length c]) (by simp[results,Tryz.results181,go_sem,c0,c1]) rfl (nE hb1 H3.o H1.o (aA _) B3)
end Go.Proofs.Tg.Iw
