/- Parts of the proof. -/
import Derived.Test.YtabdoikbodjidaaGreatDoorMBO43
set_option maxHeartbeats 64000000
set_option maxRecDepth 100000
namespace Go.Proofs.Tg
open Go.RowKit Go.Gr Go.Bn Go.Rq Go.Qn
theorem aPH (s:ByteArray)(w:World)(hs:s.size<=8):Calls Tryz.prog 26 #[.string s] w (aOa (qv s) w):=by
 obtain⟨W,hW⟩:=eqx (w.alloc (.cells #[.bool false,.slice none 0 0,.bool false,.slice none 0 0] 69))
 have hbW:Below w.heap.size w W:=by rw[<-hW];exact bal
 have HB0:Hid (Blk W w.heap.size 69 #[.bool false,.slice none 0 0,.bool false,.slice none 0 0]):=zh (by rw[<-hW];exact Blk.new _ _ _)
 have HWW:=zh hW
 have HR:=zh (aMj s W hs)
 clear hW
 go_enter Tryz.func26,Tryz.ntmps26
 go_upto_region 1 with(fail)
 rw[HWW.o]
 go_wp2_with (fail)
 refine HR.o.mono ?_
 rintro e w1 ⟨hb1,⟨hr,x,A,n,c,y,B,m,d,rfl⟩|⟨b,n,m,hr,hn,hm,hm0,N,cn,D,cd,rfl,hN,hD⟩⟩
 ·have hq:=aFZ hr
  obtain⟨V,hV⟩:=eqx (w1.alloc (.cells #[.bool x,.slice A n c,.bool y,.slice B m d] 69))
  have hbV:Below W.heap.size W V:=by rw[<-hV];exact hb1.alloc hb1.size _
  have Y:=HB0.o.keep hbV HB0.o.lt;obtain⟨y0,y1,y2,y3,f0,f1,f2,f3⟩:=Y.four;have HV:=zh hV;have HQ:=zh hq;clear hV hr hq;go_upto_region 2 with(fail);rw[HV.o];go_wp2;obtain⟨g0,g1,g2,g3,_⟩:=(wK (a':=.bool false) (b':=.slice none 0 0) (c':=.bool false) (d':=.slice none 0 0) Y).four;refine aO (v:=.agg #[.bool false,.slice none 0 0,.bool false,.slice none 0 0]) (by simp[results,Tryz.results26,go_sem,g0,g1,g2,g3]) rfl ⟨_,rfl,⟨none,0,none,0,?_,?_,?_⟩,Below.four (dW hbW hbV) (aA _)⟩
  ·rw[HQ.o];change _=Value.agg #[.bool (decide ((0:Int)<0)),.slice none (dg (0:Nat)).length 0,.bool false,.slice none (dg (dnz 1)).length 0];rw[lK,jS];rfl
  ·rw[HQ.o];exact ND.zero _
  rw[HQ.o];change ND _ none 0 (dnz 1);rw[lK];exact ND.zero _
 obtain⟨e1,e2,e3⟩:=aJI hr
 obtain⟨ln,hln⟩:=eqx ((dg n).length);obtain⟨lm,hlm⟩:=eqx ((dg (dnz m)).length);rw[hln,hlm];obtain⟨V,hV⟩:=eqx (w1.alloc (.cells #[.bool b,.slice N ln cn,.bool false,.slice D lm cd] 69))
 have hal:Below w1.heap.size w1 V:=by rw[<-hV];exact bal
 have hbV:Below W.heap.size W V:=dW hb1 hal;have Y:=HB0.o.keep hbV HB0.o.lt
 have Y2:Blk V w1.heap.size 69 #[.bool b,.slice N ln cn,.bool false,.slice D lm cd]:=by rw[<-hV];exact Blk.new _ _ _
 have hne:w.heap.size≠w1.heap.size:=Nat.ne_of_lt (aH HB0.o.lt hb1.size);obtain⟨y0,y1,y2,y3,f0,f1,f2,f3⟩:=Y.four;obtain⟨x0,x1,x2,x3,_,_,_,_⟩:=Y2.four;have HV:=zh hV;have HN:=zh (hN.keep hal);have HD:=zh (hD.keep hal);have HE:=zh (And.intro e1 (And.intro e2 e3));have HL:=zh (And.intro hln hlm);obtain⟨g1,hg1⟩:=eqx (w1.heap.size);rw[hg1]at x0 x1 x2 x3 hne;have HG1:=zh hg1;clear hV hr hn hm hm0 hN hD e1 e2 e3 hln hlm Y2 hg1;go_upto_region 2 with(fail);rw[HV.o,HG1.o];go_wp2;obtain⟨g0,g1,g2,g3,_⟩:=(wK (a':=.bool b) (b':=.slice N ln cn) (c':=.bool false) (d':=.slice D lm cd) Y).four
 refine aO (v:=.agg #[.bool b,.slice N ln cn,.bool false,.slice D lm cd]) (by simp[results,Tryz.results26,go_sem,g0,g1,g2,g3]) rfl ⟨_,rfl,⟨N,cn,D,cd,?_,?_,?_⟩,Below.four (dW hbW hbV) (aA _)⟩
 ·rw[HE.o.1,HE.o.2.1,HE.o.2.2,HL.o.1,HL.o.2]
 ·rw[HE.o.2.1];exact HN.o.four Y (by decide)
 rw[HE.o.2.2];exact HD.o.four Y (by decide)
end Go.Proofs.Tg
namespace Go.Proofs.Tg
open Go.RowKit Go.Gr Go.Bn Go.Rq Go.Ps Go.Qn
theorem aHK (S:Option Addr)(cs n len:Nat)(ss:List ByteArray)(w:World)(hS:Sl w S ss.length 1 (ss.map Value.string))(hs:∀s∈ss,s.size<=8)(hlen:ss.length=len)(_hl:len<=1000000)(hn0:0<n)(hn:n<=1000):
    Calls Tryz.prog 9 #[.slice S len cs,.int .i64 (n:Nat),.bool false] w (aMT n n (sqR ss n false) w):=by
  have HBL:=zh (aHJ n n w hn hn);have HSS:=zh hS;have HSZ:=zh hs;have HLN:=zh hlen
  have i0:(0:Int)<(n:Int):=by omega
  have hnn:n*n<=1000000:=cE hn hn;unfold aMT at HBL;clear hS hs hlen;go_enter Tryz.func9,Tryz.ntmps9
  go_wp2_with (go_at_call 25;refine HBL.o.mono ?_;rintro e w1 ⟨g,c,xs,rfl,hX,hI,hb⟩;have HST0:Hid (aAZ w g c n n (sqP ss n 0 0) w1 xs):=zh ⟨hX,hI.mono λp q _ _=>by unfold sqP;rw[aJ (by omega)],hb⟩;clear hX hI hb HBL)
  go_loopw [8] (λs8 wr=>∃(i:Nat) (xs:List mN),s8=.int .i64 (i:Nat)/\i<=n/\Hid (aAZ w g c n n (sqP ss n i 0) wr xs)) (λs8 _=>n-(intOf s8).toNat)
  case atStart=>exact⟨0,xs,rfl,aW _,HST0⟩
  case round=>
   clear HST0;obtain⟨wo,rfl⟩:∃wo:World,wo=wr:=⟨_,rfl⟩;obtain⟨i,xs,rfl,hi,HS⟩:=hrel
   by_cases hin:i=n
   ·have e1:decide ((i:Int)<(n:Int))=false:=dF (by omega);have e1':decide (i<n)=false:=dF (by omega);have HSF:Hid (aAZ w g c n n (sqA ss n) wo xs):=zh ⟨HS.o.own,HS.o.is.mono λp q hp _=>by unfold sqP sqA;rw[aQ (by omega)],HS.o.below⟩;clear hin HS
    go_wp2
    go_loopw [10] (λs10 wr=>∃(i:Nat) (xs:List mN),s10=.int .i64 (i:Nat)/\i<=n/\Hid (aAZ w g c n n (syP (sqA ss n) i 0) wr xs)) (λs10 _=>n-(intOf s10).toNat)
    case atStart=>exact⟨0,xs,rfl,aW _,zh ⟨HSF.o.own,HSF.o.is.mono λp q _ _=>by unfold syP;rw[aJ (by omega)],HSF.o.below⟩⟩
    case round=>
     clear HSF;obtain⟨wo,rfl⟩:∃wo:World,wo=wr:=⟨_,rfl⟩;obtain⟨i,xs,rfl,hi,HS⟩:=hrel
     by_cases hin:i=n
     ·have e1:decide ((i:Int)<(n:Int))=false:=dF (by omega);have e1':decide (i<n)=false:=dF (by omega)
      have HSF:Hid (XIs xs n n (sqR ss n false)):=zh (HS.o.is.mono λp q hp _=>by
       unfold sqR syP;rw[aJ (by decide)]
       by_cases h:q<p
       ·rw[aQ h,aQ (by omega)]
       rw[aJ h,aJ (by omega)])
      clear hin;go_wp2;go_ret;exact⟨g,c,xs,rfl,HS.o.own,HSF.o,HS.o.below⟩
     have hil:i<n:=by omega
     have e1:decide ((i:Int)<(n:Int))=true:=dT (by omega);have e1':decide (i<n)=true:=dT hil
     have q0:(0:Int)<=(i:Int):=by omega
     have q1:(i:Int)<(n:Int):=by omega
     clear hin;go_wp2
     go_loopw [11] (λs11 wr=>∃(j:Nat) (xs:List mN),s11=.int .i64 (j:Nat)/\j<=i/\Hid (aAZ w g c n n (syP (sqA ss n) i j) wr xs)) (λs11 _=>i-(intOf s11).toNat)
     case atStart=>exact⟨0,xs,rfl,aW _,HS⟩
     case round=>
      clear HS;obtain⟨wj,rfl⟩:∃wj:World,wj=wr:=⟨_,rfl⟩;obtain⟨j,xs,rfl,hj,HS⟩:=hrel
      by_cases hjn:j=i
      ·have d1:decide ((j:Int)<(i:Int))=false:=dF (by omega);have d1':decide (j<i)=false:=dF (by omega);have HJN:=zh hjn;clear hjn;go_wp2;go_roundw
       case rel=>
        refine⟨i+1,xs,by go_num,by omega,zh ⟨HS.o.own,HS.o.is.mono λp q hp hq=>?_,HS.o.below⟩⟩;rw[HJN.o];exact aMX _ i p q
       case measure=>simp[intOf];omega
      have hji:j<i:=by omega
      have hjl:j<n:=by omega
      have d1:decide ((j:Int)<(i:Int))=true:=dT (by omega);have d1':decide (j<i)=true:=dT hji
      have p0:(0:Int)<=(j:Int):=by omega
      have p1:(j:Int)<(n:Int):=by omega
      have hxi:i<xs.length:=by rw[HS.o.is.1];exact hil
      have hxj:j<xs.length:=by rw[HS.o.is.1];exact hjl
      have hri:xs[i].rs.length=n:=(HS.o.is.2 i hxi).1;have hrj:xs[j].rs.length=n:=(HS.o.is.2 j hxj).1
      have hki:j<xs[i].rs.length:=by rw[hri];exact hjl
      have hkj:i<xs[j].rs.length:=by rw[hrj];exact hil
      have h0:=HS.o.own.hdr hxi;have h1:=HS.o.own.hdr hxj;rw[hri]at h0;rw[hrj]at h1;have nA:=HS.o.own.hdr_ne hxi;have nj:xs[j].g≠xs[i].g:=HS.o.own.row_ne hxj hxi (by omega);obtain⟨b2,N2,n2,c2,D2,m2,d2,hI2⟩:∃b2 N2 n2 c2 D2 m2 d2,xs[j].rs[i].Is b2 N2 n2 c2 D2 m2 d2:=⟨_,_,_,_,_,_,_,kO.is _⟩;obtain⟨b0,N0,n0,c0,D0,m0,d0,hI0⟩:∃b0 N0 n0 c0 D0 m0 d0,xs[i].rs[j].Is b0 N0 n0 c0 D0 m0 d0:=⟨_,_,_,_,_,_,_,kO.is _⟩;obtain⟨v0,v1,v2,v3,_,_,_,_⟩:=HS.o.own.cells hxj hkj hI2;obtain⟨gi,hgi⟩:=eqx (xs[i].g);obtain⟨gj,hgj⟩:=eqx (xs[j].g)
      have HCL:Hid (∀Z,Below wj.heap.size wj Z->Z.cell? ⟨gi,j*4,none⟩=some (.bool b0)/\Z.cell? ⟨gi,j*4+1,none⟩=some (.slice N0 n0 c0)/\Z.cell? ⟨gi,j*4+2,none⟩=some (.bool false)/\Z.cell? ⟨gi,j*4+3,none⟩=some (.slice D0 m0 d0)/\Z.frozen? ⟨gi,j*4,none⟩=false/\Z.frozen? ⟨gi,j*4+1,none⟩=false/\Z.frozen? ⟨gi,j*4+2,none⟩=false/\Z.frozen? ⟨gi,j*4+3,none⟩=false):=zh λZ hZ=>by rw[<-hgi];exact(HS.o.own.keep hZ).cells hxi hki hI0
      have HST:Hid (∀V,Below wj.heap.size wj V->∃xs',aAZ w g c n n (syP (sqA ss n) i (j+1)) (((((V.setCell ⟨gi,j*4,none⟩ (.bool b2)).setCell ⟨gi,j*4+1,none⟩ (.slice N2 n2 c2)).setCell ⟨gi,j*4+2,none⟩ (.bool false)).setCell ⟨gi,j*4+3,none⟩ (.slice D2 m2 d2))) xs'):=zh λV hV=>by
       have hok:=((HS.o.own.ok _ (aB hxj)).ok _ (aB hkj)).keep hV
       have h3:=HS.o.put hV hil hjl hok hI2 (a':=syP (sqA ss n) i (j+1)) λp q _ _=>by
        rw[(HS.o.is.2 j hxj).2 i hkj,aOM _ _ _ hji];exact aMW _ i j p q hji
       rw[hgi]at h3;exact⟨_,h3⟩
      rw[hgi]at h0 nA nj;rw[hgj]at h1 nj v0 v1 v2 v3;generalize xs[i].cap=ci at*;generalize xs[j].cap=cj at*;clear hjn hri hrj hki hkj hI2 hI0 hgi hgj;go_upto_region 18 with(fail)
      have kc:∀V,Below wj.heap.size wj V->V.cell? ⟨g,i,none⟩=some (.slice (some ⟨gi,0,none⟩) n ci)/\V.cell? ⟨g,j,none⟩=some (.slice (some ⟨gj,0,none⟩) n cj)/\V.cell? ⟨gj,i*4,none⟩=some (.bool b2)/\V.cell? ⟨gj,i*4+1,none⟩=some (.slice N2 n2 c2)/\V.cell? ⟨gj,i*4+2,none⟩=some (.bool false)/\V.cell? ⟨gj,i*4+3,none⟩=some (.slice D2 m2 d2):=λV h=>⟨gL h h0,gL h h1,gL h v0,gL h v1,gL h v2,gL h v3⟩
      have BZ:Below wj.heap.size wj wj.drew:=brf.drew;refine dG (S:=(λw'=>w'.cell? ⟨g,i,none⟩=some (.slice (some ⟨gi,0,none⟩) n ci)/\w'.cell? ⟨g,j,none⟩=some (.slice (some ⟨gj,0,none⟩) n cj)/\w'.cell? ⟨gj,i*4,none⟩=some (.bool b2)/\w'.cell? ⟨gj,i*4+1,none⟩=some (.slice N2 n2 c2)/\w'.cell? ⟨gj,i*4+2,none⟩=some (.bool false)/\w'.cell? ⟨gj,i*4+3,none⟩=some (.slice D2 m2 d2))) (by kernel_rfl) (kc _ BZ) (λhHeld=>?_);generalize wj.drew=Z at*;refine kW 0 63 (.slice (some ⟨g,0,none⟩) n c) rfl rfl (by kernel_rfl) (by kernel_rfl) (by rfl) hHeld ?_ ?_
      ·(intro w hSw;(try dsimp only at hSw);go_simp;all_goals(try with_reducible rfl))
      (try simp only[jA]);refine kW 1 64 (.int .i64 (i:Nat)) rfl rfl (by kernel_rfl) (by kernel_rfl) (by rfl) hHeld ?_ ?_
      ·(intro w hSw;(try dsimp only at hSw);go_simp;all_goals(try with_reducible rfl))
      (try simp only[jA]);refine kW 2 65 (.pointer (some ⟨g,i,none⟩)) rfl rfl (by kernel_rfl) (by kernel_rfl) (by rfl) hHeld ?_ ?_
      ·(intro w hSw;(try dsimp only at hSw);go_simp;all_goals(try with_reducible rfl))
      (try simp only[jA]);refine kW 3 66 (.slice (some ⟨gi,0,none⟩) n ci) rfl rfl (by kernel_rfl) (by kernel_rfl) (by rfl) hHeld ?_ ?_
      ·(intro w hSw;(try dsimp only at hSw);go_simp;all_goals(try with_reducible rfl))
      (try simp only[jA]);refine kW 4 67 (.int .i64 (j:Nat)) rfl rfl (by kernel_rfl) (by kernel_rfl) (by rfl) hHeld ?_ ?_
      ·(intro w hSw;(try dsimp only at hSw);go_simp;all_goals(try with_reducible rfl))
      (try simp only[jA]);refine kW 5 68 (.slice (some ⟨g,0,none⟩) n c) rfl rfl (by kernel_rfl) (by kernel_rfl) (by rfl) hHeld ?_ ?_
      ·(intro w hSw;(try dsimp only at hSw);go_simp;all_goals(try with_reducible rfl))
      (try simp only[jA]);refine kW 6 69 (.int .i64 (j:Nat)) rfl rfl (by kernel_rfl) (by kernel_rfl) (by rfl) hHeld ?_ ?_
      ·(intro w hSw;(try dsimp only at hSw);go_simp;all_goals(try with_reducible rfl))
      (try simp only[jA]);refine kW 7 70 (.pointer (some ⟨g,j,none⟩)) rfl rfl (by kernel_rfl) (by kernel_rfl) (by rfl) hHeld ?_ ?_
      ·(intro w hSw;(try dsimp only at hSw);go_simp;all_goals(try with_reducible rfl))
      (try simp only[jA]);refine kW 8 71 (.slice (some ⟨gj,0,none⟩) n cj) rfl rfl (by kernel_rfl) (by kernel_rfl) (by rfl) hHeld ?_ ?_
      ·(intro w hSw;(try dsimp only at hSw);go_simp;all_goals(try with_reducible rfl))
      (try simp only[jA]);refine kW 9 72 (.int .i64 (i:Nat)) rfl rfl (by kernel_rfl) (by kernel_rfl) (by rfl) hHeld ?_ ?_
      ·(intro w hSw;(try dsimp only at hSw);go_simp;all_goals(try with_reducible rfl))
      (try simp only[jA]);refine kW 10 73 (.pointer (some ⟨gj,i*4,none⟩)) rfl rfl (by kernel_rfl) (by kernel_rfl) (by rfl) hHeld ?_ ?_
      ·(intro w hSw;(try dsimp only at hSw);go_simp;all_goals(try with_reducible rfl))
      (try simp only[jA]);refine kW 11 74 (.agg #[.bool b2,.slice N2 n2 c2,.bool false,.slice D2 m2 d2]) rfl rfl (by kernel_rfl) (by kernel_rfl) (by rfl) hHeld ?_ ?_
      ·(intro w hSw;(try dsimp only at hSw);go_simp;all_goals(try with_reducible rfl))
      (try simp only[jA]);refine kW 12 75 (.pointer (some ⟨gi,j*4,none⟩)) rfl rfl (by kernel_rfl) (by kernel_rfl) (by rfl) hHeld ?_ ?_
      ·(intro w hSw;(try dsimp only at hSw);go_simp;all_goals(try with_reducible rfl))
      (try simp only[jA]);refine iO (rs:=[13]) (by kernel_rfl) (by simp) ?_
      refine tI rfl λK hK=>?_
      obtain⟨s0,s1,s2,s3,f0,f1,f2,f3⟩:=HCL.o Z BZ;have HNEW:=zh (HST.o _ BZ);go_simp;refine hK.o _ _ ⟨oK (gL BZ h0) nA,oK (gL BZ h1) nA,oK (gL BZ v0) nj,oK (gL BZ v1) nj,oK (gL BZ v2) nj,oK (gL BZ v3) nj⟩ (λhHeld=>?_);clear hK K s0 s1 s2 s3 f0 f1 f2 f3;(try simp only[jA]);refine fD (by kernel_rfl) ?_ _;go_wp2;go_roundw
      case rel=>
       obtain⟨xs',h⟩:=HNEW.o;exact⟨j+1,xs',by go_num,by omega,zh h⟩
      case measure=>simp[intOf];omega
   have hil:i<n:=by omega
   have e1:decide ((i:Int)<(n:Int))=true:=dT (by omega);have e1':decide (i<n)=true:=dT hil
   have q0:(0:Int)<=(i:Int):=by omega
   have q1:(i:Int)<(n:Int):=by omega
   have hmi:i*n<=1000*1000:=cE (by omega) hn
   have ec:(i:Int)*(n:Int)=((i*n:Nat):Int):=by push_cast;rfl
   have wm:IntKind.i64.wrap ((i:Int)*(n:Int))=(i:Int)*(n:Int):=IntWalk.i64_in _ (by rw[ec];omega);have EC:=zh ec;clear ec;clear hin;go_wp2
   go_loopw [9] (λs9 wr=>∃(j:Nat) (xs:List mN),s9=.int .i64 (j:Nat)/\j<=n/\Hid (aAZ w g c n n (sqP ss n i j) wr xs)) (λs9 _=>n-(intOf s9).toNat)
   case atStart=>exact⟨0,xs,rfl,aW _,HS⟩
   case round=>
    clear HS;obtain⟨wj,rfl⟩:∃wj:World,wj=wr:=⟨_,rfl⟩;obtain⟨j,xs,rfl,hj,HS⟩:=hrel
    by_cases hjn:j=n
    ·have d1:decide ((j:Int)<(n:Int))=false:=dF (by omega);have d1':decide (j<n)=false:=dF (by omega);have HJN:=zh hjn;clear hjn;go_wp2;go_roundw
     case rel=>
      refine⟨i+1,xs,by go_num,by omega,zh ⟨HS.o.own,HS.o.is.mono λp q hp hq=>?_,HS.o.below⟩⟩;rw[HJN.o];exact aMV ss n i p q hq
     case measure=>simp[intOf];omega
    have hjl:j<n:=by omega
    have d1:decide ((j:Int)<(n:Int))=true:=dT (by omega);have d1':decide (j<n)=true:=dT hjl
    have p0:(0:Int)<=(j:Int):=by omega
    have p1:(j:Int)<(n:Int):=by omega
    have wa:IntKind.i64.wrap ((i:Int)*(n:Int)+(j:Int))=(i:Int)*(n:Int)+(j:Int):=IntWalk.i64_in _ (by rw[EC.o];omega)
    have tn:((i:Int)*(n:Int)+(j:Int)).toNat=i*n+j:=by rw[EC.o];omega
    by_cases hlt:i*n+j<len
    ·have k1:decide ((i:Int)*(n:Int)+(j:Int)<(len:Int))=true:=dT (by rw[EC.o];omega);have k1':decide (i*n+j<len)=true:=dT hlt
     have r0:(0:Int)<=(i:Int)*(n:Int)+(j:Int):=by rw[EC.o];omega
     have r1:(i:Int)*(n:Int)+(j:Int)<(len:Int):=by rw[EC.o];omega
     have hlt':i*n+j<ss.length:=by rw[HLN.o];exact hlt
     obtain⟨sd,hSd,y0⟩:=Sl.at1 HSS.o (k:=i*n+j) hlt';subst hSd;rw[dP]at y0;obtain⟨tx,htx⟩:=eqx (ss[i*n+j]);have HTV:Hid (svT ss (i*n+j)=qv tx):=zh (by unfold svT;rw[jP hlt',htx])
     have htz:tx.size<=8:=by rw[<-htx];exact HSZ.o _ (aB _)
     rw[htx]at y0;have hsl:=bQ w _ y0;have y0:=gL HS.o.below y0
     have hxi:i<xs.length:=by rw[HS.o.is.1];exact hil
     have hri:xs[i].rs.length=n:=(HS.o.is.2 i hxi).1
     have hki:j<xs[i].rs.length:=by rw[hri];exact hjl
     have h0:=HS.o.own.hdr hxi;rw[hri]at h0;have nA:=HS.o.own.hdr_ne hxi;have hbk:=HS.o.own.row_base hxi;obtain⟨b0,N0,n0,c0,D0,m0,d0,hI0⟩:∃b0 N0 n0 c0 D0 m0 d0,xs[i].rs[j].Is b0 N0 n0 c0 D0 m0 d0:=⟨_,_,_,_,_,_,_,kO.is _⟩;obtain⟨gi,hgi⟩:=eqx (xs[i].g)
     have HCL:Hid (∀Z,Below wj.heap.size wj Z->Z.cell? ⟨gi,j*4,none⟩=some (.bool b0)/\Z.cell? ⟨gi,j*4+1,none⟩=some (.slice N0 n0 c0)/\Z.cell? ⟨gi,j*4+2,none⟩=some (.bool false)/\Z.cell? ⟨gi,j*4+3,none⟩=some (.slice D0 m0 d0)/\Z.frozen? ⟨gi,j*4,none⟩=false/\Z.frozen? ⟨gi,j*4+1,none⟩=false/\Z.frozen? ⟨gi,j*4+2,none⟩=false/\Z.frozen? ⟨gi,j*4+3,none⟩=false):=zh λZ hZ=>by rw[<-hgi];exact(HS.o.own.keep hZ).cells hxi hki hI0
     have HNU:Hid (∀V,Calls Tryz.prog 26 #[.string tx] V (mR (qv tx) V)):=zh λV=>(aPH tx V htz).mono λ_ _ h=>h.r
     have HST:Hid (∀V b3 N3 n3 c3 D3 m3 d3,Below wj.heap.size wj V->(∃r:kO,r.Is b3 N3 n3 c3 D3 m3 d3/\r.q=qv tx/\r.Ok V)->∃xs',aAZ w g c n n (sqP ss n i (j+1)) (((((V.setCell ⟨gi,j*4,none⟩ (.bool b3)).setCell ⟨gi,j*4+1,none⟩ (.slice N3 n3 c3)).setCell ⟨gi,j*4+2,none⟩ (.bool false)).setCell ⟨gi,j*4+3,none⟩ (.slice D3 m3 d3))) xs'):=zh λV b3 N3 n3 c3 D3 m3 d3 hV hR=>by
      obtain⟨r,hI,hrq,hok⟩:=hR
      have h3:=HS.o.put hV hil hjl hok hI (a':=sqP ss n i (j+1)) λp q _ _=>by
       rw[hrq,<-HTV.o];exact aGt ss n i j p q
      rw[hgi]at h3;exact⟨_,h3⟩
     rw[hgi]at h0 nA hbk;generalize xs[i].cap=ci at*
     have nS:(sd.add (i*n+j)).block≠gi:=by rw[kK]at hsl ⊢;omega
     unfold mR at HNU;clear hjn hri hki hI0 hgi htx hlt' hsl hbk htz;go_upto_region 9 with(fail)
     have kc:∀V,Below wj.heap.size wj V->V.cell? ⟨g,i,none⟩=some (.slice (some ⟨gi,0,none⟩) n ci)/\V.cell? (sd.add (i*n+j))=some (.string tx):=λV h=>⟨gL h h0,gL h y0⟩
     have BZ:Below wj.heap.size wj wj.drew:=brf.drew;refine dG (S:=(λw'=>w'.cell? ⟨g,i,none⟩=some (.slice (some ⟨gi,0,none⟩) n ci)/\w'.cell? (sd.add (i*n+j))=some (.string tx))) (by kernel_rfl) (kc _ BZ) (λhHeld=>?_);generalize wj.drew=Z at*;refine kW 0 33 (.slice (some ⟨g,0,none⟩) n c) rfl rfl (by kernel_rfl) (by kernel_rfl) (by rfl) hHeld ?_ ?_
     ·(intro w hSw;(try dsimp only at hSw);go_simp;all_goals(try with_reducible rfl))
     (try simp only[jA]);refine kW 1 34 (.int .i64 (i:Nat)) rfl rfl (by kernel_rfl) (by kernel_rfl) (by rfl) hHeld ?_ ?_
     ·(intro w hSw;(try dsimp only at hSw);go_simp;all_goals(try with_reducible rfl))
     (try simp only[jA]);refine kW 2 35 (.pointer (some ⟨g,i,none⟩)) rfl rfl (by kernel_rfl) (by kernel_rfl) (by rfl) hHeld ?_ ?_
     ·(intro w hSw;(try dsimp only at hSw);go_simp;all_goals(try with_reducible rfl))
     (try simp only[jA]);refine kW 3 36 (.slice (some ⟨gi,0,none⟩) n ci) rfl rfl (by kernel_rfl) (by kernel_rfl) (by rfl) hHeld ?_ ?_
     ·(intro w hSw;(try dsimp only at hSw);go_simp;all_goals(try with_reducible rfl))
     (try simp only[jA]);refine kW 4 37 (.int .i64 (j:Nat)) rfl rfl (by kernel_rfl) (by kernel_rfl) (by rfl) hHeld ?_ ?_
     ·(intro w hSw;(try dsimp only at hSw);go_simp;all_goals(try with_reducible rfl))
     (try simp only[jA]);refine kW 5 38 (.slice (some sd) len cs) rfl rfl (by kernel_rfl) (by kernel_rfl) (by rfl) hHeld ?_ ?_
     ·(intro w hSw;(try dsimp only at hSw);go_simp;all_goals(try with_reducible rfl))
     (try simp only[jA]);refine kW 6 39 (.int .i64 (i:Nat)) rfl rfl (by kernel_rfl) (by kernel_rfl) (by rfl) hHeld ?_ ?_
     ·(intro w hSw;(try dsimp only at hSw);go_simp;all_goals(try with_reducible rfl))
     (try simp only[jA]);refine kW 7 40 (.int .i64 (n:Nat)) rfl rfl (by kernel_rfl) (by kernel_rfl) (by rfl) hHeld ?_ ?_
     ·(intro w hSw;(try dsimp only at hSw);go_simp;all_goals(try with_reducible rfl))
     (try simp only[jA]);refine kW 8 41 (.int .i64 ((i:Int)*(n:Int))) rfl rfl (by kernel_rfl) (by kernel_rfl) (by rfl) hHeld ?_ ?_
     ·(intro w hSw;(try dsimp only at hSw);go_simp;all_goals(try with_reducible rfl))
     (try simp only[jA]);refine kW 9 42 (.int .i64 (j:Nat)) rfl rfl (by kernel_rfl) (by kernel_rfl) (by rfl) hHeld ?_ ?_
     ·(intro w hSw;(try dsimp only at hSw);go_simp;all_goals(try with_reducible rfl))
     (try simp only[jA]);refine kW 10 43 (.int .i64 ((i:Int)*(n:Int)+(j:Int))) rfl rfl (by kernel_rfl) (by kernel_rfl) (by rfl) hHeld ?_ ?_
     ·(intro w hSw;(try dsimp only at hSw);go_simp;all_goals(try with_reducible rfl))
     (try simp only[jA]);refine kW 11 44 (.pointer (some (sd.add (i*n+j)))) rfl rfl (by kernel_rfl) (by kernel_rfl) (by rfl) hHeld ?_ ?_
     ·(intro w hSw;(try dsimp only at hSw);go_simp;all_goals(try with_reducible rfl))
     (try simp only[jA]);refine kW 12 45 (.string tx) rfl rfl (by kernel_rfl) (by kernel_rfl) (by rfl) hHeld ?_ ?_
     ·(intro w hSw;(try dsimp only at hSw);go_simp;all_goals(try with_reducible rfl))
     (try simp only[jA]);refine iO (rs:=[13]) (by kernel_rfl) (by simp) ?_
     refine tI rfl λK hK=>?_
     go_simp
     with_reducible refine bE (HNU.o _) ?_
     rintro e Z1 ⟨b3,N3,n3,c3,D3,m3,d3,rfl,HV3,hb⟩;have BZ1:=dW BZ hb;clear hb;(try go_simp);refine hK.o _ _ (kc _ BZ1) (λhHeld=>?_);clear hK K;(try simp only[jA]);refine kW 14 47 (.pointer (some ⟨gi,j*4,none⟩)) rfl rfl (by kernel_rfl) (by kernel_rfl) (by rfl) hHeld ?_ ?_
     ·(intro w hSw;(try dsimp only at hSw);go_simp;all_goals(try with_reducible rfl))
     (try simp only[jA]);obtain⟨Zq,rfl⟩:∃x,x=Z1:=⟨_,rfl⟩;have BZq:=BZ1;clear BZ1;rotate_left
     all_goals
       refine iO (rs:=[15]) (by kernel_rfl) (by simp) ?_
       refine tI rfl λK hK=>?_
       obtain⟨s0,s1,s2,s3,f0,f1,f2,f3⟩:=HCL.o Zq BZq;have HNEW:=zh (HST.o _ _ _ _ _ _ _ _ BZq HV3.o);go_simp;refine hK.o _ _ ⟨oK (gL BZq h0) nA,oK (gL BZq y0) nS⟩ (λhHeld=>?_);clear hK K s0 s1 s2 s3 f0 f1 f2 f3;(try simp only[jA]);refine fD (by kernel_rfl) ?_ _;go_wp2;go_roundw
       case rel=>
        obtain⟨xs',h⟩:=HNEW.o;exact⟨j+1,xs',by go_num,by omega,zh h⟩
       case measure=>simp[intOf];omega
    have k1:decide ((i:Int)*(n:Int)+(j:Int)<(len:Int))=false:=dF (by rw[EC.o];omega);have k1':decide (i*n+j<len)=false:=dF hlt;have HLT:=zh hlt;clear hjn hlt;go_wp2;go_roundw
    case rel=>exact⟨j+1,xs,by go_num,by omega,zh ⟨HS.o.own,HS.o.is.mono λp q _ _=>aKU ss n i j p q (by rw[HLN.o];have:=HLT.o;omega),HS.o.below⟩⟩
    case measure=>simp[intOf];omega
end Go.Proofs.Tg
