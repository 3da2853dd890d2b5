/- Parts of the proof. -/
import Derived.Lib.AppendZeros
import Derived.Test.YtabdoikbodjidaaGreatDoorMBO9
set_option maxHeartbeats 64000000
set_option maxRecDepth 100000
namespace Go.Proofs.Tg.Bk
open Go.RowKit Go.Gr Go.Sp Go.Ev Go.Pm
open Go.Proofs.Tg.Gp (lQ jU lF kS)
def aGL (l:List ByteArray):Array Value:=(l.map Value.string).toArray
def xP (w:World)(rs:List lQ):Prop:=∀r∈rs,Blk w r.1 9 (aGL (r.2.map tx))
theorem xP.keep {w w':World}{rs:List lQ}(h:xP w rs)(hb:Below w.heap.size w w'):xP w' rs:=λr hr=>(h r hr).keep hb (h r hr).lt
theorem aAk:(Tryz.prog.info? 9).map (λi=>(i.zero,i.size,i.bytes))=some (some (.string ⟨#[]⟩),1,16):=by kernel_rfl
theorem aGM:(Tryz.prog.info? 23).map (λi=>(i.zero,i.size,i.bytes))=some (some (.slice none 0 0),1,24):=by kernel_rfl
theorem aBv (n:Nat)(hn:n<=1000000)(w:World):(Instr.makeSlice 23 (.int .i64 (n:Int)) (.int .i64 (n:Int))).run Tryz.prog w=.ok (.slice (some ⟨w.heap.size,0,none⟩) n n) (w.alloc (.cells (madeCells #[.string ⟨#[]⟩] n) 9)):=by
 obtain⟨i0,hi,hz0,hz1,hz2⟩:=info_parts aAk
 have hr:=run_make (P:=Tryz.prog) w 23 9 i0 (.string ⟨#[]⟩) Tryz.underlying23 hi hz0 .i64 .i64 n n (by omega) (by omega) (by rw[hz2];omega) (by omega)
 rw[hz1,dI,dY]at hr
 exact hr
def part (r:List Int)(L k:Nat):Array Value:=((r.take k).map (λx=>Value.string (tx x))++List.replicate (L-k) (Value.string ⟨#[]⟩)).toArray
theorem xQ (r:List Int)(L:Nat):part r L 0=madeCells #[.string ⟨#[]⟩] L:=by
 rw[oJ]
 simp[part]
theorem aGN (r:List Int):part r r.length r.length=aGL (r.map tx):=by simp[part,aGL]
theorem aIB {r:List Int}{L k:Nat}(hl:r.length=L)(hk:k<L):(part r L k).setIfInBounds k (.string (tx (r[k]'(by omega))))=part r L (k+1):=by
 unfold part
 rw[fT]
 have h:=xN ((r.take k).map (λx=>Value.string (tx x))) (L-k) (Value.string ⟨#[]⟩) (.string (tx (r[k]'(by omega)))) (by omega)
 rw[aI,aS,dA (by omega)]at h
 rw[h,aD (by omega),bH,Nat.sub_add_eq]
 rfl
theorem aLO (r:List Int){L k:Nat}(hl:r.length=L)(hk:k<L):∃u,(part r L k)[k]?=some u:=by
 refine⟨_,jC ?_⟩
 simp[part]
 omega
structure aIC (w:World)(L c:Nat)(im:List (List Int))(wr:World)(i:Nat)(A:Option Addr)(cA:Nat)(rs:List lQ):Prop where
  below:Below w.heap.size w wr
  own:wr.ownsRow w.heap.size 23 1 (.slice A rs.length cA) rs.length (rs.map (jU L))
  rows:xP wr rs
  eq:rs.map Prod.snd=qE c im L i
theorem aIC.keep {w wr wz:World}{L c i cA:Nat}{im:List (List Int)}{A:Option Addr}{rs:List lQ}(h:aIC w L c im wr i A cA rs)(hb:Below wr.heap.size wr wz):aIC w L c im wz i A cA rs:=
  ⟨dW h.below hb,kL h.own hb (aA _),h.rows.keep hb,h.eq⟩
def aNw (L c:Nat)(im:List (List Int))(w:World)(e:Ending)(w':World):Prop:=∃A cA rs,e=.returned (.slice A rs.length cA)/\aIC w L c im w' L A cA rs
theorem aEq (I:Option Addr)(cI c L:Nat)(im:List (List Int))(w:World)(hI:jV w I im)(hp:∀p∈im,Perm L p)(hm:im.length<=64)(hL:L<=64)(hc:c<=64)(hs:aLL c im L)(hT:PT w):
    Calls Tryz.prog 45 #[.int .i64 c,.slice I im.length cI,.int .i64 L] w (aNw L c im w):=by
  have HI:=zh hI;have HP:=zh hp;have HS:=zh hs;have HT:=zh hT;obtain⟨j0,hj0,hjz0,hjz1,hjz2⟩:=info_parts aGM;clear hI hp hs hT;go_enter Tryz.func45,Tryz.ntmps45;go_wp2
  go_step3
  go_wp2
  go_step3
  go_wp2
  go_loopw [7,16] (λs7 s16 wr=>∃(i:Nat) (A:Option Addr) (cA:Nat) (rs:List lQ),s16=.int .i64 i/\i<=L/\s7=.slice A rs.length cA/\Hid (aIC w L c im wr i A cA rs)) (λ_ s16 _=>L-(intOf s16).toNat)
  case atStart=>exact⟨0,none,0,[],rfl,aW _,rfl,zh ⟨bM _ _,dR _ _ _ _,λr hr=>absurd hr (by simp),by simp[qE]⟩⟩
  case round=>
   obtain⟨wo,rfl⟩:∃wo:World,wo=wr:=⟨_,rfl⟩;obtain⟨i,A,cA,rs,rfl,hi,rfl,HST⟩:=hrel;have hbo:=HST.o.below
   by_cases hil:i<L
   ·have hmk:=nB L L (aA _) (by omega) wo;have B0:=Blk.new wo 3 (madeCells #[.int .i64 0] L);have hal:=dX (bM wo.heap.size wo) (aA _) (.cells (madeCells #[.int .i64 0] L) 3);rw[mD L,<-aAi c im L i]at B0;rw[mD L]at hmk;rw[mD L]at hal
    have e0:wo.alloc (.cells (madeCells #[.int .i64 0] L) 3)=wo.alloc (.cells (kU (List.replicate L 0)) 3):=by rw[mD L]
    try rw[aAi]at B0
    generalize hW:wo.alloc (.cells (kU (List.replicate L 0)) 3)=W at*;have HB0:Hid (Blk W wo.heap.size 3 (kU (wvT c im L i 0))):=zh B0;have HSUC:=zh (aGJ c im L i)
    have i0:(0:Int)<=(i:Int):=by omega
    have i1:(i:Int)<(L:Int):=by omega
    have i3:((i:Int)).toNat=i:=by omega
    clear B0 e0 hW;go_wp2;clear hmk
    go_loopw [23] (λs23 wi=>∃k:Nat,s23=.int .i64 k/\k<=im.length/\Hid (Blk wi wo.heap.size 3 (kU (wvT c im L i k)))/\Below wo.heap.size wo wi/\Hid (∀s (h:s<im.length),s<k->(i:Int)<=im[s].getD i 0)) (λs23 _=>im.length-(intOf s23).toNat)
    case atStart=>exact⟨0,rfl,aW _,HB0,hal,zh (λs _ h=>absurd h (by omega))⟩
    case round=>
     clear HB0 hal;obtain⟨wi,rfl⟩:∃wi:World,wi=wr:=⟨_,rfl⟩;obtain⟨k,rfl,hk,HBI,hbi,HLE⟩:=hrel
     by_cases hkl:k<im.length
     ·have hbw:=dW hbo hbi;obtain⟨ad,E,ce,rfl,hcw,hE⟩:=HI.o.at hkl;have hcell:=gL hbw hcw;have hpk:=HP.o im[k] (aB _);rw[hpk.1]at hcell
      have hik:i<im[k].length:=by rw[hpk.1];exact hil
      obtain⟨ee,rfl,hce⟩:=kP.at (hE.keep hbw) hik;obtain⟨p,hp⟩:∃p:Nat,im[k][i]=(p:Int):=⟨(im[k][i]).toNat,by have:=hpk.2.1 im[k][i] (aB _);omega⟩
      have hpL:p<L:=by have:=hpk.2.1 im[k][i] (aB _);omega
      rw[hp]at hce
      have hgd:im[k].getD i 0=(p:Int):=by simp[hik,hp]
      have HPL:Hid (plc im i k=p):=zh (by unfold plc;rw[show im.getD k []=im[k] by simp[hkl],hgd];omega)
      have k0:(0:Int)<=(k:Int):=by omega
      have k1:(k:Int)<(im.length:Int):=by omega
      have k3:((k:Int)).toNat=k:=by omega
      by_cases hpi:p<i
      ·have d1:decide ((p:Int)<(i:Int))=true:=dT (by omega);have d2:decide (p<i)=true:=dT hpi
       have HNX:Hid (qE c im L (i+1)=qE c im L i):=zh (by
        rw[HSUC.o]
        have:tK c im L i=none:=by
         unfold tK
         rw[aJ (λh=>by
          have:=h.1 im[k] (aB _);rw[hgd]at this
          omega)]
        rw[this];simp)
       clear hpk hE hcw hgd hp;generalize im[k]=m at*;go_wp2;go_roundw
       case rel=>exact⟨i+1,A,cA,rs,by go_num,by omega,rfl,zh ⟨dW hbo hbi,(HST.o.keep hbi).own,(HST.o.keep hbi).rows,by rw[HNX.o];exact HST.o.eq⟩⟩
       case measure=>simp[intOf];omega
      have d1:decide ((p:Int)<(i:Int))=false:=dF (by omega);have d2:decide (p<i)=false:=dF hpi
      have HLE2:Hid (∀s (h:s<im.length),s<k+1->(i:Int)<=im[s].getD i 0):=zh (λs h hs=>by
       by_cases he:s=k
       ·subst he;rw[hgd];omega
       exact HLE.o s h (by omega))
      have p0:(0:Int)<=(p:Int):=by omega
      have p1:(p:Int)<(L:Int):=by omega
      have p3:((p:Int)).toNat=p:=by omega
      have c0:=HBI.o.cell p;have f0:=HBI.o.frozen p;rw[nW _ (by rw[rH];exact hpL)]at c0;have hbd:=xO c im L i k _ (aB (by rw[rH];exact hpL:p<(wvT c im L i k).length))
      have HWS:Hid (∀y,sgn k c=y->(wvT c im L i k).set p ((wvT c im L i k)[p]'(by rw[rH];exact hpL)+y)=wvT c im L i (k+1)):=zh (λy hy=>by
       rw[aAj,HPL.o,hy]
       congr 2
       simp[rH,hpL])
      generalize (wvT c im L i k)[p]'(by rw[rH];exact hpL)=old at*;have w1:IntKind.i64.wrap (old+1)=old+1:=IntWalk.i64_in _ (by omega);have w2:IntKind.i64.wrap (old-1)=old-1:=IntWalk.i64_in _ (by omega);have e1:=aIe k c (by omega) (by omega);have e2:=mA (k&&& c) (by have:k&&& c<=k:=Nat.and_le_left;omega);have HON:=zh (λW=>aPc (k&&& c) W (by have:k&&& c<=k:=Nat.and_le_left;omega));obtain⟨z,hz⟩:=eqx (size (k&&& c))
      have hz64:z<=64:=by rw[<-hz];exact aMk _
      have hsg:sgn k c=if z%2=0 then 1 else -1:=by unfold sgn;rw[hz]
      rw[hz]at HON;clear hpk hE hcw hgd hp hpi hbd hz;generalize im[k]=m at*;generalize (k&&& c)=q at*
      by_cases hz2:z%2=0
      ·rw[aQ hz2]at hsg;have HST2:=zh (HWS.o _ hsg)
       have w4:((z:Nat):Int).tmod 2=0:=by have:((z:Nat):Int).tmod 2=((z%2:Nat):Int):=rfl;rw[this,hz2];rfl
       clear HWS hsg hz2
       go_wp2_with (go_at_call 78;refine(HON.o _).mono ?_;rintro e w5 ⟨rfl,rfl⟩)
       go_roundw
       case rel=>
        refine⟨k+1,by go_num,by omega,zh ?_,hJ hbi (aA _) _ _,HLE2⟩;have:=HBI.o.set p (.int .i64 (old+1));rw[nL,HST2.o]at this;exact this
       case measure=>simp[intOf];omega
      rw[aJ hz2]at hsg;have HST2:=zh (HWS.o _ hsg)
      have w4:((z:Nat):Int).tmod 2=1:=by have:((z:Nat):Int).tmod 2=((z%2:Nat):Int):=rfl;rw[this,show z%2=1 by omega];rfl
      clear HWS hsg hz2
      go_wp2_with (go_at_call 78;refine(HON.o _).mono ?_;rintro e w5 ⟨rfl,rfl⟩)
      go_roundw
      case rel=>
       refine⟨k+1,by go_num,by omega,zh ?_,hJ hbi (aA _) _ _,HLE2⟩;have:=HBI.o.set p (.int .i64 (old-1));rw[nL,show old-1=old+-1 by omega,HST2.o]at this;exact this
      case measure=>simp[intOf];omega
     obtain rfl:k=im.length:=by omega
     have dk:decide ((im.length:Int)<(im.length:Int))=false:=by simp
     have hbw:=dW hbo hbi
     have HLB:Hid (aEp im i):=zh (λp hp=>by
      obtain⟨j,hj,rfl⟩:=bI hp
      exact HLE.o j hj hj)
     have hB:Blk wi wo.heap.size 3 (kU (wv c im L i)):=HBI.o;have hvl:(wv c im L i).length=L:=rH _ _ _ _ _
     have HBD:Hid (∀x∈wv c im L i,-64<=x/\x<=64):=zh (λx hx=>by
      have:=xO c im L i im.length x hx
      omega)
     have HAR:Hid (tK c im L i=if (wv c im L i).getD i 0≠0 then some ((wv c im L i).map λx=>x.tdiv ((wv c im L i).getD i 0))else none):=zh (by
      unfold tK
      by_cases h0:(wv c im L i).getD i 0≠0
      ·rw[aQ ⟨HLB.o,h0⟩,aQ h0]
      rw[aJ (λh=>h0 h.2),aJ h0])
     clear HBI HLE HLB;generalize wv c im L i=v at*
     have hiv:i<v.length:=by rw[hvl];exact hil
     obtain⟨y,hy⟩:=eqx (v[i]);have hyb:=HBD.o v[i] (aB _);have c0:=hB.cell i;rw[nW _ hiv,hy]at c0;rw[hy]at hyb
     have hgd:v.getD i 0=y:=by simp[hiv,hy]
     rw[hgd]at HAR;have HB:=zh hB;have HVL:=zh hvl;clear hB hvl hgd hy hiv
     by_cases hy0:y=0
     ·subst hy0
      have HNX:Hid (qE c im L (i+1)=qE c im L i):=zh (by
       rw[HSUC.o,HAR.o]
       simp)
      go_wp2;go_roundw
      case rel=>exact⟨i+1,A,cA,rs,by go_num,by omega,rfl,zh ⟨dW hbo hbi,(HST.o.keep hbi).own,(HST.o.keep hbi).rows,by rw[HNX.o];exact HST.o.eq⟩⟩
      case measure=>simp[intOf];omega
     rw[aQ hy0]at HAR;have HSG:Hid (∀x∈v,Sg (x.tdiv y)):=zh (λx hx=>HS.o i hil _ HAR.o _ (gW hx));have HNX:Hid (qE c im L (i+1)=qE c im L i++[v.map λx=>x.tdiv y]):=zh (by rw[HSUC.o,HAR.o];rfl);have HRL:Hid ((v.map λx=>x.tdiv y).length=L):=zh (by rw[aI];exact HVL.o);have HRA:Hid (∀k (h:k<v.length) (h2:k<(v.map λx=>x.tdiv y).length),(v.map λx=>x.tdiv y)[k]=v[k].tdiv y):=zh (λk h h2=>by simp);have dy1:(y==0)=false:=aG.2 hy0;have dy2:decide (y=0)=false:=dF hy0;have hmk2:=aBv L (by omega) wi;have B2:=Blk.new wi 9 (madeCells #[.string ⟨#[]⟩] L);have hal2:=dX (bM wi.heap.size wi) (aA _) (.cells (madeCells #[.string ⟨#[]⟩] L) 9);generalize v.map (λx=>x.tdiv y)=r at*
     rw[<-xQ r L]at hmk2;rw[<-xQ r L]at B2;rw[<-xQ r L]at hal2;generalize hW2:wi.alloc (.cells (part r L 0) 9)=W2 at*;have HB2:=zh B2;clear B2 hW2 HAR;go_wp2;clear hmk2
     go_loopw [69] (λs69 wj=>∃k:Nat,s69=.int .i64 k/\k<=L/\Hid (Blk wj wi.heap.size 9 (part r L k))/\Below wi.heap.size wi wj) (λs69 _=>L-(intOf s69).toNat)
     case atStart=>exact⟨0,rfl,aW _,HB2,hal2⟩
     case round=>
      clear HB2 hal2;obtain⟨wj,rfl⟩:∃wj:World,wj=wr:=⟨_,rfl⟩;obtain⟨k,rfl,hk,HBJ,hbj⟩:=hrel
      by_cases hkL:k<L
      ·have hkv:k<v.length:=by rw[HVL.o];exact hkL
       have hkr:k<r.length:=by rw[HRL.o];exact hkL
       have HBW:=HB.o.keep hbj HB.o.lt;have cx:=HBW.cell k;have cy:=gL hbj c0;rw[nW _ hkv]at cx;obtain⟨x,hx⟩:=eqx (v[k]);have hxb:=HBD.o v[k] (aB _);have hsg:=HSG.o v[k] (aB _);have hra:=HRA.o k hkv hkr;rw[hx]at cx hxb hsg hra;obtain⟨z,hz⟩:=eqx (x.tdiv y);rw[hz]at hsg hra;have HFI:=zh (aCU z hsg wj (HT.o.keep (dW hbw hbj)));have HPS:Hid ((part r L k).setIfInBounds k (.string (tx z))=part r L (k+1)):=zh (by rw[<-hra];exact aIB HRL.o hkL);obtain⟨u,hu⟩:=aLO r HRL.o hkL;have HU:=zh hu
       have wz:IntKind.i64.wrap z=z:=by rcases hsg with rfl|rfl|rfl<;>decide
       have k0:(0:Int)<=(k:Int):=by omega
       have k1:(k:Int)<(L:Int):=by omega
       have k3:((k:Int)).toNat=k:=by omega
       clear HBW hx hxb hsg hra hu;generalize tx z=sz at*
       go_wp2_with (go_at_call 32;refine HFI.o.mono ?_;rintro e w6 ⟨rfl,hb6⟩
                    have B6:=HBJ.o.keep hb6 HBJ.o.lt;have g0:=B6.cell k;have g1:=B6.frozen k;rw[HU.o]at g0;have HB6:=zh B6
                    clear B6)
       go_roundw
       case rel=>
        refine⟨k+1,by go_num,by omega,zh ?_,hJ (dW hbj hb6) (aA _) _ _⟩;have:=HB6.o.set k (.string sz);rw[HPS.o]at this;exact this
       case measure=>simp[intOf];omega
      obtain rfl:k=L:=by omega
      have dk2:decide ((k:Int)<(k:Int))=false:=by simp
      have hbz:=dW hbw hbj;have hown:=(HST.o.keep (dW hbi hbj)).own;have hrow:=(HST.o.keep (dW hbi hbj)).rows;have hBJ:=HBJ.o;have hrl:=HRL.o
      have hBR:Blk wj wi.heap.size 9 (aGL (r.map tx)):=by
       rw[<-aGN r,hrl];exact hBJ
      have HBR:=zh hBR;have HROW:=zh hrow
      have hrl64:rs.length<=k:=by
       have h1:=bK List.length HST.o.eq;rw[aI]at h1
       have h2:(qE c im k i).length<=i:=by
        have:=List.length_filterMap_le (tK c im k) (List.range i)
        rwa [dS]at this
       omega
      clear hBJ hBR hrow hrl
      go_wp2_with (at_builtin
                   refine wpList_append_own_at _ rfl _ _ 98 rfl w.heap.size 23 j0 (.slice none 0 0) 1 24 Tryz.underlying98 hj0 hjz0 hjz1 hjz2 rfl (by decide) (.slice A rs.length cA) rs.length (rs.map (jU k)) rfl (hown.alloc _) ⟨wj.heap.size,0,none⟩ 1 1 [.slice (some ⟨wi.heap.size,0,none⟩) k k] rfl rfl (cell_one_new _ _ _) (by simp[Value.oneCell']) (by simp only[maxLen];omega) (by omega) (by have:=hbz.size;simp;omega) ?_;intro v7 w7 hown7 hg7 _ hat7;obtain⟨A7,c7,hv7,_,_⟩:=Sl.of_own hown7
                   subst hv7)
      go_roundw
      case rel=>
       have hal6:=dX (bM wj.heap.size wj) (aA _) (.cells #[.slice (some ⟨wi.heap.size,0,none⟩) k k] 23);have hox:=hown.alloc (.cells #[.slice (some ⟨wi.heap.size,0,none⟩) k k] 23);refine⟨i+1,A7,c7,rs++[(wi.heap.size,r)],by go_num,by omega,by simp,zh ⟨(hbz.alloc hbz.size _).grown hg7 (by have:=hbz.size;simp;omega) (λq hq=>(hox.lt q hq).1),?_,λt ht=>?_,?_⟩⟩
       ·rw[aC,bH,List.map_singleton];exact hown7
       ·rcases aK.1 ht with h|h
        ·have h1:=(HROW.o t h).keep hal6 (HROW.o t h).lt;exact h1.grown hg7 (kQ hox h1 (by decide))
        rw[aN.1 h];have h1:=HBR.o.keep hal6 HBR.o.lt;exact h1.grown hg7 (kQ hox h1 (by decide))
       rw[bH,HST.o.eq,HNX.o];rfl
      case measure=>simp[intOf];omega
   obtain rfl:i=L:=by omega
   have dk:decide ((i:Int)<(i:Int))=false:=by simp
   go_wp2
   try rw[Exit.noGoto_ret]
   go_ret;exact⟨A,cA,rs,rfl,HST.o⟩
end Go.Proofs.Tg.Bk
namespace Go.Proofs.Tg
open Go.RowKit Go.Qn
theorem pO (s:ByteArray)(w:World)(hs:s.size<=18)(hd:∀c∈s.data.toList,isD c=true):
    Calls Tryz.prog 138 #[.string s] w λe w'=>e=.returned (.int .i64 (val s.data.toList:Nat))/\w=w':=by
  have HD:=zh hd;have HL:=zh (mF s);clear hd;go_enter Tryz.func138,Tryz.ntmps138;go_wp2
  go_loop [3,7] (λs3 s7=>∃(k v:Nat),k<=s.size/\s7=.int .i64 k/\s3=.int .i64 v/\Hid (v=val (s.data.toList.take k)/\v<10^k)) (λ_ s7=>s.size-(intOf s7).toNat)
  case atStart=>exact⟨0,0,aW _,rfl,rfl,zh ⟨rfl,by decide⟩⟩
  case round=>
   obtain⟨k,v,hk,rfl,rfl,HV⟩:=hrel
   by_cases hlt:k<s.size
   ·have hlt':k<s.data.toList.length:=by rw[HL.o];exact hlt
    have hD:=HD.o s.data.toList[k] (aB _);obtain⟨d1,d2⟩:=aAf hD;have HX:Hid (val (s.data.toList.take (k+1))=10*v+(s[k].toNat-48)):=zh (by rw[aBr _ _ hlt',HV.o.1];rfl)
    have hv:v<100000000000000000:=aH HV.o.2 (by
     have:10^k<=10^17:=aP (by omega) (by omega)
     exact aR this (by decide))
    have HP:Hid (10*v+(s[k].toNat-48)<10^(k+1)):=zh (by
     have h1:=HV.o.2;rw[bS]
     have:s[k].toNat<=57:=by have h:=d2;change ((s[k].toNat:Int))<=57 at h;omega
     omega)
    have e1:(48:Int)<=(s[k].toNat:Int):=d1;have e2:(s[k].toNat:Int)<=57:=d2;clear hD d1 d2;go_wp2;go_round
    case rel=>exact⟨k+1,10*v+(s[k].toNat-48),by omega,by go_num,by go_num,zh ⟨HX.o.symm,HP.o⟩⟩
    case measure=>simp[intOf];omega
   obtain rfl:k=s.size:=by omega
   have d0:decide (s.size<s.size)=false:=by simp
   go_wp2;go_ret;refine⟨?_,rfl⟩;have:=HV.o.1;rw[bF (by rw[HL.o];exact aA _)]at this;rw[this];rfl
theorem aEm (a b:Nat)(w:World)(ha:a<1000000000000000000)(hb:b<1000000000000000000):
    Calls Tryz.prog 91 #[.int .i64 a,.int .i64 b] w λe w'=>e=.returned (.int .i64 (Nat.gcd a b:Nat))/\Below w.heap.size w w':=by
  go_enter Tryz.func91,Tryz.ntmps91;go_wp2
  go_loopw [0,1] (λs0 s1 wr=>∃(x y:Nat),s0=.int .i64 x/\s1=.int .i64 y/\x<1000000000000000000/\y<1000000000000000000/\Hid (Nat.gcd x y=Nat.gcd a b)/\Below w.heap.size w wr) (λ_ s1 _=>(intOf s1).toNat)
  case atStart=>exact⟨a,b,rfl,rfl,ha,hb,zh rfl,bM _ _⟩
  case round=>
   obtain⟨wo,rfl⟩:∃wo:World,wo=wr:=⟨_,rfl⟩;obtain⟨x,y,rfl,rfl,hx,hy,HG,hbw⟩:=hrel
   by_cases h0:y=0
   ·subst h0;go_wp2;go_ret;refine⟨?_,hbw⟩;have:=HG.o;rw[iY]at this;rw[this];rfl
   have hne:((y:Int)!=0)=true:=by simp[h0]
   have hne':((y:Int)==0)=false:=by simp[h0]
   have hm:Int.tmod (x:Int) (y:Int)=((x%y:Nat):Int):=by rw[Int.ofNat_tmod]
   have hlt:x%y<y:=bL _ (by omega);have hw:IntKind.i64.wrap (((x%y:Nat):Int))=((x%y:Nat):Int):=IntWalk.i64_in _ (by omega);have HG2:Hid (Nat.gcd y (x%y)=Nat.gcd a b):=zh (by rw[<-HG.o,fN y (x%y),<-Nat.gcd_rec,fN]);generalize x%y=r at*;go_wp2
   go_quiet (fail)
   go_wp2;go_roundw
   case rel=>exact⟨y,r,rfl,rfl,hy,by omega,HG2,jX hbw _⟩
   case measure=>simp[intOf];omega
def sg (b:Bool)(n:Nat):Int:=if b=true then -(n:Int)else n
def aLH (l:List UInt8)(w:World)(e:Ending)(w':World):Prop:=
  Below w.heap.size w w'/\((rd l=none/\e=.returned (.tuple #[.agg #[.int .i64 0,.int .i64 0],.bool false]))∨
    (∃b n d,rd l=some (b,n,d)/\n<1000000000/\d<1000000000/\e=.returned (.tuple #[.agg #[.int .i64 (sg b n),.int .i64 (d:Nat)],.bool true])))
theorem aIt (l:List UInt8)(h:pL l=true)(hl:l.length<=9):val l<1000000000:=by
 have h1:=kR l (lV.1 h).1
 have h2:10^l.length<=10^9:=aP (by omega) hl
 exact aH h1 (aR h2 (by decide))
theorem aFD (s:ByteArray)(w:World)(hs:s.size<=9):
    Calls Tryz.prog 90 #[.string s] w (aLH s.data.toList w):=by
  have HL:=zh (mF s);have hd20:decide ((20:Int)<(s.size:Int))=false:=dF (by omega);obtain⟨W0,hW0⟩:=eqx (w.alloc (.cells #[.int .i64 0,.int .i64 0] 112))
  have B2:Blk W0 w.heap.size 112 #[.int .i64 0,.int .i64 0]:=by rw[<-hW0];exact Blk.new _ _ _
  have hbA:Below w.heap.size w W0:=by rw[<-hW0];exact bal
  have HW0:=zh hW0;clear hW0;go_enter Tryz.func90,Tryz.ntmps90;go_upto_region 1 with(fail);rw[HW0.o];go_wp2_with (fail);refine(aCk s W0 (by omega)).mono ?_;rintro e w1 ⟨b,num,den,ok,rfl,HS,hb1⟩;have hc:=vF HS
  have hnl:num.length<=9:=by have:=HS.1;rw[HL.o]at this;omega
  have hdl:den.length<=9:=by have:=HS.2.1;rw[HL.o]at this;omega
  clear HS;go_upto_region 4 with(fail);obtain⟨W1,hW1⟩:=eqx (w1.alloc (.cells #[.bool b,.string (bs num),.string (bs den)] 173))
  have C2:Blk W1 w.heap.size 112 #[.int .i64 0,.int .i64 0]:=by rw[<-hW1];exact(B2.keep hb1 B2.lt).alloc _
  have C4:Blk W1 w1.heap.size 173 #[.bool b,.string (bs num),.string (bs den)]:=by rw[<-hW1];exact Blk.new _ _ _
  have hbB:Below w.heap.size w W1:=by rw[<-hW1];have:=dW hbA hb1;exact this.alloc this.size _
  have hz1:w.heap.size<w1.heap.size:=by have:=B2.lt;have:=hb1.size;omega
  rw[hW1];clear hW1 B2 hb1 hbA;obtain⟨a0,a1,a2,a3⟩:=C2.two;obtain⟨p0,p1,p2,_,_,_⟩:=C4.three;have hz2:=C4.lt;have hz3:=C2.lt
  have l1:decide ((9:Int)<((bs num).size:Int))=false:=by rw[kA];exact dF (by omega)
  have l2:decide ((9:Int)<((bs den).size:Int))=false:=by rw[kA];exact dF (by omega)
  rcases hc with⟨rfl,hr⟩|⟨rfl,n1,_,rfl,hr⟩|⟨rfl,n1,_,_,hdn,m1,v0,v1,hr⟩
  ·have HR:=zh hr;clear hr;go_wp2;refine aO (v:=.tuple #[.agg #[.int .i64 0,.int .i64 0],.bool false]) (by simp[results,Tryz.results90,go_sem,a0,a1]) rfl ⟨?_,.inl ⟨HR.o,rfl⟩⟩;exact hJ (hJ hbB (by omega) _ _) (by omega) _ _
  ·have HR:=zh hr;have hv:=aIt num n1 hnl;have HD:=zh (λW=>pO (bs num) W (by rw[kA];omega) (by rw[kG];exact(lV.1 n1).1));rw[kG]at HD
   have hbe:(bs []).toList.isEmpty=true:=by rw[jW];rfl
   have hbe':(bs []).toList=[]:=by rw[jW]
   clear hr n1;generalize val num=v at*
   go_upto_region 7 with(go_at_call 138;refine(HD.o _).mono ?_;rintro e w' ⟨rfl,rfl⟩)
   obtain⟨W2,hW2⟩:=eqx (W1.alloc (.cells #[.int .i64 v,.int .i64 1] 112))
   have D2:Blk W2 w.heap.size 112 #[.int .i64 0,.int .i64 0]:=by rw[<-hW2];exact C2.alloc _
   have D4:Blk W2 w1.heap.size 173 #[.bool b,.string (bs num),.string (bs [])]:=by rw[<-hW2];exact C4.alloc _
   have D6:Blk W2 W1.heap.size 112 #[.int .i64 v,.int .i64 1]:=by rw[<-hW2];exact Blk.new W1 _ _
   have hbC:Below w.heap.size w W2:=by rw[<-hW2];exact hbB.alloc hbB.size _
   rw[hW2];have hz4:=D2.lt;clear hW2 C2 C4 hbB a0 a1 a2 a3 p0 p1 p2;obtain⟨a0,a1,a2,a3⟩:=D2.two;obtain⟨p0,p1,p2,_,_,_⟩:=D4.three;obtain⟨x0,x1,x2,x3⟩:=D6.two
   cases b with
   |false=>
    go_wp2;refine aO (v:=.tuple #[.agg #[.int .i64 (sg false v),.int .i64 (1:Nat)],.bool true]) (by simp[results,Tryz.results90,go_sem,a0,a1,sg]) rfl ⟨?_,.inr ⟨false,v,1,HR.o,hv,by omega,rfl⟩⟩;exact hJ (hJ hbC (by omega) _ _) (by omega) _ _
   |true=>
    go_wp2;refine aO (v:=.tuple #[.agg #[.int .i64 (sg true v),.int .i64 (1:Nat)],.bool true]) (by simp[results,Tryz.results90,go_sem,a0,a1,sg]) rfl ⟨?_,.inr ⟨true,v,1,HR.o,hv,by omega,rfl⟩⟩;exact hJ (hJ (hJ hbC (by omega) _ _) (by omega) _ _) (by omega) _ _
  have HR:=zh hr;have hv:=aIt num n1 hnl;have hu:=aIt den m1 hdl;have HD:=zh (λW=>pO (bs num) W (by rw[kA];omega) (by rw[kG];exact(lV.1 n1).1));have HE:=zh (λW=>pO (bs den) W (by rw[kA];omega) (by rw[kG];exact(lV.1 m1).1));rw[kG]at HD HE
  have hbe:(bs den).toList.isEmpty=false:=by rw[jW];cases den;exact absurd rfl hdn;rfl
  have hbe':¬(bs den).toList=[]:=by rw[jW];exact hdn
  have HG:=zh (λW=>aEm (val num) (val den) W (by omega) (by omega));clear hr n1 m1 hdn v0 v1;generalize val num=v at*;generalize val den=u at*
  go_upto_region 9 with(first
    |(go_at_call 138;with_reducible refine bE (HD.o _) ?_;rintro e w' ⟨rfl,rfl⟩)
    |(go_at_call 138;with_reducible refine bE (HE.o _) ?_;rintro e w' ⟨rfl,rfl⟩))
  obtain⟨W2,hW2⟩:=eqx (W1.alloc (.cells #[.int .i64 v,.int .i64 u] 112))
  have D2:Blk W2 w.heap.size 112 #[.int .i64 0,.int .i64 0]:=by rw[<-hW2];exact C2.alloc _
  have D4:Blk W2 w1.heap.size 173 #[.bool b,.string (bs num),.string (bs den)]:=by rw[<-hW2];exact C4.alloc _
  have D6:Blk W2 W1.heap.size 112 #[.int .i64 v,.int .i64 u]:=by rw[<-hW2];exact Blk.new W1 _ _
  have hbC:Below w.heap.size w W2:=by rw[<-hW2];exact hbB.alloc hbB.size _
  rw[hW2];clear hW2 C2 C4 hbB a0 a1 a2 a3 p0 p1 p2;obtain⟨x0,x1,x2,x3⟩:=D6.two;go_wp2_with (fail);refine(HG.o _).mono ?_;rintro e w5 ⟨rfl,hb5⟩;have E2:=D2.keep hb5 D2.lt;have E4:=D4.keep hb5 D4.lt;have E6:=D6.keep hb5 D6.lt;have hbE:=dW hbC hb5;have hz4:=E2.lt;clear D2 D4 D6 hbC hb5 x0 x1 x2 x3;obtain⟨a0,a1,a2,a3⟩:=E2.two;obtain⟨p0,p1,p2,_,_,_⟩:=E4.three;obtain⟨x0,x1,x2,x3⟩:=E6.two
  by_cases hg:Nat.gcd v u=1
  ·have HR2:Hid (rd s.data.toList=some (b,v,u)):=zh (by rw[HR.o,aQ hg]);rw[hg];clear HR HG hg
   cases b with
   |false=>
    go_wp2;refine aO (v:=.tuple #[.agg #[.int .i64 (sg false v),.int .i64 u],.bool true]) (by simp[results,Tryz.results90,go_sem,a0,a1,sg]) rfl ⟨?_,.inr ⟨false,v,u,HR2.o,hv,hu,rfl⟩⟩;exact hJ (hJ hbE (by omega) _ _) (by omega) _ _
   |true=>
    go_wp2;refine aO (v:=.tuple #[.agg #[.int .i64 (sg true v),.int .i64 u],.bool true]) (by simp[results,Tryz.results90,go_sem,a0,a1,sg]) rfl ⟨?_,.inr ⟨true,v,u,HR2.o,hv,hu,rfl⟩⟩;exact hJ (hJ (hJ hbE (by omega) _ _) (by omega) _ _) (by omega) _ _
  have HR2:Hid (rd s.data.toList=none):=zh (by rw[HR.o,aJ hg])
  have hgb:(((Nat.gcd v u:Nat):Int)!=1)=true:=by simp;omega
  have hgb':(Nat.gcd v u==1)=false:=by simp[hg]
  have hgb'':(((Nat.gcd v u:Nat):Int)==1)=false:=aG.2 (by omega);clear HR HG hg;generalize Nat.gcd v u=g at*;go_wp2;refine aO (v:=.tuple #[.agg #[.int .i64 0,.int .i64 0],.bool false]) (by simp[results,Tryz.results90,go_sem,a0,a1]) rfl ⟨?_,.inl ⟨HR2.o,rfl⟩⟩;exact hJ (hJ hbE (by omega) _ _) (by omega) _ _
end Go.Proofs.Tg
namespace Go.Proofs.Tg
open Go.RowKit Go.Qn Go.Mo
theorem aEn (s:ByteArray)(w:World)(hs:s.size<=9)(hr:(rd s.data.toList).isSome=true):
    Calls Tryz.prog 68 #[.string s] w λe w'=>e=.returned (.bool true)/\Below w.heap.size w w':=by
  have HR:=zh hr;clear hr;go_enter Tryz.func68,Tryz.ntmps68;go_wp2_with (fail);refine(aFD s _ hs).mono ?_;rintro e w1 ⟨hb1,⟨hno,rfl⟩|⟨b,n,d,_,_,_,rfl⟩⟩
  ·have:=HR.o;rw[hno]at this
   cases this
  generalize sg b n=z;go_wp2;go_ret;exact⟨rfl,hb1.alloc hb1.size _⟩
end Go.Proofs.Tg
namespace Go.Proofs.Tg.Bk
open Go.RowKit Go.Gr Go.Sp Go.Ev Go.Pm Go.Qn
open Go.Proofs.Tg.Gp (lQ jU lF kS)
theorem aPj:Tryz.prog.underlying 3=some (.int .i64):=Tryz.underlying3
theorem aID (n:Nat)(w:World)(h0:0<n)(hn:n<=100000):
    Calls Tryz.prog 126 #[.slice none 0 0,.int .i64 n] w λe w'=>∃A c,e=.returned (.slice A 0 c)/\w'.ownsRow w.heap.size 9 1 (.slice A 0 c) 0 []/\Below w.heap.size w w':=by
  obtain⟨j0,hj0,hjz0,hjz1,hjz2⟩:=info_parts aAk
  have n1:(0:Int)<(n:Int):=by omega
  have hr:=λW=>Lib.run_append_nil_zeros (P:=Tryz.prog) W 23 3 23 9 j0 (.string ⟨#[]⟩) .i64 .i64 Tryz.underlying23 aPj hj0 hjz0 n h0 (by rw[hjz1];omega) (by omega) (by rw[hjz2];omega)
  have HR:=zh hr;have hge:=jM w n 0 9;have hle:=iM w n 0 9 (by simp only[maxLen];omega);clear hr;go_enter Tryz.func126,Tryz.ntmps126
  go_wp2_with (at_builtin;refine Lib.wpList_append_run _ rfl _ _ _ _ rfl _ _ rfl rfl _ _ (HR.o w) ?_)
  go_ret;refine⟨some ⟨w.heap.size,0,none⟩,_,rfl,⟨rfl,.inr ⟨_,_,_,rfl,aA _,Blk.new w.drew _ _,aW _,hle,?_,by simp⟩⟩,(brf.drew).alloc (aA _) _⟩;rw[Array.size_append,size_zeroCells,size_zeroCells];simp;omega
def aBs (rs:List lQ)(k:Nat):List Value:=((rs.take k).map λr=>r.2.map λx=>Value.string (tx x)).flatten
theorem aGO {rs:List lQ}{k:Nat}(h:k<rs.length):aBs rs (k+1)=aBs rs k++(rs[k].2.map λx=>Value.string (tx x)):=by
 unfold aBs
 rw[aD h,bH,jF]
 simp
theorem aEr {w:World}{g:Nat}{l:List Int}(h:Blk w g 9 (aGL (l.map tx))):∀j u,(l.map λx=>Value.string (tx x))[j]?=some u->w.cell? ((⟨g,0,none⟩:Addr).add j)=some u:=by
 intro j u hu
 rw[kI,bN,h.cell]
 unfold aGL
 rw[List.map_map]
 simpa using hu
theorem aEs (A:Option Addr)(cA L:Nat)(rs:List lQ)(w:World)(hA:Sl w A rs.length 1 (rs.map (jU L)))(hr:xP w rs)(hl:∀r∈rs,r.2.length=L)(h0:0<rs.length)(hL:0<L)(hm:rs.length<=64)(hL2:L<=64):
    Calls Tryz.prog 79 #[.slice A rs.length cA] w λe w'=>∃E c,e=.returned (.slice E (rs.length*L) c)/\w'.ownsRow w.heap.size 9 1 (.slice E (rs.length*L) c) (rs.length*L) (aBs rs rs.length)/\Below w.heap.size w w':=by
  have HA:=zh hA;have HR:=zh hr;have HL:=zh hl;obtain⟨j0,hj0,hjz0,hjz1,hjz2⟩:=info_parts aAk;clear hA hr hl;have hmL:rs.length*L<=4096:=cE hm hL2;have hmp:0<rs.length*L:=iJ h0 hL;go_enter Tryz.func79,Tryz.ntmps79;go_wp2
  go_loopw [3,11] (λs3 s11 wr=>∃k:Nat,s11=.int .i64 k/\k<=rs.length/\s3=.int .i64 (k*L:Nat)/\w=wr) (λ_ s11 _=>rs.length-(intOf s11).toNat)
  case atStart=>exact⟨0,rfl,aW _,by simp,rfl⟩
  case round=>
   obtain⟨k,rfl,hk,rfl,rfl⟩:=hrel
   by_cases hkl:k<rs.length
   ·obtain⟨ad,rfl,hc0⟩:=Sl.at1 HA.o hkl
    have hc:w.cell? (ad.add k)=some (.slice (some ⟨(rs[k]).1,0,none⟩) L L):=by simpa[jU]using hc0
    have q0:(0:Int)<=(k:Int):=by omega
    have q1:(k:Int)<(rs.length:Int):=by omega
    have q3:((k:Int)).toNat=k:=by omega
    have hkm:k*L<=4096:=aR (cE (eM hkl) (aA L)) hmL;have hs:(k+1)*L=k*L+L:=eV k L;clear hc0;obtain⟨q,hq⟩:=eqx (k*L);have HQ:Hid ((k+1)*L=q+L):=zh (by rw[hs,hq]);rw[hq]at hkm ⊢
    have w1:IntKind.i64.wrap ((q:Int)+(L:Int))=((q+L:Nat):Int):=by rw[<-iR];exact IntWalk.i64_in _ (by omega)
    have d1:decide ((((q+L:Nat)):Int)<0)=false:=dF (by omega);clear hs hq;generalize rs[k]=r at*;go_wp2;go_roundw
    case rel=>exact⟨k+1,by go_num,by omega,by rw[HQ.o];try rfl,trivial⟩
    case measure=>simp[intOf];omega
   obtain rfl:k=rs.length:=by omega
   have dk:decide ((rs.length:Int)<(rs.length:Int))=false:=by simp
   have HG:=zh (aID (rs.length*L) w hmp (by omega));obtain⟨q,hq⟩:=eqx (rs.length*L);rw[hq]at HG hmL hmp ⊢;have HQ:=zh hq;clear hq
   go_wp2_with (go_at_call 126;refine HG.o.mono ?_;rintro e w1 ⟨A1,c1,rfl,hown1,hb1⟩)
   have HOW:=zh hown1;clear hown1
   go_loopw [6,27] (λs6 s27 wr=>∃(j:Nat) (A2:Option Addr) (c2 n2:Nat),s27=.int .i64 j/\j<=rs.length/\s6=.slice A2 n2 c2/\Hid (n2=j*L)/\n2<=4096/\Hid (wr.ownsRow w.heap.size 9 1 (.slice A2 n2 c2) n2 (aBs rs j))/\Below w.heap.size w wr) (λ_ s27 _=>rs.length-(intOf s27).toNat)
   case atStart=>exact⟨0,A1,c1,0,rfl,aW _,rfl,zh (by simp),by omega,zh (by simpa[aBs]using HOW.o),hb1⟩
   case round=>
    clear HOW hb1;obtain⟨wo,rfl⟩:∃wo:World,wo=wr:=⟨_,rfl⟩;obtain⟨j,A2,c2,n2,rfl,hj,rfl,HN2,hn2,HOWN,hbo⟩:=hrel
    by_cases hjl:j<rs.length
    ·obtain⟨ad,rfl,hc0⟩:=Sl.at1 (HA.o.keep hbo) hjl
     have hc:wo.cell? (ad.add j)=some (.slice (some ⟨(rs[j]).1,0,none⟩) L L):=by simpa[jU]using hc0
     have q0:(0:Int)<=(j:Int):=by omega
     have q1:(j:Int)<(rs.length:Int):=by omega
     have q3:((j:Int)).toNat=j:=by omega
     have HFS:=zh (aGO hjl);have HRL:=zh (HL.o rs[j] (aB _));have hB:=(HR.o rs[j] (aB _)).keep hbo (HR.o rs[j] (aB _)).lt;have HCE:=zh (aEr hB);have hs:(j+1)*L<=rs.length*L:=cE (by omega) (aA L);rw[HQ.o,eV,<-HN2.o]at hs;have HN3:Hid (n2+L=(j+1)*L):=zh (by rw[eV,<-HN2.o]);clear hc0 hB;generalize rs[j]=r at*;have hown:=HOWN.o
     go_wp2_with (at_builtin
                  refine wpList_append_own_at _ rfl _ _ 23 rfl w.heap.size 9 j0 (.string ⟨#[]⟩) 1 16 Tryz.underlying23 hj0 hjz0 hjz1 hjz2 rfl (by decide) (.slice A2 n2 c2) n2 (aBs rs j) rfl hown ⟨r.1,0,none⟩ L L (r.2.map λx=>Value.string (tx x)) rfl (by rw[aI,HRL.o];omega) HCE.o (by intro u hu;obtain⟨x,_,rfl⟩:=aM.1 hu;rfl) (by simp only[maxLen];omega) (by omega) hbo.size ?_;intro v7 w7 hown7 hg7 _ hat7;obtain⟨A7,c7,hv7,_,_⟩:=Sl.of_own hown7
                  subst hv7)
     go_roundw
     case rel=>exact⟨j+1,A7,c7,n2+L,by go_num,by omega,rfl,HN3,by omega,zh (by rw[HFS.o];exact hown7),hbo.grown hg7 hbo.size (λq hq=>(hown.lt q hq).1)⟩
     case measure=>simp[intOf];omega
    obtain rfl:j=rs.length:=by omega
    have hn:n2=q:=by rw[HN2.o,HQ.o]
    subst hn;have HF:Hid (wo.ownsRow w.heap.size 9 1 (.slice A2 n2 c2) n2 (aBs rs rs.length)):=HOWN;go_wp2;go_ret;exact⟨A2,c2,by rw[HQ.o];rfl,by rw[HQ.o];exact HF.o,hbo⟩
end Go.Proofs.Tg.Bk
