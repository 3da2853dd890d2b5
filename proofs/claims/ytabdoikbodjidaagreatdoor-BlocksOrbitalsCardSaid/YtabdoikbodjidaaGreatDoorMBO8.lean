/- Parts of the proof. -/
import Derived.Deep.CutBlock
import Derived.Test.YtabdoikbodjidaaGreatDoorMBO7
set_option maxHeartbeats 64000000
set_option maxRecDepth 100000
namespace Go.Proofs.Tg.Bk
open Go.RowKit Go.Gr Go.Sp Go.Ev Go.Maps Go.WideShapes Go.Pm
theorem zN (n:Nat)(a:List Int)(l:List (List Int)):(img n a l).length=l.length:=by simp[img]
theorem aNL (n:Nat)(a:List Int)(l:List (List Int)){k:Nat}(h:k<(img n a l).length):(img n a l)[k]=((l.idxOf (mv n a (l[k]'(by rw[<-zN n a l];exact h))):Nat):Int):=by simp[img]
theorem aIw (el:List Int)(h:el.length=6):kU el=#[.int .i64 (el.getD 0 0),.int .i64 (el.getD 1 0),.int .i64 (el.getD 2 0),.int .i64 (el.getD 3 0),.int .i64 (el.getD 4 0),.int .i64 (el.getD 5 0)]:=by
 match el,h with
 |[a,b,c,d,e,f],_=>rfl
def vV (n:Nat)(a:List Int)(l:List (List Int))(w:World)(e:Ending)(w':World):Prop:=Below w.heap.size w w'/\
  ((¬lZ n a l/\e=.returned (.tuple #[.slice none 0 0,.bool false]))∨(lZ n a l/\e=.returned (.tuple #[.slice (some ⟨w.heap.size,0,none⟩) l.length l.length,.bool true])/\Blk w' w.heap.size 3 (kU (img n a l))))
theorem aCS (A L:Option Addr)(cA cL n mb cnt:Nat)(a:List Int)(l:List (List Int))(w:World)(hA:kP w A a)(ha:Perm n a)(hL:jV w L l)(hd:∀m∈l,pY n 48 m)(hn:n<=6)(hl:l.length<=1000)(hnd:l.Nodup)(hM:rS w mb cnt n l):
    Calls Tryz.prog 44 #[.slice A n cA,.slice L l.length cL,.map (some mb)] w (vV n a l w):=by
  have HL:=zh hL;have HD:=zh hd;have HA:=zh hA;have HPA:=zh ha;have HND:=zh hnd;have HM:=zh hM;have hmlt:=hM.lt;have HSL:Hid ((img n a l).length=l.length):=zh (zN n a l);have HSA:Hid (∀k (h:k<(img n a l).length) (h2:k<l.length),(img n a l)[k]=((l.idxOf (mv n a l[k]):Nat):Int)):=zh (λk h h2=>aNL n a l h);have HIM:Hid (img n a l=img n a l):=zh rfl;obtain⟨s,hs⟩:=eqx (img n a l);rw[hs]at HSL HSA;have HS:=zh hs;clear hL hd hA ha hnd hM hs HIM
  have hmk:=λW=>nB l.length l.length (aA _) (by omega) W
  go_enter Tryz.func44,Tryz.ntmps44;go_wp2;clear hmk
  go_loopw [21] (λs21 wr=>∃k:Nat,s21=.int .i64 k/\k<=l.length/\Hid (∀j (h:j<l.length),j<k->mv n a l[j]∈l)/\Hid (Blk wr w.heap.size 3 (kU (s.take k++List.replicate (l.length-k) 0)))/\Below w.heap.size w wr) (λs21 _=>l.length-(intOf s21).toNat)
  case atStart=>
   refine⟨0,rfl,aW _,zh (λj _ h=>absurd h (by omega)),zh ?_,bal⟩;have e:kU (s.take 0++List.replicate (l.length-0) 0)=madeCells #[.int .i64 0] l.length:=(mD l.length).symm;rw[e];exact Blk.new w 3 _
  case round=>
   obtain⟨wo,rfl⟩:∃wo:World,wo=wr:=⟨_,rfl⟩;obtain⟨k,rfl,hk,HIN,HB,hbo⟩:=hrel
   by_cases hkl:k<l.length
   ·obtain⟨ad,E,ce,rfl,hc0,hE⟩:=HL.o.at hkl;have hc:=gL hbo hc0
    have q0:(0:Int)<=(k:Int):=by omega
    have q1:(k:Int)<(l.length:Int):=by omega
    have q3:((k:Int)).toNat=k:=by omega
    have hdk:=HD.o l[k] (aB _);have hlen:=hdk.1;rw[hlen]at hc;have HDK:=zh hdk;have HLEN:=zh hlen;have HE:=zh (Sl.keep hE hbo);have HBK:Hid (Blk (wo.alloc (.cells z6 135)) wo.heap.size 135 (kU (mvF 6 a l[k] 0))):=zh (Blk.new _ _ _);have HSK:Hid (∀h:k<s.length,s[k]=((l.idxOf (mv n a l[k]):Nat):Int)):=zh (λh=>HSA.o k h hkl)
    have HSUC:Hid (mv n a l[k]∈l->∀j (h:j<l.length),j<k+1->mv n a l[j]∈l):=zh (λhx j h hj=>by
     by_cases he:j=k
     ·subst he;exact hx
     exact HIN.o j h (by omega))
    have HBAD:Hid (mv n a l[k]∉l->¬lZ n a l):=zh (λhx h=>hx (h _ (aB _)));have hsz:w.heap.size<=wo.heap.size:=hbo.size;clear hdk hlen hE hc0;generalize l[k]=m at*;go_upto_region 6 with(fail);have hh:(wo.alloc (.cells #[.int .i64 0,.int .i64 0,.int .i64 0,.int .i64 0,.int .i64 0,.int .i64 0] 135))=wo.alloc (.cells z6 135):=rfl;rw[hh];clear hh;have hbal:=dX (bM wo.heap.size wo) (aA _) (.cells z6 135);generalize wo.alloc (.cells z6 135)=wz at*;go_wp2
    go_loopw [28] (λs28 wi=>∃j:Nat,s28=.int .i64 j/\j<=n/\Hid (Blk wi wo.heap.size 135 (kU (mvF 6 a m j)))/\Below wo.heap.size wo wi) (λs28 _=>n-(intOf s28).toNat)
    case atStart=>exact⟨0,rfl,aW _,HBK,hbal⟩
    case round=>
     clear HBK hbal;obtain⟨wi,rfl⟩:∃wi:World,wi=wr:=⟨_,rfl⟩;obtain⟨j,rfl,hj,HBI,hbi⟩:=hrel
     by_cases hjn:j<n
     ·have hja:j<a.length:=by rw[HPA.o.1];exact hjn
      have hjm:j<m.length:=by rw[HLEN.o];exact hjn
      obtain⟨aa,rfl,hca⟩:=kP.at (Sl.keep (HA.o.keep hbo) hbi) hja;obtain⟨ee,rfl,hce⟩:=kP.at (Sl.keep HE.o hbi) hjm;obtain⟨x,hx⟩:∃x:Nat,a[j]=(x:Int):=⟨(a[j]).toNat,by have:=HPA.o.2.1 a[j] (aB _);omega⟩
      have hxn:x<n:=by have:=HPA.o.2.1 a[j] (aB _);omega
      have HST:Hid ((mvF 6 a m j).set x m[j]=mvF 6 a m (j+1)):=zh (by
       rw[sC,show a.getD j 0=(x:Int) by simp[hja,hx],show m.getD j 0=m[j] by simp[hjm]]
       rfl)
      rw[hx]at hca;have c0:=HBI.o.cell x;have f0:=HBI.o.frozen x;rw[nW _ (by rw[nO];omega)]at c0;generalize (mvF 6 a m j)[x]'(by rw[nO];omega)=old at c0;generalize m[j]=y at*
      have r0:(0:Int)<=(j:Int):=by omega
      have r1:(j:Int)<(n:Int):=by omega
      have r3:((j:Int)).toNat=j:=by omega
      have x0:(0:Int)<=(x:Int):=by omega
      have x1:(x:Int)<6:=by omega
      have x3:((x:Int)).toNat=x:=by omega
      clear hx;go_wp2;go_roundw
      case rel=>
       refine⟨j+1,by go_num,by omega,zh ?_,hJ hbi (aA _) _ _⟩;have:=HBI.o.set x (.int .i64 y);rw[nL,HST.o]at this;exact this
      case measure=>simp[intOf];omega
     obtain rfl:j=n:=by omega
     have hbw:=hbo.trans (hbi.mono hsz);have hmapi:=HM.o.below hbw hmlt;have HKV:Hid (mvF 6 a m j=kv (mv j a m)):=zh (aJa hn HPA.o j (aA _)).symm;have hmd:pY j 48 (mv j a m):=aFP (by omega) HDK.o j;obtain⟨c,hcc⟩:=eqx (decide (mv j a m∈l):Bool);obtain⟨z,hlook,hz⟩:=hmapi.look hmd hcc;have HZ:=zh hz;rw[aAd]at hlook;have hB6:=HBI.o;rw[aIw _ (nO _ _ _ _)]at hB6
     have hq:∀i,i<6->(mv j a m).getD i 0=(mvF 6 a m j).getD i 0:=λi hi=>by rw[HKV.o,zP _ hi]
     rw[hq 0 (by omega),hq 1 (by omega),hq 2 (by omega),hq 3 (by omega),hq 4 (by omega),hq 5 (by omega)]at hlook;obtain⟨⟨a0,a1,a2,a3,a4,a5⟩,_⟩:=six hB6;have HCC:=zh hcc;have hBo:=HB.o.keep hbi (by have:=HB.o.lt;exact this)
     have dj:decide ((j:Int)<(j:Int))=false:=by simp
     have HL0:=zh hB6;clear hB6 hq hz hcc hmapi;generalize (mvF 6 a m j).getD 0 0=v0 at*;generalize (mvF 6 a m j).getD 1 0=v1 at*;generalize (mvF 6 a m j).getD 2 0=v2 at*;generalize (mvF 6 a m j).getD 3 0=v3 at*;generalize (mvF 6 a m j).getD 4 0=v4 at*;generalize (mvF 6 a m j).getD 5 0=v5 at*
     cases c with
     |false=>
      go_wp2
      go_ret2
      exact⟨hbw,.inl ⟨HBAD.o (iA HCC.o),rfl⟩⟩
     |true=>
      have hin:=dQ HCC.o;have hzz:=HZ.o rfl HND.o;have HIN2:=zh (HSUC.o hin)
      have hks:k<s.length:=by rw[HSL.o];exact hkl
      have hsk:=HSK.o hks;rw[<-hzz]at hsk
      have hl2:(s.take k++List.replicate (l.length-k) 0).length=l.length:=by
       have:=HSL.o;rw[aC,aS,bU];omega
      have HST:Hid ((s.take k++List.replicate (l.length-k) 0).set k z=s.take (k+1)++List.replicate (l.length-(k+1)) 0):=zh (qW _ k _ _ HSL.o hkl hsk);have c0:=hBo.cell k;have f0:=hBo.frozen k;rw[nW _ (by rw[hl2];exact hkl)]at c0;generalize (s.take k++List.replicate (l.length-k) 0)[k]'(by rw[hl2];exact hkl)=old at c0;have HBO:=zh hBo;clear hBo hl2 hsk hks hzz hin HZ HSK HSUC HBAD;go_wp2;go_roundw
      case rel=>
       refine⟨k+1,by go_num,by omega,HIN2,zh ?_,hJ hbw (aA _) _ _⟩;have:=HBO.o.set k (.int .i64 z);rw[nL,HST.o]at this;exact this
      case measure=>simp[intOf];omega
   obtain rfl:k=l.length:=by omega
   have hB:=HB.o;have hsl:=HSL.o;rw[cP,fE,eA,bF (by omega),<-HS.o]at hB;have HBF:=zh hB
   have HAC:Hid (lZ n a l):=zh (λm hm=>by
    obtain⟨j,hj,rfl⟩:=bI hm
    exact HIN.o j hj hj)
   have dk:decide ((l.length:Int)<(l.length:Int))=false:=by simp
   clear hB hsl;go_wp2
   go_ret2
   exact⟨hbo,.inr ⟨HAC.o,rfl,HBF.o⟩⟩
theorem vV.yes {n:Nat}{a:List Int}{l:List (List Int)}{w w':World}{e:Ending}(h:vV n a l w e w')(ha:lZ n a l):Below w.heap.size w w'/\e=.returned (.tuple #[.slice (some ⟨w.heap.size,0,none⟩) l.length l.length,.bool true])/\Blk w' w.heap.size 3 (kU (img n a l)):=by
 rcases h with⟨hb,⟨h,_⟩|⟨_,h⟩⟩
 ·exact absurd ha h
 exact⟨hb,h⟩
theorem vV.no {n:Nat}{a:List Int}{l:List (List Int)}{w w':World}{e:Ending}(h:vV n a l w e w')(ha:¬lZ n a l):Below w.heap.size w w'/\e=.returned (.tuple #[.slice none 0 0,.bool false]):=by
 rcases h with⟨hb,⟨_,h⟩|⟨h,_⟩⟩
 ·exact⟨hb,h⟩
 exact absurd h ha
end Go.Proofs.Tg.Bk
namespace Go.Proofs.Tg
open Go.RowKit Go.Qn
def aLJ (l:List UInt8)(w:World)(e:Ending)(w':World):Prop:=
  ∃b num den ok,e=.returned (.tuple #[.agg #[.bool b,.string (bs num),.string (bs den)],.bool ok])/\pV l b num den ok/\Below w.heap.size w w'
theorem jW (l:List UInt8):(bs l).toList=l:=by rw[Lib.toList_data,kG]
theorem aPg {l:List UInt8}(h:l≠[]):0<(bs l).size:=by rw[kA];exact fF.2 h
theorem yP:bs []=ByteArray.empty:=rfl
theorem aCR {l:List UInt8}{N:ByteArray}(hN:bs l=N){h:0<N.size}{c:UInt8}(k:(((N[0]).toNat:Int)==(c.toNat:Int))=true):l.head?=some c:=by
 subst hN
 cases l with
 |nil=>exact absurd h (by decide)
 |cons x t=>
  have e:(x.toNat:Int)=(c.toNat:Int):=eq_of_beq k;have:x=c:=iT.1 (by omega);rw[this];rfl
theorem pP {l:List UInt8}{N:ByteArray}(hN:bs l=N){h:0<N.size}{c:UInt8}(k:(((N[0]).toNat:Int)==(c.toNat:Int))=false):l.head?≠some c:=by
 subst hN
 cases l with
 |nil=>simp
 |cons x t=>
  have e:¬(x.toNat:Int)=(c.toNat:Int):=ne_of_beq_false k;simp only[List.head?_cons,ne_eq,gG];rintro rfl;exact e rfl
def yQ (l:List UInt8)(w:World)(e:Ending)(w':World):Prop:=
  ∃b num den ok,e=.returned (.tuple #[.agg #[.bool b,.string (bs num),.string (bs den)],.bool ok])/\(pV l b num den ok/\b=(cut l).1/\num=(cut l).2.takeWhile isD/\(den=[]∨den=((cut l).2.dropWhile isD).tail.takeWhile isD))/\Below w.heap.size w w'
theorem oI {l den r:List UInt8}{b ok:Bool}{N D:ByteArray}{w w':World}(hden:den=[]∨den=(r.dropWhile isD).tail.takeWhile isD)(hc:cut l=(b,r))(hN:bs (r.takeWhile isD)=N)(hD:bs den=D)(h:pV l b (r.takeWhile isD) den ok)(hb:Below w.heap.size w w'):
    yQ l w (.returned (.tuple #[.agg #[.bool b,.string N,.string D],.bool ok])) w':=by
  subst hN hD;exact⟨b,_,den,ok,rfl,⟨h,by rw[hc],by rw[hc],by rw[hc];exact hden⟩,hb⟩
set_option maxHeartbeats 4000000 in
theorem zF (s:ByteArray)(w:World)(hs:s.size<=4000):
    Calls Tryz.prog 118 #[.string s] w (yQ s.data.toList w):=by
  obtain⟨b,r,hc⟩:∃b r,cut s.data.toList=(b,r):=⟨_,_,rfl⟩
  have HC:Hid (∀W,Calls Tryz.prog 161 #[.string s,.string ⟨#[45]⟩] W λe w'=>e=.returned (.tuple #[.string (bs r),.bool b])/\W=w'):=zh (λW=>by
   have:=aIv s W hs
   rwa [hc]at this)
  have hrl:r.length<=4000:=by
   have:=(rP hc).2;rw[mF]at this;omega
  obtain⟨N,hN⟩:=eqx (bs (r.takeWhile isD));obtain⟨R,hR⟩:=eqx (bs (r.dropWhile isD))
  have HD:Hid (∀W,Calls Tryz.prog 162 #[.string (bs r)] W λe w'=>e=.returned (.tuple #[.string N,.string R])/\Below W.heap.size W w'):=zh (λW=>by
   have:=zE (bs r) W (by rw[kA];exact hrl)
   rwa [kG,hN,hR]at this)
  have HN:=zh hN;have HR:=zh hR;have Hc:=zh hc;clear hN hR hc;go_enter Tryz.func118,Tryz.ntmps118
  go_wp2_with (go_at_call 161;refine(HC.o _).mono ?_;rintro e w' ⟨rfl,rfl⟩)
  with_reducible refine(HD.o _).mono ?_
  rintro e w1 ⟨rfl,hb1⟩
  have B4:Blk w1 (w.heap.size+1) 173 #[.bool b,.string ByteArray.empty,.string ByteArray.empty]:=by
   have:=(Blk.new (w.alloc (.cells #[.bool false,.string ByteArray.empty,.string ByteArray.empty] 173)) 173 #[.bool b,.string ByteArray.empty,.string ByteArray.empty]).keep hb1 (by simp);simpa using this
  have B2:Blk w1 w.heap.size 173 #[.bool false,.string ByteArray.empty,.string ByteArray.empty]:=
    ((Blk.new w 173 #[.bool false,.string ByteArray.empty,.string ByteArray.empty]).alloc _).keep hb1 (by simp;omega)
  have hbw:Below w.heap.size w w1:=((bal).alloc (by simp) _).trans (hb1.mono (by simp;omega));have hz:w.heap.size+1<w1.heap.size:=B4.lt;have HB4:=zh B4;have HB2:=zh B2;have c0:=B4.cell 0;have c1:=B4.cell 1;have c2:=B4.cell 2;have f0:=B4.frozen 0;have f1:=B4.frozen 1;have f2:=B4.frozen 2;have d0:=B2.cell 0;have d1:=B2.cell 1;have d2:=B2.cell 2;have e0:=B2.frozen 0;have e1:=B2.frozen 1;have e2:=B2.frozen 2;clear hb1 B4 B2;simp at c0 c1 c2 d0 d1 d2;go_wp2_with (fail)
  ·have t1:(N.toList==[48])=true:=by assumption
   have t2:b=true:=by assumption
   subst t2;refine aO (v:=.tuple #[.agg #[.bool true,.string N,.string ByteArray.empty],.bool false]) (by simp[results,Tryz.results118,go_sem,d0,d1,d2]) rfl (oI (.inl rfl) Hc.o HN.o yP (aDQ Hc.o ?_) ?_)
   ·rw[<-jW (r.takeWhile isD),HN.o];simpa using t1
   exact(((hbw.setCell (by simp) _).setCell (by simp) _).setCell (by simp) _).setCell (by simp) _
  ·have t1:(N.toList==[48])=true:=by assumption
   have t2:¬b=true:=by assumption
   obtain rfl:b=false:=cV t2;refine aO (v:=.tuple #[.agg #[.bool false,.string N,.string ByteArray.empty],.bool R.toList.isEmpty]) (by simp[results,Tryz.results118,go_sem,d0,d1,d2]) rfl (oI (.inl rfl) Hc.o HN.o yP ?_ ?_)
   ·have:=aDQ Hc.o (by rw[<-jW (r.takeWhile isD),HN.o];simpa using t1);rw[<-HR.o,jW];simpa using this
   exact(((hbw.setCell (by simp) _).setCell (by simp) _).setCell (by simp) _).setCell (by simp) _
  ·have t1:(N.toList==[48])=false:=by assumption
   have t2:N.toList=[]:=by assumption
   refine aO (v:=.tuple #[.agg #[.bool b,.string N,.string ByteArray.empty],.bool false]) (by simp[results,Tryz.results118,go_sem,d0,d1,d2]) rfl (oI (.inl rfl) Hc.o HN.o yP (aGw Hc.o ?_ (.inl ?_)) ?_)
   ·rw[<-jW (r.takeWhile isD),HN.o];simpa using t1
   ·rw[<-jW (r.takeWhile isD),HN.o];exact t2
   exact(((hbw.setCell (by simp) _).setCell (by simp) _).setCell (by simp) _).setCell (by simp) _
  ·have t1:(N.toList==[48])=false:=by assumption
   have t3:¬N.toList=[]:=by assumption
   have t4:0<N.size:=by assumption
   have t2:N.toList.isEmpty=true∨((N[0].toNat:Int)==48)=true:=by assumption
   refine aO (v:=.tuple #[.agg #[.bool b,.string N,.string ByteArray.empty],.bool false]) (by simp[results,Tryz.results118,go_sem,d0,d1,d2]) rfl (oI (.inl rfl) Hc.o HN.o yP (aGw Hc.o ?_ (.inr ?_)) ?_)
   ·rw[<-jW (r.takeWhile isD),HN.o];simpa using t1
   ·rcases t2 with t2|t2
    ·exact absurd (List.isEmpty_iff.1 t2) t3
    exact aCR HN.o (c:=48) t2
   exact(((hbw.setCell (by simp) _).setCell (by simp) _).setCell (by simp) _).setCell (by simp) _
  ·have t1:(N.toList==[48])=false:=by assumption
   have t3:¬N.toList=[]:=by assumption
   have t4:0<N.size:=by assumption
   have t2:N.toList.isEmpty=false/\((N[0].toNat:Int)==48)=false:=by assumption
   have t5:R.toList.isEmpty=true:=by assumption
   refine aO (v:=.tuple #[.agg #[.bool b,.string N,.string ByteArray.empty],.bool true]) (by simp[results,Tryz.results118,go_sem,d0,d1,d2]) rfl (oI (.inl rfl) Hc.o HN.o yP (aHM Hc.o ?_ ?_ ?_) ?_)
   ·rw[<-jW (r.takeWhile isD),HN.o];simpa using t1
   ·rintro(h|h)
    ·exact t3 (by rw[<-HN.o,jW];exact h)
    exact pP HN.o (c:=48) t2.2 h
   ·rw[<-jW (r.dropWhile isD),HR.o];exact List.isEmpty_iff.1 t5
   exact(((hbw.setCell (by simp) _).setCell (by simp) _).setCell (by simp) _).setCell (by simp) _
  ·have t1:(N.toList==[48])=false:=by assumption
   have t3:¬N.toList=[]:=by assumption
   have t4:0<N.size:=by assumption
   have t2:N.toList.isEmpty=false/\((N[0].toNat:Int)==48)=false:=by assumption
   have t5:R.toList.isEmpty=false:=by assumption
   have t6:0<R.size:=by assumption
   have t7:((R[0].toNat:Int)!=47)=true:=by assumption
   have hR:r.dropWhile isD=R.toList:=by rw[<-HR.o,jW]
   obtain⟨c,t,hct⟩:∃c t,r.dropWhile isD=c::t:=by
    cases hh:r.dropWhile isD with
    |nil=>rw[hh]at hR;rw[<-hR]at t5;cases t5
    |cons c t=>exact⟨c,t,rfl⟩
   refine aO (v:=.tuple #[.agg #[.bool b,.string N,.string ByteArray.empty],.bool false]) (by simp[results,Tryz.results118,go_sem,d0,d1,d2]) rfl (oI (.inl rfl) Hc.o HN.o yP (aHN Hc.o ?_ ?_ hct ?_) ?_)
   ·rw[<-jW (r.takeWhile isD),HN.o];simpa using t1
   ·rintro(h|h)
    ·exact t3 (by rw[<-HN.o,jW];exact h)
    exact pP HN.o (c:=48) t2.2 h
   ·have:=pP HR.o (c:=47) (h:=t6) (by simpa using t7);rw[hct]at this;simpa using this
   exact(((hbw.setCell (by simp) _).setCell (by simp) _).setCell (by simp) _).setCell (by simp) _
  ·have t1:(N.toList==[48])=false:=by assumption
   have t3:¬N.toList=[]:=by assumption
   have t4:0<N.size:=by assumption
   have t2:N.toList.isEmpty=false/\((N[0].toNat:Int)==48)=false:=by assumption
   have t5:R.toList.isEmpty=false:=by assumption
   have t6:0<R.size:=by assumption
   have t7:((R[0].toNat:Int)!=47)=false:=by assumption
   have hR:r.dropWhile isD=R.toList:=by rw[<-HR.o,jW]
   obtain⟨t,hct⟩:∃t,r.dropWhile isD=47::t:=by
    have:=aCR HR.o (c:=47) (h:=t6) (by simpa using t7)
    cases hh:r.dropWhile isD with
    |nil=>rw[hh]at this;cases this
    |cons c t=>rw[hh]at this;injection this with this;subst this;exact⟨t,rfl⟩
   have hext:R.extract 1 R.size=bs t:=by rw[tJ,<-HR.o,kG,hct];rfl
   have htl:t.length<=4000:=by
    have a2:=aKV isD r;rw[hct,bP]at a2;omega
   obtain⟨D,hD⟩:=eqx (bs (t.takeWhile isD));obtain⟨R2,hR2⟩:=eqx (bs (t.dropWhile isD))
   have HD2:Hid (∀W,Calls Tryz.prog 162 #[.string (R.extract 1 R.size)] W λe w'=>e=.returned (.tuple #[.string D,.string R2])/\Below W.heap.size W w'):=zh (λW=>by
    have:=zE (bs t) W (by rw[kA];exact htl)
    rwa [kG,hD,hR2,<-hext]at this)
   have HDD:=zh hD;have HR2:=zh hR2;have Hct:=zh hct;have T1:=zh t1;have T2:=zh t2;clear hD hR2 hct hR hext t1 t2 t7
   with_reducible refine(HD2.o _).mono ?_
   rintro e w2 ⟨rfl,hb2⟩;have B4:Blk w2 (w.heap.size+1) 173 #[.bool b,.string N,.string ByteArray.empty]:=(HB4.o.set 1 (.string N)).keep hb2 (by simp;omega);have B2:Blk w2 w.heap.size 173 #[.bool false,.string ByteArray.empty,.string ByteArray.empty]:=(HB2.o.far (p:=⟨w.heap.size+1,1,none⟩) (by simp) (.string N)).keep hb2 (by simp;omega);have hbw2:Below w.heap.size w w2:=(hbw.setCell (p:=⟨w.heap.size+1,1,none⟩) (by simp) (.string N)).trans (hb2.mono (by simp;omega));have hz2:w.heap.size+1<w2.heap.size:=B4.lt;clear c0 c1 c2 d0 d1 d2 e0 e1 e2 f0 f1 f2 hb2 hz HB4 HB2 hbw;have c0:=B4.cell 0;have c1:=B4.cell 1;have c2:=B4.cell 2;have f0:=B4.frozen 0;have f1:=B4.frozen 1;have f2:=B4.frozen 2;have d0:=B2.cell 0;have d1:=B2.cell 1;have d2:=B2.cell 2;have e0:=B2.frozen 0;have e1:=B2.frozen 1;have e2:=B2.frozen 2
   clear B4 B2;simp at c0 c1 c2 d0 d1 d2
   have fin:∀(ok:Bool) (w':World),(ok=true↔t.dropWhile isD=[]/\t.takeWhile isD≠[]/\(t.takeWhile isD).head?≠some 48/\t.takeWhile isD≠[49])->Below w.heap.size w w'->
       yQ s.data.toList w (.returned (.tuple #[.agg #[.bool b,.string N,.string D],.bool ok])) w':=by
     intro ok w' hok hb;refine oI (.inr (by rw[Hct.o];rfl)) Hc.o HN.o HDD.o (aNa Hc.o ?_ ?_ Hct.o hok) hb
     ·rw[<-jW (r.takeWhile isD),HN.o];simpa using T1.o
     rintro(h|h)
     ·exact t3 (by rw[<-HN.o,jW];exact h)
     exact pP HN.o (c:=48) T2.o.2 h
   have FIN:=zh fin;clear fin
   have hRl:R2.toList=t.dropWhile isD:=by rw[<-HR2.o,jW]
   have hDl:D.toList=t.takeWhile isD:=by rw[<-HDD.o,jW]
   have HRl:=zh hRl;have HDl:=zh hDl;clear hRl hDl;go_wp2
   by_cases r2:R2.toList.isEmpty=true
   ·have r2':R2.toList=[]:=List.isEmpty_iff.1 r2
    by_cases r3:D.toList.isEmpty=true
    ·have r3':D.toList=[]:=List.isEmpty_iff.1 r3
     go_region
     all_goals
       try go_wp2
       refine aO (v:=.tuple #[.agg #[.bool b,.string N,.string D],.bool false]) (by simp[results,Tryz.results118,go_sem,d0,d1,d2]) rfl (FIN.o _ _ ?_ ?_)
       ·rw[<-HRl.o,<-HDl.o,r3'];simp
       exact jX ((((hbw2.setCell (by simp) _).setCell (by simp) _).setCell (by simp) _).setCell (by simp) _) 1
    have r3:D.toList.isEmpty=false:=cV r3
    have r3':¬D.toList=[]:=λe=>by rw[e]at r3;cases r3
    have r4:0<D.size:=by
     rw[<-HDD.o];exact aPg (λe=>r3' (by rw[HDl.o];exact e))
    by_cases r5:((D[0].toNat:Int)!=48)=true
    ·have r5':(t.takeWhile isD).head?≠some 48:=pP HDD.o (c:=48) (h:=r4) (by simpa using r5);have R5:=zh r5';clear r5'
     by_cases r6:(D.toList !=[49])=true
     ·skip
      go_region
      all_goals
        try go_wp2
        refine aO (v:=.tuple #[.agg #[.bool b,.string N,.string D],.bool true]) (by simp[results,Tryz.results118,go_sem,d0,d1,d2];simpa using r6) rfl (FIN.o _ _ ?_ ?_)
        ·rw[<-HRl.o,<-HDl.o];exact iff_of_true rfl ⟨r2',r3',by rw[HDl.o];exact R5.o,by simpa using r6⟩
        exact jX ((((hbw2.setCell (by simp) _).setCell (by simp) _).setCell (by simp) _).setCell (by simp) _) 1
     have r6:(D.toList !=[49])=false:=cV r6
     go_region
     all_goals
       try go_wp2
       refine aO (v:=.tuple #[.agg #[.bool b,.string N,.string D],.bool false]) (by simp[results,Tryz.results118,go_sem,d0,d1,d2];simpa using r6) rfl (FIN.o _ _ ?_ ?_)
       ·rw[<-HRl.o,<-HDl.o];exact iff_of_false (by decide) (λh=>h.2.2.2 (by simpa using r6))
       exact jX ((((hbw2.setCell (by simp) _).setCell (by simp) _).setCell (by simp) _).setCell (by simp) _) 1
    have r5:((D[0].toNat:Int)!=48)=false:=cV r5;have r5':(t.takeWhile isD).head?=some 48:=aCR HDD.o (c:=48) (h:=r4) (by simpa using r5);have R5:=zh r5';clear r5'
    go_region
    all_goals
      try go_wp2
      refine aO (v:=.tuple #[.agg #[.bool b,.string N,.string D],.bool false]) (by simp[results,Tryz.results118,go_sem,d0,d1,d2]) rfl (FIN.o _ _ ?_ ?_)
      ·rw[<-HRl.o,<-HDl.o];exact iff_of_false (by decide) (λh=>h.2.2.1 (by rw[HDl.o];exact R5.o))
      exact jX ((((hbw2.setCell (by simp) _).setCell (by simp) _).setCell (by simp) _).setCell (by simp) _) 1
   have r2:R2.toList.isEmpty=false:=cV r2
   have r2':¬R2.toList=[]:=λe=>by rw[e]at r2;cases r2
   go_region
   all_goals
     try go_wp2
     refine aO (v:=.tuple #[.agg #[.bool b,.string N,.string D],.bool false]) (by simp[results,Tryz.results118,go_sem,d0,d1,d2]) rfl (FIN.o _ _ ?_ ?_)
     ·rw[<-HRl.o];simp[r2']
     exact jX ((((hbw2.setCell (by simp) _).setCell (by simp) _).setCell (by simp) _).setCell (by simp) _) 1
  ·have t5:R.toList.isEmpty=false:=by assumption
   have t6:¬0<R.size:=by assumption
   have hR:r.dropWhile isD=R.toList:=by rw[<-HR.o,jW]
   have:R.size=(r.dropWhile isD).length:=by rw[<-HR.o,kA]
   have h0:r.dropWhile isD=[]:=bV (by omega);rw[<-hR,h0]at t5;cases t5
  have t5:¬N.toList=[]:=by assumption
  have t6:¬0<N.size:=by assumption
  have hR:r.takeWhile isD=N.toList:=by rw[<-HN.o,jW]
  have:N.size=(r.takeWhile isD).length:=by rw[<-HN.o,kA]
  have h0:r.takeWhile isD=[]:=bV (by omega);exact absurd (hR.symm.trans h0) t5
theorem aCk (s:ByteArray)(w:World)(hs:s.size<=64):
    Calls Tryz.prog 118 #[.string s] w (aLJ s.data.toList w):=
  (zF s w (by omega)).mono λ_ _ ⟨b,num,den,ok,e,h,hb⟩=>⟨b,num,den,ok,e,h.1,hb⟩
def wds (m:Nat):List Nat:=if m=0 then[]else[m]
theorem aFC (w:World)(s:ByteArray):∃c w1,(convert 9 150 (.string s)).run Tryz.prog w=.ok (.slice (some ⟨w.heap.size,0,none⟩) s.size c) w1/\
    (∀k (hk:k<s.size),w1.cell? ⟨w.heap.size,k,none⟩=some (.int .u8 (s[k].toNat:Int)))/\Below w.heap.size w w1:=by
  refine⟨_,_,run_bytes_of_string w _ _ 5 s Tryz.underlying9 Tryz.underlying150 Tryz.underlying5,λk hk=>?_,?_⟩
  ·have:=World.cell?_alloc_mark w.drew (bytesRow s (grownCap w s.size 0 5)) 5 ((bytesRow s (grownCap w s.size 0 5)).size,(bytesRow s (grownCap w s.size 0 5)).size+1) k;refine Eq.trans this ?_;exact bytesRow_at s _ k hk
  exact(Below.drew brf).alloc (aA _) _
theorem aBr (l:List UInt8)(k:Nat)(hk:k<l.length):val (l.take (k+1))=10*val (l.take k)+(l[k].toNat-48):=by
 rw[aD hk,lJ]
theorem aLC {k:Nat}(h:k<=19):10^k<=10000000000000000000:=by
 have:10^k<=10^19:=aP (by omega) h
 exact aR this (by decide)
end Go.Proofs.Tg
namespace Go.Ev
open Go.Lib
theorem yB {x c m:Nat}(h:x=2^c*(2*m+1)):aCq x c:=by
 subst h
 constructor
 ·rw[Nat.testBit_eq_decide_div_mod_eq,jK _ (dE c)]
  simp
 intro b hb
 rw[Nat.testBit_eq_decide_div_mod_eq,decide_eq_false_iff_not];obtain⟨d,rfl⟩:∃d,c=b+1+d:=⟨c-b-1,by omega⟩;rw[show(2:Nat)^(b+1+d)*(2*m+1)=2^b*(2*(2^d*(2*m+1))) by rw[eU,bS];simp only[aV],jK _ (dE b)];omega
theorem aMo {x y i j:Nat}(hx:aCq x i)(hy:aCq y j):aCq (x|||y) (min i j):=by
 constructor
 ·rw[Nat.testBit_or]
  rcases Nat.le_total i j with h|h
  ·rw[dA h,hx.1];rfl
  rw[Nat.min_eq_right h,hy.1];simp
 intro b hb
 rw[Nat.testBit_or,hx.2 b (by omega),hy.2 b (by omega)];rfl
theorem wP {x:Nat}(h0:x≠0)(hx:x<18446744073709551616):∃m,x=2^ctz 64 x*(2*m+1)/\ctz 64 x<64:=by
 obtain⟨m,hm,hk⟩:=ctzFrom_spec 64 x (by omega) (by omega)
 have:ctz 64 x=ctzFrom 64 x:=by unfold ctz;rw[aJ h0]
 rw[this]
 exact⟨m,hm,hk⟩
theorem zI {a:Nat}(h:a%2=1)(k:Nat):Nat.gcd a (2^k)=1:=by
 have h2:Nat.gcd a 2=1:=by
  rw[fN,Nat.gcd_rec,h];rfl
 exact Nat.Coprime.pow_right k h2
theorem uQ {a b k:Nat}(h:a%2=1):Nat.gcd a (2^k*b)=Nat.gcd a b:=
  Nat.Coprime.gcd_mul_left_cancel_right b (Nat.Coprime.symm (zI h k))
def odd (x:Nat):Nat:=x/2^ctz 64 x
theorem tT {x:Nat}(h0:x≠0)(hx:x<18446744073709551616):odd x%2=1/\x=2^ctz 64 x*odd x/\0<odd x/\odd x<=x/\ctz 64 x<64:=by
 obtain⟨m,hm,hk⟩:=wP h0 hx
 have e:odd x=2*m+1:=by
  unfold odd;generalize ctz 64 x=c at*;rw[hm,jK _ (dE c)]
 refine⟨by rw[e];omega,by rw[e];exact hm,by rw[e];omega,cF _ _,hk⟩
theorem aMp {x y:Nat}(hx0:x≠0)(hy0:y≠0)(hx:x<18446744073709551616)(hy:y<18446744073709551616):
    Nat.gcd x y=Nat.gcd (odd x) y*2^ctz 64 (x|||y)/\ctz 64 (x|||y)<64:=by
  obtain⟨a1,a2,a3,_,_⟩:=tT hx0 hx;obtain⟨b1,b2,b3,_,_⟩:=tT hy0 hy;have hxy:x|||y<18446744073709551616:=Nat.or_lt_two_pow (n:=64) hx hy
  have hxy0:x|||y≠0:=λe=>hx0 (Nat.le_zero.1 (e▸Nat.left_le_or))
  obtain⟨m,hm,hk⟩:=wP hxy0 hxy;refine⟨?_,hk⟩
  have l1:aCq x (ctz 64 x):=by obtain⟨m,hm,_⟩:=wP hx0 hx;exact yB hm
  have l2:aCq y (ctz 64 y):=by obtain⟨m,hm,_⟩:=wP hy0 hy;exact yB hm
  have e:=(yB hm).inj (aMo l1 l2);rw[e];generalize odd x=p at*;generalize odd y=q at*;generalize ctz 64 x=i at*;generalize ctz 64 y=j at*;subst a2 b2;rw[uQ a1]
  rcases Nat.le_total i j with h|h
  ·obtain⟨d,rfl⟩:∃d,j=i+d:=⟨j-i,by omega⟩;rw[dA h,eU,aV,Nat.gcd_mul_left,uQ a1,aT]
  obtain⟨d,rfl⟩:∃d,i=j+d:=⟨i-j,by omega⟩;rw[Nat.min_eq_right h,eU,aV,Nat.gcd_mul_left,fN _ q,uQ b1,aT,fN]
theorem aMq {a y:Nat}(ha:a%2=1)(hy0:y≠0)(hy:y<18446744073709551616):Nat.gcd a y=Nat.gcd a (odd y):=by
 obtain⟨_,b2,_⟩:=tT hy0 hy
 have:Nat.gcd a y=Nat.gcd a (2^ctz 64 y*odd y):=by rw[<-b2]
 rw[this,uQ ha]
theorem aFY {a b:Nat}(h:a<=b):Nat.gcd a (b-a)=Nat.gcd a b:=by
 have:=Nat.gcd_add_self_right (m:=a) (n:=b-a)
 rw[Nat.sub_add_cancel h]at this
 exact this.symm
end Go.Ev
namespace Go.Proofs.Tg
open Go.RowKit Go.Qn Go.Gr
theorem aGH (x k:Nat):(x:Int)/2^k=((x/2^k:Nat):Int):=by simp
theorem aIo (x y:Nat)(w:World)(hx:x<18446744073709551616)(hy:y<18446744073709551616)(hx0:x≠0)(hT:Tab w):
    Calls Tryz.prog 177 #[.int .u64 x,.int .u64 y] w λe w'=>e=.returned (.int .u64 (Nat.gcd x y:Nat))/\w=w':=by
  have hxb:((x:Int)==0)=false:=by simp;omega
  by_cases hy0:y=0
  ·subst hy0
   have hyb:(((0:Nat):Int)==0)=true:=by decide
   go_enter Tryz.func177,Tryz.ntmps177;go_wp2;go_ret;refine⟨?_,rfl⟩;have e:=u64_or_nat x 0 hx (by omega);rw[Nat.or_zero]at e;rw[iY];exact bK (λz=>Ending.returned (.int .u64 z)) e
  have hyb:((y:Int)==0)=false:=by simp;omega
  have hor:x|||y<18446744073709551616:=Nat.or_lt_two_pow (n:=64) hx hy
  have hor0:x|||y≠0:=λe=>hx0 (Nat.le_zero.1 (e▸Nat.left_le_or))
  obtain⟨G,hk⟩:=Ev.aMp hx0 hy0 hx hy;obtain⟨o1,o2,o3,o4,o5⟩:=Ev.tT hx0 hx
  have T1:Hid (Calls Tryz.prog 198 #[.int .u64 (bits BinOp.or IntKind.u64 (x:Int) (y:Int))] w λe w'=>e=.returned (.int .i64 (Lib.ctz 64 (x|||y):Nat))/\w=w'):=zh (by
   rw[u64_or_nat x y hx hy];exact aFy _ w hor hor0 hT)
  have T2:=zh (aFy x w hx hx0 hT);have hX:Hid ((x:Int)/2^Lib.ctz 64 x=(Ev.odd x:Nat)):=zh (by rw[aGH];rfl);have hG:Hid (Nat.gcd x y=Nat.gcd (Ev.odd x) y*2^Lib.ctz 64 (x|||y)):=zh G;have HO1:=zh o1;generalize Ev.odd x=x1 at*;generalize Lib.ctz 64 x=c1 at*;generalize Lib.ctz 64 (x|||y)=c2 at*;clear G o1 o2 hor0;go_enter Tryz.func177,Tryz.ntmps177
  go_wp2_with (first
    |(go_at_call 198;(with_reducible refine T1.o.mono ?_);rintro e w' ⟨rfl,rfl⟩)
    |(go_at_call 198;(with_reducible refine T2.o.mono ?_);rintro e w' ⟨rfl,rfl⟩))
  have hgl:Nat.gcd x y<=x:=Nat.gcd_le_left y (by omega)
  go_loop [0,1] (λa b=>∃X Y:Nat,a=.int .u64 X/\b=.int .u64 Y/\X<18446744073709551616/\Y<18446744073709551616/\0<X/\Hid (X%2=1/\Nat.gcd X Y=Nat.gcd x1 y)) (λa b=>(intOf a).toNat+(intOf b).toNat)
  case atStart=>exact⟨x1,y,by rw[hX.o],rfl,by omega,hy,o3,zh ⟨HO1.o,rfl⟩⟩
  case round=>
   obtain⟨X,Y,rfl,rfl,hX1,hY1,hX0,HG⟩:=hrel
   by_cases hY0:Y=0
   ·subst hY0
    have hb:(((0:Nat):Int)!=0)=false:=by decide
    have e:X=Nat.gcd x1 y:=by rw[<-HG.o.2,iY]
    have hm:X*2^c2=Nat.gcd x y:=by rw[hG.o,e]
    have HM:=zh hm;clear e hm;go_wp2;go_ret;refine⟨?_,rfl⟩
    show Ending.returned (.int .u64 (IntKind.u64.wrap ((X:Int)*2^c2)))=_
    have e2:(X:Int)*2^c2=((X*2^c2:Nat):Int):=by simp
    rw[e2,HM.o,mA _ (by omega)]
   have hb:((Y:Int)!=0)=true:=by simp;omega
   obtain⟨q1,q2,q3,q4,q5⟩:=Ev.tT hY0 hY1;have T3:=zh (aFy Y w hY1 hY0 hT);have hG2:=Ev.aMq HG.o.1 hY0 hY1
   have hE:(Y:Int)/2^Lib.ctz 64 Y=(Ev.odd Y:Nat):=by rw[aGH];rfl
   have HQ1:=zh q1;have HG2:=zh hG2;generalize Ev.odd Y=Y1 at*;generalize Lib.ctz 64 Y=c3 at*;clear q1 q2 hG2
   by_cases hlt:Y1<X
   ·go_wp2_with (go_at_call 198;(with_reducible refine T3.o.mono ?_);rintro e w' ⟨rfl,rfl⟩)
    go_round
    case rel=>
     have h1:=HG.o;refine⟨Y1,X-Y1,rfl,by go_num,by omega,by omega,q3,zh ⟨HQ1.o,?_⟩⟩;rw[Ev.aFY (by omega),fN,<-HG2.o,h1.2]
    case measure=>simp[intOf];omega
   go_wp2_with (go_at_call 198;(with_reducible refine T3.o.mono ?_);rintro e w' ⟨rfl,rfl⟩)
   go_round
   case rel=>
    have h1:=HG.o;refine⟨X,Y1-X,rfl,by go_num,by omega,by omega,hX0,zh ⟨h1.1,?_⟩⟩;rw[Ev.aFY (by omega),<-HG2.o,h1.2]
   case measure=>simp[intOf];omega
theorem aIp (m:Nat)(w:World)(hm:m<18446744073709551616):
    Calls Tryz.prog 176 #[.int .u64 m] w (aPG (wds m).length 1 ((wds m).map vs) w):=by
  by_cases h0:m=0
  ·subst h0
   have hb:(((0:Nat):Int)==0)=true:=by decide
   go_enter Tryz.func176,Tryz.ntmps176;go_wp2;go_ret;exact⟨none,0,rfl,aA _,Sl.nil _ _ _,bM _ _⟩
  have hb:((m:Int)==0)=false:=by simp;omega
  have hw:Hid (wds m=[m]):=zh (by unfold wds;rw[aJ h0]);clear h0;go_enter Tryz.func176,Tryz.ntmps176;go_wp2;go_ret;rw[hw.o];refine⟨some ⟨w.heap.size,0,none⟩,1,rfl,aA _,⟨rfl,λ_=>⟨_,rfl,by simp,?_⟩⟩,bal⟩;intro j u hu;rw[kI,bN,(Blk.new w 170 #[.int .u64 m]).cell j];simpa[vs]using hu
theorem aLD (x:Nat)(w:World):Calls Tryz.prog 191 #[.int .u64 x] w λe w'=>e=.returned (.bool false)/\w=w':=by
 go_enter Tryz.func191,Tryz.ntmps191
 go_wp2
 go_ret
 exact⟨by simp,rfl⟩
def aLE (a b:Nat):Int:=if a<b then -1 else if b<a then 1 else 0
theorem aPQ (x y:Nat)(w:World):Calls Tryz.prog 168 #[.int .u64 x,.int .u64 y] w λe w'=>e=.returned (.int .i64 (aLE x y))/\w=w':=by
 have go:∀z:Int,aLE x y=z->Calls Tryz.prog 168 #[.int .u64 x,.int .u64 y] w λe w'=>e=.returned (.int .i64 z)/\w=w':=by
  intro z hz;unfold aLE at hz
  by_cases h1:x<y
  ·rw[aQ h1]at hz;subst hz;go_enter Tryz.func168,Tryz.ntmps168
   go_wp2_with (go_at_call 191;refine(aLD _ _).mono ?_;rintro e w' ⟨rfl,rfl⟩)
   go_ret;exact⟨rfl,rfl⟩
  rw[aJ h1]at hz
  by_cases h2:y<x
  ·rw[aQ h2]at hz;subst hz;go_enter Tryz.func168,Tryz.ntmps168
   go_wp2_with (go_at_call 191;refine(aLD _ _).mono ?_;rintro e w' ⟨rfl,rfl⟩)
   go_ret;exact⟨rfl,rfl⟩
  rw[aJ h2]at hz;subst hz;go_enter Tryz.func168,Tryz.ntmps168
  go_wp2_with (go_at_call 191;refine(aLD _ _).mono ?_;rintro e w' ⟨rfl,rfl⟩)
  go_ret;exact⟨rfl,rfl⟩
 exact go _ rfl
end Go.Proofs.Tg
