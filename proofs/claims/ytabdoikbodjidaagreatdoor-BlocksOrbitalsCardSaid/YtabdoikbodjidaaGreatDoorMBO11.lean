/- Parts of the proof. -/
import Derived.Test.YtabdoikbodjidaaGreatDoorMBO10
set_option maxHeartbeats 64000000
set_option maxRecDepth 100000
namespace Go.Proofs.Tg.Bk
open Go.RowKit Go.Gr Go.Sp Go.Ev Go.Pm Go.Qn
open Go.Proofs.Tg.Gp (lQ jU lF kS)
theorem aBw (E:Option Addr)(m L q c:Nat)(w:World)(hm0:0<m)(hm:m<=64)(hL0:0<L)(hL:L<=64)(hq:q=m*L):
    Calls Tryz.prog 67 #[.agg #[.int .i64 m,.int .i64 L,.slice E q c]] w λe w'=>e=.returned (.bool true)/\Below w.heap.size w w':=by
  have hmL:m*L<=4096:=cE hm hL
  have hqi:(q:Int)=(m:Int)*(L:Int):=by rw[hq];exact iS m L
  have w1:IntKind.i64.wrap ((m:Int)*(L:Int))=(q:Int):=by rw[<-hqi];exact IntWalk.i64_in _ (by omega)
  have d1:decide ((1:Int)<=(m:Int))=true:=dT (by omega);have d2:decide ((m:Int)<=64)=true:=dT (by omega);have d3:decide ((1:Int)<=(L:Int))=true:=dT (by omega);have d4:decide ((L:Int)<=64)=true:=dT (by omega)
  have m1:(1:Int)<=(m:Int):=by omega
  have m2:(m:Int)<=64:=by omega
  have l1:(1:Int)<=(L:Int):=by omega
  have l2:(L:Int)<=64:=by omega
  clear hq hqi;go_enter Tryz.func67,Tryz.ntmps67;go_wp2;go_ret;exact⟨rfl,bal⟩
theorem aPk {x:Int}(h:Sg x):(tx x).size<=9/\(rd (tx x).data.toList).isSome=true:=by
 rcases h with rfl|rfl|rfl
 ·exact⟨by decide,by decide+kernel⟩
 ·exact⟨by decide,by decide+kernel⟩
 exact⟨by decide,by decide+kernel⟩
theorem aEt (E:Option Addr)(m L q c:Nat)(xs:List Int)(w:World)(hm0:0<m)(hm:m<=64)(hL0:0<L)(hL:L<=64)(hq:q=m*L)(hxs:xs.length=q)(hE:Sl w E q 1 (xs.map λx=>Value.string (tx x)))(hs:∀x∈xs,Sg x):
    Calls Tryz.prog 36 #[.agg #[.int .i64 m,.int .i64 L,.slice E q c]] w λe w'=>e=.returned (.bool true)/\Below w.heap.size w w':=by
  have HSH:=zh (λW=>aBw E m L q c W hm0 hm hL0 hL hq)
  have hq4:q<=4096:=by rw[hq];exact cE hm hL
  have HE:=zh hE;have HS:=zh hs;have HX:=zh hxs;obtain⟨W,hW⟩:=eqx (w.alloc (.cells #[.int .i64 m,.int .i64 L,.slice E q c] 31))
  have B0:Blk W w.heap.size 31 #[.int .i64 m,.int .i64 L,.slice E q c]:=by rw[<-hW];exact Blk.new _ _ _
  have hb0:Below w.heap.size w W:=by rw[<-hW];exact bal
  obtain⟨a0,a1,a2,f0,f1,f2⟩:=B0.three;have HW:=zh hW;have hlt:=B0.lt;clear hW hE hs hxs hq;go_enter Tryz.func36,Tryz.ntmps36;go_upto_region 1 with(fail);rw[HW.o];clear HW
  go_wp2_with (go_at_call 67;refine(HSH.o _).mono ?_;rintro e w1 ⟨rfl,hb1⟩
               have a2':=gL hb1 a2)
  go_loopw [11] (λs11 wr=>∃k:Nat,s11=.int .i64 k/\k<=q/\Below w.heap.size w wr) (λs11 _=>q-(intOf s11).toNat)
  case atStart=>exact⟨0,rfl,aW _,dW hb0 hb1⟩
  case round=>
   clear hb0 a0 a1 a2 f0 f1 f2 B0 hb1 a2' hlt;obtain⟨wo,rfl⟩:∃wo:World,wo=wr:=⟨_,rfl⟩;obtain⟨k,rfl,hk,hbo⟩:=hrel
   by_cases hkq:k<q
   ·obtain⟨ad,rfl,hc0⟩:=Sl.at1 (HE.o.keep hbo) hkq
    have hkx:k<xs.length:=by rw[HX.o];exact hkq
    have hc:wo.cell? (ad.add k)=some (.string (tx xs[k])):=by simpa using hc0
    have hok:=aPk (HS.o xs[k] (aB _));have HV:=zh (aEn (tx xs[k]) wo hok.1 hok.2)
    have q0:(0:Int)<=(k:Int):=by omega
    have q1:(k:Int)<(q:Int):=by omega
    have q3:((k:Int)).toNat=k:=by omega
    clear hc0 hok;generalize tx xs[k]=s at*
    go_wp2_with (go_at_call 68;refine HV.o.mono ?_;rintro e w3 ⟨rfl,hb3⟩)
    go_roundw
    case rel=>exact⟨k+1,by go_num,by omega,dW hbo hb3⟩
    case measure=>simp[intOf];omega
   obtain rfl:k=q:=by omega
   have dk:decide ((k:Int)<(k:Int))=false:=by simp
   go_wp2;go_ret;exact⟨rfl,hbo⟩
theorem aIE (rs:List lQ):aBs rs rs.length=((rs.map Prod.snd).flatten).map λx=>Value.string (tx x):=by
 unfold aBs
 rw[eE,List.map_flatten,List.map_map]
 rfl
theorem aIF {rs:List lQ}{L:Nat}(hl:∀r∈rs,r.2.length=L):((rs.map Prod.snd).flatten).length=rs.length*L:=by
 induction rs with
 |nil=>simp
 |cons r rs ih=>
  rw[fH,List.flatten_cons,aC,ih (λx hx=>hl x (by simp[hx])),hl r (by simp),bP,eV];omega
def aLP (m L:Nat)(xs:List Int)(w:World)(e:Ending)(w':World):Prop:=∃E c,e=.returned (.tuple #[.agg #[.int .i64 m,.int .i64 L,.slice E (m*L) c],.int .i64 0])/\w'.ownsRow w.heap.size 9 1 (.slice E (m*L) c) (m*L) (xs.map λx=>Value.string (tx x))/\Below w.heap.size w w'
theorem aLQ (A:Option Addr)(cA L:Nat)(rs:List lQ)(w:World)(hA:Sl w A rs.length 1 (rs.map (jU L)))(hr:xP w rs)(hl:∀r∈rs,r.2.length=L)(hs:∀r∈rs,∀x∈r.2,Sg x)(h0:0<rs.length)(hL:0<L)(hm:rs.length<=64)(hL2:L<=64):
    Calls Tryz.prog 46 #[.slice A rs.length cA] w (aLP rs.length L (rs.map Prod.snd).flatten w):=by
  have HCC:=zh (λW (h1:Sl W A rs.length 1 (rs.map (jU L))) h2=>aEs A cA L rs W h1 h2 hl h0 hL hm hL2);have HFL:=zh (aIF hl);have HFA:=zh (aIE rs)
  have HSG:Hid (∀x∈(rs.map Prod.snd).flatten,Sg x):=zh (λx hx=>by
   obtain⟨l,hl2,hx⟩:=List.mem_flatten.1 hx;obtain⟨r,hr2,rfl⟩:=aM.1 hl2
   exact hs r hr2 x hx)
  have HVD:Hid (∀W E c,Sl W E (rs.length*L) 1 (((rs.map Prod.snd).flatten).map λx=>Value.string (tx x))->Calls Tryz.prog 36 #[.agg #[.int .i64 rs.length,.int .i64 L,.slice E (rs.length*L) c]] W λe w'=>e=.returned (.bool true)/\Below W.heap.size W w'):=
    zh (λW E c h=>aEt E rs.length L (rs.length*L) c _ W h0 hm hL hL2 rfl HFL.o h HSG.o)
  have HA:=zh hA;have HR:=zh hr;obtain⟨ad,rfl,hc0⟩:=Sl.at1 hA h0
  have hc:w.cell? ad=some (.slice (some ⟨(rs[0]).1,0,none⟩) L L):=by simpa[jU,Addr.add]using hc0
  have hadl:ad.block<w.heap.size:=bQ w ad hc;obtain⟨W,hW⟩:=eqx ((w.alloc (.cells #[.int .i64 0,.int .i64 0,.slice none 0 0] 31)).alloc (.cells #[.int .i64 rs.length,.int .i64 L,.slice none 0 0] 31))
  have B0:Blk W w.heap.size 31 #[.int .i64 0,.int .i64 0,.slice none 0 0]:=by rw[<-hW];exact(Blk.new _ _ _).alloc _
  have B1:Blk W (w.heap.size+1) 31 #[.int .i64 rs.length,.int .i64 L,.slice none 0 0]:=by
   rw[<-hW];have:=Blk.new (w.alloc (.cells #[.int .i64 0,.int .i64 0,.slice none 0 0] 31)) 31 #[.int .i64 rs.length,.int .i64 L,.slice none 0 0];simpa using this
  have hbW:Below w.heap.size w W:=by rw[<-hW];exact(bal).alloc (by simp) _
  have HW:=zh hW
  have i0:(0:Int)<(rs.length:Int):=by omega
  have d0:decide ((rs.length:Int)=0)=false:=dF (by omega);have d1:decide ((L:Int)=0)=false:=dF (by omega);have d2:((rs.length:Int)==0)=false:=aG.2 (by omega);have d3:((L:Int)==0)=false:=aG.2 (by omega);have d4:decide ((64:Int)<(rs.length:Int))=false:=dF (by omega);have d5:decide ((64:Int)<(L:Int))=false:=dF (by omega);have d6:decide (64<rs.length)=false:=dF (by omega);have d7:decide (64<L)=false:=dF (by omega)
  have hw0:=λo=>oG hc o
  clear hA hr hl hs hW hc0;go_enter Tryz.func46,Tryz.ntmps46;go_upto_region 4 with(fail);rw[HW.o];clear HW hw0;have b1:=B1.three;obtain⟨x0,x1,x2,g0,g1,g2⟩:=b1;have hcW:=gL hbW hc;have HLB:=B1.lt;go_wp2
  go_loopw [27] (λs27 wr=>∃k:Nat,s27=.int .i64 k/\k<=rs.length/\W=wr) (λs27 _=>rs.length-(intOf s27).toNat)
  case atStart=>exact⟨0,rfl,aW _,rfl⟩
  case round=>
   obtain⟨k,rfl,hk,rfl⟩:=hrel
   by_cases hkl:k<rs.length
   ·obtain⟨ad',had,hck0⟩:=Sl.at1 (HA.o.keep hbW) hkl
    injection had with had
    subst had
    have hck:W.cell? (ad.add k)=some (.slice (some ⟨(rs[k]).1,0,none⟩) L L):=by simpa[jU]using hck0
    have q0:(0:Int)<=(k:Int):=by omega
    have q1:(k:Int)<(rs.length:Int):=by omega
    have q3:((k:Int)).toNat=k:=by omega
    clear hck0;generalize rs[k]=r at*;go_wp2;go_roundw
    case rel=>exact⟨k+1,by go_num,by omega,trivial⟩
    case measure=>simp[intOf];omega
   obtain rfl:k=rs.length:=by omega
   have dk:decide ((rs.length:Int)<(rs.length:Int))=false:=by simp
   have HB0:=zh B0;have HB1:=zh B1;have HAW:=zh (HA.o.keep hbW);have HRW:=zh (HR.o.keep hbW);clear B0 B1
   go_upto_region 13 with(go_at_call 79;refine(HCC.o _ HAW.o HRW.o).mono ?_;rintro e w2 ⟨E,c,rfl,hown,hb2⟩
                          have C1:=HB1.o.keep hb2 HB1.o.lt;have y2:=C1.cell 2;have z2:=C1.frozen 2
                          have hl2:=C1.lt)
   obtain⟨w3,hw3⟩:=eqx (w2.setCell ⟨w.heap.size+1,2,none⟩ (.slice E (rs.length*L) c))
   have D1:Blk w3 (w.heap.size+1) 31 #[.int .i64 rs.length,.int .i64 L,.slice E (rs.length*L) c]:=by
    rw[<-hw3];exact C1.set 2 (.slice E (rs.length*L) c)
   have D0:Blk w3 w.heap.size 31 #[.int .i64 0,.int .i64 0,.slice none 0 0]:=by
    rw[<-hw3];exact(HB0.o.keep hb2 HB0.o.lt).far (by simp) _
   have hb3:Below w.heap.size w w3:=by
    rw[<-hw3];exact hJ (dW hbW hb2) (by omega) _ _
   have hO3:w3.ownsRow w.heap.size 9 1 (.slice E (rs.length*L) c) (rs.length*L) (((rs.map Prod.snd).flatten).map λx=>Value.string (tx x)):=by
    rw[<-HFA.o,<-hw3];exact pJ (pE hown (kQ hown C1 (by decide)) _) hbW.size
   have hS3:=Sl.own hO3;have HO3:=zh hO3;rw[hw3];clear hw3 hown hb2 C1 y2 z2 hl2 hO3;have HD0:=zh D0;have HD1:=zh D1;have HS3:=zh hS3;obtain⟨p0,p1,p2,r0,r1,r2⟩:=D1.three;obtain⟨s0,s1,s2,t0,t1,t2⟩:=D0.three;have hl3:=D1.lt;clear D0 D1 hS3 x0 x1 x2 g0 g1 g2 hcW HLB
   go_wp2_with (go_at_call 36;refine(HVD.o _ _ _ HS3.o).mono ?_;rintro e w4 ⟨rfl,hb4⟩
                have E1:=HD1.o.keep hb4 HD1.o.lt;have E0:=HD0.o.keep hb4 HD0.o.lt;obtain⟨p0',p1',p2',_⟩:=E1.three;obtain⟨s0',s1',s2',t0',t1',t2'⟩:=E0.three;have hl4:=E1.lt;have hO4:=kL HO3.o hb4 (aA _);have hb5:=dW hb3 hb4
                clear E1)
   have E5:=((E0.set 0 (.int .i64 rs.length)).set 1 (.int .i64 L)).set 2 (.slice E (rs.length*L) c);have hb6:=hJ (hJ (hJ hb5 (aA _) 0 (.int .i64 rs.length)) (aA _) 1 (.int .i64 L)) (aA _) 2 (.slice E (rs.length*L) c);have hne:=kQ hO4 E0 (by decide);have hO6:=pE (pE (pE hO4 (p:=⟨w.heap.size,0,none⟩) hne (.int .i64 rs.length)) (p:=⟨w.heap.size,1,none⟩) hne (.int .i64 L)) (p:=⟨w.heap.size,2,none⟩) hne (.slice E (rs.length*L) c);generalize (((w4.setCell ⟨w.heap.size,0,none⟩ (.int .i64 rs.length)).setCell ⟨w.heap.size,1,none⟩ (.int .i64 L)).setCell ⟨w.heap.size,2,none⟩ (.slice E (rs.length*L) c))=w5 at*;have a0:w5.cell? ⟨w.heap.size,0,none⟩=some (.int .i64 rs.length):=E5.cell 0;have a1:w5.cell? ⟨w.heap.size,1,none⟩=some (.int .i64 L):=E5.cell 1
   have a2:w5.cell? ⟨w.heap.size,2,none⟩=some (.slice E (rs.length*L) c):=E5.cell 2;refine aO (v:=.tuple #[.agg #[.int .i64 rs.length,.int .i64 L,.slice E (rs.length*L) c],.int .i64 0]) (by simp[results,Tryz.results46,go_sem,a0,a1,a2]) rfl ⟨E,c,rfl,hO6,hb6⟩
end Go.Proofs.Tg.Bk
namespace Go.Proofs.Tg.Bk
open Go.RowKit Go.Gr Go.Sp Go.Ev Go.Pm Go.Mo
open Go.Proofs.Tg.Gp (uY)
def adN (l b:List (List Int)):Nat:=((l++b).headD []).length
def chE (l b:List (List Int)):Int:=if (∃a∈l,¬aDe a)∨(∃m∈b,oU m=false)then 1 else if ∃a∈l,a.length≠adN l b then 4 else szE (adN l b) b
def aIG (l b:List (List Int))(w:World)(e:Ending)(w':World):Prop:=Below w.heap.size w w'/\∃n:Nat,e=.returned (.tuple #[.int .i64 n,.int .i64 (chE l b)])/\(chE l b=0->n=adN l b)
theorem aLR (A B:Option Addr)(cA cB:Nat)(l b:List (List Int))(w:World)(hA:jV w A l)(hB:jV w B b)(hl:l.length<=1000)(hb:b.length<=1000)(hll:∀x∈l,x.length<=1000)(hbb:∀x∈b,x.length<=1000):
    Calls Tryz.prog 40 #[.slice A l.length cA,.slice B b.length cB] w (aIG l b w):=by
  have HA:=zh hA;have HB:=zh hB;have HLL:=zh hll;have HBB:=zh hbb;clear hA hB hll hbb;go_enter Tryz.func40,Tryz.ntmps40;go_wp2
  go_loopw [13] (λs13 wr=>∃k:Nat,s13=.int .i64 k/\k<=l.length/\Hid (∀j (h:j<l.length),j<k->aDe l[j])/\Below w.heap.size w wr) (λs13 _=>l.length-(intOf s13).toNat)
  case atStart=>exact⟨0,rfl,aW _,zh (λj _ h=>absurd h (by omega)),bM _ _⟩
  case round=>
   obtain⟨wo,rfl⟩:∃wo:World,wo=wr:=⟨_,rfl⟩;obtain⟨k,rfl,hk,HIN,hbo⟩:=hrel
   by_cases hkl:k<l.length
   ·obtain⟨ad,E,ce,rfl,hc0,hE⟩:=HA.o.at hkl;have hc:=gL hbo hc0
    have q0:(0:Int)<=(k:Int):=by omega
    have q1:(k:Int)<(l.length:Int):=by omega
    have q3:((k:Int)).toNat=k:=by omega
    by_cases hin:aDe l[k]
    ·have HV:=zh (uY E ce l[k] true wo (hE.keep hbo) (by have:=HLL.o l[k] (aB _);omega) ⟨λ_=>hin,λ_=>rfl⟩)
     have HI2:Hid (∀j (h:j<l.length),j<k+1->aDe l[j]):=zh (λj h hj=>by
      by_cases he:j=k
      ·subst he;exact hin
      exact HIN.o j h (by omega))
     clear hin hE hc0;generalize l[k]=x at*
     go_wp2_with (go_at_call 74;refine HV.o.mono ?_;rintro e w4 ⟨rfl,hb4⟩)
     go_roundw
     case rel=>exact⟨k+1,by go_num,by omega,HI2,dW hbo hb4⟩
     case measure=>simp[intOf];omega
    have HV:=zh (uY E ce l[k] false wo (hE.keep hbo) (by have:=HLL.o l[k] (aB _);omega) ⟨λh=>(by cases h),λh=>absurd h hin⟩);have HE1:Hid (chE l b=1):=zh (by unfold chE;rw[aQ (.inl ⟨_,aB hkl,hin⟩)]);clear hin hE hc0;generalize l[k]=x at*
    go_wp2_with (go_at_call 74;refine HV.o.mono ?_;rintro e w4 ⟨rfl,hb4⟩)
    go_ret2
    exact⟨dW hbo hb4,0,by rw[HE1.o];rfl,λh=>by rw[HE1.o]at h;cases h⟩
   obtain rfl:k=l.length:=by omega
   have HIA:Hid (∀a∈l,aDe a):=zh (λa ha=>by
    obtain⟨j,hj,rfl⟩:=bI ha
    exact HIN.o j hj hj)
   have dk:decide ((l.length:Int)<(l.length:Int))=false:=by simp
   obtain⟨q,hq⟩:∃q:Bool,q=true↔∀m∈b,oU m=true:=by classical exact⟨decide _,gR⟩
   have HVM:=zh (sO B cB b q wo (HB.o.keep hbo) (by omega) HBB.o hq);have HQ:=zh hq;clear hq HIN
   cases q with
   |false=>
    have HE1:Hid (chE l b=1):=zh (by
     unfold chE
     rw[aQ (.inr (by
      apply cW;intro hno
      have h2:=HQ.o.2 (λm hm=>by
       cases hv:oU m with
       |true=>rfl
       |false=>exact absurd ⟨m,hm,hv⟩ hno)
      cases h2))])
    clear HQ
    go_wp2_with (go_at_call 38;refine HVM.o.mono ?_;rintro e w4 ⟨rfl,rfl⟩)
    go_ret2
    exact⟨hbo,0,by rw[HE1.o];rfl,λh=>by rw[HE1.o]at h;cases h⟩
   |true=>
    have HVA:=zh (HQ.o.1 rfl)
    have HE0:Hid (chE l b=if ∃a∈l,a.length≠adN l b then 4 else szE (adN l b) b):=zh (by
     unfold chE
     rw[aJ (by
      rintro(⟨a,ha,hn⟩|⟨m,hm,hn⟩)
      ·exact hn (HIA.o a ha)
      rw[HVA.o m hm]at hn;cases hn)])
    clear HQ
    by_cases hl0:0<l.length
    ·obtain⟨ad,E,ce,rfl,hc0,_⟩:=HA.o.at hl0;have hc:=gL hbo hc0;rw[show ad.add 0=ad by simp[Addr.add]]at hc
     have HN:Hid (l[0].length=adN l b):=zh (by
      unfold adN
      cases l with
      |nil=>simp at hl0
      |cons x xs=>rfl)
     have i0:(0:Int)<(l.length:Int):=by omega
     have d0:decide ((0:Int)<(l.length:Int))=true:=dT i0;have d1:decide (0<l.length)=true:=dT hl0;have HSZ:=zh (λW (h:jV W B b)=>uH B cB l[0].length b _ W h (by omega) rfl);clear hc0;generalize l[0].length=n at*
     go_wp2_with (go_at_call 38;refine HVM.o.mono ?_;rintro e w4 ⟨rfl,rfl⟩)
     clear hc
     go_loopw [40] (λs40 wr=>∃k:Nat,s40=.int .i64 k/\k<=l.length/\Hid (∀j (h:j<l.length),j<k->l[j].length=n)/\Below w.heap.size w wr) (λs40 _=>l.length-(intOf s40).toNat)
     case atStart=>exact⟨0,rfl,aW _,zh (λj _ h=>absurd h (by omega)),hbo⟩
     case round=>
      clear hbo HVM;obtain⟨wi,rfl⟩:∃wi:World,wi=wr:=⟨_,rfl⟩;obtain⟨k,rfl,hk,HLN,hbi⟩:=hrel
      by_cases hkl:k<l.length
      ·obtain⟨ad',E',ce',had,hc0,_⟩:=HA.o.at hkl
       injection had with had
       subst had;have hc:=gL hbi hc0
       have q0:(0:Int)<=(k:Int):=by omega
       have q1:(k:Int)<(l.length:Int):=by omega
       have q3:((k:Int)).toNat=k:=by omega
       by_cases he:l[k].length=n
       ·have e1:decide ((l[k].length:Int)=(n:Int))=true:=dT (by omega);have e2:decide (l[k].length=n)=true:=dT he;have e3:(((l[k].length:Nat):Int)==(n:Int))=true:=fY.2 (by omega)
        have HLN2:Hid (∀j (h:j<l.length),j<k+1->l[j].length=n):=zh (λj h hj=>by
         by_cases h2:j=k
         ·subst h2;exact he
         exact HLN.o j h (by omega))
        clear he hc0;generalize l[k]=x at hc e1 e2 e3;go_wp2;go_roundw
        case rel=>exact⟨k+1,by go_num,by omega,HLN2,hbi⟩
        case measure=>simp[intOf];omega
       have e1:decide ((l[k].length:Int)=(n:Int))=false:=dF (by omega);have e2:decide (l[k].length=n)=false:=dF he;have e3:(((l[k].length:Nat):Int)==(n:Int))=false:=aG.2 (by omega);have HE4:Hid (chE l b=4):=zh (by rw[HE0.o,aQ ⟨_,aB hkl,by rw[<-HN.o];exact he⟩]);clear he hc0;generalize l[k]=x at hc e1 e2 e3;go_wp2
       go_ret2
       exact⟨hbi,0,by rw[HE4.o];rfl,λh=>by rw[HE4.o]at h;cases h⟩
      obtain rfl:k=l.length:=by omega
      have HEZ:Hid (chE l b=szE n b):=zh (by
       rw[HE0.o,aJ (by
        rintro⟨a,ha,hn⟩;obtain⟨j,hj,rfl⟩:=bI ha
        exact hn (by rw[<-HN.o];exact HLN.o j hj hj)),HN.o])
      go_wp2_with (go_at_call 73;refine(HSZ.o _ (HB.o.keep hbi)).mono ?_;rintro e w5 ⟨rfl,rfl⟩)
      go_ret2
      exact⟨hbi,n,by rw[HEZ.o];rfl,λ_=>HN.o⟩
    have hle:l=[]:=bV (by omega);subst hle
    by_cases hb0:0<b.length
    ·obtain⟨bd,E,ce,rfl,hc0,_⟩:=HB.o.at hb0;have hc:=gL hbo hc0;rw[show bd.add 0=bd by simp[Addr.add]]at hc
     have HN:Hid (b[0].length=adN [] b):=zh (by
      unfold adN
      cases b with
      |nil=>simp at hb0
      |cons x xs=>rfl)
     have i0:(0:Int)<(b.length:Int):=by omega
     have d0:decide ((0:Int)<(b.length:Int))=true:=dT i0;have d1:decide (0<b.length)=true:=dT hb0;have HSZ:=zh (λW (h:jV W (some bd) b)=>uH (some bd) cB b[0].length b _ W h (by omega) rfl);clear hc0;generalize b[0].length=n at*;have HEZ:Hid (chE [] b=szE n b):=zh (by rw[HE0.o,aJ (by rintro⟨a,ha,_⟩;cases ha),HN.o])
     go_wp2_with (go_at_call 38;refine HVM.o.mono ?_;rintro e w4 ⟨rfl,rfl⟩)
     refine wp_loop_rounds 1 ?_;rw[rounds_succ]
     go_wp2_with (go_at_call 73;refine(HSZ.o _ (HB.o.keep hbo)).mono ?_;rintro e w5 ⟨rfl,rfl⟩)
     go_ret2
     exact⟨hbo,n,by rw[HEZ.o];rfl,λ_=>HN.o⟩
    have hbe:b=[]:=bV (by omega);subst hbe;have HSZ:=zh (λW (h:jV W B [])=>uH B cB 0 [] _ W h (by simp) rfl);have HEZ:Hid (chE [] []=szE 0 []):=zh (by rw[HE0.o,aJ (by rintro⟨a,ha,_⟩;cases ha)];rfl)
    go_wp2_with (go_at_call 38;refine HVM.o.mono ?_;rintro e w4 ⟨rfl,rfl⟩)
    refine wp_loop_rounds 1 ?_;rw[rounds_succ]
    go_wp2_with (go_at_call 73;refine(HSZ.o _ (HB.o.keep hbo)).mono ?_;rintro e w5 ⟨rfl,rfl⟩)
    go_ret2
    exact⟨hbo,0,by rw[HEZ.o];rfl,λ_=>rfl⟩
end Go.Proofs.Tg.Bk
namespace Go.Proofs.Tg
open Go.RowKit
theorem nZ {P:Program}{t e':TypeId}(hk:P.underlying t=some (.slice e')){w:World}{A:Option Addr}{m c:Nat}{kD:List Value}(h:Sl w A m 1 kD)(h1:∀u∈kD,u.oneCell'=true):Src P 1 t (.slice A m c) m kD w:=by
 have hl:=h.len
 cases A with
 |none=>
  have hm:m=0:=by
   apply cW;intro hne;obtain⟨ad,h2,_⟩:=h.lies (by omega)
   cases h2
  subst hm;have:kD=[]:=bV (by omega);subst this;exact Src.ofNil w hk c
 |some ad=>
  refine Src.ofSlice w hk ad m c kD (by omega) (λj u hu=>?_) h1;have hj:=(aX.1 hu).1;obtain⟨ad',h2,_,h3⟩:=h.lies (by omega)
  injection h2 with h2
  subst h2;exact h3 j u hu
end Go.Proofs.Tg
section
namespace Go.Proofs.Tg
open Go.RowKit Go.Gr
theorem vE (b:Nat){e:TypeId}{fz:Nat×Nat}:∀(vs:List Value) (o:Nat) (w:World) (cur:Array Value),w.heap[b]?=some (.cells cur e fz)->o+vs.length<=cur.size->
    ∃cur',(w.setCells b o vs).heap[b]?=some (.cells cur' e fz)/\cur'.size=cur.size/\(∀j x,vs[j]?=some x->cur'[o+j]?=some x)/\(∀q,q<o->cur'[q]?=cur[q]?)/\(w.setCells b o vs).heap.size=w.heap.size/\(∀k,k≠b->(w.setCells b o vs).heap[k]?=w.heap[k]?)/\(w.setCells b o vs).os=w.os/\(w.setCells b o vs).tape=w.tape/\(w.setCells b o vs).output=w.output
  |[],o,w,cur,h,_=>⟨cur,h,rfl,λj x hx=>by simp at hx,λq _=>rfl,rfl,λk _=>rfl,rfl,rfl,rfl⟩
  |v::vs,o,w,cur,h,hs=>by
   rw[bP]at hs
   have h1:(w.setCell ⟨b,o,none⟩ v).heap[b]?=some (.cells (cur.setIfInBounds o v) e fz):=by simp[World.setCell,gM,h]
   obtain⟨cur',g1,g2,g3,g4,g5,g6,g7,g8,g9⟩:=vE b vs (o+1) (w.setCell ⟨b,o,none⟩ v) (cur.setIfInBounds o v) h1 (by simp;omega);refine⟨cur',g1,by rw[g2];simp,λj x hx=>?_,λq hq=>?_,?_,λk hk=>?_,g7,g8,g9⟩
   ·cases j with
    |zero=>
     have hx:v=x:=by simpa using hx
     subst hx;rw[bW,g4 o (by omega),Array.getElem?_setIfInBounds,aQ rfl,aQ (by omega)]
    |succ j=>
     have:=g3 j x (by simpa using hx)
     rwa [show o+1+j=o+(j+1) by omega]at this
   ·rw[g4 q (by omega),Array.getElem?_setIfInBounds,aJ (by omega)]
   ·rw[World.setCells,g5];simp[World.setCell]
   rw[World.setCells,g6 k hk];simp[World.setCell,gM,Ne.symm hk]
section
variable {P : Program}
theorem zM (w:World)(base:Nat)(t ty e:TypeId)(i:TypeInfo)(z:Value)(bytes:Nat)(ht:P.underlying t=some (.slice e))(hi:P.info? e=some i)(hz:i.zero=some z)(hsize:i.size=1)(hby:i.bytes=bytes)(hzs:z.cells.size=1)
    (v:Value) (xs:List Value) (hq:Que w base e v xs) (x:Value) (m:Nat) (kD:List Value) (hs0:Src P 1 t x m kD w) (h63:xs.length+m<=maxLen) (hbytes:(xs.length+m)*bytes<=140737488355328) (hbase:base<=w.heap.size):
    ∃v' w',(Builtin.append_ #[t,t] ty #[v,x]).run P w=.ok v' w'/\Que w' base e v' (xs++kD)/\w.grownBy w' v.ownBlock/\(v'.ownBlock=v.ownBlock∨v'.ownBlock=some w.heap.size):=by
  obtain⟨g,o,cap,cur,rfl,h2,h3,h4,h5,h6,h7⟩:=hq
  have hs:Src P i.size t x m kD w:=by rw[hsize];exact hs0
  have hnl:kD.length=m:=by have:=hs0.newsLen;omega
  by_cases hroom:xs.length+m<=cap
  ·have hr:=run_append_room_src (P:=P) w t t ty e i ht hi g o xs.length cap _ m kD hs hroom (λj hj=>by
    rw[hsize,cell_of_row w g _ cur e _ h3];simp
    omega) (λj hj=>by
    rw[hsize]
    simp[World.frozen?,h3])
   rw[hsize,dI]at hr;obtain⟨cur',g1,g2,g3,g4,g5,g6,g7,g8,g9⟩:=vE g kD (o+xs.length) w cur h3 (by omega);refine⟨_,_,hr,⟨g,o,cap,cur',by simp[hnl],h2,g1,by simp;omega,h5,by omega,λj u hu=>?_⟩,⟨g7,g8,g9,by omega,λk _ hne=>g6 k (λe1=>hne (by simp[Value.ownBlock,e1]))⟩,.inl rfl⟩
   by_cases hj:j<xs.length
   ·rw[bY hj]at hu;rw[g4 _ (by omega)];exact h7 j u hu
   rw[bC (by omega)]at hu;have:=g3 _ u hu
   rwa [show o+xs.length+(j-xs.length)=o+j by omega]at this
  have holds:(Builtin.firstCells i.size xs.length (.slice (some ⟨g,o,none⟩) xs.length cap)).run P w.drew=.ok xs.toArray w.drew:=by
   rw[hsize];refine iI w.drew 1 xs.length ⟨g,o,none⟩ xs.length cap xs (by simp) (λj x hx=>?_);rw[kI,World.cell?_drew,cell_of_row w g _ cur e _ h3];exact h7 j x hx
  have hr:=run_append_grow_src (P:=P) w t t ty e i z ht hi hz (some ⟨g,o,none⟩) xs.length cap xs holds _ m kD hs (by omega) (by simp only[maxLen]at h63;omega) (iZ (by omega) (by rw[hby];exact hbytes));have hge:=jM w (xs.length+m) cap e;have hcm:grownCap w (xs.length+m) cap e<=maxLen:=iM w (xs.length+m) cap e h63;refine⟨_,_,hr,⟨w.heap.size,0,grownCap w (xs.length+m) cap e,_,by simp[hnl],hbase,heap_alloc_new w.drew _,by simp[hnl];exact hge,hcm,?_,λj x hx=>?_⟩,⟨rfl,rfl,rfl,by simp,λk hk _=>heap_alloc_old w.drew _ hk⟩,.inr rfl⟩
  ·simp only[Array.size_append,List.size_toArray,size_zeroCells,hzs,aC];omega
  rw[bN,Array.getElem?_append_left]
  ·simpa using hx
  have:=(aX.1 hx).1;simpa using this
theorem kC (w:World){ops:Array Oper}{o:Oper}{a:Act}{K:Act->World->Prop}{Q:Exit->Act->World->Prop}{E:Prop}(hgd:o.guard=none∨∃k b,o.guard=some (k,b)/\Region.wanted o (yielded ops a.tmps)=true)(s x:Operand)(t:TypeId)
    (ho:o.op=.call {callee:=.builtin .append,args:=#[s,x],argTypes:=#[t,t]})
    (base:Nat) (e:TypeId) (i:TypeInfo) (z:Value) (bytes:Nat) (ht:P.underlying t=some (.slice e)) (hi:P.info? e=some i) (hz:i.zero=some z) (hsize:i.size=1) (hby:i.bytes=bytes) (hzs:z.cells.size=1)
    (v:Value) (xs:List Value) (hs:a.eval s=v) (hq:Que w base e v xs) (xv:Value) (m:Nat) (kD:List Value) (hx:a.eval x=xv) (hs0:Src P 1 t xv m kD w) (h63:xs.length+m<=maxLen) (hbytes:(xs.length+m)*bytes<=140737488355328) (hbase:base<=w.heap.size)
    (h:∀v' w',Que w' base e v' (xs++kD)->w.grownBy w' v.ownBlock->(v'.ownBlock=v.ownBlock∨v'.ownBlock=some w.heap.size)->K (a.put o.dst v') w'):
    if Region.wanted o (yielded ops a.tmps)=true then Oper.wp P o a w K Q else E:=by
  have hw:Region.wanted o (yielded ops a.tmps)=true:=by
   rcases hgd with hgd|⟨_,_,_,h⟩
   ·simp[Region.wanted,hgd]
   exact h
  rw[aQ hw];obtain⟨v',w',hr,h2,h3,h4⟩:=zM (P:=P) w base t o.type e i z bytes ht hi hz hsize hby hzs v xs hq xv m kD hs0 h63 hbytes hbase;unfold Oper.wp execOp;simp only[ho,resolve,invoke,builtin,Sem.run_bind,Sem.run_pure,Result.andThen_ok,List.map_toArray,fH,List.map_nil,hs,hx,hr];exact h v' w' h2 h3 h4
end
end Go.Proofs.Tg
end
section
namespace Go.Proofs.Tg
open Go.RowKit Go.Gr
section
variable {P : Program}
end
end Go.Proofs.Tg
namespace Go.Proofs.Tg.Bk
open Go.RowKit Go.Gr Go.Sp Go.Ev Go.Pm
theorem aIm:(Tryz.prog.info? 3).map (λi=>(i.zero,i.size,i.bytes))=some (some (.int .i64 0),1,8):=by kernel_rfl
end Go.Proofs.Tg.Bk
end
namespace Go.Proofs.Tg.Gp
open Go.RowKit Go.Gr Go.Sp Go.Ev Go.Pm
theorem aIj (L:Option Addr)(cL:Nat)(l:List (List Int))(A:Option Addr)(c:Nat)(a:List Int)(v:Bool)(w:World)(hL:jV w L l)(hA:kP w A a)(hl:l.length<=1000000)(hll:∀x∈l,x.length<=1000)(hS:Asc l)(hv:v=true↔a∈l):
    Calls Tryz.prog 50 #[.slice L l.length cL,.slice A a.length c] w λe w'=>∃m:Nat,e=.returned (.tuple #[.int .i64 m,.bool v])/\Pm.At l a m/\Below w.heap.size w w':=by
  have HV:=zh hv;have HS:=zh hS;have HLL:=zh hll;have HL:=zh hL;have HA:=zh hA;clear hv hS hll hL hA;go_enter Tryz.func50,Tryz.ntmps50;go_wp2
  go_loopw [6,7] (λs6 s7 wr=>∃p q:Nat,s6=.int .i64 p/\s7=.int .i64 q/\p<=q/\q<=l.length/\Hid (∀i (h:i<l.length),i<p->lI l[i] a<0)/\Hid (∀i (h:i<l.length),q<=i->0<=lI l[i] a)/\w=wr) (λs6 s7 _=>(intOf s7).toNat-(intOf s6).toNat)
  case atStart=>exact⟨0,l.length,rfl,rfl,aW _,aA _,zh (λi _ h=>by omega),zh (λi h1 h2=>by omega),rfl⟩
  case round=>
   obtain⟨p,q,rfl,rfl,hpq,hq,HP,HQ,rfl⟩:=hrel
   by_cases hlt:p<q
   ·obtain⟨m,hm⟩:=eqx ((p+q)/2:Nat)
    have hdiv:((p:Int)+(q:Int)).tdiv 2=(m:Int):=by rw[<-hm];rfl
    have hm1:p<=m:=by omega
    have hm2:m<q:=by omega
    have hml:m<l.length:=by omega
    obtain⟨ad,E,ce,rfl,hc,hE⟩:=HL.o.at hml
    have q0:(0:Int)<=(m:Int):=by omega
    have q1:(m:Int)<(l.length:Int):=by omega
    have q3:((m:Int)).toNat=m:=by omega
    have hxl:=HLL.o l[m] (aB _);have hw1:IntKind.i64.wrap ((p:Int)+(q:Int))=(p:Int)+(q:Int):=IntWalk.i64_in _ (by omega);have hw2:IntKind.i64.wrap (m:Int)=(m:Int):=IntWalk.i64_in _ (by omega)
    by_cases hls:lI l[m] a<0
    ·have HLE:=zh (aEj E A ce c l[m] a true w hE HA.o (by omega) (dT hls))
     have HP2:Hid (∀i (h:i<l.length),i<m+1->lI l[i] a<0):=zh (λi h hi=>by
      by_cases him:i=m
      ·subst him;exact hls
      exact lt_trans (HS.o.lt h hml (by omega)) hls)
     generalize l[m]=x at*
     go_wp2_with (go_at_call 80;refine HLE.o.mono ?_;rintro e w1 ⟨rfl,rfl⟩)
     go_roundw
     case rel=>exact⟨m+1,q,by go_num,rfl,by omega,hq,HP2,HQ,trivial⟩
     case measure=>simp[intOf];omega
    have HLE:=zh (aEj E A ce c l[m] a false w hE HA.o (by omega) (dF hls))
    have HQ2:Hid (∀i (h:i<l.length),m<=i->0<=lI l[i] a):=zh (λi h hi=>Int.not_lt.1 λhlt2=>by
     by_cases him:i=m
     ·subst him;exact hls hlt2
     exact hls (lt_trans (HS.o.lt hml h (by omega)) hlt2))
    generalize l[m]=x at*
    go_wp2_with (go_at_call 80;refine HLE.o.mono ?_;rintro e w1 ⟨rfl,rfl⟩)
    go_roundw
    case rel=>exact⟨p,m,rfl,by go_num,by omega,by omega,HP,HQ2,trivial⟩
    case measure=>simp[intOf];omega
   obtain rfl:p=q:=by omega
   have HAT:Hid (Pm.At l a p):=zh ⟨hq,HP.o,λi h1 h2=>Int.not_lt.2 (HQ.o i h1 h2)⟩
   have hnlt:decide ((p:Int)<(p:Int))=false:=by simp
   by_cases hpl:p<l.length
   ·obtain⟨ad,E,ce,rfl,hc,hE⟩:=HL.o.at hpl
    have q0:(0:Int)<=(p:Int):=by omega
    have q1:(p:Int)<(l.length:Int):=by omega
    have q3:((p:Int)).toNat=p:=by omega
    have d1:decide ((p:Int)<(l.length:Int))=true:=dT q1;have hxl:=HLL.o l[p] (aB _)
    have hvv:decide (l[p]=a)=v:=by
     have h1:=HAT.o.found HS.o
     cases v with
     |true=>
      obtain⟨_,h2⟩:=h1.2 (HV.o.1 rfl);exact dT h2
     |false=>exact dF (λh2=>by have:=HV.o.2 (h1.1 ⟨hpl,h2⟩);cases this)
    have HEQ:=zh (aAg E A l[p] a ce c w hE HA.o (by omega) v hvv);clear hvv;generalize l[p]=x at*
    go_wp2_with (go_at_call 81;refine HEQ.o.mono ?_;rintro e w1 ⟨rfl,hd1⟩)
    go_ret2
    exact⟨p,rfl,HAT.o,hd1.below⟩
   obtain rfl:p=l.length:=by omega
   obtain rfl:v=false:=cV (λh=>by
    obtain⟨h1,_⟩:=(HAT.o.found HS.o).2 (HV.o.1 h)
    omega)
   go_wp2
   go_ret2
   exact⟨l.length,rfl,HAT.o,bM _ _⟩
end Go.Proofs.Tg.Gp
namespace Go.Proofs.Tg.Bk
open Go.RowKit Go.Gr Go.Sp Go.Ev Go.Pm
open Go.Proofs.Tg.Gp (lQ jU lF lO kS nG uY)
open Go.Proofs.Tg.Sx (Rw uF aGC vT)
theorem xM {w:World}{b n sz mb:Nat}{t:TypeId}{v:Value}{xs:List Value}(h:w.ownsRow b t sz v n xs)(hm:qU w mb):v.ownBlock≠some mb:=by
 intro h1
 rcases h.2 with⟨rfl,_⟩|⟨g0,cap,cur,rfl,_,h3,_⟩
 ·simp[Value.ownBlock]at h1
 injection h1 with h1
 change g0=mb at h1;subst h1;obtain⟨es,ck,hh⟩:=hm;rw[hh]at h3
 cases h3
end Go.Proofs.Tg.Bk
section
namespace Go.Pm
open Go.Mo Go.Sp
def aBx (n:Nat)(l:List (List Int)):Prop:=∀j (h:j<l.length),l[j]∉kJ n (l.take j)/\∀b∈l.take j,cmp l[j] b=cmp b l[j]
def aEu (n:Nat)(l b:List (List Int)):List (List Int):=(kJ n l).map λp=>img n p b
def yR (im:List (List Int))(L k:Nat):List (List (List Int)):=((List.range k).map λc=>qE c im L L).filter λr=>decide (0<r.length)
theorem aEv (im:List (List Int))(L k:Nat):yR im L (k+1)=yR im L k++if 0<(qE k im L L).length then[qE k im L L]else[]:=by
 unfold yR
 rw[bT,bH,List.filter_append]
 congr 1
 by_cases h:0<(qE k im L L).length
 ·rw[aQ h]
  simp[h]
 rw[aJ h]
 simp[h]
theorem vW {l:List (List Int)}{x:List Int}(h:x∈l):∃h2:l.idxOf x<l.length,l[l.idxOf x]=x:=⟨List.idxOf_lt_length_of_mem h,List.getElem_idxOf _⟩
theorem aAl {n:Nat}{p:List Int}{b:List (List Int)}(hb:b.Nodup)(ha:lZ n p b)(hinj:∀x∈b,∀y∈b,mv n p x=mv n p y->x=y):Perm b.length (img n p b):=by
 refine⟨by simp[img],λx hx=>?_,?_⟩
 ·obtain⟨m,hm,rfl⟩:=aM.1 hx
  obtain⟨this,_⟩:=vW (ha m hm);omega
 unfold img
 refine dU.2 (List.Pairwise.imp_of_mem ?_ hb);intro x y hx hy hne e
 have h1:b.idxOf (mv n p x)=b.idxOf (mv n p y):=by omega
 obtain⟨hx1,e1⟩:=vW (ha x hx);obtain⟨hy1,e2⟩:=vW (ha y hy)
 have e3:b[b.idxOf (mv n p x)]=b[b.idxOf (mv n p y)]:=by simp only[h1]
 exact hne (hinj x hx y hy (by rw[<-e1,e3,e2]))
theorem vG {n:Nat}{a m:List Int}(ha:Perm n a):∀k,k<=n->∀j,j<k->(mvF n a m k).getD (a.getD j 0).toNat 0=m.getD j 0
  |0,_,j,hj=>absurd hj (by omega)
  |k+1,hk,j,hj=>by
   rw[sC];have hp:=kM ha (show k<n by omega);have hpj:=kM ha (show j<n by omega)
   by_cases he:j=k
   ·subst he;rw[aE,List.getElem?_set_self (by rw[nO];omega)]
    rfl
   have hne:(a.getD k 0).toNat≠(a.getD j 0).toNat:=λe=>he (vZ ha (by omega) (by omega) (by omega))
   rw[aE,List.getElem?_set_ne hne,<-aE];exact vG ha k (by omega) j (by omega)
theorem aEw {n:Nat}{a x y:List Int}(ha:Perm n a)(hx:x.length=n)(hy:y.length=n)(h:mv n a x=mv n a y):x=y:=by
 refine pC (by omega) λj hj=>?_
 have h1:=vG (m:=x) ha n (aA _) j (by omega)
 have h2:=vG (m:=y) ha n (aA _) j (by omega)
 unfold mv at h
 rw[h]at h1
 exact h1.symm.trans h2
end Go.Pm
namespace Go.Proofs.Tg.Bk
open Go.RowKit Go.Gr Go.Sp Go.Ev Go.Pm Go.Mo
open Go.Proofs.Tg.Gp (lQ jU lF lO kS)
open Classical in
noncomputable def adE (l b:List (List Int)):Int:=if chE l b≠0 then chE l b else if ¬b.Nodup then 10 else if ¬aBx (adN l b) l then 11 else if ∃p∈kJ (adN l b) l,¬lZ (adN l b) p b then 8 else 0
structure CV where
  rows:List (List Int)
  adr:Option Addr
  cap:Nat
def CV.cells (L:Nat)(c:CV):List Value:=[.int .i64 c.rows.length,.int .i64 L,.slice c.adr (c.rows.length*L) c.cap]
def aPl (w:World)(base L:Nat)(cs:List CV):Prop:=∀c∈cs,w.ownsRow base 9 1 (.slice c.adr (c.rows.length*L) c.cap) (c.rows.length*L) (c.rows.flatten.map λx=>Value.string (tx x))
structure aEx (w:World)(base L:Nat)(im:List (List Int))(wr:World)(k:Nat)(A:Option Addr)(cA:Nat)(cs:List CV):Prop where
  below:Below w.heap.size w wr
  own:wr.ownsRow base 58 3 (.slice A cs.length cA) cs.length (cs.flatMap (CV.cells L))
  rows:aPl wr base L cs
  eq:cs.map CV.rows=yR im L k
theorem aEx.keep {w wr wz:World}{base L k cA:Nat}{im:List (List Int)}{A:Option Addr}{cs:List CV}(h:aEx w base L im wr k A cA cs)(hb:Below wr.heap.size wr wz):aEx w base L im wz k A cA cs:=
  ⟨dW h.below hb,kL h.own hb (aA _),λc hc=>kL (h.rows c hc) hb (aA _),h.eq⟩
theorem aIH:(Tryz.prog.info? 58).map (λi=>(i.zero,i.size,i.bytes))=some (some (.agg #[.int .i64 0,.int .i64 0,.slice none 0 0]),3,40):=by kernel_rfl
def aAm (l b:List (List Int))(w:World)(e:Ending)(w':World):Prop:=Below w.heap.size w w'/\
  ((adE l b≠0/\e=.returned (.tuple #[.slice none 0 0,.int .i64 (adE l b)]))∨
   (adE l b=0/\∃A cA cs,e=.returned (.tuple #[.slice A cs.length cA,.int .i64 0])/\aEx w w.heap.size b.length (aEu (adN l b) l b) w' (aEu (adN l b) l b).length A cA cs))
structure aPm (w:World)(base n:Nat)(l:List (List Int))(wr:World)(gs mb k:Nat):Prop where
  below:Below base w wr
  sub:∃v rs S,tL wr base n (kJ n (l.take k)) gs mb v rs S
  ok:∀j (h:j<l.length),j<k->l[j]∉kJ n (l.take j)/\∀b∈l.take j,cmp l[j] b=cmp b l[j]
theorem aCV {l b:List (List Int)}(h:chE l b=0):(∀a∈l,Perm (adN l b) a/\cmp a a=unit (adN l b)/\a≠unit (adN l b))/\adN l b<=6/\(∀m∈b,pY (adN l b) 48 m)/\0<b.length/\b.length<=64:=by
 unfold chE at h
 split at h
 ·cases h
 next h1=>
 split at h
 ·cases h
 next h2=>
 obtain⟨h3,h4,h5⟩:=aIy h
 have hi:∀a∈l,aDe a:=λa ha=>cW λhn=>h1 (.inl ⟨a,ha,hn⟩)
 have hl:∀a∈l,a.length=adN l b:=λa ha=>cW λhn=>h2 ⟨a,ha,hn⟩
 have hv:∀m∈b,oU m=true:=λm hm=>by
  cases hv:oU m with
  |true=>rfl
  |false=>exact absurd (.inr ⟨m,hm,hv⟩) h1
 refine⟨λa ha=>?_,?_,λm hm=>?_,h4,h5⟩
 ·obtain⟨_,hp,hu,hc⟩:=hi a ha;rw[hl a ha]at hp hu hc;exact⟨hp,hc,hu⟩
 ·have:=(sJ.1 (hv b[0] (aB h4))).1;rw[<-h3 b[0] (aB h4)];exact this
 obtain⟨_,h6⟩:=aGE (hv m hm);exact⟨h3 m hm,λx hx=>by have:=h6 x hx;omega⟩
theorem aLS {n:Nat}{l:List (List Int)}(hp:∀a∈l,Perm n a/\cmp a a=unit n){k:Nat}(hk:k<=l.length)(ho:∀j (h:j<l.length),j<k->l[j]∉kJ n (l.take j)/\∀b∈l.take j,cmp l[j] b=cmp b l[j]):Sub n (l.take k)/\(kJ n (l.take k)).Nodup:=by
 induction k with
 |zero=>exact⟨by simpa using Sub.nil n,by simp[oX]⟩
 |succ k ih=>
  obtain⟨h1,h2⟩:=ih (by omega) (λj h hj=>ho j h (by omega))
  have hkl:k<l.length:=by omega
  obtain⟨h3,h4⟩:=ho k hkl (by omega);have h5:=hp l[k] (aB _);rw[aD hkl];exact⟨h1.snoc h5.1 h5.2 h4,(h1.nodup_snoc h2 h5.1 h5.2).2 h3⟩
end Go.Proofs.Tg.Bk
end
