/- Parts of the proof. -/
import Derived.Deep.AppendLies
import Derived.Deep.AppendSrc
import Derived.Test.YtabdoikbodjidaaGreatDoorMBO5
set_option maxHeartbeats 64000000
set_option maxRecDepth 100000
namespace Go.Proofs.Tg.Gp
open Go.RowKit Go.Gr Go.Sp Go.Ev Go.Pm
theorem lO {w:World}{g n:Nat}{l:List Int}(h:Blk w g 3 (kU l))(hl:l.length=n)(hn:n<=6):kP w (some ⟨g,0,none⟩) l:=by
 have:=Sl.own (aLF (b:=0) h (aW _) rfl (by omega))
 exact this
theorem aFB (A:Option Addr)(c n:Nat)(a:List Int)(w:World)(hA:kP w A a)(ha:Perm n a)(hn:n<=6):
    Calls Tryz.prog 123 #[.slice A n c] w λe w'=>∃k:Nat,e=.returned (.tuple #[.int .i64 ((k:Int)+1),.int .i64 0])/\pw a k=unit n/\(∀j,j<k->pw a j≠unit n)/\Below w.heap.size w w':=by
  obtain⟨K,hK,hKe⟩:=aJb hn ha;have HK:=zh hKe;have HA:=zh ha;have hal:=ha.1;have HPW:Hid (∀k,Perm n (pw a k)):=zh (λk=>uK ha k)
  have HV:Hid (∀V,Below w.heap.size w V->Calls Tryz.prog 69 #[.slice A n c] V λe w'=>e=.returned (.bool true)/\Below V.heap.size V w'):=zh (λV h=>by
   have:=qZ A c a true V (hA.keep h) (by omega) ⟨λ_=>⟨by omega,by rw[hal];exact ha⟩,λ_=>rfl⟩;rw[hal]at this
   exact this)
  have HID:=zh (λV=>xG n V hn);clear hKe ha;go_enter Tryz.func123,Tryz.ntmps123
  go_wp2_with (first
    |(go_at_call 69;refine(HV.o _ brf).mono ?_;rintro e w1 ⟨rfl,hb1⟩)
    |(go_at_call 120;refine(HID.o _).mono ?_;rintro e w2 ⟨rfl,hG2,hb2⟩))
  have hbw2:=dW hb1 hb2;have HG:=zh hG2;generalize w1.heap.size=g1 at*;clear HV HID hb1
  go_loopw [5,6] (λs5 s6 wr=>∃(k:Nat) (P:Option Addr) (cp:Nat),s5=.int .i64 ((k:Int)+1)/\k<=K/\s6=.slice P n cp/\kP wr P (pw a k)/\Hid (∀j,j<k->pw a j≠unit n)/\Below w2.heap.size w2 wr) (λs5 _ _=>K+1-(intOf s5).toNat)
  case atStart=>exact⟨0,A,c,by go_num,aW _,rfl,hA.keep hbw2,zh (λj h=>by omega),bM _ _⟩
  case round=>
   obtain⟨wo,rfl⟩:∃wo:World,wo=wr:=⟨_,rfl⟩;obtain⟨k,P,cp,rfl,hk,rfl,hIP,HN,hbo⟩:=hrel;have hpl:=(HPW.o k).1;have hIU:=lO (HG.o.keep hbo HG.o.lt) (mV n) hn;have hsz:IntKind.i64.wrap ((k:Int)+1+1)=(k:Int)+1+1:=IntWalk.i64_in _ (by omega)
   by_cases he:pw a k=unit n
   ·have heq:=aAg P (some ⟨g1,0,none⟩) (pw a k) (unit n) cp n wo hIP hIU (by omega) true (dT he);rw[hpl,mV]at heq;have HEQ:=zh heq;have HE:=zh he;clear heq he hIP hIU
    go_wp2_with (go_at_call 81;refine HEQ.o.mono ?_;rintro e w4 ⟨rfl,hd4⟩)
    go_ret2
    exact⟨k,rfl,HE.o,HN.o,dW (dW hbw2 hbo) hd4.below⟩
   have heq:=aAg P (some ⟨g1,0,none⟩) (pw a k) (unit n) cp n wo hIP hIU (by omega) false (dF he);rw[hpl,mV]at heq;have HEQ:=zh heq
   have HN2:Hid (∀j,j<k+1->pw a j≠unit n):=zh (λj hj=>by
    by_cases h:j=k
    ·rw[h];exact he
    exact HN.o j (by omega))
   have hkK:k<K:=by
    apply cW;intro hlt
    have:k=K:=by omega
    rw[this]at he;exact he HK.o
   have HCP:Hid (∀V,Below wo.heap.size wo V->Calls Tryz.prog 121 #[.slice A n c,.slice P n cp] V λe w'=>e=.returned (.slice (some ⟨V.heap.size,0,none⟩) n n)/\Blk w' V.heap.size 3 (kU (pw a (k+1)))/\Below V.heap.size V w'):=zh (λV h=>
    zC A P c cp n a (pw a k) V (hA.keep (dW (dW hbw2 hbo) h)) (hIP.keep h) HA.o (HPW.o k) hn)
   clear heq he hIP hIU
   go_wp2_with (first
     |(go_at_call 81;refine HEQ.o.mono ?_;rintro e w4 ⟨rfl,hd4⟩
       have hb4:=hd4.below)
     |(go_at_call 121;refine(HCP.o _ hb4).mono ?_;rintro e w5 ⟨rfl,hG5,hb5⟩))
   go_roundw
   case rel=>exact⟨k+1,_,n,by go_num,by omega,rfl,lO hG5 (HPW.o (k+1)).1 hn,HN2,dW (dW hbo hb4) hb5⟩
   case measure=>simp[intOf];omega
theorem uY (A:Option Addr)(c:Nat)(a:List Int)(v:Bool)(w:World)(hA:kP w A a)(hl:a.length<=1000000)(hv:v=true↔aDe a):
    Calls Tryz.prog 74 #[.slice A a.length c] w λe w'=>e=.returned (.bool v)/\Below w.heap.size w w':=by
  by_cases hp:a.length<=6/\Perm a.length a
  ·have HV:=zh (qZ A c a true w hA hl ⟨λ_=>hp,λ_=>rfl⟩)
   have HO:Hid (∀V,Below w.heap.size w V->Calls Tryz.prog 123 #[.slice A a.length c] V λe w'=>∃k:Nat,e=.returned (.tuple #[.int .i64 ((k:Int)+1),.int .i64 0])/\(k+1=2↔v=true)/\Below V.heap.size V w'):=zh (λV h=>
    (aFB A c a.length a V (hA.keep h) hp.2 hp.1).mono λe w' ⟨k,h1,h2,h3,h4⟩=>⟨k,h1,(aHb h2 h3).trans ⟨λh=>hv.2 ⟨hp.1,hp.2,h⟩,λh=>(hv.1 h).2.2⟩,h4⟩)
   clear hv hA hp;go_enter Tryz.func74,Tryz.ntmps74
   go_upto_region 4 with(first
     |(go_at_call 69;refine HV.o.mono ?_;rintro e w1 ⟨rfl,hb1⟩)
     |(go_at_call 123;refine(HO.o _ hb1).mono ?_;rintro e w2 ⟨k,rfl,hk,hb2⟩))
   cases v with
   |true=>
    obtain rfl:k=1:=by have:=hk.2 rfl;omega
    go_wp2;go_ret;exact⟨rfl,dW hb1 hb2⟩
   |false=>
    have hne:((k:Int)+1==2)=false:=aG.2 (λe=>by have:=hk.1 (by omega);cases this);go_wp2;go_ret;exact⟨rfl,dW hb1 hb2⟩
  have HV:=zh (qZ A c a false w hA hl (Iff.intro (λh=>by cases h) (λh=>absurd h hp)));obtain rfl:v=false:=cV (λh=>hp ⟨(hv.1 h).1,(hv.1 h).2.1⟩);clear hv hA hp;go_enter Tryz.func74,Tryz.ntmps74
  go_wp2_with (go_at_call 69;refine HV.o.mono ?_;rintro e w1 ⟨rfl,hb1⟩)
  go_ret;exact⟨rfl,hb1⟩
theorem zD (A B:Option Addr)(c d n:Nat)(a b:List Int)(v:Bool)(w:World)(hA:kP w A a)(hB:kP w B b)(ha:Perm n a)(hb:Perm n b)(hn:n<=6)(hv:decide (cmp a b=cmp b a)=v):
    Calls Tryz.prog 76 #[.slice A n c,.slice B n d] w λe w'=>e=.returned (.bool v)/\Below w.heap.size w w':=by
  have H1:=zh (pZ A B c d n a b w hA hB ha hb hn);have H2:Hid (∀V,Below w.heap.size w V->Calls Tryz.prog 77 #[.slice B n d,.slice A n c] V λe w'=>e=.returned (.slice (some ⟨V.heap.size,0,none⟩) n n)/\Blk w' V.heap.size 3 (kU (cmp b a))/\Below V.heap.size V w'):=zh (λV h=>pZ B A d c n b a V (hB.keep h) (hA.keep h) hb ha hn);have HL1:Hid ((cmp a b).length=n):=zh (mE ha hb).1;have HL2:Hid ((cmp b a).length=n):=zh (mE hb ha).1
  have HEQ:Hid (∀V g1 g2,Blk V g1 3 (kU (cmp a b))->Blk V g2 3 (kU (cmp b a))->Calls Tryz.prog 81 #[.slice (some ⟨g1,0,none⟩) n n,.slice (some ⟨g2,0,none⟩) n n] V λe w'=>e=.returned (.bool v)/\Dr V w'):=zh (λV g1 g2 h1 h2=>by
   have:=aAg (some ⟨g1,0,none⟩) (some ⟨g2,0,none⟩) (cmp a b) (cmp b a) n n V (lO h1 HL1.o hn) (lO h2 HL2.o hn) (by have:=HL1.o;omega) v hv;rw[HL1.o,HL2.o]at this
   exact this)
  clear hA hB ha hb hv;generalize cmp a b=x at*;generalize cmp b a=y at*;go_enter Tryz.func76,Tryz.ntmps76;go_upto_region 1 with(fail);go_wp2_with (fail);refine H1.o.mono ?_;rintro e w1 ⟨rfl,hG1,hb1⟩;go_wp2_with (fail);refine(H2.o _ hb1).mono ?_;rintro e w2 ⟨rfl,hG2,hb2⟩;have HE2:=zh (HEQ.o w2 _ _ (hG1.keep hb2 hG1.lt) hG2);clear hG1 hG2 HEQ H1 H2
  go_wp2_with (go_at_call 81;refine HE2.o.mono ?_;rintro e w3 ⟨rfl,hd3⟩)
  go_ret;exact⟨rfl,dW (dW hb1 hb2) hd3.below⟩
theorem aEj (A B:Option Addr)(c d:Nat)(a b:List Int)(v:Bool)(w:World)(hA:kP w A a)(hB:kP w B b)(hl:a.length<=1000000)(hv:decide (lI a b<0)=v):
    Calls Tryz.prog 80 #[.slice A a.length c,.slice B b.length d] w λe w'=>e=.returned (.bool v)/\w=w':=by
  have H:=zh (Gx.tU A B c d a b w hA hB hl);generalize lI a b=z at*;go_enter Tryz.func80,Tryz.ntmps80
  go_wp2_with (go_at_call 35;refine H.o.mono ?_;rintro e w1 ⟨rfl,rfl⟩)
  go_ret;exact⟨rfl,rfl⟩
end Go.Proofs.Tg.Gp
namespace Go.Proofs.Tg.Bk
open Go.RowKit Go.Gr Go.Sp Go.Ev Go.Pm Go.Mo
theorem sO (L:Option Addr)(cL:Nat)(l:List (List Int))(q:Bool)(w:World)(hL:jV w L l)(hl:l.length<=1000000)(hll:∀x∈l,x.length<=1000)(hq:q=true↔∀x∈l,oU x=true):
    Calls Tryz.prog 38 #[.slice L l.length cL] w λe w'=>e=.returned (.bool q)/\w=w':=by
  have HL:=zh hL;have HQ:=zh hq;have HLL:=zh hll;clear hL hq hll;go_enter Tryz.func38,Tryz.ntmps38;go_wp2
  go_loopw [7] (λs7 wr=>∃k:Nat,s7=.int .i64 k/\k<=l.length/\Hid (∀j (h:j<l.length),j<k->oU l[j]=true)/\w=wr) (λs7 _=>l.length-(intOf s7).toNat)
  case atStart=>exact⟨0,rfl,aW _,zh (λj _ h=>absurd h (by omega)),rfl⟩
  case round=>
   obtain⟨k,rfl,hk,HN,rfl⟩:=hrel
   by_cases hkl:k<l.length
   ·obtain⟨ad,E,ce,rfl,hc,hE⟩:=HL.o.at hkl
    have q0:(0:Int)<=(k:Int):=by omega
    have q1:(k:Int)<(l.length:Int):=by omega
    have q3:((k:Int)).toNat=k:=by omega
    obtain⟨b,hb⟩:=eqx (oU l[k]);have HV:=zh (aIs E ce l[k] w hE (HLL.o _ (aB _)));rw[hb]at HV;have HB:=zh hb;clear hE hb
    cases b with
    |true=>
     have HN2:Hid (∀j (h:j<l.length),j<k+1->oU l[j]=true):=zh (λj h hj=>by
      by_cases he:j=k
      ·subst he;exact HB.o
      exact HN.o j h (by omega))
     clear HB;generalize l[k]=x at*
     go_wp2_with (go_at_call 72;refine HV.o.mono ?_;rintro e w2 ⟨rfl,rfl⟩)
     go_roundw
     case rel=>exact⟨k+1,by go_num,by omega,HN2,trivial⟩
     case measure=>simp[intOf];omega
    |false=>
     obtain rfl:q=false:=cV (λh=>by
      have:=HQ.o.1 h _ (aB hkl);rw[HB.o]at this
      cases this)
     clear HB;generalize l[k]=x at*
     go_wp2_with (go_at_call 72;refine HV.o.mono ?_;rintro e w2 ⟨rfl,rfl⟩)
     go_ret;exact⟨rfl,rfl⟩
   obtain rfl:k=l.length:=by omega
   obtain rfl:q=true:=HQ.o.2 (λx hx=>by
    obtain⟨j,hj,rfl⟩:=bI hx
    exact HN.o j hj hj)
   have dk:decide ((l.length:Int)<(l.length:Int))=false:=by simp
   go_wp2;go_ret;exact⟨rfl,rfl⟩
def szE (n:Nat)(b:List (List Int)):Int:=if ∃m∈b,m.length≠n then 4 else if b.length=0∨64<b.length then 2 else 0
theorem uH (L:Option Addr)(cL n:Nat)(l:List (List Int))(z:Int)(w:World)(hL:jV w L l)(hl:l.length<=1000000)(hz:szE n l=z):
    Calls Tryz.prog 73 #[.int .i64 n,.slice L l.length cL] w λe w'=>e=.returned (.int .i64 z)/\w=w':=by
  have HL:=zh hL;have HZ:=zh hz;clear hL hz;go_enter Tryz.func73,Tryz.ntmps73;go_wp2
  go_loopw [9] (λs9 wr=>∃k:Nat,s9=.int .i64 k/\k<=l.length/\Hid (∀j (h:j<l.length),j<k->l[j].length=n)/\w=wr) (λs9 _=>l.length-(intOf s9).toNat)
  case atStart=>exact⟨0,rfl,aW _,zh (λj _ h=>absurd h (by omega)),rfl⟩
  case round=>
   obtain⟨k,rfl,hk,HN,rfl⟩:=hrel
   by_cases hkl:k<l.length
   ·obtain⟨ad,E,ce,rfl,hc,_⟩:=HL.o.at hkl
    have q0:(0:Int)<=(k:Int):=by omega
    have q1:(k:Int)<(l.length:Int):=by omega
    have q3:((k:Int)).toNat=k:=by omega
    by_cases he:l[k].length=n
    ·have d1:decide ((l[k].length:Int)=(n:Int))=true:=dT (by omega);have d2:decide (l[k].length=n)=true:=dT he;have d3:(((l[k].length:Nat):Int)==(n:Int))=true:=fY.2 (by omega)
     have HN2:Hid (∀j (h:j<l.length),j<k+1->l[j].length=n):=zh (λj h hj=>by
      by_cases h2:j=k
      ·subst h2;exact he
      exact HN.o j h (by omega))
     clear he;generalize l[k]=x at hc d1 d2 d3;go_wp2;go_roundw
     case rel=>exact⟨k+1,by go_num,by omega,HN2,trivial⟩
     case measure=>simp[intOf];omega
    have d1:decide ((l[k].length:Int)=(n:Int))=false:=dF (by omega);have d2:decide (l[k].length=n)=false:=dF he;have d3:(((l[k].length:Nat):Int)==(n:Int))=false:=aG.2 (by omega)
    obtain rfl:z=4:=by
     rw[<-HZ.o];unfold szE;rw[aQ ⟨_,aB hkl,he⟩]
    clear he;generalize l[k]=x at hc d1 d2 d3;go_wp2;go_ret;exact⟨rfl,rfl⟩
   obtain rfl:k=l.length:=by omega
   have dk:decide ((l.length:Int)<(l.length:Int))=false:=by simp
   have hno:¬∃m∈l,m.length≠n:=by
    rintro⟨m,hm,hne⟩;obtain⟨j,hj,rfl⟩:=bI hm;exact hne (HN.o j hj hj)
   have hz:=HZ.o;unfold szE at hz;rw[aJ hno]at hz
   by_cases h0:l.length=0
   ·rw[aQ (.inl h0)]at hz;subst hz;have d1:decide ((l.length:Int)=0)=true:=dT (by omega);have d2:decide (l.length=0)=true:=dT h0;have d3:(((l.length:Nat):Int)==0)=true:=fY.2 (by omega);clear h0 hno;go_wp2;go_ret;exact⟨rfl,rfl⟩
   have d1:decide ((l.length:Int)=0)=false:=dF (by omega);have d2:decide (l.length=0)=false:=dF h0;have d3:(((l.length:Nat):Int)==0)=false:=aG.2 (by omega)
   by_cases h6:64<l.length
   ·rw[aQ (.inr h6)]at hz;subst hz;have e1:decide ((64:Int)<(l.length:Int))=true:=dT (by omega);have e2:decide (64<l.length)=true:=dT h6;clear h0 hno h6;go_wp2;go_ret;exact⟨rfl,rfl⟩
   rw[aJ (by rintro(h|h)<;>contradiction)]at hz;subst hz;have e1:decide ((64:Int)<(l.length:Int))=false:=dF (by omega);have e2:decide (64<l.length)=false:=dF h6;clear h0 hno h6;go_wp2;go_ret;exact⟨rfl,rfl⟩
end Go.Proofs.Tg.Bk
namespace Go.Proofs.Tg.Bk
open Go.RowKit Go.Gr Go.Sp Go.Ev Go.Maps Go.WideShapes Go.Pm
theorem six {w:World}{g:Nat}{t:TypeId}{a0 a1 a2 a3 a4 a5:Value}(h:Blk w g t #[a0,a1,a2,a3,a4,a5]):
    (w.cell? ⟨g,0,none⟩=some a0/\w.cell? ⟨g,1,none⟩=some a1/\w.cell? ⟨g,2,none⟩=some a2/\w.cell? ⟨g,3,none⟩=some a3/\w.cell? ⟨g,4,none⟩=some a4/\w.cell? ⟨g,5,none⟩=some a5)/\
    (w.frozen? ⟨g,0,none⟩=false/\w.frozen? ⟨g,1,none⟩=false/\w.frozen? ⟨g,2,none⟩=false/\w.frozen? ⟨g,3,none⟩=false/\w.frozen? ⟨g,4,none⟩=false/\w.frozen? ⟨g,5,none⟩=false):=
  ⟨⟨h.cell 0,h.cell 1,h.cell 2,h.cell 3,h.cell 4,h.cell 5⟩,h.frozen 0,h.frozen 1,h.frozen 2,h.frozen 3,h.frozen 4,h.frozen 5⟩
theorem aFz {w w':World}{B g:Nat}(h:Below B w w')(hg:B<=g)(a0 a1 a2 a3 a4 a5:Value):
    Below B w ((((((w'.setCell ⟨g,0,none⟩ a0).setCell ⟨g,1,none⟩ a1).setCell ⟨g,2,none⟩ a2).setCell ⟨g,3,none⟩ a3).setCell ⟨g,4,none⟩ a4).setCell ⟨g,5,none⟩ a5):=
  hJ (hJ (hJ (hJ (hJ (hJ h hg _ _) hg _ _) hg _ _) hg _ _) hg _ _) hg _ _
def rZ (el:List Int):Value:=.agg ((kv el).map vi).toArray
def z6:Array Value:=#[.int .i64 0,.int .i64 0,.int .i64 0,.int .i64 0,.int .i64 0,.int .i64 0]
theorem aAd (el:List Int):rZ el=.agg #[.int .i64 (el.getD 0 0),.int .i64 (el.getD 1 0),.int .i64 (el.getD 2 0),.int .i64 (el.getD 3 0),.int .i64 (el.getD 4 0),.int .i64 (el.getD 5 0)]:=rfl
theorem pB (A:Option Addr)(c:Nat)(el:List Int)(w:World)(hA:kP w A el)(hl:el.length<=6):
    Calls Tryz.prog 75 #[.slice A el.length c] w λe w'=>e=.returned (rZ el)/\Below w.heap.size w w':=by
  have HK:=zh (aAd el);generalize rZ el=kk at*;obtain⟨W,hW⟩:=eqx ((w.alloc (.cells z6 135)).alloc (.cells z6 135))
  have B2:Blk W w.heap.size 135 z6:=by rw[<-hW];exact(Blk.new _ _ _).alloc _
  have B3:Blk W (w.heap.size+1) 135 z6:=by rw[<-hW];have:=Blk.new (w.alloc (.cells z6 135)) 135 z6;simpa using this
  have hbW:Below w.heap.size w W:=by rw[<-hW];exact(bal).alloc (by simp) _
  have hAW:=Sl.keep hA hbW;have HWW:=zh hW;clear hW hA;go_enter Tryz.func75,Tryz.ntmps75;go_upto_region 2 with(fail);have hh:=HWW.o;unfold z6 at hh;rw[hh];clear hh
  go_wp2_with (first
    |(refine xF rfl _ _ rfl (w.heap.size+1) 135 A c el [] rfl rfl hAW hl B3 ?_
      intro W' E3 hbut;have E2:=hbut.blk _ _ _ (by omega) B2;have hb':=hbut.below _ _ hbW (by omega);obtain⟨⟨a0,a1,a2,a3,a4,a5⟩,f0,f1,f2,f3,f4,f5⟩:=six E2;obtain⟨⟨j0,j1,j2,j3,j4,j5⟩,k0,k1,k2,k3,k4,k5⟩:=six E3;have hz:=E2.lt;clear B2 B3 E2 E3 hbut hAW;generalize el.getD 0 0=v0 at*;generalize el.getD 1 0=v1 at*;generalize el.getD 2 0=v2 at*;generalize el.getD 3 0=v3 at*;generalize el.getD 4 0=v4 at*
      generalize el.getD 5 0=v5 at*))
  refine aO (v:=.agg #[.int .i64 v0,.int .i64 v1,.int .i64 v2,.int .i64 v3,.int .i64 v4,.int .i64 v5]) (by simp[results,Tryz.results75,go_sem,a0,a1,a2,a3,a4,a5]) rfl ⟨by rw[HK.o],?_⟩;exact aFz hb' (by omega) _ _ _ _ _ _
theorem uP:laidOutB Tryz.prog=true:=by kernel_rfl
theorem vU:Keyed Tryz.prog 135:=
  Keyed.of_law (deep_law_laid uP (m:=6) (by decide) (dQ (by kernel_rfl)) (by kernel_rfl) (by kernel_rfl))
theorem qX {n:Nat}{el:List Int}(h:pY n 48 el):keyOf Tryz.prog 135 (rZ el)=some (kl6 (kv el)):=
  aCf (I:=3) (s:=Tryz.prog.types.size-1) Tryz.underlying135 Tryz.underlying3 (by kernel_rfl) (by kernel_rfl) (by kernel_rfl) (by kernel_rfl) (kv el) (rY el) (aCL h)
theorem aEi (w:World):(zeroValue 4).run Tryz.prog w=.ok (.bool false) w:=by kernel_rfl
def mB (w:World)(mb cnt n:Nat)(S:List (List Int)):Prop:=
  ∃D:DataW Unit,w.ownsMap Tryz.prog 135 (plainElem Tryz.prog 4) mb cnt D/\yN (λv=>kl6 (kv v)) (pY n 48) S D
theorem mB.mapB {w:World}{mb cnt n:Nat}{S:List (List Int)}(h:mB w mb cnt n S):qU w mb:=by
 obtain⟨D,h,_⟩:=h
 exact uG h
theorem mB.made (w:World)(n:Nat):mB (w.alloc (.map #[] 0)) w.heap.size 0 n []:=⟨_,World.ownsMap_made _ _ _ _,yN.nil _ _⟩
theorem mB.below {w w':World}{B mb cnt n:Nat}{S:List (List Int)}(h:mB w mb cnt n S)(hb:Below B w w')(hB:mb<B):mB w' mb cnt n S:=by
 obtain⟨D,⟨es,clock,hh,r⟩,h2⟩:=h
 exact⟨D,⟨es,clock,(hb.block mb hB).trans hh,r⟩,h2⟩
theorem mB.lt {w:World}{mb cnt n:Nat}{S:List (List Int)}(h:mB w mb cnt n S):mb<w.heap.size:=by
 obtain⟨es,clock,hh⟩:=h.mapB
 exact(cR.1 hh).1
theorem mB.grown {w w':World}{mb cnt n:Nat}{S:List (List Int)}{r:Option Nat}(h:mB w mb cnt n S)(hg:w.grownBy w' r)(hr:some mb≠r):mB w' mb cnt n S:=by
 have hlt:=h.lt
 obtain⟨D,⟨es,clock,hh,r⟩,h2⟩:=h
 exact⟨D,⟨es,clock,(hg.block mb hlt hr).trans hh,r⟩,h2⟩
theorem mB.look {w:World}{mb cnt n:Nat}{S:List (List Int)}(h:mB w mb cnt n S){v:List Int}(hv:pY n 48 v){c:Bool}(hc:decide (v∈S)=c):
    (Instr.lookup 93 (.map (some mb)) (rZ v) false).run Tryz.prog w=.ok (.bool c) w:=by
  obtain⟨D,h1,h2⟩:=h;obtain⟨v',ps,hrun,hv2⟩:=h1.lookup vU Tryz.underlying93 (aEi w) (plainElem_bool Tryz.underlying4 false) (qX hv);obtain⟨c',rfl,e⟩:=nF Tryz.underlying4 hv2;rw[h2.at' v hv,(dH.2 Iff.rfl).trans hc]at e
  injection e with e _
  injection e with e
  injection e with e
  subst e;exact hrun
theorem mB.put {w:World}{mb cnt n:Nat}{S:List (List Int)}(h:mB w mb cnt n S)(hn:n<=6)(hcnt:cnt<=1000000000){v:List Int}(hv:pY n 48 v)(hnew:v∉S):
    ∃w',(Instr.mapUpdate 93 (.map (some mb)) (rZ v) (.bool true)).run Tryz.prog w=.ok () w'/\mB w' mb (cnt+1) n (v::S)/\w.grownBy w' (some mb):=by
  obtain⟨D,h1,h2⟩:=h;obtain⟨w',hrun,h3,h4⟩:=h1.update vU Tryz.underlying93 (by simp only[maxLen];omega) (qX hv) (plainElem_bool Tryz.underlying4 true);exact⟨w',hrun,⟨_,h3,h2.put (λ_ _=>aAc _) (λ_ _ hu hv=>aCM hn hu hv) hv hnew⟩,h4⟩
theorem zB {w w1 w2:World}{B mb:Nat}(h:Below B w w1)(hm:qU w1 mb)(hg:w1.grownBy w2 (some mb))(hB:B<=mb):Below B w w2:=
  h.grown hg (by have:=hm.lt;omega) (λq hq=>by injection hq with hq;omega)
theorem qY {n:Nat}(hn:n<=6){a:List Int}(h:Perm n a):pY n 48 a:=⟨h.1,λx hx=>by have:=h.2.1 x hx;omega⟩
end Go.Proofs.Tg.Bk
namespace Go.Proofs.Tg
open Go.RowKit Go.Maps Go.WideShapes
structure aFv {α:Type}[DecidableEq α](kl:α->Lit)(dom:α->Prop)(S:List α)(D:DataW Unit):Prop where
  tidy:Maps.Tidy D
  at':∀i (h:i<S.length),dom S[i]->D.atKey (kl S[i]) (.lit (.int .i64 0))=.lit (.int .i64 (i:Nat))
  has:∀v,dom v->Maps.has D (kl v)=decide (v∈S)
theorem aFv.nil {α:Type}[DecidableEq α](kl:α->Lit)(dom:α->Prop):aFv kl dom [] (.map []):=⟨Maps.tidy_empty,λi h=>absurd h (by simp),λv _=>by simp[Maps.has]⟩
theorem aFv.put {α:Type}[DecidableEq α]{kl:α->Lit}{dom:α->Prop}{S:List α}{D:DataW Unit}(h:aFv kl dom S D)(hk:∀v,dom v->WideAt.IsKeyLit (kl v))(hi:∀u v,dom u->dom v->kl u=kl v->u=v){x:α}(hx:dom x)(hn:x∉S):
    aFv kl dom (S++[x]) (D.put (kl x) (.lit (.int .i64 (S.length:Nat)))):=by
  refine⟨h.tidy.put (hk x hx) _,λi hl hv=>?_,λv hv=>?_⟩
  ·by_cases hil:i<S.length
   ·have e:(S++[x])[i]=S[i]:=eY hil;rw[e]at hv ⊢;rw[Maps.atKey_put_other (λe2=>hn (by rw[<-hi _ x hv hx e2];exact aB _)),h.at' i hil hv]
   have e0:i=S.length:=by simp at hl;omega
   subst e0
   have e:(S++[x])[S.length]=x:=by simp
   rw[e]at hv ⊢;rw[Maps.atKey_put_same h.tidy.isMap (hk x hv)]
  by_cases he:v=x
  ·subst he;rw[Maps.has_put_same h.tidy.isMap (hk v hv)];simp
  rw[Maps.has_put_other (λe=>he (hi v x hv hx e)),h.has v hv];simp[he]
end Go.Proofs.Tg
namespace Go.Proofs.Tg.Bk
open Go.RowKit Go.Gr Go.Sp Go.Ev Go.Maps Go.WideShapes Go.Pm
def rS (w:World)(mb cnt n:Nat)(S:List (List Int)):Prop:=
  ∃D:DataW Unit,w.ownsMap Tryz.prog 135 (plainElem Tryz.prog 3) mb cnt D/\aFv (λv=>kl6 (kv v)) (pY n 48) S D
theorem rS.mapB {w:World}{mb cnt n:Nat}{S:List (List Int)}(h:rS w mb cnt n S):qU w mb:=by
 obtain⟨D,h,_⟩:=h
 exact uG h
theorem rS.made (w:World)(n:Nat):rS (w.alloc (.map #[] 0)) w.heap.size 0 n []:=⟨_,World.ownsMap_made _ _ _ _,aFv.nil _ _⟩
theorem rS.below {w w':World}{B mb cnt n:Nat}{S:List (List Int)}(h:rS w mb cnt n S)(hb:Below B w w')(hB:mb<B):rS w' mb cnt n S:=by
 obtain⟨D,⟨es,clock,hh,r⟩,h2⟩:=h
 exact⟨D,⟨es,clock,(hb.block mb hB).trans hh,r⟩,h2⟩
theorem rS.lt {w:World}{mb cnt n:Nat}{S:List (List Int)}(h:rS w mb cnt n S):mb<w.heap.size:=by
 obtain⟨es,clock,hh⟩:=h.mapB
 exact(cR.1 hh).1
theorem aPi (w:World):(zeroValue 3).run Tryz.prog w=.ok (.int .i64 0) w:=by kernel_rfl
theorem aFF {l:List (List Int)}(hn:l.Nodup){i:Nat}(h:i<l.length):l.idxOf l[i]=i:=by
 induction l generalizing i with
 |nil=>simp at h
 |cons a l ih=>
  have hn':=fK.1 hn
  cases i with
  |zero=>simp
  |succ i=>
   have hi:i<l.length:=by simpa using h
   have hne:a≠l[i]:=λe=>hn'.1 (by rw[e];exact aB _)
   have hb:(a==l[i])=false:=aG.2 hne;rw[List.getElem_cons_succ,List.idxOf_cons,hb,ih hn'.2 hi]
   try rfl
theorem rS.look {w:World}{mb cnt n:Nat}{S:List (List Int)}(h:rS w mb cnt n S){v:List Int}(hv:pY n 48 v){c:Bool}(hc:decide (v∈S)=c):
    ∃z:Int,(Instr.lookup 87 (.map (some mb)) (rZ v) true).run Tryz.prog w=.ok (.tuple #[.int .i64 z,.bool c]) w/\(c=true->S.Nodup->z=(S.idxOf v:Nat)):=by
  obtain⟨D,h1,h2⟩:=h;obtain⟨v',ps,hrun,hv2⟩:=h1.look_ok vU Tryz.underlying87 (aPi w) (plainElem_int Tryz.underlying3 (a:=0) (by decide)) (qX hv);obtain⟨z,rfl,e,_⟩:=plainElem_int_inv Tryz.underlying3 hv2;have e2:=(h2.has v hv).trans ((dH.2 Iff.rfl).trans hc);rw[e2]at hrun;refine⟨z,hrun,λht hn=>?_⟩;subst ht;obtain⟨i,hi,rfl⟩:=bI (dQ hc);have hz:=h2.at' i hi hv;rw[hz]at e
  injection e with e _
  injection e with e
  injection e with _ e
  rw[aFF hn hi];exact e.symm
theorem rS.put {w:World}{mb cnt n:Nat}{S:List (List Int)}(h:rS w mb cnt n S)(hn:n<=6)(hcnt:cnt<=1000000000){v:List Int}(hv:pY n 48 v)(hnew:v∉S)(hS:S.length<=1000000):
    ∃w',(Instr.mapUpdate 87 (.map (some mb)) (rZ v) (.int .i64 (S.length:Nat))).run Tryz.prog w=.ok () w'/\rS w' mb (cnt+1) n (S++[v])/\w.grownBy w' (some mb):=by
  obtain⟨D,h1,h2⟩:=h;obtain⟨w',hrun,h3,h4⟩:=h1.update vU Tryz.underlying87 (by simp only[maxLen];omega) (qX hv) (plainElem_int Tryz.underlying3 (a:=(S.length:Nat)) (nK ⟨by omega,by omega⟩));exact⟨w',hrun,⟨_,h3,h2.put (λ_ _=>aAc _) (λ_ _ hu hv=>aCM hn hu hv) hv hnew⟩,h4⟩
structure aPR (w:World)(n:Nat)(l:List (List Int))(wr:World)(mb k:Nat):Prop where
  below:Below w.heap.size w wr
  map:rS wr mb k n (l.take k)
  nodup:(l.take k).Nodup
  low:w.heap.size<=mb
def aNK (n:Nat)(l:List (List Int))(q:Bool)(w:World)(e:Ending)(w':World):Prop:=Below w.heap.size w w'/\
  ((q=false/\e=.returned (.tuple #[.map none,.bool false]))∨(q=true/\∃mb,e=.returned (.tuple #[.map (some mb),.bool true])/\rS w' mb l.length n l/\w.heap.size<=mb))
theorem rT (L:Option Addr)(cL n:Nat)(l:List (List Int))(q:Bool)(w:World)(hL:jV w L l)(hd:∀m∈l,pY n 48 m)(hn:n<=6)(hl:l.length<=1000)(hq:q=true↔l.Nodup):
    Calls Tryz.prog 41 #[.slice L l.length cL] w (aNK n l q w):=by
  have HL:=zh hL;have HD:=zh hd;have HQ:=zh hq;clear hL hd hq;have hmm:=@run_makeMap Tryz.prog;go_enter Tryz.func41,Tryz.ntmps41;go_wp2

  have M0:=rS.made w n;have hb0:=(bM w.heap.size w).alloc (aA _) (.map #[] 0);generalize w.alloc (.map #[] 0)=W at*;clear hmm
  go_loopw [12] (λs12 wr=>∃k:Nat,s12=.int .i64 k/\k<=l.length/\Hid (aPR w n l wr w.heap.size k)) (λs12 _=>l.length-(intOf s12).toNat)
  case atStart=>exact⟨0,rfl,aW _,zh ⟨hb0,by simpa using M0,by simp,aA _⟩⟩
  case round=>
   clear M0 hb0;obtain⟨wo,rfl⟩:∃wo:World,wo=wr:=⟨_,rfl⟩;obtain⟨k,rfl,hk,HST⟩:=hrel;have hbo:=HST.o.below
   by_cases hkl:k<l.length
   ·obtain⟨ad,E,ce,rfl,hc,hE⟩:=HL.o.at hkl;have hc:=gL hbo hc
    have q0:(0:Int)<=(k:Int):=by omega
    have q1:(k:Int)<(l.length:Int):=by omega
    have q3:((k:Int)).toNat=k:=by omega
    have hdk:=HD.o l[k] (aB _);have hlen:=hdk.1
    have HKY:Hid (∀V,Below wo.heap.size wo V->Calls Tryz.prog 75 #[.slice E n ce] V λe w'=>e=.returned (rZ l[k])/\Below V.heap.size V w'):=zh (λV h=>by
     have:=pB E ce l[k] V (hE.keep (dW hbo h)) (by omega)
     rwa [hlen]at this)
    rw[hlen]at hc;have hmap:=HST.o.map;have hlt:=hmap.lt;have HKL:Hid ((l.take k).length=k):=zh (by rw[aS];omega)
    by_cases hin:l[k]∈l.take k
    ·obtain rfl:q=false:=cV (λh=>by
      have h1:=List.Nodup.sublist (List.take_sublist (k+1) l) (HQ.o.1 h);rw[aD hkl]at h1
      exact(eL.1 h1).2.2 _ hin _ (by simp) rfl)
     have hdec:decide (l[k]∈l.take k)=true:=dT hin;clear hin hE hlen;generalize l[k]=x at*;generalize l.take k=S at*
     go_wp2_with (go_at_call 75;refine(HKY.o _ brf).mono ?_;rintro e w4 ⟨rfl,hb4⟩
                  obtain⟨z,hlook,_⟩:=(hmap.below hb4 hlt).look hdk hdec)
     go_ret2
     exact⟨dW hbo hb4,.inl ⟨rfl,rfl⟩⟩
    have hdec:decide (l[k]∈l.take k)=false:=dF hin;have HIN:=zh hin;have HTS:Hid (l.take (k+1)=l.take k++[l[k]]):=zh (aD hkl)
    have HND:Hid ((l.take (k+1)).Nodup):=zh (by
     rw[HTS.o];refine eL.2 ⟨HST.o.nodup,by simp,λa ha b hb=>?_⟩;rw[aN.1 hb];rintro rfl
     exact hin ha)
    clear hin hE hlen;generalize l[k]=x at*;have hlow:=HST.o.low
    go_upto_region 6 with(first
      |(go_at_call 75;refine(HKY.o _ brf).mono ?_;rintro e w4 ⟨rfl,hb4⟩
        obtain⟨z,hlook,_⟩:=(hmap.below hb4 hlt).look hdk hdec))
    clear hlook;have hmap4:=hmap.below hb4 hlt;have hlt4:=hmap4.lt
    go_wp2_with (go_at_call 75;refine(HKY.o _ hb4).mono ?_;rintro e w5 ⟨rfl,hb5⟩
                 have hmap5:=hmap4.below hb5 hlt4;obtain⟨w6,hrun,hM6,hg6⟩:=hmap5.put hn (by omega) hdk HIN.o (by rw[HKL.o];omega)
                 rw[HKL.o]at hrun)
    go_roundw
    case rel=>
     refine⟨k+1,by go_num,by omega,zh ⟨?_,by rw[HTS.o];exact hM6,HND.o,hlow⟩⟩;exact zB (dW (dW hbo hb4) hb5) hmap5.mapB hg6 hlow
    case measure=>simp[intOf];omega
   obtain rfl:k=l.length:=by omega
   have hm:=HST.o.map;have hnd:=HST.o.nodup;rw[eE]at hm hnd;obtain rfl:q=true:=HQ.o.2 hnd;have HM:=zh hm;have hlow:=HST.o.low
   have dk:decide ((l.length:Int)<(l.length:Int))=false:=by simp
   clear hm hnd;go_wp2
   go_ret2
   exact⟨hbo,.inr ⟨rfl,_,rfl,HM.o,hlow⟩⟩
end Go.Proofs.Tg.Bk
section
namespace Go.Proofs.Tg
open Go.RowKit
def Que (w:World)(base:Nat)(e:TypeId)(v:Value)(xs:List Value):Prop:=
  ∃g o cap cur,v=.slice (some ⟨g,o,none⟩) xs.length cap/\base<=g/\w.heap[g]?=some (.cells cur e (0,0))/\xs.length<=cap/\cap<=maxLen/\o+cap<=cur.size/\∀j u,xs[j]?=some u->cur[o+j]?=some u
theorem Que.below {w w':World}{base:Nat}{e:TypeId}{v:Value}{xs:List Value}(h:Que w base e v xs)(hb:Below w.heap.size w w'):Que w' base e v xs:=by
 obtain⟨g,o,cap,cur,h1,h2,h3,h4⟩:=h
 exact⟨g,o,cap,cur,h1,h2,(hb.block g (cR.1 h3).1).trans h3,h4⟩
theorem Que.of_blk {w:World}{base g:Nat}{e:TypeId}{xs:List Value}(h:Blk w g e xs.toArray)(hb:base<=g)(hm:xs.length<=maxLen):Que w base e (.slice (some ⟨g,0,none⟩) xs.length xs.length) xs:=
  ⟨g,0,xs.length,xs.toArray,rfl,hb,h,aA _,hm,by simp,λj u hu=>by simpa using hu⟩
theorem Que.blk {w:World}{base:Nat}{e:TypeId}{v:Value}{xs:List Value}(h:Que w base e v xs):∃g,v.ownBlock=some g/\base<=g/\g<w.heap.size:=by
 obtain⟨g,o,cap,cur,rfl,h2,h3,_⟩:=h
 exact⟨g,rfl,h2,(cR.1 h3).1⟩
theorem Que.ne {w:World}{base g:Nat}{e t:TypeId}{v:Value}{xs:List Value}{cs:Array Value}(h:Que w base e v xs)(hB:Blk w g t cs)(hne:e≠t):some g≠v.ownBlock:=by
 obtain⟨q,o,cap,cur,rfl,h2,h3,_⟩:=h
 intro e1
 injection e1 with e1
 subst e1
 unfold Blk at hB
 rw[h3]at hB
 injection hB with hB
 injection hB with _ h4
 exact hne h4
theorem Que.tail {w:World}{base:Nat}{e:TypeId}{g o n cap:Nat}{x:Value}{xs:List Value}(h:Que w base e (.slice (some ⟨g,o,none⟩) n cap) (x::xs)):Que w base e (.slice (some ⟨g,o+1,none⟩) xs.length (cap-1)) xs:=by
 obtain⟨g',o',cap',cur,h1,h2,h3,h4,h5,h6,h7⟩:=h
 injection h1 with h1 _ hc
 injection h1 with h1
 injection h1 with hg ho
 subst hg ho hc
 rw[bP]at h4
 refine⟨g,o+1,cap-1,cur,rfl,h2,h3,by omega,by omega,by omega,λj u hu=>?_⟩
 have:=h7 (j+1) u (by simpa using hu)
 rw[show o+1+j=o+(j+1) by omega]
 exact this
theorem Que.head {w:World}{base:Nat}{e:TypeId}{v x:Value}{xs:List Value}(h:Que w base e v (x::xs)):∃g o cap,v=.slice (some ⟨g,o,none⟩) (xs.length+1) cap/\w.cell? ⟨g,o,none⟩=some x/\0<cap:=by
 obtain⟨g,o,cap,cur,h1,h2,h3,h4,h5,h6,h7⟩:=h
 refine⟨g,o,cap,h1,?_,by rw[bP]at h4;omega⟩
 rw[cell_of_row w g o cur e _ h3]
 exact h7 0 x rfl
section
variable {P : Program}
theorem aBl (w:World)(base:Nat)(t ty e:TypeId)(i:TypeInfo)(z:Value)(bytes:Nat)(ht:P.underlying t=some (.slice e))(hi:P.info? e=some i)(hz:i.zero=some z)(hsize:i.size=1)(hby:i.bytes=bytes)(hzs:z.cells.size=1)
    (v:Value) (xs:List Value) (hq:Que w base e v xs) (a:Addr) (c:Nat) (u:Value) (hu:w.cell? a=some u) (h1:u.oneCell'=true) (h63:xs.length+1<=maxLen) (hbytes:(xs.length+1)*bytes<=140737488355328) (hbase:base<=w.heap.size):
    ∃v' w',(Builtin.append_ #[t,t] ty #[v,.slice (some a) 1 c]).run P w=.ok v' w'/\Que w' base e v' (xs++[u])/\w.grownBy w' v.ownBlock/\(v'.ownBlock=v.ownBlock∨v'.ownBlock=some w.heap.size)/\∀ad n c,v=.slice (some ad) n c->((∃n' c',v'=.slice (some ad) n' c')∨v'.ownBlock=some w.heap.size)/\∀q,q<ad.off+xs.length->w'.cell? ⟨ad.block,q,none⟩=w.cell? ⟨ad.block,q,none⟩:=by
  obtain⟨g,o,cap,cur,rfl,h2,h3,h4,h5,h6,h7⟩:=hq
  have hnews:∀j x,[u][j]?=some x->w.cell? (a.add j)=some x:=λj x hj=>by
   match j,hj with
   |0,hj=>
    simp at hj;subst hj
    have e:a.add 0=a:=by unfold Addr.add;split<;>simp_all
    rw[e];exact hu
  have hs:Src P i.size t (.slice (some a) 1 c) 1 [u] w:=Src.ofSlice w ht a 1 c [u] (by rw[hsize];rfl) hnews (λx hx=>by rw[aN.1 hx];exact h1)
  by_cases hroom:xs.length+1<=cap
  ·have hlt:o+xs.length<cur.size:=by omega
   have hr:=run_append_room_src (P:=P) w t t ty e i ht hi g o xs.length cap _ 1 [u] hs hroom (λj hj=>by
    have:j=0:=by simpa using hj
    subst this;rw[hsize,cell_of_row w g _ cur e _ h3];simp
    omega) (λj hj=>by
    have:j=0:=by simpa using hj
    subst this;rw[hsize]
    simp[World.frozen?,h3])
   rw[hsize,dI]at hr
   refine⟨_,_,hr,⟨g,o,cap,cur.setIfInBounds (o+xs.length) u,by simp,h2,?_,by simpa using hroom,h5,by simpa using h6,λj x hx=>?_⟩,?_,.inl rfl,λad n c he=>⟨.inl (by
    injection he with he
    injection he with he
    subst he
    exact⟨_,_,rfl⟩),λq hq=>?_⟩⟩
   ·simp[World.setCells,World.setCell,gM,h3]
   ·rw[Array.getElem?_setIfInBounds]
    by_cases hj:j<xs.length
    ·rw[aJ (by omega)];rw[bY hj]at hx;exact h7 j x hx
    have hj2:j=xs.length:=by
     have:=(aX.1 hx).1;simp at this;omega
    subst hj2;rw[aQ rfl,aQ hlt];simpa using hx
   ·refine⟨rfl,rfl,rfl,by simp[World.setCells,World.setCell],λk hk hne=>?_⟩
    have:k≠g:=λe1=>hne (by simp[Value.ownBlock,e1])
    simp[World.setCells,World.setCell,gM,Ne.symm this]
   injection he with he
   injection he with he
   subst he;have hq2:q<o+xs.length:=hq
   exact bR _ _ _ _ (λe1=>by
    injection e1 with _ e2 _
    omega)
  have holds:(Builtin.firstCells i.size xs.length (.slice (some ⟨g,o,none⟩) xs.length cap)).run P w.drew=.ok xs.toArray w.drew:=by
   rw[hsize];refine iI w.drew 1 xs.length ⟨g,o,none⟩ xs.length cap xs (by simp) (λj x hx=>?_);rw[kI,World.cell?_drew,cell_of_row w g _ cur e _ h3];exact h7 j x hx
  have hr:=run_append_grow_src (P:=P) w t t ty e i z ht hi hz (some ⟨g,o,none⟩) xs.length cap xs holds _ 1 [u] hs (by omega) (by simp only[maxLen]at h63;omega) (iZ (by omega) (by rw[hby];exact hbytes));have hge:=jM w (xs.length+1) cap e;have hcm:grownCap w (xs.length+1) cap e<=maxLen:=iM w (xs.length+1) cap e h63;refine⟨_,_,hr,⟨w.heap.size,0,grownCap w (xs.length+1) cap e,_,by simp,hbase,heap_alloc_new w.drew _,by simpa using hge,hcm,?_,λj x hx=>?_⟩,⟨rfl,rfl,rfl,by simp,λk hk _=>heap_alloc_old w.drew _ hk⟩,.inr rfl,λad n c he=>⟨.inr rfl,λq hq=>?_⟩⟩
  ·simp only[Array.size_append,List.size_toArray,size_zeroCells,hzs,aC,dC];omega
  ·rw[bN,Array.getElem?_append_left]
   ·simpa using hx
   have:=(aX.1 hx).1;simpa using this
  injection he with he
  injection he with he
  subst he;exact World.cell?_of_block (heap_alloc_old w.drew _ (cR.1 h3).1)
theorem oQ (w:World){ops:Array Oper}{rest:List Oper}{o:Oper}{a:Act}{Q:Exit->Act->World->Prop}(hgd:o.guard=none)(s x:Operand)(t:TypeId)
    (ho:o.op=.call {callee:=.builtin .append,args:=#[s,x],argTypes:=#[t,t]})
    (base:Nat) (e:TypeId) (i:TypeInfo) (z:Value) (bytes:Nat) (ht:P.underlying t=some (.slice e)) (hi:P.info? e=some i) (hz:i.zero=some z) (hsize:i.size=1) (hby:i.bytes=bytes) (hzs:z.cells.size=1)
    (v:Value) (xs:List Value) (hs:a.eval s=v) (hq:Que w base e v xs) (ad:Addr) (c:Nat) (u:Value) (hx:a.eval x=.slice (some ad) 1 c) (hu:w.cell? ad=some u) (h1:u.oneCell'=true) (h63:xs.length+1<=maxLen) (hbytes:(xs.length+1)*bytes<=140737488355328) (hbase:base<=w.heap.size)
    (h:∀v' w',Que w' base e v' (xs++[u])->w.grownBy w' v.ownBlock->(v'.ownBlock=v.ownBlock∨v'.ownBlock=some w.heap.size)->(∀ad n c,v=.slice (some ad) n c->((∃n' c',v'=.slice (some ad) n' c')∨v'.ownBlock=some w.heap.size)/\∀q,q<ad.off+xs.length->w'.cell? ⟨ad.block,q,none⟩=w.cell? ⟨ad.block,q,none⟩)->wpList P ops Q rest (a.put o.dst v') w'):
    wpList P ops Q (o::rest) a w:=by
  refine eW hgd λK hK=>?_
  obtain⟨v',w',hr,h2,h3,h4,h5⟩:=aBl (P:=P) w base t o.type e i z bytes ht hi hz hsize hby hzs v xs hq ad c u hu h1 h63 hbytes hbase;unfold Oper.wp execOp;simp only[ho,resolve,invoke,builtin,Sem.run_bind,Sem.run_pure,Result.andThen_ok,List.map_toArray,fH,List.map_nil,hs,hx,hr];exact hK _ _ (h v' w' h2 h3 h4 h5)
end
end Go.Proofs.Tg
end
