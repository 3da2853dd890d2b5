/- Parts of the proof. -/
import Derived.Test.YtabdoikbodjidaaGreatDoorMBO31
set_option maxHeartbeats 64000000
set_option maxRecDepth 100000
namespace Go.Proofs.Tg.Iw
open Go.RowKit Go.Bw Go.Gr Go.Proofs.Tg Go.Rq
theorem aKN (p q:Rat)(N1 D1 N2 D2:Option Addr)(c1 d1 c2 d2:Nat)(w:World)(h1:mJ w p N1 c1 D1 d1)(h2:mJ w q N2 c2 D2 d2)
    (b1:(dg p.num.natAbs).length<=200) (b2:(dg q.num.natAbs).length<40) (b3:(dg p.den).length<=200) (b4:(dg q.den).length<40) (hT:Tab w):
    Calls Tryz.prog 59 #[rval p N1 c1 D1 d1,rval q N2 c2 D2 d2] w (mR (p+q) w):=by
  by_cases e1:p.den=1
  ·by_cases e2:q.den=1
   ·exact aHF p q N1 D1 N2 D2 c1 d1 c2 d2 w h1 h2 e1 e2 (by omega) (by omega)
   exact aFd p q N1 D1 N2 D2 c1 d1 c2 d2 w h1 h2 e1 e2 (by omega) (by omega) (by omega) (.inr b4)
  by_cases e2:q.den=1
  ·exact aDK p q N1 D1 N2 D2 c1 d1 c2 d2 w h1 h2 e1 e2 (by omega) (by omega) (by omega) (.inl b2)
  exact aKM p q N1 D1 N2 D2 c1 d1 c2 d2 w h1 h2 e1 e2 b1 b2 b3 b4 hT
end Go.Proofs.Tg.Iw
namespace Go.Proofs.Tg
open Go.RowKit Go.Qn
def aOq (l:List UInt8)(w:World)(e:Ending)(w':World):Prop:=
  Below w.heap.size w w'/\(e=.returned (.tuple #[.agg #[.int .i64 0,.int .i64 0],.bool false])∨
    (∃b n d,rd l=some (b,n,d)/\n<1000000000/\d<1000000000/\e=.returned (.tuple #[.agg #[.int .i64 (sg b n),.int .i64 (d:Nat)],.bool true])))
theorem aJO (s:ByteArray)(w:World)(hs:s.size<=64):
    Calls Tryz.prog 90 #[.string s] w (aOq s.data.toList w):=by
  have HL:=zh (mF s);obtain⟨W0,hW0⟩:=eqx (w.alloc (.cells #[.int .i64 0,.int .i64 0] 112))
  have B2:Blk W0 w.heap.size 112 #[.int .i64 0,.int .i64 0]:=by rw[<-hW0];exact Blk.new _ _ _
  have hbA:Below w.heap.size w W0:=by rw[<-hW0];exact bal
  have HW0:=zh hW0;clear hW0
  by_cases h20:20<s.size
  ·have hd20:decide ((20:Int)<(s.size:Int))=true:=dT (by omega);have hz:=B2.lt;obtain⟨a0,a1,a2,a3⟩:=B2.two;go_enter Tryz.func90,Tryz.ntmps90;go_upto_region 1 with(fail);rw[HW0.o];go_wp2;refine aO (v:=.tuple #[.agg #[.int .i64 0,.int .i64 0],.bool false]) (by simp[results,Tryz.results90,go_sem,a0,a1]) rfl ⟨?_,.inl rfl⟩;exact hJ (hJ hbA (by omega) _ _) (by omega) _ _
  have hd20:decide ((20:Int)<(s.size:Int))=false:=dF (by omega);go_enter Tryz.func90,Tryz.ntmps90;go_upto_region 1 with(fail);rw[HW0.o];go_wp2_with (fail);refine(aCk s W0 (by omega)).mono ?_;rintro e w1 ⟨b,num,den,ok,rfl,HS,hb1⟩;have hc:=vF HS;clear HS;go_upto_region 4 with(fail);obtain⟨W1,hW1⟩:=eqx (w1.alloc (.cells #[.bool b,.string (bs num),.string (bs den)] 173))
  have C2:Blk W1 w.heap.size 112 #[.int .i64 0,.int .i64 0]:=by rw[<-hW1];exact(B2.keep hb1 B2.lt).alloc _
  have C4:Blk W1 w1.heap.size 173 #[.bool b,.string (bs num),.string (bs den)]:=by rw[<-hW1];exact Blk.new _ _ _
  have hbB:Below w.heap.size w W1:=by rw[<-hW1];have:=dW hbA hb1;exact this.alloc this.size _
  have hz1:w.heap.size<w1.heap.size:=by have:=B2.lt;have:=hb1.size;omega
  rw[hW1];clear hW1 B2 hb1 hbA;obtain⟨a0,a1,a2,a3⟩:=C2.two;obtain⟨p0,p1,p2,_,_,_⟩:=C4.three;have hz2:=C4.lt;have hz3:=C2.lt
  rcases hc with⟨rfl,hr⟩|⟨rfl,n1,_,rfl,hr⟩|⟨rfl,n1,_,_,hdn,m1,v0,v1,hr⟩
  ·have HR:=zh hr;clear hr;go_wp2;refine aO (v:=.tuple #[.agg #[.int .i64 0,.int .i64 0],.bool false]) (by simp[results,Tryz.results90,go_sem,a0,a1]) rfl ⟨?_,.inl rfl⟩;exact hJ (hJ hbB (by omega) _ _) (by omega) _ _
  ·by_cases h9:num.length<=9
   rotate_left
   ·have l1:decide ((9:Int)<((bs num).size:Int))=true:=by rw[kA];exact dT (by omega)
    clear hr n1;go_wp2;refine aO (v:=.tuple #[.agg #[.int .i64 0,.int .i64 0],.bool false]) (by simp[results,Tryz.results90,go_sem,a0,a1]) rfl ⟨?_,.inl rfl⟩;exact hJ (hJ hbB (by omega) _ _) (by omega) _ _
   have hnl:=h9
   have l1:decide ((9:Int)<((bs num).size:Int))=false:=by rw[kA];exact dF (by omega)
   have l2:decide ((9:Int)<((bs []).size:Int))=false:=by rw[kA];exact dF (by simp)
   have HR:=zh hr;have hv:=aIt num n1 hnl;have HD:=zh (λW=>pO (bs num) W (by rw[kA];omega) (by rw[kG];exact(lV.1 n1).1));rw[kG]at HD
   have hbe:(bs []).toList.isEmpty=true:=by rw[jW];rfl
   have hbe':(bs []).toList=[]:=by rw[jW]
   clear hr n1;generalize val num=v at*
   go_upto_region 7 with(go_at_call 138;refine(HD.o _).mono ?_;rintro e w' ⟨rfl,rfl⟩)
   obtain⟨W2,hW2⟩:=eqx (W1.alloc (.cells #[.int .i64 v,.int .i64 1] 112))
   have D2:Blk W2 w.heap.size 112 #[.int .i64 0,.int .i64 0]:=by rw[<-hW2];exact C2.alloc _
   have D4:Blk W2 w1.heap.size 173 #[.bool b,.string (bs num),.string (bs [])]:=by rw[<-hW2];exact C4.alloc _
   have D6:Blk W2 W1.heap.size 112 #[.int .i64 v,.int .i64 1]:=by rw[<-hW2];exact Blk.new W1 _ _
   have hbC:Below w.heap.size w W2:=by rw[<-hW2];exact hbB.alloc hbB.size _
   rw[hW2];have hz4:=D2.lt;clear hW2 C2 C4 hbB a0 a1 a2 a3 p0 p1 p2;obtain⟨a0,a1,a2,a3⟩:=D2.two;obtain⟨p0,p1,p2,_,_,_⟩:=D4.three;obtain⟨x0,x1,x2,x3⟩:=D6.two
   cases b with
   |false=>
    go_wp2;refine aO (v:=.tuple #[.agg #[.int .i64 (sg false v),.int .i64 (1:Nat)],.bool true]) (by simp[results,Tryz.results90,go_sem,a0,a1,sg]) rfl ⟨?_,.inr ⟨false,v,1,HR.o,hv,by omega,rfl⟩⟩;exact hJ (hJ hbC (by omega) _ _) (by omega) _ _
   |true=>
    go_wp2;refine aO (v:=.tuple #[.agg #[.int .i64 (sg true v),.int .i64 (1:Nat)],.bool true]) (by simp[results,Tryz.results90,go_sem,a0,a1,sg]) rfl ⟨?_,.inr ⟨true,v,1,HR.o,hv,by omega,rfl⟩⟩;exact hJ (hJ (hJ hbC (by omega) _ _) (by omega) _ _) (by omega) _ _
  by_cases h9:num.length<=9
  rotate_left
  ·have l1:decide ((9:Int)<((bs num).size:Int))=true:=by rw[kA];exact dT (by omega)
   clear hr n1 m1 v0 v1 hdn;go_wp2;refine aO (v:=.tuple #[.agg #[.int .i64 0,.int .i64 0],.bool false]) (by simp[results,Tryz.results90,go_sem,a0,a1]) rfl ⟨?_,.inl rfl⟩;exact hJ (hJ hbB (by omega) _ _) (by omega) _ _
  have hnl:=h9
  have l1:decide ((9:Int)<((bs num).size:Int))=false:=by rw[kA];exact dF (by omega)
  by_cases h9d:den.length<=9
  rotate_left
  ·have l2:decide ((9:Int)<((bs den).size:Int))=true:=by rw[kA];exact dT (by omega)
   clear hr n1 m1 v0 v1 hdn;go_wp2;refine aO (v:=.tuple #[.agg #[.int .i64 0,.int .i64 0],.bool false]) (by simp[results,Tryz.results90,go_sem,a0,a1]) rfl ⟨?_,.inl rfl⟩;exact hJ (hJ hbB (by omega) _ _) (by omega) _ _
  have hdl:=h9d
  have l2:decide ((9:Int)<((bs den).size:Int))=false:=by rw[kA];exact dF (by omega)
  have HR:=zh hr;have hv:=aIt num n1 hnl;have hu:=aIt den m1 hdl;have HD:=zh (λW=>pO (bs num) W (by rw[kA];omega) (by rw[kG];exact(lV.1 n1).1));have HE:=zh (λW=>pO (bs den) W (by rw[kA];omega) (by rw[kG];exact(lV.1 m1).1));rw[kG]at HD HE
  have hbe:(bs den).toList.isEmpty=false:=by rw[jW];cases den;exact absurd rfl hdn;rfl
  have hbe':¬(bs den).toList=[]:=by rw[jW];exact hdn
  have HG:=zh (λW=>aEm (val num) (val den) W (by omega) (by omega));clear hr n1 m1 hdn v0 v1;generalize val num=v at*;generalize val den=u at*
  go_upto_region 9 with(first
    |(go_at_call 138;with_reducible refine bE (HD.o _) ?_;rintro e w' ⟨rfl,rfl⟩)
    |(go_at_call 138;with_reducible refine bE (HE.o _) ?_;rintro e w' ⟨rfl,rfl⟩))
  obtain⟨W2,hW2⟩:=eqx (W1.alloc (.cells #[.int .i64 v,.int .i64 u] 112))
  have D2:Blk W2 w.heap.size 112 #[.int .i64 0,.int .i64 0]:=by rw[<-hW2];exact C2.alloc _
  have D4:Blk W2 w1.heap.size 173 #[.bool b,.string (bs num),.string (bs den)]:=by rw[<-hW2];exact C4.alloc _
  have D6:Blk W2 W1.heap.size 112 #[.int .i64 v,.int .i64 u]:=by rw[<-hW2];exact Blk.new W1 _ _
  have hbC:Below w.heap.size w W2:=by rw[<-hW2];exact hbB.alloc hbB.size _
  rw[hW2];clear hW2 C2 C4 hbB a0 a1 a2 a3 p0 p1 p2;obtain⟨x0,x1,x2,x3⟩:=D6.two;go_wp2_with (fail);refine(HG.o _).mono ?_;rintro e w5 ⟨rfl,hb5⟩;have E2:=D2.keep hb5 D2.lt;have E4:=D4.keep hb5 D4.lt;have E6:=D6.keep hb5 D6.lt;have hbE:=dW hbC hb5;have hz4:=E2.lt;clear D2 D4 D6 hbC hb5 x0 x1 x2 x3;obtain⟨a0,a1,a2,a3⟩:=E2.two;obtain⟨p0,p1,p2,_,_,_⟩:=E4.three;obtain⟨x0,x1,x2,x3⟩:=E6.two
  by_cases hg:Nat.gcd v u=1
  ·have HR2:Hid (rd s.data.toList=some (b,v,u)):=zh (by rw[HR.o,aQ hg]);rw[hg];clear HR HG hg
   cases b with
   |false=>
    go_wp2;refine aO (v:=.tuple #[.agg #[.int .i64 (sg false v),.int .i64 u],.bool true]) (by simp[results,Tryz.results90,go_sem,a0,a1,sg]) rfl ⟨?_,.inr ⟨false,v,u,HR2.o,hv,hu,rfl⟩⟩;exact hJ (hJ hbE (by omega) _ _) (by omega) _ _
   |true=>
    go_wp2;refine aO (v:=.tuple #[.agg #[.int .i64 (sg true v),.int .i64 u],.bool true]) (by simp[results,Tryz.results90,go_sem,a0,a1,sg]) rfl ⟨?_,.inr ⟨true,v,u,HR2.o,hv,hu,rfl⟩⟩;exact hJ (hJ (hJ hbE (by omega) _ _) (by omega) _ _) (by omega) _ _
  have HR2:Hid (rd s.data.toList=none):=zh (by rw[HR.o,aJ hg])
  have hgb:(((Nat.gcd v u:Nat):Int)!=1)=true:=by simp;omega
  have hgb':(Nat.gcd v u==1)=false:=by simp[hg]
  have hgb'':(((Nat.gcd v u:Nat):Int)==1)=false:=aG.2 (by omega);clear HR HG hg;generalize Nat.gcd v u=g at*;go_wp2;refine aO (v:=.tuple #[.agg #[.int .i64 0,.int .i64 0],.bool false]) (by simp[results,Tryz.results90,go_sem,a0,a1]) rfl ⟨?_,.inl rfl⟩;exact hJ (hJ hbE (by omega) _ _) (by omega) _ _
end Go.Proofs.Tg
namespace Go.Proofs.Tg.Fi
open Go.RowKit Go.Rq Go.Qn Go.Proofs.Tg
theorem aDr (b:Bool)(n d:Nat)(w:World)(hc:xA b n d)(hn:n<1000000000)(hd:d<1000000000):
    Calls Tryz.prog 90 #[.string (bs (lN b n d))] w λe w'=>e=.returned (.tuple #[.agg #[.int .i64 (sg b n),.int .i64 (d:Nat)],.bool true])/\Below w.heap.size w w':=by
  have hsz:=aLr (b:=b) hn hd;have HSP:=zh (λW=>aFE b n d W hc (by omega));unfold qD at HSP;have hg:=hc.2.1;have hnl:=aEg hn;have hdl:=aEg hd;obtain⟨s,hs⟩:=eqx (bs (lN b n d))
  have hss:s.size<=20:=by rw[<-hs,kA];exact hsz
  rw[hs]at HSP ⊢;have hd20:decide ((20:Int)<(s.size:Int))=false:=dF (by omega);obtain⟨W0,hW0⟩:=eqx (w.alloc (.cells #[.int .i64 0,.int .i64 0] 112))
  have B2:Blk W0 w.heap.size 112 #[.int .i64 0,.int .i64 0]:=by rw[<-hW0];exact Blk.new _ _ _
  have hbA:Below w.heap.size w W0:=by rw[<-hW0];exact bal
  have HW0:=zh hW0;obtain⟨num,hnum⟩:=eqx (Lib.decDigits n);have HD:=zh (λW=>pO (bs num) W (by rw[kA,<-hnum];omega) (by rw[kG,<-hnum];exact mK n));rw[kG]at HD;rw[show Qn.val num=n from by rw[<-hnum];exact mS n]at HD;rw[hnum]at hnl HSP;clear hW0 hs hsz hc hnum
  by_cases h1:d=1
  ·subst h1;rw[aQ rfl]at HSP;clear hg;go_enter Tryz.func90,Tryz.ntmps90;go_upto_region 1 with(fail);rw[HW0.o];go_wp2_with (fail);refine(HSP.o W0).mono ?_;rintro e w1 ⟨rfl,hb1⟩;go_upto_region 4 with(fail);obtain⟨W1,hW1⟩:=eqx (w1.alloc (.cells #[.bool b,.string (bs num),.string (bs [])] 173))
   have C2:Blk W1 w.heap.size 112 #[.int .i64 0,.int .i64 0]:=by rw[<-hW1];exact(B2.keep hb1 B2.lt).alloc _
   have C4:Blk W1 w1.heap.size 173 #[.bool b,.string (bs num),.string (bs [])]:=by rw[<-hW1];exact Blk.new _ _ _
   have hbB:Below w.heap.size w W1:=by rw[<-hW1];have:=dW hbA hb1;exact this.alloc this.size _
   have hz1:w.heap.size<w1.heap.size:=by have:=B2.lt;have:=hb1.size;omega
   rw[hW1];clear hW1 B2 hb1 hbA;obtain⟨a0,a1,a2,a3⟩:=C2.two;obtain⟨p0,p1,p2,_,_,_⟩:=C4.three;have hz2:=C4.lt;have hz3:=C2.lt
   have l1:decide ((9:Int)<((bs num).size:Int))=false:=by rw[kA];exact dF (by omega)
   have l2:decide ((9:Int)<((bs []).size:Int))=false:=by rw[kA];exact dF (by simp)
   have hbe:(bs []).toList.isEmpty=true:=by rw[jW];rfl
   have hbe':(bs []).toList=[]:=by rw[jW]
   go_upto_region 7 with(go_at_call 138;refine(HD.o _).mono ?_;rintro e w' ⟨rfl,rfl⟩)
   obtain⟨W2,hW2⟩:=eqx (W1.alloc (.cells #[.int .i64 n,.int .i64 1] 112))
   have D2:Blk W2 w.heap.size 112 #[.int .i64 0,.int .i64 0]:=by rw[<-hW2];exact C2.alloc _
   have D4:Blk W2 w1.heap.size 173 #[.bool b,.string (bs num),.string (bs [])]:=by rw[<-hW2];exact C4.alloc _
   have D6:Blk W2 W1.heap.size 112 #[.int .i64 n,.int .i64 1]:=by rw[<-hW2];exact Blk.new W1 _ _
   have hbC:Below w.heap.size w W2:=by rw[<-hW2];exact hbB.alloc hbB.size _
   rw[hW2];have hz4:=D2.lt;clear hW2 C2 C4 hbB a0 a1 a2 a3 p0 p1 p2;obtain⟨a0,a1,a2,a3⟩:=D2.two;obtain⟨p0,p1,p2,_,_,_⟩:=D4.three;obtain⟨x0,x1,x2,x3⟩:=D6.two
   cases b with
   |false=>
    go_wp2;refine aO (v:=.tuple #[.agg #[.int .i64 (sg false n),.int .i64 (1:Nat)],.bool true]) (by simp[results,Tryz.results90,go_sem,a0,a1,sg]) rfl ⟨rfl,?_⟩;exact hJ (hJ hbC (by omega) _ _) (by omega) _ _
   |true=>
    go_wp2;refine aO (v:=.tuple #[.agg #[.int .i64 (sg true n),.int .i64 (1:Nat)],.bool true]) (by simp[results,Tryz.results90,go_sem,a0,a1,sg]) rfl ⟨rfl,?_⟩;exact hJ (hJ (hJ hbC (by omega) _ _) (by omega) _ _) (by omega) _ _
  rw[aJ h1]at HSP;obtain⟨den,hden⟩:=eqx (Lib.decDigits d);have HE:=zh (λW=>pO (bs den) W (by rw[kA,<-hden];omega) (by rw[kG,<-hden];exact mK d));rw[kG]at HE;rw[show Qn.val den=d from by rw[<-hden];exact mS d]at HE
  have hdn:den≠[]:=by rw[<-hden];exact pS d
  rw[hden]at hdl HSP;have HG:=zh (λW=>aDq n d W (by omega) (by omega));rw[hg]at HG
  have hbe:(bs den).toList.isEmpty=false:=by rw[jW];cases den;exact absurd rfl hdn;rfl
  have hbe':¬(bs den).toList=[]:=by rw[jW];exact hdn
  clear hg hden hdn h1;go_enter Tryz.func90,Tryz.ntmps90;go_upto_region 1 with(fail);rw[HW0.o];go_wp2_with (fail);refine(HSP.o W0).mono ?_;rintro e w1 ⟨rfl,hb1⟩;go_upto_region 4 with(fail);obtain⟨W1,hW1⟩:=eqx (w1.alloc (.cells #[.bool b,.string (bs num),.string (bs den)] 173))
  have C2:Blk W1 w.heap.size 112 #[.int .i64 0,.int .i64 0]:=by rw[<-hW1];exact(B2.keep hb1 B2.lt).alloc _
  have C4:Blk W1 w1.heap.size 173 #[.bool b,.string (bs num),.string (bs den)]:=by rw[<-hW1];exact Blk.new _ _ _
  have hbB:Below w.heap.size w W1:=by rw[<-hW1];have:=dW hbA hb1;exact this.alloc this.size _
  have hz1:w.heap.size<w1.heap.size:=by have:=B2.lt;have:=hb1.size;omega
  rw[hW1];clear hW1 B2 hb1 hbA;obtain⟨a0,a1,a2,a3⟩:=C2.two;obtain⟨p0,p1,p2,_,_,_⟩:=C4.three;have hz2:=C4.lt;have hz3:=C2.lt
  have l1:decide ((9:Int)<((bs num).size:Int))=false:=by rw[kA];exact dF (by omega)
  have l2:decide ((9:Int)<((bs den).size:Int))=false:=by rw[kA];exact dF (by omega)
  go_upto_region 9 with(first
    |(go_at_call 138;with_reducible refine bE (HD.o _) ?_;rintro e w' ⟨rfl,rfl⟩)
    |(go_at_call 138;with_reducible refine bE (HE.o _) ?_;rintro e w' ⟨rfl,rfl⟩))
  obtain⟨W2,hW2⟩:=eqx (W1.alloc (.cells #[.int .i64 n,.int .i64 d] 112))
  have D2:Blk W2 w.heap.size 112 #[.int .i64 0,.int .i64 0]:=by rw[<-hW2];exact C2.alloc _
  have D4:Blk W2 w1.heap.size 173 #[.bool b,.string (bs num),.string (bs den)]:=by rw[<-hW2];exact C4.alloc _
  have D6:Blk W2 W1.heap.size 112 #[.int .i64 n,.int .i64 d]:=by rw[<-hW2];exact Blk.new W1 _ _
  have hbC:Below w.heap.size w W2:=by rw[<-hW2];exact hbB.alloc hbB.size _
  rw[hW2];clear hW2 C2 C4 hbB a0 a1 a2 a3 p0 p1 p2;obtain⟨x0,x1,x2,x3⟩:=D6.two;go_wp2_with (fail);refine(HG.o _).mono ?_;rintro e w5 ⟨rfl,hb5⟩;have E2:=D2.keep hb5 D2.lt;have E4:=D4.keep hb5 D4.lt;have E6:=D6.keep hb5 D6.lt;have hbE:=dW hbC hb5;have hz4:=E2.lt;clear D2 D4 D6 hbC hb5 x0 x1 x2 x3;obtain⟨a0,a1,a2,a3⟩:=E2.two;obtain⟨p0,p1,p2,_,_,_⟩:=E4.three;obtain⟨x0,x1,x2,x3⟩:=E6.two
  cases b with
  |false=>
   go_wp2;refine aO (v:=.tuple #[.agg #[.int .i64 (sg false n),.int .i64 d],.bool true]) (by simp[results,Tryz.results90,go_sem,a0,a1,sg]) rfl ⟨rfl,?_⟩;exact hJ (hJ hbE (by omega) _ _) (by omega) _ _
  |true=>
   go_wp2;refine aO (v:=.tuple #[.agg #[.int .i64 (sg true n),.int .i64 d],.bool true]) (by simp[results,Tryz.results90,go_sem,a0,a1,sg]) rfl ⟨rfl,?_⟩;exact hJ (hJ (hJ hbE (by omega) _ _) (by omega) _ _) (by omega) _ _
theorem wO (q:Rat)(h:Sh q)(w:World):
    Calls Tryz.prog 90 #[.string (qtx q)] w λe w'=>e=.returned (.tuple #[.agg #[.int .i64 q.num,.int .i64 (q.den:Nat)],.bool true])/\Below w.heap.size w w':=by
  have:=aDr (decide (q.num<0)) q.num.natAbs q.den w (aBm q) h.1 h.2;have e:sg (decide (q.num<0)) q.num.natAbs=q.num:=sgq q
  rwa [e]at this
theorem nT {w V:World}{g:Nat}{a' b':Value}(h:Below w.heap.size w V)(hg:w.heap.size<=g):Below w.heap.size w ((V.setCell ⟨g,0,none⟩ a').setCell ⟨g,1,none⟩ b'):=hJ (hJ h hg _ _) hg _ _
theorem aAC (p q:Rat)(hp:Sh p)(hq:Sh q)(w:World):
    Calls Tryz.prog 56 #[.string (qtx p),.string (qtx q)] w λe w'=>e=.returned (.tuple #[.agg #[.int .i64 p.num,.int .i64 (p.den:Nat)],.agg #[.int .i64 q.num,.int .i64 (q.den:Nat)],.bool true])/\Below w.heap.size w w':=by
  have H1:=zh (λW=>wO p hp W);have H2:=zh (λW=>wO q hq W);generalize qtx p=S at*;generalize qtx q=T at*;generalize p.num=a at*;generalize p.den=b at*;generalize q.num=c at*;generalize q.den=d at*;obtain⟨W,hW⟩:=eqx ((w.alloc (.cells #[.int .i64 0,.int .i64 0] 112)).alloc (.cells #[.int .i64 0,.int .i64 0] 112))
  have B4:Blk W w.heap.size 112 #[.int .i64 0,.int .i64 0]:=by rw[<-hW];exact(Blk.new _ _ _).alloc _
  have B5:Blk W (w.heap.size+1) 112 #[.int .i64 0,.int .i64 0]:=by
   rw[<-hW];have:=Blk.new (w.alloc (.cells #[.int .i64 0,.int .i64 0] 112)) 112 #[.int .i64 0,.int .i64 0];simpa using this
  have hbW:Below w.heap.size w W:=by rw[<-hW];exact(bal).alloc (by simp) _
  have HW:=zh hW;clear hW hp hq;go_enter Tryz.func56,Tryz.ntmps56;go_upto_region 1 with(fail);rw[HW.o];go_wp2_with (fail);refine(H1.o _).mono ?_;rintro e w1 ⟨rfl,hb1⟩;obtain⟨W1,hW1⟩:=eqx (w1.alloc (.cells #[.int .i64 a,.int .i64 b] 112));have hb1':=dW hbW hb1
  have C4:Blk W1 w.heap.size 112 #[.int .i64 0,.int .i64 0]:=by rw[<-hW1];exact(B4.keep hb1 B4.lt).alloc _
  have C5:Blk W1 (w.heap.size+1) 112 #[.int .i64 0,.int .i64 0]:=by rw[<-hW1];exact(B5.keep hb1 B5.lt).alloc _
  have C7:Blk W1 w1.heap.size 112 #[.int .i64 a,.int .i64 b]:=by rw[<-hW1];exact Blk.new _ _ _
  have hbW1:Below w.heap.size w W1:=by rw[<-hW1];exact hb1'.alloc hb1'.size _
  have hz5:w.heap.size+1<w1.heap.size:=by have:=B5.lt;have:=hb1.size;omega
  go_upto_region 4 with(fail)
  try rw[hW1]
  clear hW1 B4 B5 hb1 hb1' H1;go_wp2_with (fail);refine(H2.o _).mono ?_;rintro e w2 ⟨rfl,hb2⟩;obtain⟨W2,hW2⟩:=eqx (w2.alloc (.cells #[.int .i64 c,.int .i64 d] 112));have hb2':=dW hbW1 hb2
  have D4:Blk W2 w.heap.size 112 #[.int .i64 0,.int .i64 0]:=by rw[<-hW2];exact(C4.keep hb2 C4.lt).alloc _
  have D5:Blk W2 (w.heap.size+1) 112 #[.int .i64 0,.int .i64 0]:=by rw[<-hW2];exact(C5.keep hb2 C5.lt).alloc _
  have D7:Blk W2 w1.heap.size 112 #[.int .i64 a,.int .i64 b]:=by rw[<-hW2];exact(C7.keep hb2 C7.lt).alloc _
  have D9:Blk W2 w2.heap.size 112 #[.int .i64 c,.int .i64 d]:=by rw[<-hW2];exact Blk.new _ _ _
  have hbW2:Below w.heap.size w W2:=by rw[<-hW2];exact hb2'.alloc hb2'.size _
  have hz7:w1.heap.size<w2.heap.size:=by have:=C7.lt;have:=hb2.size;omega
  go_upto_region 7 with(fail)
  try rw[hW2]
  clear hW2 C4 C5 C7 hb2 hb2' H2 hbW1;obtain⟨x0,x1,x2,x3⟩:=D4.two;obtain⟨y0,y1,y2,y3⟩:=D5.two;obtain⟨a0,a1,a2,a3⟩:=D7.two;obtain⟨b0,b1,b2,b3⟩:=D9.two;have HD4:=zh D4;have HD5:=zh D5;have HBE:=zh hbW2;clear D4 D5 D7 D9 hbW2 hbW;have n1:(w.heap.size=w1.heap.size)=False:=bX (by omega);have n2:(w.heap.size=w2.heap.size)=False:=bX (by omega);have n3:(w.heap.size+1=w1.heap.size)=False:=bX (by omega);have n4:(w.heap.size+1=w2.heap.size)=False:=bX (by omega)
  go_region
  all_goals
    try go_wp2
    refine aO (v:=.tuple #[.agg #[.int .i64 a,.int .i64 (b:Nat)],.agg #[.int .i64 c,.int .i64 (d:Nat)],.bool true]) (by simp[results,Tryz.results56,go_sem,x0,x1,y0,y1]) rfl ⟨rfl,?_⟩
    first
      |exact nT (nT (jX HBE.o 1) (by omega)) (by omega)
      |exact jX (nT (nT HBE.o (by omega)) (by omega)) 1
theorem vI {q:Rat}(h:Sh q):-1000000000<q.num/\q.num<1000000000:=by have:=h.1;omega
theorem rK {a b:Int}(ha:-1000000000<a/\a<1000000000)(hb:-1000000000<b/\b<1000000000):-1000000000000000000<a*b/\a*b<1000000000000000000:=by
 have h:(a*b).natAbs<1000000000*1000000000:=by
  rw[fA];exact Nat.mul_lt_mul'' (by omega) (by omega)
 omega
theorem aPs (p q:Rat)(hp:Sh p)(hq:Sh q)(w:World)(ht:PT w):
    Calls Tryz.prog 30 #[.string (qtx p),.string (qtx q)] w (mX (p+q) w):=by
  have H:=zh (aAC p q hp hq w);have a1:=vI hp;have c1:=vI hq
  have b1:-1000000000<(p.den:Int)/\(p.den:Int)<1000000000:=by have:=hp.2;omega
  have d1:-1000000000<(q.den:Int)/\(q.den:Int)<1000000000:=by have:=hq.2;omega
  have m1:=rK a1 d1;have m2:=rK c1 b1;have m3:=rK b1 d1;have hpq:mkRat (p.num*(q.den:Int)+q.num*(p.den:Int)) (p.den*q.den)=p+q:=(Rat.add_def' p q).symm;have hne:p.den*q.den≠0:=Nat.mul_ne_zero p.den_nz q.den_nz
  have hcast:(p.den:Int)*(q.den:Int)=((p.den*q.den:Nat):Int):=by simp
  have hl:p.den*q.den<9000000000000000000:=by omega
  rw[hcast]at m3;have HF:=zh (λV (h:PT V)=>qK (p.num*(q.den:Int)+q.num*(p.den:Int)) (p.den*q.den) V (by omega) hl hne h);rw[hpq,<-hcast]at HF;rw[<-hcast]at m3;have HT:=zh ht;unfold mX at*;generalize p+q=R at*;generalize qtx p=S at*;generalize qtx q=T at*;generalize qtx R=U at*;clear hpq hne hcast hl hp hq ht;generalize (q.den:Int)=d at*;generalize (p.den:Int)=b at*;generalize q.num=c at*;generalize p.num=a at*;have w1:IntKind.i64.wrap (a*d)=a*d:=IntWalk.i64_in _ (by omega);have w2:IntKind.i64.wrap (c*b)=c*b:=IntWalk.i64_in _ (by omega);have w3:IntKind.i64.wrap (b*d)=b*d:=IntWalk.i64_in _ (by omega);have w4:IntKind.i64.wrap (a*d+c*b)=a*d+c*b:=IntWalk.i64_in _ (by omega);clear m1 m2 m3 a1 b1 c1 d1;go_enter Tryz.func30,Tryz.ntmps30;go_wp2_with (fail)
  refine H.o.mono ?_;rintro e w2 ⟨rfl,hb2⟩;have HTT:=zh (λV (h:Below w2.heap.size w2 V)=>(HT.o.keep hb2).keep h);go_wp2_with (fail);refine(HF.o _ (HTT.o _ ((bal).alloc (by simp) _))).mono ?_;rintro e w3 ⟨rfl,hb3⟩;go_wp2;go_ret;exact⟨rfl,(hb2.trans ((((bM w2.heap.size w2).alloc (aA _) _).alloc (by simp) _).mono hb2.size)).trans (hb3.mono (by have:=hb2.size;simp;omega))⟩
end Go.Proofs.Tg.Fi
namespace Go.Proofs.Tg.Iw
open Go.RowKit Go.Bw Go.Gr Go.Proofs.Tg Go.Rq
open Go.Proofs.Tg.Fi (PT mX)
theorem zV (q:Rat)(w:World)(bn:(dg q.num.natAbs).length<=28)(bd:(dg q.den).length<=28)(hT:Tab w):
    Calls Tryz.prog 58 #[.string (qtx q)] w (mR q w):=by
  obtain⟨W,hW⟩:=eqx (w.alloc (.cells #[.bool false,.slice none 0 0,.bool false,.slice none 0 0] 120))
  have B0:Blk W w.heap.size 120 #[.bool false,.slice none 0 0,.bool false,.slice none 0 0]:=by rw[<-hW];exact Blk.new _ _ _
  have hbW:Below w.heap.size w W:=by rw[<-hW];exact bal
  have HB0:=zh B0;have HWW:=zh hW;obtain⟨sg,hsg⟩:=eqx (decide (q.num<0));obtain⟨ln,hln⟩:=eqx ((dg q.num.natAbs).length);obtain⟨ld,hld⟩:=eqx ((dg (dnz q.den)).length)
  have HRD:Hid (Calls Tryz.prog 93 #[.string (qtx q)] W λe w'=>∃N cn D cd,e=.returned (.tuple #[.agg #[.bool sg,.slice N ln cn,.bool false,.slice D ld cd],.bool true])/\Hid (mJ w' q N cn D cd)/\Below W.heap.size W w'):=zh (by
   refine(aOI q W bn bd (hT.below hbW hT.1)).mono ?_;rintro e w' ⟨N,cn,D,cd,rfl,h1,h2⟩;unfold rval;rw[hsg,hln,hld]
   exact⟨N,cn,D,cd,rfl,zh h1,h2⟩)
  obtain⟨Q,hQ⟩:=eqx (mR q w)
  have HFIN:Hid (∀V N cn D cd,Below W.heap.size W V->mJ V q N cn D cd->Q (.returned (.agg #[.bool sg,.slice N ln cn,.bool false,.slice D ld cd])) ((((V.setCell ⟨w.heap.size,0,none⟩ (.bool sg)).setCell ⟨w.heap.size,1,none⟩ (.slice N ln cn)).setCell ⟨w.heap.size,2,none⟩ (.bool false)).setCell ⟨w.heap.size,3,none⟩ (.slice D ld cd))):=zh (λV N cn D cd hV hR=>by
   have Y:=HB0.o.keep hV HB0.o.lt;rw[<-hQ];refine⟨N,cn,D,cd,?_,⟨lY hR.num (hR.num.offB Y rW) _ _ _ _,lY hR.den (hR.den.offB Y rW) _ _ _ _⟩,?_⟩
   ·unfold rval;rw[hsg,hln,hld]
   exact hJ (hJ (hJ (hJ (dW hbW hV) (by omega) _ _) (by omega) _ _) (by omega) _ _) (by omega) _ _)
  rw[hQ];clear hQ hW hbW B0 hsg hln hld bn bd hT;generalize qtx q=S at*;go_enter Tryz.func58,Tryz.ntmps58;go_upto_region 1 with(fail);rw[HWW.o]
  go_upto_region 2 with(go_at_call 93;refine HRD.o.mono ?_;rintro e w1 ⟨N,cn,D,cd,rfl,hR,hb1⟩;have HB1:=zh hb1;clear hb1)
  obtain⟨g3,hg3⟩:=eqx (w1.heap.size);obtain⟨w2,hw2⟩:=eqx (w1.alloc (.cells #[.bool sg,.slice N ln cn,.bool false,.slice D ld cd] 120))
  have hal:Below w1.heap.size w1 w2:=by rw[<-hw2];exact bal
  have B3:Blk w2 g3 120 #[.bool sg,.slice N ln cn,.bool false,.slice D ld cd]:=by rw[<-hw2,<-hg3];exact Blk.new _ _ _
  have HB2:=zh (dW HB1.o hal);have HR2:=zh (hR.o.keep hal);rw[hw2,hg3];clear hw2 hg3 hal hR HRD;obtain⟨x0,x1,x2,x3,_,_,_,_⟩:=B3.four;have Y0:=HB0.o.keep HB2.o HB0.o.lt;have HEND:=zh (HFIN.o w2 N cn D cd HB2.o HR2.o);have YT:=rM Y0 (.bool sg) (.slice N ln cn) (.bool false) (.slice D ld cd);obtain⟨t0,t1,t2,t3,_,_,_,_⟩:=Y0.four;go_wp2;obtain⟨t0,t1,t2,t3,_,_,_,_⟩:=YT.four;exact aO (v:=.agg #[.bool sg,.slice N ln cn,.bool false,.slice D ld cd]) (by simp[results,Tryz.results58,go_sem,t0,t1,t2,t3]) rfl HEND.o
theorem aFe (q:Rat)(h:¬Sh q)(w:World):
    Calls Tryz.prog 90 #[.string (qtx q)] w λe w'=>e=.returned (.tuple #[.agg #[.int .i64 0,.int .i64 0],.bool false])/\Below w.heap.size w w':=by
  by_cases hs:(qtx q).size<=64
  ·refine(aJO (qtx q) w hs).mono ?_;rintro e w' ⟨hb,rfl|⟨b,n,d,hr,hn,hd,rfl⟩⟩
   ·exact⟨rfl,hb⟩
   have h2:=Go.Qn.xB (aBm q)
   have e:(qtx q).data.toList=Go.Qn.lN (decide (q.num<0)) q.num.natAbs q.den:=by unfold qtx;rw[kG]
   rw[e,h2]at hr
   injection hr with hr
   injection hr with _ hr
   injection hr with e1 e2
   subst e1 e2;exact absurd ⟨hn,hd⟩ h
  obtain⟨S,hS⟩:=eqx (qtx q);rw[hS]at hs ⊢;clear hS h;obtain⟨W0,hW0⟩:=eqx (w.alloc (.cells #[.int .i64 0,.int .i64 0] 112))
  have B2:Blk W0 w.heap.size 112 #[.int .i64 0,.int .i64 0]:=by rw[<-hW0];exact Blk.new _ _ _
  have hbA:Below w.heap.size w W0:=by rw[<-hW0];exact bal
  have HW0:=zh hW0;clear hW0;have hd20:decide ((20:Int)<(S.size:Int))=true:=dT (by omega);have hz:=B2.lt;obtain⟨a0,a1,a2,a3⟩:=B2.two;go_enter Tryz.func90,Tryz.ntmps90;go_upto_region 1 with(fail);rw[HW0.o];go_wp2;refine aO (v:=.tuple #[.agg #[.int .i64 0,.int .i64 0],.bool false]) (by simp[results,Tryz.results90,go_sem,a0,a1]) rfl ⟨rfl,?_⟩;exact hJ (hJ hbA (by omega) _ _) (by omega) _ _
end Go.Proofs.Tg.Iw
namespace Go.Proofs.Tg.Iw
open Go.RowKit Go.Bw Go.Gr Go.Proofs.Tg Go.Rq
open Go.Proofs.Tg.Fi (PT mX nT)
theorem aGr (p q:Rat)(h:¬(Sh p/\Sh q))(w:World):
    Calls Tryz.prog 56 #[.string (qtx p),.string (qtx q)] w λe w'=>e=.returned (.tuple #[.agg #[.int .i64 0,.int .i64 0],.agg #[.int .i64 0,.int .i64 0],.bool false])/\Below w.heap.size w w':=by
  obtain⟨W,hW⟩:=eqx ((w.alloc (.cells #[.int .i64 0,.int .i64 0] 112)).alloc (.cells #[.int .i64 0,.int .i64 0] 112))
  have B4:Blk W w.heap.size 112 #[.int .i64 0,.int .i64 0]:=by rw[<-hW];exact(Blk.new _ _ _).alloc _
  have B5:Blk W (w.heap.size+1) 112 #[.int .i64 0,.int .i64 0]:=by
   rw[<-hW];have:=Blk.new (w.alloc (.cells #[.int .i64 0,.int .i64 0] 112)) 112 #[.int .i64 0,.int .i64 0];simpa using this
  have hbW:Below w.heap.size w W:=by rw[<-hW];exact(bal).alloc (by simp) _
  have HW:=zh hW;clear hW
  by_cases hp:Sh p
  ·have hq:¬Sh q:=λhq=>h ⟨hp,hq⟩
   have H1:=zh (λW=>Go.Proofs.Tg.Fi.wO p hp W);have H2:=zh (λW=>aFe q hq W);clear h hp hq;generalize qtx p=S at*;generalize qtx q=T at*;generalize p.num=a at*;generalize p.den=b at*;go_enter Tryz.func56,Tryz.ntmps56;go_upto_region 1 with(fail);rw[HW.o];go_wp2_with (fail);refine(H1.o _).mono ?_;rintro e w1 ⟨rfl,hb1⟩;obtain⟨W1,hW1⟩:=eqx (w1.alloc (.cells #[.int .i64 a,.int .i64 b] 112));have hb1':=dW hbW hb1
   have C4:Blk W1 w.heap.size 112 #[.int .i64 0,.int .i64 0]:=by rw[<-hW1];exact(B4.keep hb1 B4.lt).alloc _
   have C5:Blk W1 (w.heap.size+1) 112 #[.int .i64 0,.int .i64 0]:=by rw[<-hW1];exact(B5.keep hb1 B5.lt).alloc _
   have hbW1:Below w.heap.size w W1:=by rw[<-hW1];exact hb1'.alloc hb1'.size _
   go_upto_region 4 with(fail)
   try rw[hW1]
   clear hW1 B4 B5 hb1 hb1' H1;go_wp2_with (fail);refine(H2.o _).mono ?_;rintro e w2 ⟨rfl,hb2⟩;obtain⟨W2,hW2⟩:=eqx (w2.alloc (.cells #[.int .i64 0,.int .i64 0] 112));have hb2':=dW hbW1 hb2
   have D4:Blk W2 w.heap.size 112 #[.int .i64 0,.int .i64 0]:=by rw[<-hW2];exact(C4.keep hb2 C4.lt).alloc _
   have D5:Blk W2 (w.heap.size+1) 112 #[.int .i64 0,.int .i64 0]:=by rw[<-hW2];exact(C5.keep hb2 C5.lt).alloc _
   have hbW2:Below w.heap.size w W2:=by rw[<-hW2];exact hb2'.alloc hb2'.size _
   have HW2:=zh hW2;clear hW2;go_upto_region 5 with(fail);rw[HW2.o];clear HW2 C4 C5 hb2 hb2' H2 hbW1;obtain⟨x0,x1,x2,x3⟩:=D4.two;obtain⟨y0,y1,y2,y3⟩:=D5.two;go_wp2;refine aO (v:=.tuple #[.agg #[.int .i64 0,.int .i64 0],.agg #[.int .i64 0,.int .i64 0],.bool false]) (by simp[results,Tryz.results56,go_sem,x0,x1,y0,y1]) rfl ⟨rfl,?_⟩;exact nT (nT hbW2 (by omega)) (by omega)
  have H1:=zh (λW=>aFe p hp W);clear h hp;generalize qtx p=S at*;generalize qtx q=T at*;go_enter Tryz.func56,Tryz.ntmps56;go_upto_region 1 with(fail);rw[HW.o];go_wp2_with (fail);refine(H1.o _).mono ?_;rintro e w1 ⟨rfl,hb1⟩;obtain⟨W1,hW1⟩:=eqx (w1.alloc (.cells #[.int .i64 0,.int .i64 0] 112));have hb1':=dW hbW hb1
  have C4:Blk W1 w.heap.size 112 #[.int .i64 0,.int .i64 0]:=by rw[<-hW1];exact(B4.keep hb1 B4.lt).alloc _
  have C5:Blk W1 (w.heap.size+1) 112 #[.int .i64 0,.int .i64 0]:=by rw[<-hW1];exact(B5.keep hb1 B5.lt).alloc _
  have hbW1:Below w.heap.size w W1:=by rw[<-hW1];exact hb1'.alloc hb1'.size _
  have HW1:=zh hW1;clear hW1;go_upto_region 2 with(fail);rw[HW1.o];clear HW1 B4 B5 hb1 hb1' H1;obtain⟨x0,x1,x2,x3⟩:=C4.two;obtain⟨y0,y1,y2,y3⟩:=C5.two;go_wp2;refine aO (v:=.tuple #[.agg #[.int .i64 0,.int .i64 0],.agg #[.int .i64 0,.int .i64 0],.bool false]) (by simp[results,Tryz.results56,go_sem,x0,x1,y0,y1]) rfl ⟨rfl,?_⟩;exact nT (nT hbW1 (by omega)) (by omega)
theorem aPD (p q:Rat)(w:World)(bn1:(dg p.num.natAbs).length<=28)(bd1:(dg p.den).length<=28)(bn2:(dg q.num.natAbs).length<28)(bd2:(dg q.den).length<28)(hnl:(dg (p+q).num.natAbs).length<=28)(hdl:(dg (p+q).den).length<=28)(ht:PT w)(hT:Tab w):
    Calls Tryz.prog 30 #[.string (qtx p),.string (qtx q)] w (mX (p+q) w):=by
  by_cases hs:Sh p/\Sh q
  ·exact Go.Proofs.Tg.Fi.aPs p q hs.1 hs.2 w ht
  have H:=zh (aGr p q hs w);have HV1:Hid (∀V,Below w.heap.size w V->Calls Tryz.prog 58 #[.string (qtx p)] V (mR p V)):=zh (λV h=>zV p V (by omega) (by omega) (hT.below h hT.1));have HV2:Hid (∀V,Below w.heap.size w V->Calls Tryz.prog 58 #[.string (qtx q)] V (mR q V)):=zh (λV h=>zV q V (by omega) (by omega) (hT.below h hT.1));have HM:Hid (∀V N1 c1 D1 d1 N2 c2 D2 d2,Below w.heap.size w V->mJ V p N1 c1 D1 d1->mJ V q N2 c2 D2 d2->Calls Tryz.prog 59 #[rval p N1 c1 D1 d1,rval q N2 c2 D2 d2] V (mR (p+q) V)):=zh (λV N1 c1 D1 d1 N2 c2 D2 d2 h h1 h2=>aKN p q N1 D1 N2 D2 c1 d1 c2 d2 V h1 h2 (by omega) (by omega) (by omega) (by omega) (hT.below h hT.1))
  have HS:Hid (∀V N c D d,Below w.heap.size w V->mJ V (p+q) N c D d->Calls Tryz.prog 60 #[rval (p+q) N c D d] V λe w'=>e=.returned (.string (qtx (p+q)))/\Below V.heap.size V w'):=zh (λV N c D d h h1=>aKA (p+q) N D c d V h1 hnl hdl (ht.keep h));obtain⟨W,hW⟩:=eqx (mX (p+q) w);have HF:Hid (∀V,Below w.heap.size w V->W (.returned (.string (qtx (p+q)))) V):=zh (λV h=>by rw[<-hW];exact⟨rfl,h⟩);rw[hW];unfold rval at HM HS;clear hs bn1 bd1 bn2 bd2 hT ht hnl hdl hW;generalize qtx p=S at*;generalize qtx q=T at*;generalize qtx (p+q)=U at*;go_enter Tryz.func30,Tryz.ntmps30;go_wp2_with (fail);refine H.o.mono ?_;rintro e w2 ⟨rfl,hb2⟩;obtain⟨W3,hW3⟩:=eqx ((w2.alloc (.cells #[.int .i64 0,.int .i64 0] 112)).alloc (.cells #[.int .i64 0,.int .i64 0] 112))
  have HB3:Hid (Below w.heap.size w W3):=zh (by rw[<-hW3];exact(hb2.alloc hb2.size _).alloc (by have:=hb2.size;simp;omega) _);have HW3:=zh hW3;clear hW3;go_upto_region 2 with(fail);rw[HW3.o];clear HW3 hb2 H;go_wp2_with (fail);refine(HV1.o _ HB3.o).mono ?_;rintro e w4 ⟨N1,c1,D1,d1,rfl,hR1,hb4⟩;have HB4:=zh (dW HB3.o hb4);have HR1:=zh hR1;clear hR1 hb4;unfold rval;go_wp2_with (fail);refine(HV2.o _ HB4.o).mono ?_;rintro e w5 ⟨N2,c2,D2,d2,rfl,hR2,hb5⟩;have HB5:=zh (dW HB4.o hb5);have HR1:=zh (HR1.o.keep hb5);have HR2:=zh hR2;clear hR2 hb5;unfold rval;go_wp2_with (fail);refine(HM.o _ _ _ _ _ _ _ _ _ HB5.o HR1.o HR2.o).mono ?_;rintro e w6 ⟨N3,c3,D3,d3,rfl,hR3,hb6⟩;have HB6:=zh (dW HB5.o hb6);have HR3:=zh hR3;clear hR3 hb6;unfold rval;go_wp2_with (fail)
  refine(HS.o _ _ _ _ _ HB6.o HR3.o).mono ?_;rintro e w7 ⟨rfl,hb7⟩;have HE:=zh (HF.o _ (dW HB6.o hb7));go_wp2;exact HE.o
end Go.Proofs.Tg.Iw
