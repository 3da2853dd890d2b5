/- Parts of the proof. -/
import Derived.Lib.ItoaNum
import Derived.Lib.TrailingZeros
import Derived.Test.YtabdoikbodjidaaGreatDoorMBO0
set_option maxHeartbeats 64000000
set_option maxRecDepth 100000
section
namespace Go.Gr
def aPN (s i:Nat):Nat:=s|||(1<<<i)
end Go.Gr
namespace Go.Proofs.Tg
open Go.RowKit Go.Gr
def Tab (w:World):Prop:=1<w.heap.size/\∀j,j<64->w.cell? ⟨1,j,none⟩=some (.int .u8 (Lib.deBruijn64tab.getD j 0))
theorem Tab.below {B:Nat}{w w':World}(h:Tab w)(hb:Below B w w')(hB:1<B):Tab w':=
  ⟨aH h.1 hb.size,λj hj=>(hb.cell (p:=⟨1,j,none⟩) hB).trans (h.2 j hj)⟩
def oc1 (x:Int):Int:=IntKind.u64.wrap (bits BinOp.and IntKind.u64 (x/2) 6148914691236517205+bits BinOp.and IntKind.u64 x 6148914691236517205)
def oc2 (x:Int):Int:=IntKind.u64.wrap (bits BinOp.and IntKind.u64 (x/4) 3689348814741910323+bits BinOp.and IntKind.u64 x 3689348814741910323)
def oc3 (x:Int):Int:=bits BinOp.and IntKind.u64 (IntKind.u64.wrap (x/16+x)) 1085102592571150095
def oc4 (x:Int):Int:=IntKind.u64.wrap (x+x/256)
def oc5 (x:Int):Int:=IntKind.u64.wrap (x+x/65536)
def oc6 (x:Int):Int:=IntKind.u64.wrap (x+x/4294967296)
theorem mA (n:Nat)(h:n<18446744073709551616):IntKind.u64.wrap (n:Int)=(n:Int):=by rw[IntKind.wrap_u64];omega
theorem aNm (x:Nat)(hx:x<18446744073709551616):oc1 (x:Int)=(((x/2&&& 6148914691236517205)+(x&&& 6148914691236517205):Nat):Int):=by
 unfold oc1
 have h1:x/2&&& 6148914691236517205<=6148914691236517205:=iF
 have h2:x&&& 6148914691236517205<=6148914691236517205:=iF
 rw[show(x:Int)/2=((x/2:Nat):Int) by simp,show(6148914691236517205:Int)=((6148914691236517205:Nat):Int)from rfl,u64_and_nat _ _ (by omega) (by omega),u64_and_nat _ _ hx (by omega),<-iR]
 exact mA _ (by omega)
theorem aNn (x:Nat)(hx:x<18446744073709551616):oc2 (x:Int)=(((x/4&&& 3689348814741910323)+(x&&& 3689348814741910323):Nat):Int):=by
 unfold oc2
 have h1:x/4&&& 3689348814741910323<=3689348814741910323:=iF
 have h2:x&&& 3689348814741910323<=3689348814741910323:=iF
 rw[show(x:Int)/4=((x/4:Nat):Int) by simp,show(3689348814741910323:Int)=((3689348814741910323:Nat):Int)from rfl,u64_and_nat _ _ (by omega) (by omega),u64_and_nat _ _ hx (by omega),<-iR]
 exact mA _ (by omega)
theorem aNo (x:Nat)(hx:x<=7378697629483820646):oc3 (x:Int)=(((x/16+x)&&& 1085102592571150095:Nat):Int):=by
 unfold oc3
 rw[show(x:Int)/16+(x:Int)=((x/16+x:Nat):Int) by simp,mA _ (by omega),show(1085102592571150095:Int)=((1085102592571150095:Nat):Int)from rfl,u64_and_nat _ _ (by omega) (by omega)]
theorem aFx (f:Int->Int)(m:Nat)(hf:∀x,f x=IntKind.u64.wrap (x+x/m))(low q:Nat)(hl:low<m)(hb:low+m*q+q<18446744073709551616):f ((low+m*q:Nat):Int)=((low+m*q+q:Nat):Int):=by
 have hd:(low+m*q)/m=q:=by rw[gH _ _ (by omega),cT hl,bN]
 rw[hf,<-Int.natCast_ediv,hd,<-iR]
 exact mA _ hb
theorem aPa (s:Nat)(hs:s<18446744073709551616):bits BinOp.and IntKind.i64 (wrap64 (oc6 (oc5 (oc4 (oc3 (oc2 (oc1 s))))))) 127=((size s:Nat):Int):=by
 have h1:s/2&&& 6148914691236517205<=6148914691236517205:=iF
 have h2:s&&& 6148914691236517205<=6148914691236517205:=iF
 rw[aNm s hs]
 generalize ha:(s/2&&& 6148914691236517205)+(s&&& 6148914691236517205)=a
 have ha':a<18446744073709551616:=by omega
 have h3:a/4&&& 3689348814741910323<=3689348814741910323:=iF
 have h4:a&&& 3689348814741910323<=3689348814741910323:=iF
 rw[aNn a ha',aNo _ (by omega)]
 obtain⟨c0,c1,c2,c3,c4,c5,c6,c7,b0,b1,b2,b3,b4,b5,b6,b7,hp,hw⟩:=aHh s
 have hsw:aJr s=(((a/4&&& 3689348814741910323)+(a&&& 3689348814741910323))/16+((a/4&&& 3689348814741910323)+(a&&& 3689348814741910323)))&&& 1085102592571150095:=by
  unfold aJr;dsimp only;rw[ha]
 rw[<-hsw,hw,aBG,hp]
 clear hsw hw hp h1 h2 h3 h4 ha ha'
 have e4:=aFx oc4 256 (λ_=>rfl) (c0) (c1+256*c2+65536*c3+16777216*c4+4294967296*c5+1099511627776*c6+281474976710656*c7) (by omega) (by omega)
 have e5:=aFx oc5 65536 (λ_=>rfl) ((c0+c1)+256*(c1+c2)) ((c2+c3)+256*(c3+c4)+65536*(c4+c5)+16777216*(c5+c6)+4294967296*(c6+c7)+1099511627776*c7) (by omega) (by omega)
 have e6:=aFx oc6 4294967296 (λ_=>rfl) ((c0+c1+c2+c3)+256*(c1+c2+c3+c4)+65536*(c2+c3+c4+c5)+16777216*(c3+c4+c5+c6)) ((c4+c5+c6+c7)+256*(c5+c6+c7)+65536*(c6+c7)+16777216*c7) (by omega) (by omega)
 rw[show c0+256*c1+65536*c2+16777216*c3+4294967296*c4+1099511627776*c5+281474976710656*c6+72057594037927936*c7=c0+256*(c1+256*c2+65536*c3+16777216*c4+4294967296*c5+1099511627776*c6+281474976710656*c7) by omega,e4,
   show c0+256*(c1+256*c2+65536*c3+16777216*c4+4294967296*c5+1099511627776*c6+281474976710656*c7)+(c1+256*c2+65536*c3+16777216*c4+4294967296*c5+1099511627776*c6+281474976710656*c7)=
     ((c0+c1)+256*(c1+c2))+65536*((c2+c3)+256*(c3+c4)+65536*(c4+c5)+16777216*(c5+c6)+4294967296*(c6+c7)+1099511627776*c7) by omega,e5,
   show((c0+c1)+256*(c1+c2))+65536*((c2+c3)+256*(c3+c4)+65536*(c4+c5)+16777216*(c5+c6)+4294967296*(c6+c7)+1099511627776*c7)+((c2+c3)+256*(c3+c4)+65536*(c4+c5)+16777216*(c5+c6)+4294967296*(c6+c7)+1099511627776*c7)=
     ((c0+c1+c2+c3)+256*(c1+c2+c3+c4)+65536*(c2+c3+c4+c5)+16777216*(c3+c4+c5+c6))+4294967296*((c4+c5+c6+c7)+256*(c5+c6+c7)+65536*(c6+c7)+16777216*c7) by omega,e6]
 clear e4 e5 e6
 have hr:((c0+c1+c2+c3)+256*(c1+c2+c3+c4)+65536*(c2+c3+c4+c5)+16777216*(c3+c4+c5+c6))+4294967296*((c4+c5+c6+c7)+256*(c5+c6+c7)+65536*(c6+c7)+16777216*c7)+((c4+c5+c6+c7)+256*(c5+c6+c7)+65536*(c6+c7)+16777216*c7)<9223372036854775808:=by omega
 have hm:(((c0+c1+c2+c3)+256*(c1+c2+c3+c4)+65536*(c2+c3+c4+c5)+16777216*(c3+c4+c5+c6))+4294967296*((c4+c5+c6+c7)+256*(c5+c6+c7)+65536*(c6+c7)+16777216*c7)+((c4+c5+c6+c7)+256*(c5+c6+c7)+65536*(c6+c7)+16777216*c7))%128=c0+c1+c2+c3+c4+c5+c6+c7:=by
  rw[show((c0+c1+c2+c3)+256*(c1+c2+c3+c4)+65536*(c2+c3+c4+c5)+16777216*(c3+c4+c5+c6))+4294967296*((c4+c5+c6+c7)+256*(c5+c6+c7)+65536*(c6+c7)+16777216*c7)+((c4+c5+c6+c7)+256*(c5+c6+c7)+65536*(c6+c7)+16777216*c7)=(c0+c1+c2+c3+c4+c5+c6+c7)+128*(2*(c1+c2+c3+c4)+512*(c2+c3+c4+c5)+131072*(c3+c4+c5+c6)+33554432*((c4+c5+c6+c7)+256*(c5+c6+c7)+65536*(c6+c7)+16777216*c7)+2*(c5+c6+c7)+512*(c6+c7)+131072*c7) by omega,gI];exact cU (by omega)
 generalize ((c0+c1+c2+c3)+256*(c1+c2+c3+c4)+65536*(c2+c3+c4+c5)+16777216*(c3+c4+c5+c6))+4294967296*((c4+c5+c6+c7)+256*(c5+c6+c7)+65536*(c6+c7)+16777216*c7)+((c4+c5+c6+c7)+256*(c5+c6+c7)+65536*(c6+c7)+16777216*c7)=r at hr hm ⊢
 have hsum:c0+c1+c2+c3+c4+c5+c6+c7<=64:=by omega
 generalize c0+c1+c2+c3+c4+c5+c6+c7=t at hm hsum ⊢
 clear b0 b1 b2 b3 b4 b5 b6 b7
 have w1:wrap64 (r:Int)=(r:Int):=by unfold wrap64;omega
 rw[w1,show(127:Int)=((127:Nat):Int)from rfl]
 have hx:(BitVec.ofInt 64 (r:Int)).toNat=r:=by rw[BitVec.ofInt_natCast,BitVec.toNat_ofNat];exact cU (by omega)
 show IntKind.i64.wrap ((BitVec.ofInt 64 (r:Int)&&& BitVec.ofInt 64 ((127:Nat):Int)).toNat:Int)=_
 have h127:(BitVec.ofInt 64 ((127:Nat):Int)).toNat=127:=by decide
 rw[BitVec.toNat_and,hx,h127,Nat.and_two_pow_sub_one_eq_mod r 7,IntKind.wrap_i64]
 omega
theorem aLx (s:Nat)(w:World)(hs:s<18446744073709551616):
    Calls Tryz.prog 125 #[.int .u64 s] w λe w'=>e=.returned (.int .i64 (size s:Nat))/\w=w':=by
  go_enter Tryz.func125,Tryz.ntmps125;go_wp2;go_ret;refine⟨?_,rfl⟩
  show Ending.returned (.int .i64 (bits BinOp.and IntKind.i64 (wrap64 (oc6 (oc5 (oc4 (oc3 (oc2 (oc1 s))))))) 127))=_
  rw[aPa s hs]
theorem aNp (x k idx:Nat)(w:World)(hx0:((x:Int)==0)=false)
    (key:IntKind.u64.wrap (bits BinOp.and IntKind.u64 (x:Int) (IntKind.u64.wrap (-(x:Int)))*285870213051353865)/288230376151711744=(idx:Int))
    (hi:idx<64) (hk:k<64) (hcell:w.cell? ⟨1,idx,none⟩=some (.int .u8 k)):
    Calls Tryz.prog 198 #[.int .u64 x] w λe w'=>e=.returned (.int .i64 k)/\w=w':=by
  go_enter Tryz.func198,Tryz.ntmps198
  go_wp2_with (simp only[key])
  go_ret;exact⟨rfl,rfl⟩
theorem aPb (x a:Nat)(hx:x<18446744073709551616)(hx0:x≠0)(hlow:x&&& (18446744073709551616-x)=a):
    IntKind.u64.wrap (bits BinOp.and IntKind.u64 (x:Int) (IntKind.u64.wrap (-(x:Int)))*285870213051353865)/288230376151711744=((a*285870213051353865%18446744073709551616/288230376151711744:Nat):Int):=by
  have e1:IntKind.u64.wrap (-(x:Int))=((18446744073709551616-x:Nat):Int):=by rw[IntKind.wrap_u64];omega
  rw[e1,u64_and_nat x _ hx (by omega),hlow,IntKind.wrap_u64];omega
theorem aFy (x:Nat)(w:World)(hx:x<18446744073709551616)(hx0:x≠0)(hT:Tab w):
    Calls Tryz.prog 198 #[.int .u64 x] w λe w'=>e=.returned (.int .i64 (Lib.ctz 64 x:Nat))/\w=w':=by
  obtain⟨hlow,hk⟩:=Lib.lowest_bit 64 x hx0 hx;obtain⟨hi,htab⟩:=Lib.deBruijn64_at _ hk;have hcell:=hT.2 _ hi;rw[htab]at hcell;exact aNp x _ _ w (by simp;omega) (aPb x _ hx hx0 hlow) hi hk hcell
end Go.Proofs.Tg
end
namespace Go.Ev
def aCq (x k:Nat):Prop:=x.testBit k=true/\∀b,b<k->x.testBit b=false
theorem aCq.inj {x a b:Nat}(ha:aCq x a)(hb:aCq x b):a=b:=by
 rcases Nat.lt_trichotomy a b with h|h|h
 ·have:=hb.2 a h;rw[ha.1]at this;cases this
 ·exact h
 have:=ha.2 b h;rw[hb.1]at this;cases this
end Go.Ev
namespace Go.Ev
open Go.Gr
def pk (l:List Int):Nat->Nat
  |0=>0
  |k+1=>pk l k^^^(((l.getD k 0).toNat%2)<<<k)
end Go.Ev
namespace Go.Proofs.Tg
open Go.RowKit Go.Gr
theorem aIe (a b:Nat)(ha:a<9223372036854775808)(hb:b<9223372036854775808):bits BinOp.and IntKind.i64 (a:Int) (b:Int)=((a&&& b:Nat):Int):=by
 have hx:a&&& b<2^63:=Nat.and_lt_two_pow _ (by omega)
 show IntKind.i64.wrap ((BitVec.ofInt 64 (a:Int)&&& BitVec.ofInt 64 (b:Int)).toNat:Int)=_
 rw[BitVec.toNat_and,ofInt_u64 a (by omega),ofInt_u64 b (by omega),IntKind.wrap_i64]
 omega
theorem aPc (s:Nat)(w:World)(hs:s<18446744073709551616):
    Calls Tryz.prog 78 #[.int .u64 s] w λe w'=>e=.returned (.int .i64 (size s:Nat))/\w=w':=by
  go_enter Tryz.func78,Tryz.ntmps78
  go_wp2_with (go_at_call 125;refine(aLx s _ hs).mono ?_;rintro e w' ⟨rfl,rfl⟩)
  go_ret;exact⟨rfl,rfl⟩
theorem aLy:(Tryz.prog.info? 3).map (λi=>(i.zero,i.size,i.bytes))=some (some (.int .i64 0),1,8):=by kernel_rfl
theorem nB (l n:Nat)(hl:l<=n)(hn:n<=1000000)(w:World):(Instr.makeSlice 22 (.int .i64 (l:Int)) (.int .i64 (n:Int))).run Tryz.prog w=.ok (.slice (some ⟨w.heap.size,0,none⟩) l n) (w.alloc (.cells (madeCells #[.int .i64 0] n) 3)):=by
 obtain⟨i0,hi,hz0,hz1,hz2⟩:=info_parts aLy
 have hr:=run_make (P:=Tryz.prog) w 22 3 i0 (.int .i64 0) Tryz.underlying22 hi hz0 .i64 .i64 l n (by omega) (by omega) (by rw[hz2];omega) (by omega)
 rw[hz1,dI,dY,dY]at hr
 exact hr
end Go.Proofs.Tg
section
namespace Go.Qn
open Go.Lib
def isD (c:UInt8):Bool:=decide (48<=c.toNat)&&decide (c.toNat<=57)
def val (l:List UInt8):Nat:=l.foldl (λn c=>10*n+(c.toNat-48)) 0
theorem lJ (l:List UInt8)(c:UInt8):val (l++[c])=10*val l+(c.toNat-48):=by unfold val;rw[eR];rfl
theorem rO {c:UInt8}:isD c=true↔48<=c.toNat/\c.toNat<=57:=by unfold isD;simp
theorem mQ {P:List UInt8->Prop}(h0:P [])(h1:∀l c,P l->P (l++[c]))(l:List UInt8):P l:=by
 have:∀l:List UInt8,P l.reverse:=by
  intro l
  induction l with
  |nil=>exact h0
  |cons c l ih=>rw[List.reverse_cons];exact h1 _ _ ih
 have h:=this l.reverse
 rwa [List.reverse_reverse]at h
theorem kR (l:List UInt8)(h:∀c∈l,isD c=true):val l<10^l.length:=by
 revert h
 refine mQ (P:=λl=>(∀c∈l,isD c=true)->val l<10^l.length) ?_ ?_ l
 ·intro _;decide
 intro l c ih h
 have h1:=ih λx hx=>h x (by simp[hx])
 have h2:=rO.1 (h c (by simp));rw[lJ,aC,dC,bS];omega
theorem toNat_ofNat (n:Nat)(h:n<256):(UInt8.ofNat n).toNat=n:=by simp;omega
theorem mS (n:Nat):val (decDigits n)=n:=by
 induction n using Nat.strongRecOn with
 |_ n ih=>
  by_cases h:n<10
  ·rw[decDigits,jP h]
   show 10*0+((UInt8.ofNat (48+n)).toNat-48)=n
   rw[toNat_ofNat _ (by omega)];omega
  rw[decDigits,dif_neg h,lJ,ih (n/10) (by omega),toNat_ofNat _ (by omega)];omega
theorem mK (n:Nat):∀c∈decDigits n,isD c=true:=by
 induction n using Nat.strongRecOn with
 |_ n ih=>
  intro c hc
  by_cases h:n<10
  ·rw[decDigits,jP h]at hc;simp only[bA,eH,iC]at hc;subst hc;rw[rO,toNat_ofNat _ (by omega)];omega
  rw[decDigits,dif_neg h]at hc
  rcases aK.1 hc with hc|hc
  ·exact ih (n/10) (by omega) c hc
  simp only[bA,eH,iC]at hc;subst hc;rw[rO,toNat_ofNat _ (by omega)];omega
theorem pS (n:Nat):decDigits n≠[]:=by
 rw[decDigits];split<;>simp
theorem aDO (n:Nat)(h0:n≠0):(decDigits n).head?≠some 48:=by
 induction n using Nat.strongRecOn with
 |_ n ih=>
  by_cases h:n<10
  ·rw[decDigits,jP h];simp only[List.head?_cons,ne_eq,gG];intro e;have:=bK UInt8.toNat e;rw[toNat_ofNat _ (by omega)]at this;have e2:(48:UInt8).toNat=48:=rfl;omega
  rw[decDigits,dif_neg h];have:=ih (n/10) (by omega) (by omega);rw[List.head?_append]
  cases hh:(decDigits (n/10)).head? with
  |none=>exact absurd (List.head?_eq_none_iff.1 hh) (pS _)
  |some x=>rw[hh]at this;simpa using this
theorem pK:decDigits 0=[48]:=by rw[decDigits,jP (by omega)];rfl
theorem aGv:decDigits 1=[49]:=by rw[decDigits,jP (by omega)];rfl
theorem aMY {m n:Nat}(h:decDigits m=decDigits n):m=n:=by rw[<-mS m,h,mS]
theorem zX (l:List UInt8)(h:∀c∈l,isD c=true)(hn:l≠[])(hz:l.head?≠some 48):decDigits (val l)=l/\val l≠0:=by
 revert h hn hz
 refine mQ (P:=λl=>(∀c∈l,isD c=true)->l≠[]->l.head?≠some 48->decDigits (val l)=l/\val l≠0) ?_ ?_ l
 ·intro _ h;exact absurd rfl h
 intro l c ih h _ hz
 have h2:=rO.1 (h c (by simp));rw[lJ]
 by_cases hl:l=[]
 ·subst hl
  have hc:c.toNat≠48:=λe=>hz (by
   have:c=48:=iT.1 (by rw[e];rfl)
   simp[this])
  refine⟨?_,by omega⟩
  show decDigits (10*0+(c.toNat-48))=[c]
  rw[decDigits,jP (by omega)];simp only[List.cons.injEq,and_true];apply iT.1;rw[toNat_ofNat _ (by omega)];omega
 have hz':l.head?≠some 48:=by
  rw[List.head?_append]at hz
  cases hh:l.head? with
  |none=>simp
  |some x=>rw[hh]at hz;simpa using hz
 obtain⟨h3,h4⟩:=ih (λx hx=>h x (by simp[hx])) hl hz';refine⟨?_,by omega⟩;rw[decDigits,dif_neg (by omega),show(10*val l+(c.toNat-48))/10=val l by omega,h3]
 congr 1
 simp only[List.cons.injEq,and_true];apply iT.1;rw[toNat_ofNat _ (by omega)];omega
def lN (neg:Bool)(n d:Nat):List UInt8:=(if neg=true then[45]else[])++(decDigits n++if d=1 then[]else 47::decDigits d)
def xA (neg:Bool)(n d:Nat):Prop:=0<d/\Nat.gcd n d=1/\(n=0->neg=false)
def cut (l:List UInt8):Bool×List UInt8:=if l.head?=some 45 then(true,l.tail)else(false,l)
def tZ (neg:Bool)(num rest:List UInt8):Option (Bool×Nat×Nat):=
  match rest with
  |[]=>some (neg,val num,1)
  |c::t=>if c=47/\t.dropWhile isD=[]/\t.takeWhile isD≠[]/\(t.takeWhile isD).head?≠some 48/\t.takeWhile isD≠[49]/\Nat.gcd (val num) (val (t.takeWhile isD))=1 then some (neg,val num,val (t.takeWhile isD))else none
def qR (neg:Bool)(r:List UInt8):Option (Bool×Nat×Nat):=
  if r.takeWhile isD=[48]then(if neg=false/\r.dropWhile isD=[]then some (false,0,1)else none)
  else if r.takeWhile isD=[]∨(r.takeWhile isD).head?=some 48 then none
  else tZ neg (r.takeWhile isD) (r.dropWhile isD)
def rd (l:List UInt8):Option (Bool×Nat×Nat):=qR (cut l).1 (cut l).2
theorem yK {p:UInt8->Bool}(a b:List UInt8)(ha:∀c∈a,p c=true)(hb:b=[]∨∃c t,b=c::t/\p c=false):(a++b).takeWhile p=a/\(a++b).dropWhile p=b:=by
 induction a with
 |nil=>
  rcases hb with rfl|⟨c,t,rfl,hc⟩
  ·simp
  simp[hc]
 |cons x a ih=>
  have:=ih λc hc=>ha c (by simp[hc])
  simp[ha x (by simp),this]
theorem vO {p:UInt8->Bool}(l:List UInt8):∀c∈l.takeWhile p,p c=true:=by
 exact List.all_eq_true.1 List.all_takeWhile
theorem aON (l:List UInt8):l=(if (cut l).1=true then[45]else[])++(cut l).2:=by
 unfold cut
 cases l with
 |nil=>simp
 |cons c t=>by_cases h:c=45<;>simp[h]
theorem aFg:isD 47=false:=by decide
theorem aFh:isD 45=false:=by decide
theorem aBb (neg:Bool)(n d:Nat):cut (lN neg n d)=(neg,decDigits n++if d=1 then[]else 47::decDigits d):=by
 unfold cut lN
 cases neg with
 |true=>simp
 |false=>
  have h:((if false=true then([45]:List UInt8)else[])++(decDigits n++if d=1 then[]else 47::decDigits d)).head?≠some 45:=by
   simp only[Bool.false_eq_true,if_false,dB,List.head?_append]
   cases hh:(decDigits n).head? with
   |none=>exact absurd (List.head?_eq_none_iff.1 hh) (pS _)
   |some x=>
    have hx:x∈decDigits n:=List.mem_of_mem_head? (by rw[hh];rfl);have:=mK n x hx;simp only[Option.some_or,ne_eq,gG];rintro rfl;rw[aFh]at this;exact Bool.noConfusion this
  rw[aJ h];simp
theorem aBZ (d:Nat):(if d=1 then([]:List UInt8)else 47::decDigits d)=[]∨∃c t,(if d=1 then([]:List UInt8)else 47::decDigits d)=c::t/\isD c=false:=by
 by_cases h:d=1
 ·left;simp[h]
 right;exact⟨47,decDigits d,by simp[h],aFg⟩
theorem xB {neg:Bool}{n d:Nat}(h:xA neg n d):rd (lN neg n d)=some (neg,n,d):=by
 obtain⟨hd,hg,hn⟩:=h
 unfold rd
 rw[aBb]
 obtain⟨t1,t2⟩:=yK (decDigits n) _ (mK n) (aBZ d)
 simp only[qR,t1,t2]
 by_cases h0:n=0
 ·subst h0
  rw[pK,aQ rfl,hn rfl]
  have:d=1:=by simpa using hg
  simp[this]
 have hh:=aDO n h0
 rw[aJ (λe=>hh (by rw[e];rfl)),aJ (λe=>by rcases e with e|e;exact pS n e;exact hh e)]
 by_cases h1:d=1
 ·simp[tZ,h1,mS]
 simp only[tZ,aJ h1];obtain⟨s1,s2⟩:=yK (p:=isD) (decDigits d) [] (mK d) (.inl rfl);rw[eA]at s1 s2;rw[s1,s2,aQ ⟨by trivial,by trivial,pS d,aDO d (by omega),λe=>h1 (aMY (e.trans aGv.symm)),by rw[mS,mS];exact hg⟩,mS,mS]
theorem zY {l:List UInt8}{neg:Bool}{n d:Nat}(h:rd l=some (neg,n,d)):xA neg n d/\l=lN neg n d:=by
 unfold rd qR at h
 have hl:=aON l
 generalize (cut l).1=b at h hl
 generalize (cut l).2=r at h hl
 subst hl
 have hr:=(eQ (p:=isD) (l:=r)).symm
 have hD:=vO (p:=isD) r
 generalize r.takeWhile isD=num at h hr hD
 generalize r.dropWhile isD=rest at h hr
 subst hr
 by_cases e0:num=[48]
 ·rw[aQ e0]at h
  by_cases e1:b=false/\rest=[]
  ·rw[aQ e1]at h;obtain⟨rfl,rfl⟩:=e1
   injection h with h
   injection h with h1 h2
   injection h2 with h2 h3
   subst h1 h2 h3 e0;exact⟨⟨by omega,by simp,λ_=>rfl⟩,by unfold lN;rw[pK];rfl⟩
  rw[aJ e1]at h;cases h
 rw[aJ e0]at h
 by_cases e1:num=[]∨num.head?=some 48
 ·rw[aQ e1]at h;cases h
 rw[aJ e1]at h;have hv:=zX num hD (λe=>e1 (.inl e)) (λe=>e1 (.inr e))
 cases rest with
 |nil=>
  simp only[tZ,gG,Prod.mk.injEq]at h;obtain⟨rfl,rfl,rfl⟩:=h;exact⟨⟨by omega,by simp,λe=>absurd e hv.2⟩,by unfold lN;rw[hv.1];simp⟩
 |cons c t=>
  simp only[tZ]at h
  split at h
  ·rename_i hc
   obtain⟨rfl,c2,c3,c4,c5,c6⟩:=hc;simp only[gG,Prod.mk.injEq]at h;obtain⟨rfl,rfl,rfl⟩:=h;have ht:=(eQ (p:=isD) (l:=t)).symm;have hD2:=vO (p:=isD) t;rw[c2,eA]at ht;rw[<-ht]at c3 c4 c5 c6 hD2 ⊢;have hv2:=zX t hD2 c3 c4
   have h1:val t≠1:=λe=>c5 (by rw[<-hv2.1,e,aGv])
   refine⟨⟨by have:=hv2.2;omega,c6,λe=>absurd e hv.2⟩,?_⟩;unfold lN;rw[aJ h1,hv.1,hv2.1]
  cases h
theorem aOO {l:List UInt8}{neg:Bool}{n d:Nat}:rd l=some (neg,n,d)↔xA neg n d/\l=lN neg n d:=
  ⟨zY,λh=>h.2▸xB h.1⟩
def oD (c:UInt8):Bool:=c !=47
def pL (l:List UInt8):Bool:=l.all isD&&!l.isEmpty
theorem lV {l:List UInt8}:pL l=true↔(∀c∈l,isD c=true)/\l≠[]:=by unfold pL;simp
def vP (l:List UInt8):Option (Bool×Nat×Nat):=
  let a:=(cut l).2.takeWhile oD
  let r:=(cut l).2.dropWhile oD
  if pL a=true then
    match r with
    |[]=>some ((cut l).1&&decide (val a≠0),val a,1)
    |_::b=>if pL b=true/\val b≠0 then some ((cut l).1&&decide (val a≠0),val a/Nat.gcd (val a) (val b),val b/Nat.gcd (val a) (val b))else none
  else none
theorem aFi {l:List UInt8}{neg:Bool}{n d:Nat}(h:vP l=some (neg,n,d)):xA neg n d:=by
 unfold vP at h
 simp only at h
 split at h
 ·split at h
  ·simp only[gG,Prod.mk.injEq]at h;obtain⟨rfl,rfl,rfl⟩:=h;exact⟨by omega,by simp,λe=>by simp[e]⟩
  rename_i b _
  split at h
  ·rename_i hb
   simp only[gG,Prod.mk.injEq]at h;obtain⟨rfl,rfl,rfl⟩:=h;generalize val ((cut l).2.takeWhile oD)=x at*;have hy:0<val b:=eG hb.2;generalize val b=y at*;have hg:0<Nat.gcd x y:=fI _ hy;refine⟨Nat.div_pos (iE _ hy) hg,?_,λe=>?_⟩
   ·rw[Nat.gcd_div (jJ _ _) (jE _ _),Nat.div_self hg]
   have:x=0:=by
    rcases cC x with h0|h0
    ·exact h0
    have:=Nat.div_pos (Nat.gcd_le_left y h0) hg;omega
   simp[this]
  cases h
 cases h
theorem aDP {c:UInt8}(h:isD c=true):oD c=true:=by
 unfold oD
 rw[rO]at h
 simp only[bne_iff_ne,ne_eq]
 rintro rfl
 have:(47:UInt8).toNat=47:=rfl
 omega
theorem aHL {neg:Bool}{n d:Nat}(h:xA neg n d):vP (lN neg n d)=some (neg,n,d):=by
 obtain⟨hd,hg,hn⟩:=h
 unfold vP
 rw[aBb]
 have tf:(if d=1 then([]:List UInt8)else 47::decDigits d)=[]∨∃c t,(if d=1 then([]:List UInt8)else 47::decDigits d)=c::t/\oD c=false:=by
  by_cases h:d=1
  ·left;simp[h]
  right;exact⟨47,decDigits d,by simp[h],by decide⟩
 obtain⟨t1,t2⟩:=yK (p:=oD) (decDigits n) _ (λc hc=>aDP (mK n c hc)) tf
 simp only[t1,t2]
 have ok:∀m,pL (decDigits m)=true:=λm=>lV.2 ⟨mK m,pS m⟩
 have hnn:(neg&&decide (n≠0))=neg:=by
  by_cases h0:n=0
  ·rw[hn h0];rfl
  simp[h0]
 rw[aQ (ok n),mS]
 by_cases h1:d=1
 ·simp only[h1,if_true,hnn]
 simp only[aJ h1]
 rw[aQ ⟨ok d,by rw[mS];omega⟩,mS,hg,hnn];simp
theorem aFj {l:List UInt8}{neg:Bool}{n d:Nat}:rd l=some (neg,n,d)↔vP l=some (neg,n,d)/\lN neg n d=l:=by
 rw[aOO]
 constructor
 ·rintro⟨h1,h2⟩
  exact⟨h2▸aHL h1,h2.symm⟩
 rintro⟨h1,h2⟩
 exact⟨aFi h1,h2.symm⟩
theorem vQ {l:List UInt8}(h:vP l=none):rd l=none:=by
 cases hr:rd l with
 |none=>rfl
 |some q=>
  obtain⟨a,b,c⟩:=q;rw[(aFj.1 hr).1]at h;cases h
theorem aCG {l:List UInt8}{neg:Bool}{n d:Nat}(h:vP l=some (neg,n,d))(ht:lN neg n d≠l):rd l=none:=by
 cases hr:rd l with
 |none=>rfl
 |some q=>
  obtain⟨a,b,c⟩:=q;have:=aFj.1 hr;rw[h]at this;obtain⟨h1,h2⟩:=this
  injection h1 with h1
  injection h1 with e1 e2
  injection e2 with e2 e3
  subst e1 e2 e3;exact absurd h2 ht
def pV (l:List UInt8)(b:Bool)(num den:List UInt8)(ok:Bool):Prop:=
  num.length<=l.length/\den.length<=l.length/\(ok=false->rd l=none)/\
  (ok=true->pL num=true/\(den=[]->rd l=some (b,val num,1))/\(den≠[]->pL den=true/\val num≠0/\val den≠0/\rd l=if Nat.gcd (val num) (val den)=1 then some (b,val num,val den)else none))
theorem aMZ (l:List UInt8):(cut l).2.length<=l.length:=by
 unfold cut;split
 ·simp
 exact aA _
theorem aFk (p:UInt8->Bool)(l:List UInt8):(l.takeWhile p).length<=l.length:=by
 have h:=bK List.length (eQ (p:=p) (l:=l))
 rw[aC]at h;omega
theorem aKV (p:UInt8->Bool)(l:List UInt8):(l.dropWhile p).length<=l.length:=by
 have h:=bK List.length (eQ (p:=p) (l:=l))
 rw[aC]at h;omega
section
variable {l r : List UInt8} {b : Bool} (hc : cut l = (b, r))
include hc
theorem rP:(r.takeWhile isD).length<=l.length/\r.length<=l.length:=by
 have h1:=aMZ l
 have h2:=aFk isD r
 rw[hc]at h1
 exact⟨aR h2 h1,h1⟩
theorem aBc:rd l=qR b r:=by unfold rd;rw[hc]
theorem aDQ (h:r.takeWhile isD=[48]):pV l b (r.takeWhile isD) [] (!b&&(r.dropWhile isD).isEmpty):=by
 refine⟨(rP hc).1,by simp,λe=>?_,λe=>⟨by rw[h];rfl,λ_=>?_,λe=>absurd rfl e⟩⟩
 ·rw[aBc hc,qR,aQ h,aJ]
  rintro⟨h1,h2⟩;rw[h1,h2]at e;cases e
 rw[aBc hc,qR,aQ h,h]
 cases b with
 |true=>cases e
 |false=>
  have:r.dropWhile isD=[]:=by simpa using e
  rw[aQ ⟨rfl,this⟩];rfl
theorem aGw (h:r.takeWhile isD≠[48])(h2:r.takeWhile isD=[]∨(r.takeWhile isD).head?=some 48):pV l b (r.takeWhile isD) [] false:=
  ⟨(rP hc).1,by simp,λ_=>by rw[aBc hc,qR,aJ h,aQ h2],λe=>by cases e⟩
theorem aHM (h:r.takeWhile isD≠[48])(h2:¬(r.takeWhile isD=[]∨(r.takeWhile isD).head?=some 48))(h3:r.dropWhile isD=[]):pV l b (r.takeWhile isD) [] true:=
  ⟨(rP hc).1,by simp,λe=>(by cases e),λ_=>⟨lV.2 ⟨vO _,λe=>h2 (.inl e)⟩,λ_=>by rw[aBc hc,qR,aJ h,aJ h2,h3];rfl,λe=>absurd rfl e⟩⟩
theorem aHN (h:r.takeWhile isD≠[48])(h2:¬(r.takeWhile isD=[]∨(r.takeWhile isD).head?=some 48)){c:UInt8}{t:List UInt8}(h3:r.dropWhile isD=c::t)(h4:c≠47):pV l b (r.takeWhile isD) [] false:=
  ⟨(rP hc).1,by simp,λ_=>by rw[aBc hc,qR,aJ h,aJ h2,h3,tZ,aJ (λe=>h4 e.1)],λe=>by cases e⟩
theorem aNa (h:r.takeWhile isD≠[48])(h2:¬(r.takeWhile isD=[]∨(r.takeWhile isD).head?=some 48)){t:List UInt8}(h3:r.dropWhile isD=47::t){ok:Bool}
    (hok:ok=true↔t.dropWhile isD=[]/\t.takeWhile isD≠[]/\(t.takeWhile isD).head?≠some 48/\t.takeWhile isD≠[49]):pV l b (r.takeWhile isD) (t.takeWhile isD) ok:=by
  refine⟨(rP hc).1,?_,λe=>?_,λe=>⟨lV.2 ⟨vO _,λe=>h2 (.inl e)⟩,λe2=>absurd e2 (hok.1 e).2.1,λ_=>⟨lV.2 ⟨vO _,(hok.1 e).2.1⟩,(zX _ (vO _) (λe=>h2 (.inl e)) (λe=>h2 (.inr e))).2,(zX _ (vO _) (hok.1 e).2.1 (hok.1 e).2.2.1).2,?_⟩⟩⟩
  ·have a1:=aFk isD t;have a2:=aKV isD r;have a3:=(rP hc).2;rw[h3,bP]at a2;omega
  ·rw[aBc hc,qR,aJ h,aJ h2,h3,tZ,aJ];rintro⟨_,a,b,c,d,_⟩;rw[hok.2 ⟨a,b,c,d⟩]at e;cases e
  obtain⟨a,b,c,d⟩:=hok.1 e;rw[aBc hc,qR,aJ h,aJ h2,h3,tZ]
  by_cases g:Nat.gcd (val (r.takeWhile isD)) (val (t.takeWhile isD))=1
  ·rw[aQ ⟨rfl,a,b,c,d,g⟩,aQ g]
  rw[aJ (λh=>g h.2.2.2.2.2),aJ g]
end
end Go.Qn
end
namespace Go.Mo
open Go.Qn
def oU (m:List Int):Bool:=decide (m.length<=6/\(∀e∈m,0<=e)/\m.sum<=24)
def yI (m:List Int):Int:=if oU m=true then m.sum else -1
theorem vN:∀(l:List Int),(∀e∈l,0<=e)->0<=l.sum
  |[],_=>by simp
  |x::l,h=>by
   have h1:=h x (by simp)
   have h2:=vN l λe he=>h e (by simp[he])
   rw[List.sum_cons];omega
theorem aDM (l:List Int)(k:Nat)(h:∀e∈l,0<=e):(l.take k).sum<=l.sum:=by
 have h1:l.sum=(l.take k).sum+(l.drop k).sum:=by rw[<-List.sum_append,cY]
 have h2:=vN (l.drop k) λe he=>h e (iP he)
 omega
theorem vD (l:List Int)(k:Nat)(hk:k<l.length):(l.take (k+1)).sum=(l.take k).sum+l[k]:=by
 rw[aD hk,List.sum_append,List.sum_singleton]
theorem sJ {m:List Int}:oU m=true↔m.length<=6/\(∀e∈m,0<=e)/\m.sum<=24:=by unfold oU;simp
theorem aKQ {m:List Int}{k:Nat}(hk:k<m.length)(h:m[k]<0∨24-(m.take k).sum<m[k]):oU m=false:=by
 apply cV
 rw[sJ]
 rintro⟨_,h1,h2⟩
 rcases h with h|h
 ·have:=h1 m[k] (aB _);omega
 have h3:=aDM m (k+1) h1
 rw[vD m k hk]at h3;omega
theorem aMQ {m:List Int}:decide (0<=yI m)=oU m:=by
 unfold yI
 cases h:oU m with
 |true=>
  have:=vN m (sJ.1 h).2.1;simp;exact this
 |false=>simp
end Go.Mo
namespace Go.Proofs.Tg
open Go.RowKit Go.Gr Go.Mo
theorem aNt (A:Option Addr)(c:Nat)(m:List Int)(w:World)(hA:kP w A m)(hn:m.length<=1000):
    Calls Tryz.prog 122 #[.slice A m.length c] w λe w'=>e=.returned (.int .i64 (yI m))/\w=w':=by
  by_cases hl:m.length<=6
  ·have hd:decide ((6:Int)<(m.length:Int))=false:=by simp;omega
   go_enter Tryz.func122,Tryz.ntmps122;go_wp2
   go_loop [3,11] (λs i=>∃k:Nat,k<=m.length/\i=.int .i64 k/\∃z:Int,s=.int .i64 z/\0<=z/\z<=24/\Hid (z=(m.take k).sum/\∀e∈m.take k,0<=e)) (λ_ i=>m.length-(intOf i).toNat)
   case atStart=>exact⟨0,aW _,rfl,0,rfl,by omega,by omega,zh ⟨rfl,by simp⟩⟩
   case round=>
    obtain⟨k,hk,rfl,z,rfl,hz0,hz1,HZ⟩:=hrel
    by_cases hlt:k<m.length
    ·obtain⟨ad,rfl,hc⟩:=kP.at hA hlt;have HS:Hid ((m.take (k+1)).sum=z+m[k]):=zh (by rw[vD m k hlt,<-HZ.o.1]);have HB:Hid (m[k]<0∨24-z<m[k]->oU m=false):=zh (λh=>aKQ hlt (by rw[<-HZ.o.1];exact h));have HT:Hid (m.take (k+1)=m.take k++[m[k]]):=zh (aD hlt);clear hA;generalize m[k]=x at hc HS HB HT
     by_cases h1:x<0
     ·have b1:decide (x<0)=true:=by simpa using h1
      have HF:Hid (yI m=-1):=zh (by unfold yI;rw[HB.o (.inl h1)];rfl);go_wp2;go_ret;exact⟨by rw[HF.o];rfl,rfl⟩
     have b1:decide (x<0)=false:=by simpa using h1
     by_cases h2:24-z<x
     ·have b2:decide (24-z<x)=true:=by simpa using h2
      have HF:Hid (yI m=-1):=zh (by unfold yI;rw[HB.o (.inr h2)];rfl);go_wp2;go_ret;exact⟨by rw[HF.o];rfl,rfl⟩
     have b2:decide (24-z<x)=false:=by simpa using h2
     go_wp2;go_round
     case rel=>
      refine⟨k+1,by omega,by go_num,z+x,rfl,by omega,by omega,zh ⟨HS.o.symm,λe he=>?_⟩⟩;rw[HT.o]at he
      rcases aK.1 he with he|he
      ·exact HZ.o.2 e he
      simp at he;omega
     case measure=>simp[intOf];omega
    obtain rfl:k=m.length:=by omega
    have HF:Hid (yI m=z):=zh (by
     have h:=HZ.o;rw[eE]at h;unfold yI
     rw[aQ (sJ.2 ⟨hl,h.2,by omega⟩),h.1])
    go_wp2;go_ret;exact⟨by rw[HF.o];rfl,rfl⟩
  have hd:decide ((6:Int)<(m.length:Int))=true:=by simp;omega
  have HF:Hid (yI m=-1):=zh (by
   unfold yI
   rw[aJ (by rw[sJ];exact λh=>hl h.1)])
  go_enter Tryz.func122,Tryz.ntmps122;go_wp2;go_ret;exact⟨by rw[HF.o];rfl,rfl⟩
theorem aIs (A:Option Addr)(c:Nat)(m:List Int)(w:World)(hA:kP w A m)(hn:m.length<=1000):
    Calls Tryz.prog 72 #[.slice A m.length c] w λe w'=>e=.returned (.bool (oU m))/\w=w':=by
  have HD:Hid (decide (0<=yI m)=oU m):=zh aMQ;have HC:=zh (aNt A c m w hA hn);generalize yI m=z at*;go_enter Tryz.func72,Tryz.ntmps72
  go_wp2_with (go_at_call 122;refine HC.o.mono ?_;rintro e w' ⟨rfl,rfl⟩)
  go_ret;exact⟨by rw[<-HD.o];rfl,rfl⟩
end Go.Proofs.Tg
namespace Go.Proofs.Tg
open Go.RowKit Go.Gr Go.Ev Go.Mo
theorem aPh (L:List Int)(k n:Nat)(hn:L.length=n)(hk:k<n)(h:L[k]=0):L.take k++List.replicate (n-k) 0=L.take (k+1)++List.replicate (n-(k+1)) 0:=by
 rw[aD (by omega),h,show n-k=(n-(k+1))+1 by omega,dO];simp
theorem qW (L:List Int)(k n:Nat)(x:Int)(hn:L.length=n)(hk:k<n)(h:L[k]=x):(L.take k++List.replicate (n-k) 0).set k x=L.take (k+1)++List.replicate (n-(k+1)) 0:=by
 have hl:(L.take k).length=k:=by rw[aS];omega
 rw[aD (by omega),h,show n-k=(n-(k+1))+1 by omega,dO,cX _ _ (by omega),hl,cP,dL];simp
end Go.Proofs.Tg
