/- Parts of the proof. -/
import Derived.Test.YtabdoikbodjidaaGreatDoorMBO4
set_option maxHeartbeats 64000000
set_option maxRecDepth 100000
namespace Go.Pm
def tN (a:List Int)(k:Nat):Prop:=(∀x∈a.take k,0<=x/\x<a.length)/\(a.take k).Nodup
theorem tN.zero (a:List Int):tN a 0:=⟨λx hx=>by simp at hx,by simp⟩
theorem tN.succ {a:List Int}{k:Nat}(h:tN a k)(hk:k<a.length)(h0:0<=a[k])(h1:a[k]<a.length)(hn:a[k]∉a.take k):tN a (k+1):=by
 unfold tN
 rw[aD hk]
 refine⟨λx hx=>?_,eL.2 ⟨h.2,by simp,λx hx y hy e=>?_⟩⟩
 ·rcases aK.1 hx with hx|hx
  ·exact h.1 x hx
  rw[aN.1 hx];exact⟨h0,h1⟩
 rw[aN.1 hy]at e
 exact hn (by rw[<-e];exact hx)
theorem tN.perm {a:List Int}(h:tN a a.length):Perm a.length a:=by
 unfold tN at h
 rw[eE]at h
 exact⟨rfl,h.1,h.2⟩
theorem aBE {a:List Int}{k:Nat}(hk:k<a.length)(h:¬(0<=a[k]/\a[k]<a.length)):¬Perm a.length a:=λhp=>h (hp.2.1 _ (aB _))
theorem aHa {a:List Int}{k:Nat}(hk:k<a.length)(h:a[k]∈a.take k):¬Perm a.length a:=λhp=>by
 obtain⟨i,hi,he⟩:=bI h
 rw[aS]at hi
 rw[List.getElem_take]at he
 exact bO.1 hp.2.2 i k (by omega) hk (by omega) he
end Go.Pm
namespace Go.Proofs.Tg.Gp
open Go.RowKit Go.Gr Go.Sp Go.Ev Go.Pm
theorem mU {s:List Int}{n:Nat}(h:s.length=n):s.take n++List.replicate (n-n) 0=s:=by
 rw[cP,fE,eA,bF (by omega)]
theorem xG (n:Nat)(w:World)(hn:n<=6):Calls Tryz.prog 120 #[.int .i64 n] w λe w'=>e=.returned (.slice (some ⟨w.heap.size,0,none⟩) n n)/\Blk w' w.heap.size 3 (kU (unit n))/\Below w.heap.size w w':=by
 have HSL:Hid ((unit n).length=n):=zh (mV n)
 have HSA:Hid (∀k (h:k<(unit n).length),(unit n)[k]=(k:Int)):=zh (λk h=>by simp[unit])
 have hmk:=λW=>nB n n (aA _) (by omega) W
 generalize unit n=s at*
 go_enter Tryz.func120,Tryz.ntmps120
 go_wp2
 clear hmk
 go_loopw [9] (λi wr=>∃k:Nat,k<=n/\i=.int .i64 k/\Blk wr w.heap.size 3 (kU (s.take k++List.replicate (n-k) 0))/\Below w.heap.size w wr) (λi _=>n-(intOf i).toNat)
 case atStart=>
  refine⟨0,aW _,rfl,?_,bal⟩;have e:kU (s.take 0++List.replicate (n-0) 0)=madeCells #[.int .i64 0] n:=(mD n).symm;rw[e];exact Blk.new w 3 _
 case round=>
  obtain⟨wo,rfl⟩:∃wo:World,wo=wr:=⟨_,rfl⟩;obtain⟨k,hk,rfl,B0,hbw⟩:=hrel
  by_cases hlt:k<n
  ·have hl2:(s.take k++List.replicate (n-k) 0).length=n:=by
    have:=HSL.o;rw[aC,aS,bU];omega
   have HST:Hid ((s.take k++List.replicate (n-k) 0).set k (k:Int)=s.take (k+1)++List.replicate (n-(k+1)) 0):=zh (qW _ k _ _ HSL.o hlt (HSA.o k (by rw[HSL.o];exact hlt)));have c0:=B0.cell k;have f0:=B0.frozen k;rw[nW _ (by rw[hl2];exact hlt)]at c0;generalize (s.take k++List.replicate (n-k) 0)[k]'(by rw[hl2];exact hlt)=old at c0;have HB0:=zh B0
   have q0:(0:Int)<=(k:Int):=by omega
   have q1:(k:Int)<(n:Int):=by omega
   have q3:((k:Int)).toNat=k:=by omega
   clear B0 hl2;go_wp2;go_roundw
   case rel=>
    refine⟨k+1,by omega,by go_num,?_,hJ hbw (aA _) _ _⟩;have:=HB0.o.set k (.int .i64 (k:Int));rw[nL,HST.o]at this;exact this
   case measure=>simp[intOf];omega
  obtain rfl:k=n:=by omega
  rw[mU HSL.o]at B0
  have dk:decide ((k:Int)<(k:Int))=false:=by simp
  go_wp2;go_ret;exact⟨rfl,B0,hbw⟩
theorem aIg (n:Nat)(w:World)(hn:n<=6):Calls Tryz.prog 48 #[.int .i64 n] w λe w'=>e=.returned (.slice (some ⟨w.heap.size,0,none⟩) n n)/\Blk w' w.heap.size 3 (kU (unit n))/\Below w.heap.size w w':=by
 have HSL:Hid ((unit n).length=n):=zh (mV n)
 have HSA:Hid (∀k (h:k<(unit n).length),(unit n)[k]=(k:Int)):=zh (λk h=>by simp[unit])
 have hmk:=λW=>nB n n (aA _) (by omega) W
 generalize unit n=s at*
 go_enter Tryz.func48,Tryz.ntmps48
 go_wp2
 clear hmk
 go_loopw [4] (λi wr=>∃k:Nat,k<=n/\i=.int .i64 k/\Blk wr w.heap.size 3 (kU (s.take k++List.replicate (n-k) 0))/\Below w.heap.size w wr) (λi _=>n-(intOf i).toNat)
 case atStart=>
  refine⟨0,aW _,rfl,?_,bal⟩;have e:kU (s.take 0++List.replicate (n-0) 0)=madeCells #[.int .i64 0] n:=(mD n).symm;rw[e];exact Blk.new w 3 _
 case round=>
  obtain⟨wo,rfl⟩:∃wo:World,wo=wr:=⟨_,rfl⟩;obtain⟨k,hk,rfl,B0,hbw⟩:=hrel
  by_cases hlt:k<n
  ·have hl2:(s.take k++List.replicate (n-k) 0).length=n:=by
    have:=HSL.o;rw[aC,aS,bU];omega
   have HST:Hid ((s.take k++List.replicate (n-k) 0).set k (k:Int)=s.take (k+1)++List.replicate (n-(k+1)) 0):=zh (qW _ k _ _ HSL.o hlt (HSA.o k (by rw[HSL.o];exact hlt)));have c0:=B0.cell k;have f0:=B0.frozen k;rw[nW _ (by rw[hl2];exact hlt)]at c0;generalize (s.take k++List.replicate (n-k) 0)[k]'(by rw[hl2];exact hlt)=old at c0;have HB0:=zh B0
   have q0:(0:Int)<=(k:Int):=by omega
   have q1:(k:Int)<(n:Int):=by omega
   have q3:((k:Int)).toNat=k:=by omega
   clear B0 hl2;go_wp2;go_roundw
   case rel=>
    refine⟨k+1,by omega,by go_num,?_,hJ hbw (aA _) _ _⟩;have:=HB0.o.set k (.int .i64 (k:Int));rw[nL,HST.o]at this;exact this
   case measure=>simp[intOf];omega
  obtain rfl:k=n:=by omega
  rw[mU HSL.o]at B0
  have dk:decide ((k:Int)<(k:Int))=false:=by simp
  go_wp2;go_ret;exact⟨rfl,B0,hbw⟩
theorem zC (A B:Option Addr)(c d n:Nat)(a b:List Int)(w:World)(hA:kP w A a)(hB:kP w B b)(ha:Perm n a)(hb:Perm n b)(hn:n<=6):
    Calls Tryz.prog 121 #[.slice A n c,.slice B n d] w λe w'=>e=.returned (.slice (some ⟨w.heap.size,0,none⟩) n n)/\Blk w' w.heap.size 3 (kU (cmp a b))/\Below w.heap.size w w':=by
  have HA:=zh ha;have HB:=zh hb;have HSL:Hid ((cmp a b).length=n):=zh (mE ha hb).1;have HSA:Hid (∀k (h2:k<b.length) (h1:(b[k]).toNat<a.length) (h3:k<(cmp a b).length),(cmp a b)[k]=a[(b[k]).toNat]):=zh (λk h2 h1 h3=>by simp[cmp,h1]);have HAW:=zh hA;have HBW:=zh hB
  have hmk:=λW=>nB n n (aA _) (by omega) W
  clear ha hb hA hB;generalize cmp a b=s at*;go_enter Tryz.func121,Tryz.ntmps121;go_wp2;clear hmk
  go_loopw [13] (λi wr=>∃k:Nat,k<=n/\i=.int .i64 k/\Blk wr w.heap.size 3 (kU (s.take k++List.replicate (n-k) 0))/\Below w.heap.size w wr) (λi _=>n-(intOf i).toNat)
  case atStart=>
   refine⟨0,aW _,rfl,?_,bal⟩;have e:kU (s.take 0++List.replicate (n-0) 0)=madeCells #[.int .i64 0] n:=(mD n).symm;rw[e];exact Blk.new w 3 _
  case round=>
   obtain⟨wo,rfl⟩:∃wo:World,wo=wr:=⟨_,rfl⟩;obtain⟨k,hk,rfl,B0,hbw⟩:=hrel
   by_cases hlt:k<n
   ·have hal:a.length=n:=HA.o.1;have hbl:b.length=n:=HB.o.1;have hr:=HB.o.2.1 (b[k]'(by omega)) (aB _);obtain⟨m,hm⟩:∃m:Nat,b[k]'(by omega)=(m:Int):=⟨(b[k]'(by omega)).toNat,by omega⟩
    have hmn:m<n:=by omega
    have hsk:=HSA.o k (by omega) (by omega) (by rw[HSL.o];exact hlt)
    have hmt:(b[k]'(by omega)).toNat=m:=by omega
    obtain⟨bd,rfl,hcb⟩:=kP.at (HBW.o.keep hbw) (show k<b.length by omega);obtain⟨ad,rfl,hca⟩:=kP.at (HAW.o.keep hbw) (show m<a.length by omega);rw[hm]at hcb
    have hl2:(s.take k++List.replicate (n-k) 0).length=n:=by
     have:=HSL.o;rw[aC,aS,bU];omega
    have HST:Hid ((s.take k++List.replicate (n-k) 0).set k (a[m]'(by omega))=s.take (k+1)++List.replicate (n-(k+1)) 0):=zh (qW _ k _ _ HSL.o hlt (by rw[hsk];simp only[hmt]));have c0:=B0.cell k;have f0:=B0.frozen k;rw[nW _ (by rw[hl2];exact hlt)]at c0;generalize (s.take k++List.replicate (n-k) 0)[k]'(by rw[hl2];exact hlt)=old at c0;have HB0:=zh B0
    have q0:(0:Int)<=(k:Int):=by omega
    have q1:(k:Int)<(n:Int):=by omega
    have q3:((k:Int)).toNat=k:=by omega
    have p0:(0:Int)<=(m:Int):=by omega
    have p1:(m:Int)<(n:Int):=by omega
    have p3:((m:Int)).toNat=m:=by omega
    generalize a[m]'(by omega)=x at*;clear hsk hmt hm hr;clear B0 hl2 hal hbl;go_wp2;go_roundw
    case rel=>
     refine⟨k+1,by omega,by go_num,?_,hJ hbw (aA _) _ _⟩;have:=HB0.o.set k (.int .i64 x);rw[nL,HST.o]at this;exact this
    case measure=>simp[intOf];omega
   obtain rfl:k=n:=by omega
   rw[mU HSL.o]at B0
   have dk:decide ((k:Int)<(k:Int))=false:=by simp
   go_wp2;go_ret;exact⟨rfl,B0,hbw⟩
theorem pZ (A B:Option Addr)(c d n:Nat)(a b:List Int)(w:World)(hA:kP w A a)(hB:kP w B b)(ha:Perm n a)(hb:Perm n b)(hn:n<=6):
    Calls Tryz.prog 77 #[.slice A n c,.slice B n d] w λe w'=>e=.returned (.slice (some ⟨w.heap.size,0,none⟩) n n)/\Blk w' w.heap.size 3 (kU (cmp a b))/\Below w.heap.size w w':=by
  have HA:=zh ha;have HB:=zh hb;have HSL:Hid ((cmp a b).length=n):=zh (mE ha hb).1;have HSA:Hid (∀k (h2:k<b.length) (h1:(b[k]).toNat<a.length) (h3:k<(cmp a b).length),(cmp a b)[k]=a[(b[k]).toNat]):=zh (λk h2 h1 h3=>by simp[cmp,h1]);have HAW:=zh hA;have HBW:=zh hB
  have hmk:=λW=>nB n n (aA _) (by omega) W
  clear ha hb hA hB;generalize cmp a b=s at*;go_enter Tryz.func77,Tryz.ntmps77;go_wp2;clear hmk
  go_loopw [13] (λi wr=>∃k:Nat,k<=n/\i=.int .i64 k/\Blk wr w.heap.size 3 (kU (s.take k++List.replicate (n-k) 0))/\Below w.heap.size w wr) (λi _=>n-(intOf i).toNat)
  case atStart=>
   refine⟨0,aW _,rfl,?_,bal⟩;have e:kU (s.take 0++List.replicate (n-0) 0)=madeCells #[.int .i64 0] n:=(mD n).symm;rw[e];exact Blk.new w 3 _
  case round=>
   obtain⟨wo,rfl⟩:∃wo:World,wo=wr:=⟨_,rfl⟩;obtain⟨k,hk,rfl,B0,hbw⟩:=hrel
   by_cases hlt:k<n
   ·have hal:a.length=n:=HA.o.1;have hbl:b.length=n:=HB.o.1;have hr:=HB.o.2.1 (b[k]'(by omega)) (aB _);obtain⟨m,hm⟩:∃m:Nat,b[k]'(by omega)=(m:Int):=⟨(b[k]'(by omega)).toNat,by omega⟩
    have hmn:m<n:=by omega
    have hsk:=HSA.o k (by omega) (by omega) (by rw[HSL.o];exact hlt)
    have hmt:(b[k]'(by omega)).toNat=m:=by omega
    obtain⟨bd,rfl,hcb⟩:=kP.at (HBW.o.keep hbw) (show k<b.length by omega);obtain⟨ad,rfl,hca⟩:=kP.at (HAW.o.keep hbw) (show m<a.length by omega);rw[hm]at hcb
    have hl2:(s.take k++List.replicate (n-k) 0).length=n:=by
     have:=HSL.o;rw[aC,aS,bU];omega
    have HST:Hid ((s.take k++List.replicate (n-k) 0).set k (a[m]'(by omega))=s.take (k+1)++List.replicate (n-(k+1)) 0):=zh (qW _ k _ _ HSL.o hlt (by rw[hsk];simp only[hmt]));have c0:=B0.cell k;have f0:=B0.frozen k;rw[nW _ (by rw[hl2];exact hlt)]at c0;generalize (s.take k++List.replicate (n-k) 0)[k]'(by rw[hl2];exact hlt)=old at c0;have HB0:=zh B0
    have q0:(0:Int)<=(k:Int):=by omega
    have q1:(k:Int)<(n:Int):=by omega
    have q3:((k:Int)).toNat=k:=by omega
    have p0:(0:Int)<=(m:Int):=by omega
    have p1:(m:Int)<(n:Int):=by omega
    have p3:((m:Int)).toNat=m:=by omega
    generalize a[m]'(by omega)=x at*;clear hsk hmt hm hr;clear B0 hl2 hal hbl;go_wp2;go_roundw
    case rel=>
     refine⟨k+1,by omega,by go_num,?_,hJ hbw (aA _) _ _⟩;have:=HB0.o.set k (.int .i64 x);rw[nL,HST.o]at this;exact this
    case measure=>simp[intOf];omega
   obtain rfl:k=n:=by omega
   rw[mU HSL.o]at B0
   have dk:decide ((k:Int)<(k:Int))=false:=by simp
   go_wp2;go_ret;exact⟨rfl,B0,hbw⟩
theorem aIh (A B:Option Addr)(c d n:Nat)(a b:List Int)(w:World)(hA:kP w A a)(hB:kP w B b)(ha:Perm n a)(hb:Perm n b)(hn:n<=6):
    Calls Tryz.prog 49 #[.slice A n c,.slice B n d] w λe w'=>e=.returned (.slice (some ⟨w.heap.size,0,none⟩) n n)/\Blk w' w.heap.size 3 (kU (cmp a b))/\Below w.heap.size w w':=by
  have HA:=zh ha;have HB:=zh hb;have HSL:Hid ((cmp a b).length=n):=zh (mE ha hb).1;have HSA:Hid (∀k (h2:k<b.length) (h1:(b[k]).toNat<a.length) (h3:k<(cmp a b).length),(cmp a b)[k]=a[(b[k]).toNat]):=zh (λk h2 h1 h3=>by simp[cmp,h1]);have HAW:=zh hA;have HBW:=zh hB
  have hmk:=λW=>nB n n (aA _) (by omega) W
  clear ha hb hA hB;generalize cmp a b=s at*;go_enter Tryz.func49,Tryz.ntmps49;go_wp2;clear hmk
  go_loopw [6] (λi wr=>∃k:Nat,k<=n/\i=.int .i64 k/\Blk wr w.heap.size 3 (kU (s.take k++List.replicate (n-k) 0))/\Below w.heap.size w wr) (λi _=>n-(intOf i).toNat)
  case atStart=>
   refine⟨0,aW _,rfl,?_,bal⟩;have e:kU (s.take 0++List.replicate (n-0) 0)=madeCells #[.int .i64 0] n:=(mD n).symm;rw[e];exact Blk.new w 3 _
  case round=>
   obtain⟨wo,rfl⟩:∃wo:World,wo=wr:=⟨_,rfl⟩;obtain⟨k,hk,rfl,B0,hbw⟩:=hrel
   by_cases hlt:k<n
   ·have hal:a.length=n:=HA.o.1;have hbl:b.length=n:=HB.o.1;have hr:=HB.o.2.1 (b[k]'(by omega)) (aB _);obtain⟨m,hm⟩:∃m:Nat,b[k]'(by omega)=(m:Int):=⟨(b[k]'(by omega)).toNat,by omega⟩
    have hmn:m<n:=by omega
    have hsk:=HSA.o k (by omega) (by omega) (by rw[HSL.o];exact hlt)
    have hmt:(b[k]'(by omega)).toNat=m:=by omega
    obtain⟨bd,rfl,hcb⟩:=kP.at (HBW.o.keep hbw) (show k<b.length by omega);obtain⟨ad,rfl,hca⟩:=kP.at (HAW.o.keep hbw) (show m<a.length by omega);rw[hm]at hcb
    have hl2:(s.take k++List.replicate (n-k) 0).length=n:=by
     have:=HSL.o;rw[aC,aS,bU];omega
    have HST:Hid ((s.take k++List.replicate (n-k) 0).set k (a[m]'(by omega))=s.take (k+1)++List.replicate (n-(k+1)) 0):=zh (qW _ k _ _ HSL.o hlt (by rw[hsk];simp only[hmt]));have c0:=B0.cell k;have f0:=B0.frozen k;rw[nW _ (by rw[hl2];exact hlt)]at c0;generalize (s.take k++List.replicate (n-k) 0)[k]'(by rw[hl2];exact hlt)=old at c0;have HB0:=zh B0
    have q0:(0:Int)<=(k:Int):=by omega
    have q1:(k:Int)<(n:Int):=by omega
    have q3:((k:Int)).toNat=k:=by omega
    have p0:(0:Int)<=(m:Int):=by omega
    have p1:(m:Int)<(n:Int):=by omega
    have p3:((m:Int)).toNat=m:=by omega
    generalize a[m]'(by omega)=x at*;clear hsk hmt hm hr;clear B0 hl2 hal hbl;go_wp2;go_roundw
    case rel=>
     refine⟨k+1,by omega,by go_num,?_,hJ hbw (aA _) _ _⟩;have:=HB0.o.set k (.int .i64 x);rw[nL,HST.o]at this;exact this
    case measure=>simp[intOf];omega
   obtain rfl:k=n:=by omega
   rw[mU HSL.o]at B0
   have dk:decide ((k:Int)<(k:Int))=false:=by simp
   go_wp2;go_ret;exact⟨rfl,B0,hbw⟩
end Go.Proofs.Tg.Gp
namespace Go.Proofs.Tg.Gp
open Go.RowKit Go.Gr Go.Sp Go.Ev Go.Pm
open Go.Proofs.Tg.Gx (aAE aDs vJ)
def xH (L:Nat)(a:List Int)(k:Nat):Array Value:=aAE L λi=>.bool (decide ((i:Int)∈a.take k))
theorem aFA (L:Nat)(a:List Int):aAE L (λ_=>.bool false)=xH L a 0:=by
 unfold xH
 exact vJ λi _=>by simp
theorem aLA (L:Nat)(a:List Int)(k:Nat){i:Nat}(h:i<L):(xH L a k)[i]?=some (.bool (decide ((i:Int)∈a.take k))):=by simp[xH,aAE,h]
theorem aIi {L:Nat}{a:List Int}{k m:Nat}(hk:k<a.length)(hm:a[k]=(m:Int)):(xH L a k).setIfInBounds m (.bool true)=xH L a (k+1):=by
 unfold xH
 rw[aDs]
 refine vJ λi _=>?_
 rw[aD hk]
 by_cases hi:i=m
 ·rw[aQ hi]
  exact bK Value.bool (dT (eF _ (aN.2 (by omega)))).symm
 rw[aJ hi]
 refine bK Value.bool (dH.2 ⟨λh=>bZ _ h,λh=>?_⟩)
 rcases aK.1 h with h|h
 ·exact h
 exact absurd (aN.1 h) (by omega)
theorem qZ (A:Option Addr)(c:Nat)(a:List Int)(v:Bool)(w:World)(hA:kP w A a)(hl:a.length<=1000000)(hv:v=true↔a.length<=6/\Perm a.length a):
    Calls Tryz.prog 69 #[.slice A a.length c] w λe w'=>e=.returned (.bool v)/\Below w.heap.size w w':=by
  have HV:=zh hv;have HAW:=zh hA;clear hv hA
  by_cases h6:a.length<=6
  ·have d6:decide ((6:Int)<(a.length:Int))=false:=dF (by omega);go_enter Tryz.func69,Tryz.ntmps69;go_wp2
   go_loopw [11] (λi wr=>∃k:Nat,k<=a.length/\i=.int .i64 k/\Hid (tN a k)/\Blk wr w.heap.size 177 (xH 6 a k)/\Below w.heap.size w wr) (λi _=>a.length-(intOf i).toNat)
   case atStart=>
    refine⟨0,aW _,rfl,zh (tN.zero a),?_,bal⟩
    have e:#[Value.bool false,.bool false,.bool false,.bool false,.bool false,.bool false]=xH 6 a 0:=by rw[<-aFA];rfl
    rw[<-e];exact Blk.new w 177 _
   case round=>
    obtain⟨wo,rfl⟩:∃wo:World,wo=wr:=⟨_,rfl⟩;obtain⟨k,hk,rfl,HG,B0,hbw⟩:=hrel
    by_cases hlt:k<a.length
    ·obtain⟨ad,rfl,hca⟩:=kP.at (HAW.o.keep hbw) hlt
     have q0:(0:Int)<=(k:Int):=by omega
     have q1:(k:Int)<(a.length:Int):=by omega
     have q3:((k:Int)).toNat=k:=by omega
     obtain⟨x,hx⟩:=eqx (a[k]);rw[hx]at hca;have HX:=zh hx;clear hx
     by_cases x0:x<0
     ·have d0:decide (x<0)=true:=dT x0;obtain rfl:v=false:=cV (λh=>aBE hlt (by rw[HX.o];omega) (HV.o.1 h).2);go_wp2;go_ret;exact⟨rfl,hbw⟩
     have d0:decide (x<0)=false:=dF x0
     by_cases x1:(a.length:Int)<=x
     ·have d1:decide ((a.length:Int)<=x)=true:=dT x1;obtain rfl:v=false:=cV (λh=>aBE hlt (by rw[HX.o];omega) (HV.o.1 h).2);go_wp2;go_ret;exact⟨rfl,hbw⟩
     have d1:decide ((a.length:Int)<=x)=false:=dF x1;obtain⟨m,rfl⟩:∃m:Nat,x=(m:Int):=⟨x.toNat,by omega⟩
     have p0:(0:Int)<=(m:Int):=by omega
     have p1:(m:Int)<(6:Nat):=by omega
     have p1':(m:Int)<6:=by omega
     have p3:((m:Int)).toNat=m:=by omega
     have c0:=B0.cell m;have f0:=B0.frozen m;rw[aLA _ _ _ (by omega)]at c0
     by_cases hs:(m:Int)∈a.take k
     ·rw[dT hs]at c0;obtain rfl:v=false:=cV (λh=>aHa hlt (by rw[HX.o];exact hs) (HV.o.1 h).2);go_wp2;go_ret;exact⟨rfl,hbw⟩
     rw[dF hs]at c0;have HG2:=zh (HG.o.succ hlt (by rw[HX.o];omega) (by rw[HX.o];omega) (by rw[HX.o];exact hs));have HST:=zh (aIi (L:=6) hlt HX.o);have HB0:=zh B0;clear B0;go_wp2;go_roundw
     case rel=>
      refine⟨k+1,by omega,by go_num,HG2,?_,hJ hbw (aA _) _ _⟩;have:=HB0.o.set m (.bool true);rw[HST.o]at this;exact this
     case measure=>simp[intOf];omega
    obtain rfl:k=a.length:=by omega
    obtain rfl:v=true:=HV.o.2 ⟨h6,HG.o.perm⟩
    have dk:decide ((a.length:Int)<(a.length:Int))=false:=by simp
    go_wp2;go_ret;exact⟨rfl,hbw⟩
  have d6:decide ((6:Int)<(a.length:Int))=true:=dT (by omega);obtain rfl:v=false:=cV (λh=>h6 (HV.o.1 h).1);go_enter Tryz.func69,Tryz.ntmps69;go_wp2;go_ret;exact⟨rfl,bM _ _⟩
end Go.Proofs.Tg.Gp
namespace Go.Pm
open Go.Gr
theorem aBC:∀x,lI x x=0
  |[]=>rfl
  |a::l=>by
   unfold lI;rw[aJ (by omega),aJ (by omega)];exact aBC l
theorem aDc:∀x y,lI x y<0∨x=y∨lI y x<0
  |[],[]=>.inr (.inl rfl)
  |[],_::_=>.inl (by simp[lI])
  |_::_,[]=>.inr (.inr (by simp[lI]))
  |a::l,b::m=>by
   by_cases h1:a<b
   ·left;unfold lI;rw[aQ h1];omega
   by_cases h2:b<a
   ·right;right;unfold lI;rw[aQ h2];omega
   have hab:a=b:=by omega
   subst hab
   rcases aDc l m with h|h|h
   ·left;unfold lI;rw[aJ h1,aJ h1];exact h
   ·right;left;rw[h]
   right;right;unfold lI;rw[aJ h1,aJ h1];exact h
theorem aEC {x:List Int}:¬lI x x<0:=by rw[aBC];omega
theorem lt_trans {x y z:List Int}(h1:lI x y<0)(h2:lI y z<0):lI x z<0:=
  cW λh=>aAD z x y h (yD _ _ h1) h2
theorem aNV {x y:List Int}:¬lI x y<0↔x=y∨lI y x<0:=by
 constructor
 ·intro h
  rcases aDc x y with h1|h1
  ·exact absurd h1 h
  exact h1
 rintro(rfl|h)
 ·exact aEC
 exact yD _ _ h
def Asc (l:List (List Int)):Prop:=l.Pairwise λa b=>lI a b<0
theorem Asc.nodup {l:List (List Int)}(h:Asc l):l.Nodup:=h.imp λ{a b} (hab:lI a b<0) e=>by rw[e]at hab;exact aEC hab
theorem Asc.lt {l:List (List Int)}(h:Asc l){i j:Nat}(hi:i<l.length)(hj:j<l.length)(hij:i<j):lI l[i] l[j]<0:=bO.1 h i j hi hj hij
theorem aNW {l:List (List Int)}(h:∀(i:Nat) (hi:i+1<l.length),lI (l[i]'(by omega)) l[i+1]<0):Asc l:=by
 refine bO.2 λi j hi hj hij=>?_
 obtain⟨d,rfl⟩:∃d,j=i+1+d:=⟨j-(i+1),by omega⟩
 clear hij
 induction d with
 |zero=>exact h i hj
 |succ d ih=>exact lt_trans (ih (by omega)) (h (i+1+d) (by omega))
def At (l:List (List Int))(a:List Int)(m:Nat):Prop:=m<=l.length/\(∀i (h:i<l.length),i<m->lI l[i] a<0)/\(∀i (h:i<l.length),m<=i->¬lI l[i] a<0)
theorem At.found {l:List (List Int)}{a:List Int}{m:Nat}(h:At l a m)(hl:Asc l):(∃h:m<l.length,l[m]=a)↔a∈l:=by
 constructor
 ·rintro⟨h1,rfl⟩
  exact aB _
 intro ha
 obtain⟨k,hk,rfl⟩:=bI ha
 have h1:m<=k:=cW λhlt=>aEC (h.2.1 k hk (by omega))
 by_cases hmk:m=k
 ·subst hmk;exact⟨hk,rfl⟩
 exact absurd (hl.lt (by omega) hk (by omega)) (h.2.2 m (by omega) (aA _))
theorem At.insert {l:List (List Int)}{a:List Int}{m:Nat}(h:At l a m)(hl:Asc l)(ha:a∉l):Asc (l.take m++a::l.drop m):=by
 have h1:∀x∈l.take m,lI x a<0:=λx hx=>by
  obtain⟨i,hi,rfl⟩:=bI hx;rw[aS]at hi;rw[List.getElem_take];exact h.2.1 i (by omega) (by omega)
 have h2:∀x∈l.drop m,lI a x<0:=λx hx=>by
  obtain⟨i,hi,rfl⟩:=bI hx;rw[cZ]at hi;rw[List.getElem_drop]
  rcases aNV.1 (h.2.2 (m+i) (by omega) (by omega))with e|e
  ·exact absurd (e▸aB _) ha
  exact e
 refine List.pairwise_append.2 ⟨List.Pairwise.sublist (List.take_sublist _ _) hl,List.pairwise_cons.2 ⟨h2,List.Pairwise.sublist (List.drop_sublist _ _) hl⟩,λx hx y hy=>?_⟩
 rcases bA.1 hy with rfl|hy
 ·exact h1 x hx
 exact lt_trans (h1 x hx) (h2 y hy)
theorem aMa {l:List (List Int)}{a x:List Int}{m:Nat}:x∈l.take m++a::l.drop m↔x=a∨x∈l:=by
 rw[aK,bA]
 have e:x∈l↔x∈l.take m∨x∈l.drop m:=by rw[<-aK,cY]
 rw[e]
 constructor
 ·rintro(h|h|h)
  ·exact .inr (.inl h)
  ·exact .inl h
  exact .inr (.inr h)
 rintro(h|h|h)
 ·exact .inr (.inl h)
 ·exact .inl h
 exact .inr (.inr h)
theorem aMb {α:Type}{l S:List α}(hn:l.Nodup)(hs:∀x∈l,x∈S)(hl:S.length<=l.length):∀x∈S,x∈l:=by
 classical
 intro x hx
 apply cW
 intro hne
 have h1:(x::l).Nodup:=fK.2 ⟨hne,hn⟩
 have h2:(x::l) ⊆ S:=λy hy=>by
  rcases bA.1 hy with rfl|hy
  ·exact hx
  exact hs y hy
 have:=h1.length_le_of_subset h2
 simp at this
 omega
inductive Gen (n:Nat)(gs:List (List Int)):List Int->Prop
  |one:Gen n gs (unit n)
  |mul {g p:List Int}:g∈gs->Gen n gs p->Gen n gs (cmp g p)
theorem Gen.perm {n:Nat}{gs:List (List Int)}(hg:∀g∈gs,Perm n g){p:List Int}(h:Gen n gs p):Perm n p:=by
 induction h with
 |one=>exact nM n
 |mul hm _ ih=>exact mE (hg _ hm) ih
theorem Gen.mono {n:Nat}{gs gs':List (List Int)}(hs:∀g∈gs,g∈gs'){p:List Int}(h:Gen n gs p):Gen n gs' p:=by
 induction h with
 |one=>exact .one
 |mul hm _ ih=>exact .mul (hs _ hm) ih
theorem Gen.mem {n:Nat}{gs:List (List Int)}(hg:∀g∈gs,Perm n g){g:List Int}(h:g∈gs):Gen n gs g:=by
 have:=Gen.mul h (Gen.one (n:=n) (gs:=gs))
 rwa [oB (hg g h).1]at this
theorem Gen.prod {n:Nat}{gs:List (List Int)}(hg:∀g∈gs,Perm n g){p q:List Int}(hp:Gen n gs p)(hq:Gen n gs q):Gen n gs (cmp p q):=by
 induction hp with
 |one=>rw[oM (hq.perm hg)];exact hq
 |@mul g p' hm h' ih=>
  rw[lS (h'.perm hg).1 (hq.perm hg)];exact .mul hm ih
def Grp (n:Nat)(l:List (List Int)):Prop:=unit n∈l/\∀a∈l,∀b∈l,cmp a b∈l
theorem Grp.gen {n:Nat}{l gs:List (List Int)}(h:Grp n l)(hs:∀g∈gs,g∈l){p:List Int}(hp:Gen n gs p):p∈l:=by
 induction hp with
 |one=>exact h.1
 |mul hm _ ih=>exact h.2 _ (hs _ hm) _ ih
def sB (n:Nat)(gs S:List (List Int)):Prop:=S.Nodup/\∀x,x∈S↔Gen n gs x
theorem sB.grp {n:Nat}{l gs S:List (List Int)}(h:sB n gs S)(hl:l.Nodup)(hp:∀a∈l,Perm n a)(hs:∀g∈gs,g∈l)(hall:∀a∈l,Gen n gs a):S.length=l.length↔Grp n l:=by
 have hlS:∀x∈l,x∈S:=λx hx=>(h.2 x).2 (hall x hx)
 have hg:∀g∈gs,Perm n g:=λg hm=>hp g (hs g hm)
 constructor
 ·intro e
  have hSl:=aMb hl hlS (by omega);exact⟨hSl _ ((h.2 _).2 .one),λa ha b hb=>hSl _ ((h.2 _).2 ((hall a ha).prod hg (hall b hb)))⟩
 intro hG
 have h1:=h.1.length_le_of_subset (λx hx=>hG.gen hs ((h.2 x).1 hx));have h2:=hl.length_le_of_subset hlS;omega
theorem sB.over {n:Nat}{l gs S:List (List Int)}(h:sB n gs S)(hs:∀g∈gs,g∈l)(hlt:l.length<S.length):¬Grp n l:=λhG=>by
 have h1:=h.1.length_le_of_subset (λx hx=>hG.gen hs ((h.2 x).1 hx))
 omega
end Go.Pm
namespace Go.Pm
def aNX (a:List Int):Nat:=a.foldl (λc x=>c*6+x.toNat) 0
theorem aFN:∀(a b:List Int) (c d:Nat),a.length=b.length->(∀x∈a,0<=x/\x<6)->(∀x∈b,0<=x/\x<6)->a.foldl (λc x=>c*6+x.toNat) c=b.foldl (λc x=>c*6+x.toNat) d->c=d/\a=b
  |[],[],c,d,_,_,_,h=>⟨h,rfl⟩
  |x::a,y::b,c,d,hl,ha,hb,h=>by
   rw[List.foldl_cons,List.foldl_cons]at h;have h1:=aFN a b _ _ (by simpa using hl) (λz hz=>ha z (fP _ hz)) (λz hz=>hb z (fP _ hz)) h;have hx:=ha x (by simp);have hy:=hb y (by simp);refine⟨by omega,?_⟩;rw[h1.2,show x=y by omega]
theorem aFO:∀(a:List Int) (c:Nat),(∀x∈a,0<=x/\x<6)->a.foldl (λc x=>c*6+x.toNat) c<(c+1)*6^a.length
  |[],c,_=>by simp
  |x::a,c,h=>by
   rw[List.foldl_cons,bP];have h1:=aFO a (c*6+x.toNat) (λz hz=>h z (fP _ hz));have hx:=h x (by simp);have h2:(c*6+x.toNat+1)*6^a.length<=(c*6+6)*6^a.length:=aY _ (by omega)
   have h3:(c*6+6)*6^a.length=(c+1)*6^(a.length+1):=by rw[bS];rw[show c*6+6=(c+1)*6 by omega,aV,aT 6]
   omega
theorem aAs {n:Nat}(hn:n<=6){S:List (List Int)}(hS:S.Nodup)(hp:∀a∈S,Perm n a):S.length<=46656:=by
 have hr:∀a∈S,∀x∈a,0<=x/\x<6:=λa ha x hx=>by
  have:=(hp a ha).2.1 x hx;omega
 have h1:(S.map aNX).Nodup:=dU.2 (hS.imp_of_mem λ{a b} ha hb hne e=>hne (aFN a b 0 0 (by rw[(hp a ha).1,(hp b hb).1]) (hr a ha) (hr b hb) e).2)
 have h2:∀c∈S.map aNX,c∈List.range 46656:=λc hc=>by
  obtain⟨a,ha,rfl⟩:=aM.1 hc;have h3:=aFO a 0 (hr a ha);rw[(hp a ha).1]at h3;have h4:6^n<=6^6:=aP (by omega) hn;have h5:(6:Nat)^6=46656:=rfl;refine bD.2 ?_;unfold aNX;omega
 have:=h1.length_le_of_subset h2
 rwa [aI,dS]at this
structure Bfs (n:Nat)(gs S Q:List (List Int)):Prop where
  nodup:S.Nodup
  gen:∀x∈S,Gen n gs x
  one:unit n∈S
  wait:∀x∈Q,x∈S
  done:∀x∈S,x∈Q∨∀g∈gs,cmp g x∈S
theorem Bfs.start (n:Nat)(gs:List (List Int)):Bfs n gs [unit n] [unit n]:=
  ⟨by simp,λx hx=>by rw[aN.1 hx];exact .one,aN.2 rfl,λx hx=>hx,λx hx=>.inl hx⟩
theorem Bfs.fin {n:Nat}{gs S:List (List Int)}(h:Bfs n gs S []):sB n gs S:=by
 refine⟨h.nodup,λx=>⟨h.gen x,λhx=>?_⟩⟩
 induction hx with
 |one=>exact h.one
 |mul hm _ ih=>
  rcases h.done _ ih with h1|h1
  ·cases h1
  exact h1 _ hm
structure Mid (n:Nat)(gs S Q:List (List Int))(a:List Int)(j:Nat):Prop where
  nodup:S.Nodup
  gen:∀x∈S,Gen n gs x
  one:unit n∈S
  cur:a∈S
  wait:∀x∈Q,x∈S
  done:∀x∈S,x∈Q∨x=a∨∀g∈gs,cmp g x∈S
  part:∀g∈gs.take j,cmp g a∈S
theorem Bfs.pop {n:Nat}{gs S Q:List (List Int)}{a:List Int}(h:Bfs n gs S (a::Q)):Mid n gs S Q a 0:=
  ⟨h.nodup,h.gen,h.one,h.wait a (by simp),λx hx=>h.wait x (fP _ hx),λx hx=>by
   rcases h.done x hx with h1|h1
   ·rcases bA.1 h1 with h1|h1
    ·exact .inr (.inl h1)
    exact .inl h1
   exact .inr (.inr h1),λg hg=>by simp at hg⟩
theorem Mid.old {n:Nat}{gs S Q:List (List Int)}{a:List Int}{j:Nat}(h:Mid n gs S Q a j)(hj:j<gs.length)(hm:cmp gs[j] a∈S):Mid n gs S Q a (j+1):=
  ⟨h.nodup,h.gen,h.one,h.cur,h.wait,h.done,λg hg=>by
   rw[aD hj]at hg
   rcases aK.1 hg with h1|h1
   ·exact h.part g h1
   rw[aN.1 h1];exact hm⟩
theorem Mid.new {n:Nat}{gs S Q:List (List Int)}{a:List Int}{j:Nat}(h:Mid n gs S Q a j)(hj:j<gs.length)(hm:cmp gs[j] a∉S):Mid n gs (cmp gs[j] a::S) (Q++[cmp gs[j] a]) a (j+1):=by
 have hc:∀x,x∈S->x∈cmp gs[j] a::S:=λx hx=>fP _ hx
 refine⟨fK.2 ⟨hm,h.nodup⟩,λx hx=>?_,hc _ h.one,hc _ h.cur,λx hx=>?_,λx hx=>?_,λg hg=>?_⟩
 ·rcases bA.1 hx with rfl|hx
  ·exact .mul (aB _) (h.gen a h.cur)
  exact h.gen x hx
 ·rcases aK.1 hx with hx|hx
  ·exact hc x (h.wait x hx)
  rw[aN.1 hx];exact List.mem_cons_self
 ·rcases bA.1 hx with rfl|hx
  ·exact .inl (eF _ (by simp))
  rcases h.done x hx with h1|h1|h1
  ·exact .inl (bZ _ h1)
  ·exact .inr (.inl h1)
  exact .inr (.inr λg hg=>hc _ (h1 g hg))
 rw[aD hj]at hg
 rcases aK.1 hg with h1|h1
 ·exact hc _ (h.part g h1)
 rw[aN.1 h1];exact List.mem_cons_self
theorem Mid.fin {n:Nat}{gs S Q:List (List Int)}{a:List Int}(h:Mid n gs S Q a gs.length):Bfs n gs S Q:=by
 have hp:=h.part
 rw[eE]at hp
 exact⟨h.nodup,h.gen,h.one,h.wait,λx hx=>by
  rcases h.done x hx with h1|h1|h1
  ·exact .inl h1
  ·rw[h1];exact .inr hp
  exact .inr h1⟩
def pw (a:List Int):Nat->List Int
  |0=>a
  |k+1=>cmp a (pw a k)
theorem uK {n:Nat}{a:List Int}(ha:Perm n a):∀k,Perm n (pw a k)
  |0=>ha
  |k+1=>mE ha (uK ha k)
theorem aFQ {n:Nat}{a:List Int}(ha:Perm n a):∀i j,i<j->pw a i=pw a j->pw a (j-i-1)=unit n
  |0,j+1,_,h=>by
   have h1:cmp a (unit n)=cmp a (pw a j):=by rw[oB ha.1];exact h
   have:=zO ha (nM n) (uK ha j) h1;rw[show j+1-0-1=j by omega];exact this.symm
  |i+1,j+1,hij,h=>by
   have h1:=zO ha (uK ha i) (uK ha j) h;have:=aFQ ha i j (by omega) h1
   rwa [show j+1-(i+1)-1=j-i-1 by omega]
theorem aJb {n:Nat}(hn:n<=6){a:List Int}(ha:Perm n a):∃K,K<=46656/\pw a K=unit n:=by
 apply cW
 intro hno
 have hne:∀k,k<=46656->pw a k≠unit n:=λk hk h=>hno ⟨k,hk,h⟩
 have hnd:((List.range 46657).map (pw a)).Nodup:=by
  refine dU.2 (List.pairwise_lt_range.imp_of_mem λ{i j} hi hj hij e=>?_);have h1:=bD.1 hj;exact hne (j-i-1) (by omega) (aFQ ha i j hij e)
 have:=aAs hn hnd (λx hx=>by
  obtain⟨k,_,rfl⟩:=aM.1 hx
  exact uK ha k)
 rw[aI,dS]at this
 omega
def aDe (a:List Int):Prop:=a.length<=6/\Perm a.length a/\a≠unit a.length/\cmp a a=unit a.length
instance (a:List Int):Decidable (aDe a):=inferInstanceAs (Decidable (_/\_/\_/\_))
theorem aHb {n k:Nat}{a:List Int}(h1:pw a k=unit n)(h2:∀j,j<k->pw a j≠unit n):k+1=2↔a≠unit n/\cmp a a=unit n:=by
 constructor
 ·intro h
  obtain rfl:k=1:=by omega
  exact⟨h2 0 (by omega),h1⟩
 rintro⟨h3,h4⟩
 match k,h1,h2 with
 |0,h1,_=>exact absurd h1 h3
 |1,_,_=>rfl
 |k+2,_,h2=>exact absurd h4 (h2 1 (by omega))
end Go.Pm
namespace Go.Proofs.Tg
open Go.RowKit Go.Gr Go.Ev Go.Mo
theorem aAg (A B:Option Addr)(xs ys:List Int)(c d:Nat)(w:World)(hx:kP w A xs)(hy:kP w B ys)(hn:xs.length<=1000000)(b:Bool)(hbb:decide (xs=ys)=b):
    Calls Tryz.prog 81 #[.slice A xs.length c,.slice B ys.length d] w λe w'=>e=.returned (.bool b)/\Dr w w':=by
  rw[<-hbb];clear hbb
  by_cases hl:xs.length=ys.length
  ·have hb:((xs.length:Int)!=(ys.length:Int))=false:=by simp[hl]
   have HL:=zh hl;clear hl;go_enter Tryz.func81,Tryz.ntmps81;go_wp2
   go_loopw [13] (λi wr=>∃k:Nat,k<=xs.length/\i=.int .i64 k/\Hid (xs.take k=ys.take k)/\Dr w wr) (λi _=>xs.length-(intOf i).toNat)
   case atStart=>exact⟨0,aW _,rfl,zh (by simp),Dr.refl _⟩
   case round=>
    obtain⟨k,hk,rfl,HT,hbw⟩:=hrel
    by_cases hlt:k<xs.length
    ·have hky:k<ys.length:=by have:=HL.o;omega
     obtain⟨ad,rfl,hc⟩:=kP.at (hx.keep hbw.below) hlt;obtain⟨bd,rfl,hd⟩:=kP.at (hy.keep hbw.below) hky;have HX:Hid (xs.take (k+1)=xs.take k++[xs[k]]):=zh (aD hlt);have HY:Hid (ys.take (k+1)=ys.take k++[ys[k]]):=zh (aD hky);have HNE:Hid (xs=ys->xs[k]=ys[k]):=zh (λe=>by subst e;rfl)
     have i1:(0:Int)<=(k:Int):=by omega
     have i2:(k:Int)<(xs.length:Int):=by omega
     have i3:(k:Int)<(ys.length:Int):=by omega
     have i4:((k:Int)).toNat=k:=by omega
     clear hx hy;generalize xs[k]=x at hc HX HNE;generalize ys[k]=y at hd HY HNE
     by_cases heq:x=y
     ·have hbb:(x !=y)=false:=by simp[heq]
      have HE:=zh heq;clear heq;go_wp2
      go_quiet (fail)
      go_wp2;go_roundw
      case rel=>exact⟨k+1,by omega,by go_num,zh (by rw[HX.o,HY.o,HT.o,HE.o]),hbw.drewN _⟩
      case measure=>simp[intOf];omega
     have hbb:(x !=y)=true:=by simp[heq]
     have HF:Hid (decide (xs=ys)=false):=zh (dF (λe=>heq (HNE.o e)));clear heq;go_wp2
     go_quiet (fail)
     go_wp2;go_ret;exact⟨by rw[HF.o];rfl,hbw.drewN _⟩
    have HF:Hid (decide (xs=ys)=true):=zh (dT (by
     have:=HT.o
     rwa [bF (by omega),bF (by have:=HL.o;omega)]at this))
    go_wp2;go_ret;exact⟨by rw[HF.o];rfl,hbw⟩
  have hb:((xs.length:Int)!=(ys.length:Int))=true:=by simp;omega
  have HF:Hid (decide (xs=ys)=false):=zh (dF (λe=>hl (by rw[e])));clear hl;go_enter Tryz.func81,Tryz.ntmps81;go_wp2;go_ret;exact⟨by rw[HF.o];rfl,Dr.refl _⟩
end Go.Proofs.Tg
