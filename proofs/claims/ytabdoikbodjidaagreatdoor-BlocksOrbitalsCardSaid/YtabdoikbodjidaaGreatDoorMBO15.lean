/- Parts of the proof. -/
import Derived.Test.YtabdoikbodjidaaGreatDoorMBO14
set_option maxHeartbeats 64000000
set_option maxRecDepth 100000
section
namespace Go.Bw
theorem aCy {x y c:Nat}:(x+y+c)%B+B*((x+y+c)/B)=x+(y+c):=by simp only[B];omega
theorem aCz {x y c:Nat}(hx:x<B)(hy:y<B)(hc:c<=1):(x+y+c)/B<=1:=by simp only[B]at*;omega
theorem uS {x y c:Nat}(hx:x<B)(hy:y<B)(hc:c<=1):(x+B-y-c)%B+(y+c)=x+B*(if x<y+c then 1 else 0):=by simp only[B]at*;split<;>omega
theorem uT {x y c:Nat}:(if x<y+c then 1 else 0)<=1:=by split<;>omega
theorem aKh {Z W Y P k x y d k':Nat}(hs:Z+P*k=W+Y)(hd:d+B*k'=x+(y+k)):Z+P*d+P*B*k'=W+P*x+(Y+P*y):=by
 have h1:=bK (P*·) hd
 simp only[aZ]at h1
 have e1:P*(B*k')=P*B*k':=(aV _ _ _).symm
 omega
theorem aKi {Z W Y P k x y d k':Nat}(hs:Z+Y=W+P*k)(hd:d+(y+k)=x+B*k'):Z+P*d+(Y+P*y)=W+P*x+P*B*k':=by
 have h1:=bK (P*·) hd
 simp only[aZ]at h1
 have e1:P*(B*k')=P*B*k':=(aV _ _ _).symm
 omega
theorem aDx {us zs:List Nat}{o i n:Nat}(hi:i<=n)(_hn:o+n<=us.length):us.take o++(zs++us.drop (o+i))=us.take o++((zs++(us.drop (o+i)).take (n-i))++us.drop (o+n)):=by
 rw[cJ zs]
 congr 2
 have h:=(cY (n-i) (us.drop (o+i))).symm
 rw[iX,show o+i+(n-i)=o+n by omega]at h
 exact h
theorem aGi {us:List Nat}{o i n:Nat}(hi:i<=n)(hn:o+n<=us.length):val ((us.drop o).take n)=val ((us.drop o).take i)+B^i*val ((us.drop (o+i)).take (n-i)):=by
 have h:=mT ((us.drop o).take n) i (by rw[aS,cZ];omega)
 rw[List.take_take,dA hi,List.drop_take,iX]at h
 exact h
end Go.Bw
namespace Go.Proofs.Tg.Iw
open Go.RowKit Go.Bw Go.Gr Go.Proofs.Tg
theorem mZ {ys:List Nat}{i:Nat}(h:ys.length<=i):ys.take i=ys:=bF h
structure AdM (w:World)(g o:Nat)(us ys:List Nat)(wr:World)(i k:Nat)(zs:List Nat):Prop where
  len:zs.length=i
  dig:Dig zs
  le1:k<=1
  eq:val zs+B^i*k=val ((us.drop o).take i)+val (ys.take i)
  blk:Blk wr g 170 (jZ (us.take o++(zs++us.drop (o+i))))
  only:pU g w wr
theorem AdM.next {w wr:World}{g o i k d k' x y:Nat}{us ys zs:List Nat}(s:AdM w g o us ys wr i k zs)(ho:o+i<us.length)(hx:us[o+i]=x)(hy:val (ys.take (i+1))=val (ys.take i)+B^i*y)(hd:d+B*k'=x+(y+k))(hdB:d<B)(hk:k'<=1):
    AdM w g o us ys (wr.setCell ⟨g,o+i,none⟩ (.int .u64 (d:Nat))) (i+1) k' (zs++[d]):=by
  have hb:=s.blk.set (o+i) (.int .u64 (d:Nat));rw[kX,wS ho s.len]at hb;refine⟨by rw[aC,s.len];rfl,oC s.dig hdB,hk,?_,hb,s.only.set _ _⟩;rw[lJ,s.len,wQ ho,hy,qM,hx];exact aKh s.eq hd
def tV (w:World)(g o n:Nat)(us ys:List Nat)(w':World):Prop:=∃(k:Nat) (zs:List Nat),zs.length=n/\Dig zs/\k<=1/\val zs+B^n*k=val ((us.drop o).take n)+val ys/\Blk w' g 170 (jZ (us.take o++(zs++us.drop (o+n))))/\pU g w w'
theorem AdM.done {w wr:World}{g o i k n:Nat}{us ys zs:List Nat}(s:AdM w g o us ys wr i k zs)(hd:Dig us)(hm:ys.length<=i)(hi:i<=n)(hn:o+n<=us.length)(h:k=0∨i=n):tV w g o n us ys wr:=by
 have he:=s.eq
 rw[mZ hm]at he
 rcases h with rfl|rfl
 ·refine⟨0,zs++(us.drop (o+i)).take (n-i),?_,pT s.dig (tD (tX hd _) _),by omega,?_,?_,s.only⟩
  ·rw[aC,s.len,aS,cZ];omega
  ·rw[lG,s.len,aGi hi hn];rw[dN]at he ⊢;omega
  have:=s.blk
  rwa [aDx hi hn]at this
 exact⟨k,zs,s.len,s.dig,s.le1,he,s.blk,s.only⟩
theorem yW (g o n c cy:Nat)(us ys:List Nat)(Y:Option Addr)(w:World)(hB:Blk w g 170 (jZ us))(hY:lU w Y ys)(hne:∀ad,Y=some ad->ad.block≠g)(hdu:Dig us)(hdy:Dig ys)(ho:o+n<=us.length)(hm:ys.length<=n)(hn:n<=1000000):
    Calls Tryz.prog 166 #[.slice (some ⟨g,o,none⟩) n c,.slice Y ys.length cy] w λe w'=>e=.returned (.tuple #[])/\tV w g o n us ys w':=by
  have H0:Hid (AdM w g o us ys w 0 0 []):=zh ⟨rfl,λ_ hx=>absurd hx (by simp),by decide,by simp[val],by
   rw[dB,bW,cY];exact hB,pU.refl _ _⟩
  have HY:=zh hY;have HNE:=zh hne;have HDU:=zh hdu;have HDY:=zh hdy;obtain⟨m,hmm⟩:=eqx (ys.length);rw[hmm]at hm ⊢;have HN:=zh hmm;have HO:=zh ho;clear hB hY hne hdu hdy hmm;go_enter Tryz.func166,Tryz.ntmps166;go_wp2
  go_loopw [4,10] (λs4 s10 wr=>∃(i k:Nat) (zs:List Nat),s10=.int .i64 i/\i<=m/\s4=.int .u64 (k:Nat)/\Hid (AdM w g o us ys wr i k zs)) (λ_ s10 _=>m-(intOf s10).toNat)
  case atStart=>exact⟨0,0,[],rfl,aW _,rfl,H0⟩
  case round=>
   clear H0;obtain⟨wo,rfl⟩:∃wo:World,wo=wr:=⟨_,rfl⟩;obtain⟨i,k,zs,rfl,hi,rfl,HS⟩:=hrel;have hk1:=HS.o.le1
   by_cases him:i<m
   ·have hiy:i<ys.length:=by rw[HN.o];exact him
    have hiu:o+i<us.length:=by have:=HO.o;omega
    obtain⟨ad,hY2,hcy⟩:=lU.at' (HY.o) hiy;have hnb:=HNE.o ad hY2;subst hY2;have hcy:wo.cell? (ad.add i)=some (.int .u64 (ys[i]:Nat)):=(HS.o.only.cell (p:=ad.add i) (by rw[kK];exact hnb)).trans hcy;have hbc:=HS.o.blk.cell (o+i);rw[lL (tA HS.o.len hiu)]at hbc;have hbf:=HS.o.blk.frozen (o+i);have hxB:=HDU.o us[o+i] (aB _);have hyB:=HDY.o ys[i] (aB _);obtain⟨x,hx⟩:=eqx (us[o+i]);have HNX:Hid (∀d k',d+B*k'=x+(ys[i]+k)->d<B->k'<=1->AdM w g o us ys (wo.setCell ⟨g,o+i,none⟩ (.int .u64 (d:Nat))) (i+1) k' (zs++[d])):=zh (λd k' a b c=>HS.o.next hiu hx (lE hiy) a b c);rw[hx]at hbc hxB;clear hx;generalize ys[i]=y at*
    have hA:∀V,(callFunc 190 #[.int .u64 (x:Nat),.int .u64 (y:Nat),.int .u64 (k:Nat)]).run Tryz.prog V=_:=λV=>aAK x y k hk1 V
    obtain⟨d,hd⟩:=eqx ((x+y+k)%B);obtain⟨c2,hc2⟩:=eqx ((x+y+k)/B:Nat);rw[hd,hc2]at hA;have g1:=aCy (x:=x) (y:=y) (c:=k);rw[hd,hc2]at g1;have HY:=zh (HNX.o d c2 g1 (by rw[<-hd];exact bL _ (by decide)) (by rw[<-hc2];exact aCz hxB hyB hk1));clear hd hc2 g1 HNX hxB hyB hnb
    have q0:(0:Int)<=(i:Int):=by omega
    have q1:(i:Int)<(m:Int):=by omega
    have q2:(i:Int)<(n:Int):=by omega
    have q3:((i:Int)).toNat=i:=by omega
    have d1:decide ((i:Int)<(m:Int))=true:=dT q1;have d2:decide (i<m)=true:=dT him;go_wp2;go_roundw
    case rel=>exact⟨i+1,c2,_,by go_num,by omega,rfl,HY⟩
    case measure=>simp[intOf];omega
   obtain rfl:i=m:=by omega
   have d1:decide ((i:Int)<(i:Int))=false:=by simp
   have H1:=HS;clear HS;go_wp2
   go_loopw [4,7] (λs4 s7 wr=>∃(j k:Nat) (zs:List Nat),s7=.int .i64 j/\i<=j/\j<=n/\s4=.int .u64 (k:Nat)/\Hid (AdM w g o us ys wr j k zs)) (λ_ s7 _=>n-(intOf s7).toNat)
   case atStart=>exact⟨i,k,zs,rfl,aA _,hm,rfl,H1⟩
   case round=>
    clear H1 hk1;obtain⟨wp,rfl⟩:∃wp:World,wp=wr:=⟨_,rfl⟩;obtain⟨j,k,zs,rfl,hij,hj,rfl,HS⟩:=hrel;have hk1:=HS.o.le1
    by_cases hk0:k=0
    ·have hD:=zh (HS.o.done HDU.o (by rw[HN.o];exact hij) hj HO.o (.inl hk0));subst hk0
     have e1:(((0:Nat):Int)!=0)=false:=by decide
     go_wp2
     go_end0
     exact⟨rfl,hD.o⟩
    have e1:((k:Int)!=0)=true:=bne_iff_ne.2 (by omega);have e2:(k !=0)=true:=bne_iff_ne.2 hk0;have e3:((k:Int)=0)=False:=bX (by omega);have e4:(k=0)=False:=bX hk0
    by_cases hjn:j<n
    ·have hiu:o+j<us.length:=by have:=HO.o;omega
     have hbc:=HS.o.blk.cell (o+j);rw[lL (tA HS.o.len hiu)]at hbc;have hbf:=HS.o.blk.frozen (o+j);have hxB:=HDU.o us[o+j] (aB _);obtain⟨x,hx⟩:=eqx (us[o+j]);have HNX:Hid (∀d k',d+B*k'=x+(0+k)->d<B->k'<=1->AdM w g o us ys (wp.setCell ⟨g,o+j,none⟩ (.int .u64 (d:Nat))) (j+1) k' (zs++[d])):=zh (λd k' a b c=>HS.o.next hiu hx (by rw[mZ (by rw[HN.o];omega),mZ (by rw[HN.o];omega),dN];rfl) a b c);rw[hx]at hbc hxB;clear hx
     have hA:∀V,(callFunc 190 #[.int .u64 (x:Nat),.int .u64 0,.int .u64 (k:Nat)]).run Tryz.prog V=_:=λV=>aAK x 0 k hk1 V
     obtain⟨d,hd⟩:=eqx ((x+0+k)%B);obtain⟨c2,hc2⟩:=eqx ((x+0+k)/B:Nat);rw[hd,hc2]at hA
     have hyB:0<B:=by decide
     have g1:=aCy (x:=x) (y:=0) (c:=k);rw[hd,hc2]at g1;have HY:=zh (HNX.o d c2 g1 (by rw[<-hd];exact bL _ (by decide)) (by rw[<-hc2];exact aCz hxB hyB hk1));clear hd hc2 g1 HNX hxB hyB hk0
     have q0:(0:Int)<=(j:Int):=by omega
     have q2:(j:Int)<(n:Int):=by omega
     have q3:((j:Int)).toNat=j:=by omega
     have d1:decide ((j:Int)<(n:Int))=true:=dT q2;have d2:decide (j<n)=true:=dT hjn;go_wp2;go_roundw
     case rel=>exact⟨j+1,c2,_,by go_num,by omega,by omega,rfl,HY⟩
     case measure=>simp[intOf];omega
    have hD:=zh (HS.o.done HDU.o (by rw[HN.o];exact hij) hj HO.o (.inr (by omega)));have d1:decide ((j:Int)<(n:Int))=false:=dF (by omega);have d2:decide (j<n)=false:=dF hjn;clear hk0;go_wp2
    go_end0
    exact⟨rfl,hD.o⟩
structure SuM (w:World)(g o:Nat)(us ys:List Nat)(wr:World)(i k:Nat)(zs:List Nat):Prop where
  len:zs.length=i
  dig:Dig zs
  le1:k<=1
  eq:val zs+val (ys.take i)=val ((us.drop o).take i)+B^i*k
  blk:Blk wr g 170 (jZ (us.take o++(zs++us.drop (o+i))))
  only:pU g w wr
theorem SuM.next {w wr:World}{g o i k d k' x y:Nat}{us ys zs:List Nat}(s:SuM w g o us ys wr i k zs)(ho:o+i<us.length)(hx:us[o+i]=x)(hy:val (ys.take (i+1))=val (ys.take i)+B^i*y)(hd:d+(y+k)=x+B*k')(hdB:d<B)(hk:k'<=1):
    SuM w g o us ys (wr.setCell ⟨g,o+i,none⟩ (.int .u64 (d:Nat))) (i+1) k' (zs++[d]):=by
  have hb:=s.blk.set (o+i) (.int .u64 (d:Nat));rw[kX,wS ho s.len]at hb;refine⟨by rw[aC,s.len];rfl,oC s.dig hdB,hk,?_,hb,s.only.set _ _⟩;rw[lJ,s.len,wQ ho,hy,qM,hx];exact aKi s.eq hd
def aKj (w:World)(g o n:Nat)(us ys:List Nat)(w':World):Prop:=∃(k:Nat) (zs:List Nat),zs.length=n/\Dig zs/\k<=1/\val zs+val ys=val ((us.drop o).take n)+B^n*k/\Blk w' g 170 (jZ (us.take o++(zs++us.drop (o+n))))/\pU g w w'
theorem SuM.done {w wr:World}{g o i k n:Nat}{us ys zs:List Nat}(s:SuM w g o us ys wr i k zs)(hd:Dig us)(hm:ys.length<=i)(hi:i<=n)(hn:o+n<=us.length)(h:k=0∨i=n):aKj w g o n us ys wr:=by
 have he:=s.eq
 rw[mZ hm]at he
 rcases h with rfl|rfl
 ·refine⟨0,zs++(us.drop (o+i)).take (n-i),?_,pT s.dig (tD (tX hd _) _),by omega,?_,?_,s.only⟩
  ·rw[aC,s.len,aS,cZ];omega
  ·rw[lG,s.len,aGi hi hn];rw[dN]at he ⊢;omega
  have:=s.blk
  rwa [aDx hi hn]at this
 exact⟨k,zs,s.len,s.dig,s.le1,he,s.blk,s.only⟩
theorem aDy (g o n c cy:Nat)(us ys:List Nat)(Y:Option Addr)(w:World)(hB:Blk w g 170 (jZ us))(hY:lU w Y ys)(hne:∀ad,Y=some ad->ad.block≠g)(hdu:Dig us)(hdy:Dig ys)(ho:o+n<=us.length)(hm:ys.length<=n)(hn:n<=1000000):
    Calls Tryz.prog 170 #[.slice (some ⟨g,o,none⟩) n c,.slice Y ys.length cy] w λe w'=>e=.returned (.tuple #[])/\aKj w g o n us ys w':=by
  have H0:Hid (SuM w g o us ys w 0 0 []):=zh ⟨rfl,λ_ hx=>absurd hx (by simp),by decide,by simp[val],by
   rw[dB,bW,cY];exact hB,pU.refl _ _⟩
  have HY:=zh hY;have HNE:=zh hne;have HDU:=zh hdu;have HDY:=zh hdy;obtain⟨m,hmm⟩:=eqx (ys.length);rw[hmm]at hm ⊢;have HN:=zh hmm;have HO:=zh ho;clear hB hY hne hdu hdy hmm;go_enter Tryz.func170,Tryz.ntmps170;go_wp2
  go_loopw [4,10] (λs4 s10 wr=>∃(i k:Nat) (zs:List Nat),s10=.int .i64 i/\i<=m/\s4=.int .u64 (k:Nat)/\Hid (SuM w g o us ys wr i k zs)) (λ_ s10 _=>m-(intOf s10).toNat)
  case atStart=>exact⟨0,0,[],rfl,aW _,rfl,H0⟩
  case round=>
   clear H0;obtain⟨wo,rfl⟩:∃wo:World,wo=wr:=⟨_,rfl⟩;obtain⟨i,k,zs,rfl,hi,rfl,HS⟩:=hrel;have hk1:=HS.o.le1
   by_cases him:i<m
   ·have hiy:i<ys.length:=by rw[HN.o];exact him
    have hiu:o+i<us.length:=by have:=HO.o;omega
    obtain⟨ad,hY2,hcy⟩:=lU.at' (HY.o) hiy;have hnb:=HNE.o ad hY2;subst hY2;have hcy:wo.cell? (ad.add i)=some (.int .u64 (ys[i]:Nat)):=(HS.o.only.cell (p:=ad.add i) (by rw[kK];exact hnb)).trans hcy;have hbc:=HS.o.blk.cell (o+i);rw[lL (tA HS.o.len hiu)]at hbc;have hbf:=HS.o.blk.frozen (o+i);have hxB:=HDU.o us[o+i] (aB _);have hyB:=HDY.o ys[i] (aB _);obtain⟨x,hx⟩:=eqx (us[o+i]);have HNX:Hid (∀d k',d+(ys[i]+k)=x+B*k'->d<B->k'<=1->SuM w g o us ys (wo.setCell ⟨g,o+i,none⟩ (.int .u64 (d:Nat))) (i+1) k' (zs++[d])):=zh (λd k' a b c=>HS.o.next hiu hx (lE hiy) a b c);rw[hx]at hbc hxB;clear hx;generalize ys[i]=y at*
    have hA:∀V,(callFunc 192 #[.int .u64 (x:Nat),.int .u64 (y:Nat),.int .u64 (k:Nat)]).run Tryz.prog V=_:=λV=>aAL x y k hk1 V
    obtain⟨d,hd⟩:=eqx ((x+B-y-k)%B);obtain⟨c2,hc2⟩:=eqx ((if x<y+k then 1 else 0):Nat);rw[hd,hc2]at hA;have g1:=uS (x:=x) (y:=y) (c:=k) hxB hyB hk1;rw[hd,hc2]at g1;have HY:=zh (HNX.o d c2 g1 (by rw[<-hd];exact bL _ (by decide)) (by rw[<-hc2];exact uT));clear hd hc2 g1 HNX hxB hyB hnb
    have q0:(0:Int)<=(i:Int):=by omega
    have q1:(i:Int)<(m:Int):=by omega
    have q2:(i:Int)<(n:Int):=by omega
    have q3:((i:Int)).toNat=i:=by omega
    have d1:decide ((i:Int)<(m:Int))=true:=dT q1;have d2:decide (i<m)=true:=dT him;go_wp2;go_roundw
    case rel=>exact⟨i+1,c2,_,by go_num,by omega,rfl,HY⟩
    case measure=>simp[intOf];omega
   obtain rfl:i=m:=by omega
   have d1:decide ((i:Int)<(i:Int))=false:=by simp
   have H1:=HS;clear HS;go_wp2
   go_loopw [4,7] (λs4 s7 wr=>∃(j k:Nat) (zs:List Nat),s7=.int .i64 j/\i<=j/\j<=n/\s4=.int .u64 (k:Nat)/\Hid (SuM w g o us ys wr j k zs)) (λ_ s7 _=>n-(intOf s7).toNat)
   case atStart=>exact⟨i,k,zs,rfl,aA _,hm,rfl,H1⟩
   case round=>
    clear H1 hk1;obtain⟨wp,rfl⟩:∃wp:World,wp=wr:=⟨_,rfl⟩;obtain⟨j,k,zs,rfl,hij,hj,rfl,HS⟩:=hrel;have hk1:=HS.o.le1
    by_cases hk0:k=0
    ·have hD:=zh (HS.o.done HDU.o (by rw[HN.o];exact hij) hj HO.o (.inl hk0));subst hk0
     have e1:(((0:Nat):Int)!=0)=false:=by decide
     go_wp2
     go_end0
     exact⟨rfl,hD.o⟩
    have e1:((k:Int)!=0)=true:=bne_iff_ne.2 (by omega);have e2:(k !=0)=true:=bne_iff_ne.2 hk0;have e3:((k:Int)=0)=False:=bX (by omega);have e4:(k=0)=False:=bX hk0
    by_cases hjn:j<n
    ·have hiu:o+j<us.length:=by have:=HO.o;omega
     have hbc:=HS.o.blk.cell (o+j);rw[lL (tA HS.o.len hiu)]at hbc;have hbf:=HS.o.blk.frozen (o+j);have hxB:=HDU.o us[o+j] (aB _);obtain⟨x,hx⟩:=eqx (us[o+j]);have HNX:Hid (∀d k',d+(0+k)=x+B*k'->d<B->k'<=1->SuM w g o us ys (wp.setCell ⟨g,o+j,none⟩ (.int .u64 (d:Nat))) (j+1) k' (zs++[d])):=zh (λd k' a b c=>HS.o.next hiu hx (by rw[mZ (by rw[HN.o];omega),mZ (by rw[HN.o];omega),dN];rfl) a b c);rw[hx]at hbc hxB;clear hx
     have hA:∀V,(callFunc 192 #[.int .u64 (x:Nat),.int .u64 0,.int .u64 (k:Nat)]).run Tryz.prog V=_:=λV=>aAL x 0 k hk1 V
     obtain⟨d,hd⟩:=eqx ((x+B-0-k)%B);obtain⟨c2,hc2⟩:=eqx ((if x<0+k then 1 else 0):Nat);rw[hd,hc2]at hA
     have hyB:0<B:=by decide
     have g1:=uS (x:=x) (y:=0) (c:=k) hxB hyB hk1;rw[hd,hc2]at g1;have HY:=zh (HNX.o d c2 g1 (by rw[<-hd];exact bL _ (by decide)) (by rw[<-hc2];exact uT));clear hd hc2 g1 HNX hxB hyB hk0
     have q0:(0:Int)<=(j:Int):=by omega
     have q2:(j:Int)<(n:Int):=by omega
     have q3:((j:Int)).toNat=j:=by omega
     have d1:decide ((j:Int)<(n:Int))=true:=dT q2;have d2:decide (j<n)=true:=dT hjn;go_wp2;go_roundw
     case rel=>exact⟨j+1,c2,_,by go_num,by omega,by omega,rfl,HY⟩
     case measure=>simp[intOf];omega
    have hD:=zh (HS.o.done HDU.o (by rw[HN.o];exact hij) hj HO.o (.inr (by omega)));have d1:decide ((j:Int)<(n:Int))=false:=dF (by omega);have d2:decide (j<n)=false:=dF hjn;clear hk0;go_wp2
    go_end0
    exact⟨rfl,hD.o⟩
end Go.Proofs.Tg.Iw
end
namespace Go.Proofs.Tg.Iw
open Go.RowKit Go.Bw Go.Gr Go.Proofs.Tg
theorem wpList_append_run {P:Program}(w:World){ops:Array Oper}{rest:List Oper}{o:Oper}{a:Act}{Q:Exit->Act->World->Prop}(hgd:o.guard=none)(s x:Operand)(t:TypeId)
    (ho:o.op=.call {callee:=.builtin .append,args:=#[s,x],argTypes:=#[t,t]}) (v xv:Value) (hs:a.eval s=v) (hx:a.eval x=xv) {v':Value} {w':World} (hr:(Builtin.append_ #[t,t] o.type #[v,xv]).run P w=.ok v' w')
    (h:wpList P ops Q rest (a.put o.dst v') w'):wpList P ops Q (o::rest) a w:=
  eW hgd λK hK=>by
   unfold Oper.wp execOp;simp only[ho,resolve,invoke,builtin,Sem.run_bind,Sem.run_pure,Result.andThen_ok,List.map_toArray,fH,List.map_nil,hs,hx,hr];exact hK _ _ h
theorem tB (k:Nat):Builtin.zeroCells (Value.int .u64 0).cells k=jZ (List.replicate k 0):=by
 have h:Builtin.zeroCells (Value.int .u64 0).cells k=madeCells #[.int .u64 0] k:=by
  apply Array.ext
  ·simp[Builtin.zeroCells,gF,Value.cells]
  intro i h1 h2;simp[Builtin.zeroCells,madeCells,Value.cells]
 rw[h,nU]
theorem qN (a b:List Nat):jZ a++jZ b=jZ (a++b):=by simp[jZ]
theorem sH:(Tryz.prog.info? 170).map (λi=>(i.zero,i.size,i.bytes))=some (some (.int .u64 0),1,8):=by kernel_rfl
theorem aAO:(Tryz.prog.info? 170).map (·.size)=some 1:=by kernel_rfl
theorem aCA (xs:List Nat):∀u∈xs.map vs,u.oneCell'=true:=λu hu=>by
 obtain⟨x,_,rfl⟩:=aM.1 hu
 rfl
def aKk (xs:List Nat)(w:World)(e:Ending)(w':World):Prop:=∃g ex:Nat,e=.returned (.slice (some ⟨g,0,none⟩) xs.length (xs.length+ex))/\Blk w' g 170 (jZ (xs++List.replicate ex 0))/\w.heap.size<=g/\xs.length+ex<=maxLen/\Below w.heap.size w w'
theorem aAP (X:Option Addr)(c:Nat)(xs:List Nat)(w:World)(hX:lU w X xs)(h0:0<xs.length)(hn:xs.length<=1000000):
    Calls Tryz.prog 169 #[.slice X xs.length c] w (aKk xs w):=by
  obtain⟨i0,hi0,hz0,hz1,hz2⟩:=info_parts sH;obtain⟨ad,rfl,_⟩:=lU.at' hX h0
  have hnn:∀W:World,(binOp BinOp.eql 116 (.slice (some ad) xs.length c) (.slice none 0 0)).run Tryz.prog W=.ok (.bool false) W:=λW=>Lib.run_eql_slice_nil W _ _ _ _ _ _ _ Tryz.underlying116
  have hal:=dX (bM w.heap.size w) (aA _) (.cells #[] 170);have hXa:Sl (w.alloc (.cells #[] 170)) (some ad) xs.length 1 (xs.map vs):=Sl.keep hX hal
  have hsrc:Src Tryz.prog i0.size 116 (.slice (some ad) xs.length c) xs.length (xs.map vs) (w.alloc (.cells #[] 170)):=by
   rw[hz1];exact nZ Tryz.underlying116 hXa (aCA xs)
  have hr:=run_append_grow_src (P:=Tryz.prog) (w.alloc (.cells #[] 170)) 116 116 116 170 i0 (.int .u64 0) Tryz.underlying116 hi0 hz0 (some ⟨w.heap.size,0,none⟩) 0 0 []
    (by rw[hz1];exact iI _ 1 0 ⟨w.heap.size,0,none⟩ 0 0 [] (by simp) (λj x hx=>by simp at hx)) _ xs.length (xs.map vs) hsrc (by omega) (by omega) (iZ (by omega) (by rw[hz2];omega))
  obtain⟨cap,hcap⟩:=eqx (grownCap (w.alloc (.cells #[] 170)) (0+xs.length) 0 170);have hge:=jM (w.alloc (.cells #[] 170)) (0+xs.length) 0 170;have hcm:grownCap (w.alloc (.cells #[] 170)) (0+xs.length) 0 170<=maxLen:=iM _ (0+xs.length) 0 170 (by simp only[maxLen];omega);rw[hcap]at hr hge hcm
  have hsz:(w.alloc (.cells #[] 170)).heap.size=w.heap.size+1:=by simp
  rw[hsz]at hr;obtain⟨W,hW⟩:=eqx ((w.alloc (.cells #[] 170)).drew.alloc (.cells (([]++xs.map vs).toArray++Builtin.zeroCells (Value.int IntKind.u64 0).cells (cap-(0+xs.length))) 170));rw[hW]at hr
  have hB:Blk W (w.heap.size+1) 170 (jZ (xs++List.replicate (cap-xs.length) 0)):=by
   rw[<-hW,tB,dB,bN];have:=Blk.new (w.alloc (.cells #[] 170)).drew 170 ((xs.map vs).toArray++jZ (List.replicate (cap-xs.length) 0));rw[show(w.alloc (.cells #[] 170)).drew.heap.size=w.heap.size+1 from hsz]at this;rw[<-qN];exact this
  have hbW:Below w.heap.size w W:=by rw[<-hW];exact(hal.drew).alloc (by simp) _
  rw[bN]at hr hge;have hRET:aKk xs w (.returned (.slice (some ⟨w.heap.size+1,0,none⟩) xs.length cap)) W:=⟨w.heap.size+1,cap-xs.length,by rw[show xs.length+(cap-xs.length)=cap by omega],hB,by omega,by omega,hbW⟩;have HRET:=zh hRET;clear hRET hB hbW hW hsrc hXa hcap hge hcm hX;go_enter Tryz.func169,Tryz.ntmps169;go_upto_region 3 with(fail);refine jL ?_;refine eW rfl (λK hK=>?_);go_simp;refine hK _ _ ?_;clear hK K;refine eW rfl (λK hK=>?_);go_simp;refine hK _ _ ?_;clear hK K;refine wpList_append_run _ rfl _ _ 116 rfl (.slice (some ⟨w.heap.size,0,none⟩) 0 0) (.slice (some ad) xs.length c) rfl rfl hr ?_;clear hr;go_wp2;go_ret;exact HRET.o
theorem qO {w:World}{g n:Nat}{xs:List Nat}(h:Blk w g 170 (jZ xs))(hl:xs.length=n):Sl w (some ⟨g,0,none⟩) n 1 (xs.map vs):=
  ⟨by simp[hl],λ_=>⟨_,rfl,h.lt,λj u hu=>by rw[kI,bN,h.cell j];unfold jZ;rw[eB];exact hu⟩⟩
theorem tW {w:World}{g n:Nat}{xs rs:List Nat}(h:Blk w g 170 (jZ (xs++rs)))(hl:xs.length=n):Sl w (some ⟨g,0,none⟩) n 1 (xs.map vs):=
  ⟨by simp[hl],λ_=>⟨_,rfl,h.lt,λj u hu=>by
   rw[kI,bN,h.cell j];unfold jZ;rw[eB,bH,bY (aX.1 hu).1]
   exact hu⟩⟩
theorem nQ (n:Nat)(hn:n<=1000000)(w:World):(Instr.makeSlice 116 (.int .i64 (n:Int)) (.int .i64 (n:Int))).run Tryz.prog w=.ok (.slice (some ⟨w.heap.size,0,none⟩) n n) (w.alloc (.cells (madeCells #[.int .u64 0] n) 170)):=by
 obtain⟨i0,hi,hz0,hz1,hz2⟩:=info_parts sH
 have hr:=run_make (P:=Tryz.prog) w 116 170 i0 (.int .u64 0) Tryz.underlying116 hi hz0 .i64 .i64 n n (by omega) (by omega) (by rw[hz2];omega) (by omega)
 rw[hz1,dI,dY]at hr
 exact hr
def nV (n:Nat)(w:World)(e:Ending)(w':World):Prop:=∃R c,e=.returned (.slice R (dg n).length c)/\NW w' R c n/\Below w.heap.size w w'
theorem mI {n:Nat}(h:(dg n).length=0):n=0:=by
 have:=kE n
 rw[bV h]at this
 exact this.symm
theorem lC (n:Nat):n<B^(dg n).length:=by
 have:=kR (kH n)
 rwa [kE]at this
theorem tC (xs:List Nat):val (xs++[0])=val xs:=by rw[lG];simp[val]
theorem vK {xs:List Nat}{n:Nat}(h:xs.length=n)(k:Nat):((jZ (List.replicate (n+k) 0)).toList.take 0++(xs.map vs++(jZ (List.replicate (n+k) 0)).toList.drop (0+(xs.map vs).length))).toArray=jZ (xs++List.replicate k 0):=by
 simp[jZ,h]
theorem aHu (X Y:Option Addr)(cx cy a b:Nat)(w:World)(hX:NW w X cx a)(hY:NW w Y cy b)(hn:(dg a).length<=500000/\(dg b).length<=500000)(hl:(dg b).length<=(dg a).length):
    Calls Tryz.prog 142 #[.slice X (dg a).length cx,.slice Y (dg b).length cy] w (nV (a+b) w):=by
  have d1:decide (((dg a).length:Int)<((dg b).length:Int))=false:=dF (by omega);have d2:decide ((dg a).length<(dg b).length)=false:=dF (by omega);obtain⟨hn1,hn2⟩:=hn;have HX:=zh hX;have HY:=zh hY;obtain⟨Q,hQ⟩:=eqx (nV (a+b) w)
  by_cases h0:(dg b).length=0
  ·have e0:=mI h0
   have HRET:Hid (Q (.returned (.slice X (dg a).length cx)) w):=zh (by
    rw[<-hQ,e0,bW]
    exact⟨X,_,rfl,HX.o,bM _ _⟩)
   rw[hQ];have z1:(((dg b).length:Int)==0)=true:=fY.2 (by omega);have z2:((dg b).length==0)=true:=fY.2 h0;have HZ:=zh h0;clear h0 e0 hQ hX hY hl;generalize (dg a).length=la at*;generalize (dg b).length=lb at*;go_enter Tryz.func142,Tryz.ntmps142;go_wp2;exact HRET.o
  have z1:(((dg b).length:Int)==0)=false:=aG.2 (by omega);have z2:((dg b).length==0)=false:=aG.2 h0;have z3:((dg b).length=0)=False:=bX h0
  have HRET:Hid (∀zs w',zs.length=(dg a).length+1->Dig zs->val zs=a+b->lU w' (some ⟨w.heap.size,0,none⟩) zs->Below w.heap.size w w'->Calls Tryz.prog 167 #[.slice (some ⟨w.heap.size,0,none⟩) ((dg a).length+1) ((dg a).length+1)] w' λe w''=>Q e w''/\∃v,e=.returned v):=zh (λzs w' h1 h2 h3 h4 h5=>by
   have:=qP (some ⟨w.heap.size,0,none⟩) ((dg a).length+1) zs w' h4 h2 (by omega) (by omega);rw[h1,h3]at this;refine this.mono ?_;rintro e w'' ⟨rfl,rfl,hN⟩
   exact⟨by rw[<-hQ];exact⟨_,_,rfl,hN,h5⟩,_,rfl⟩)
  have hpl:0<(dg a).length:=by omega
  obtain⟨pd,hP,hP0⟩:=lU.at' HX.o.wds hpl;subst hP
  have hblt:pd.block<w.heap.size:=bQ w (pd.add 0) hP0 |> λh=>by rwa [kK]at h
  have HCE:Hid (∀V,Below w.heap.size w V->∀j u,((dg a).map vs)[j]?=some u->V.cell? (pd.add j)=some u):=zh (λV h j u hu=>by
   obtain⟨pd',e,_,hc⟩:=Sl.lies (HX.o.wds.keep h) hpl
   injection e with e
   subst e
   exact hc j u hu)
  have HCW:Hid ((dg a).map vs=(dg a).map vs):=zh rfl;have HCP:=zh (vK (xs:=dg a) rfl 1)
  have HAI:Hid (∀V,Below w.heap.size w V->Blk V w.heap.size 170 (jZ (dg a++List.replicate 1 0))->Calls Tryz.prog 166 #[.slice (some ⟨w.heap.size,0,none⟩) ((dg a).length+1) ((dg a).length+1),.slice Y (dg b).length cy] V λe w'=>e=.returned (.tuple #[])/\∃zs,zs.length=(dg a).length+1/\Dig zs/\val zs=a+b/\lU w' (some ⟨w.heap.size,0,none⟩) zs/\Below w.heap.size w w'):=zh (λV h hBk=>by
   have hu:Dig (dg a++List.replicate 1 0):=oC (kH a) (by decide)
   have hne:∀ad,Y=some ad->ad.block≠w.heap.size:=λad e=>by
    obtain⟨ad',e',hlt,_⟩:=Sl.lies HY.o.wds (show 0<(dg b).length by omega);rw[e]at e'
    injection e' with e'
    subst e';omega
   have:=yW w.heap.size 0 ((dg a).length+1) ((dg a).length+1) cy (dg a++List.replicate 1 0) (dg b) Y V hBk (HY.o.wds.keep h) hne hu (kH b) (by simp) (by omega) (by omega);refine this.mono ?_;rintro e w' ⟨rfl,k,zs,hzl,hzd,hk,he,hb,hO⟩
   have hfit:a+b<B^((dg a).length+1):=by
    have h1:=lC a;have h2:=aH (lC b) (aP (show 0<B by decide) (show(dg b).length<=(dg a).length by omega));rw[bS];have:B^(dg a).length*2<=B^(dg a).length*B:=bJ _ (by decide);omega
   have hv:val ((List.drop 0 (dg a++List.replicate 1 0)).take ((dg a).length+1))=a:=by
    rw[gS,bF (by simp),List.replicate_one,tC,kE]
   rw[hv,kE]at he
   have hk0:k=0:=by
    rcases cC k with h|h
    ·exact h
    have:=bJ (B^((dg a).length+1)) h;omega
   rw[hk0,dN]at he;refine⟨rfl,zs,hzl,hzd,by omega,?_,hO.below h (aA _)⟩;rw[List.take_zero,dB,cS (by simp),eA]at hb
   exact qO hb rfl)
  have hmk:=nQ ((dg a).length+1) (by omega) w
  have hc1:(((dg a).length+1:Nat):Int)=((dg a).length:Int)+1:=by omega
  rw[hc1]at hmk;have hwr:IntKind.i64.wrap (((dg a).length:Int)+1)=((dg a).length:Int)+1:=IntWalk.i64_in _ (by omega);obtain⟨W,hW⟩:=eqx (w.alloc (.cells (madeCells #[.int .u64 0] ((dg a).length+1)) 170))
  have hBW:Blk W w.heap.size 170 (jZ (List.replicate ((dg a).length+1) 0)):=by rw[<-hW,<-nU];exact Blk.new _ _ _
  have hbW:Below w.heap.size w W:=by rw[<-hW];exact bal
  rw[hW]at hmk;rw[hQ];have HLN:Hid ((((dg a).map vs)).length=Nat.min (dg a).length ((dg a).length+1)):=zh (by rw[aI];exact(dA (by omega)).symm);have HFT:Hid (0+((dg a).map vs).length<=(jZ (List.replicate ((dg a).length+1) 0)).size):=zh (by rw[qB];simp);have HON:=zh (aCA (dg a));have HCL:Hid (goInt ((dg a).map vs).length=goInt (dg a).length):=zh (by rw[aI]);have HBW:=zh hBW;have HH0:=zh h0;clear hQ hX hY hl hc1 hW hP0 h0 hBW hpl;generalize dg a=ps at*;generalize dg b=rs at*;generalize ps.length=lp at*;generalize rs.length=lr at*;go_enter Tryz.func142,Tryz.ntmps142;go_upto_region 6 with(fail);clear hmk;refine jL ?_;refine eW rfl (λK hK=>?_);go_simp;refine hK _ _ ?_;clear hK K;refine eW rfl (λK hK=>?_);go_simp;refine hK _ _ ?_
  clear hK K;refine wpList_copy_own rfl (.tmp 21) (.tmp 22) 116 116 rfl 170 Tryz.underlying116 aAO w.heap.size 0 (lp+1) (lp+1) pd lp cx rfl rfl (jZ (List.replicate (lp+1) 0)) 170 HBW.o (ps.map vs) HLN.o (HCE.o W hbW) HFT.o HON.o ?_;rw[HCP.o,HCL.o];have hB2:Blk (W.setRow w.heap.size (jZ (ps++List.replicate 1 0))) w.heap.size 170 (jZ (ps++List.replicate 1 0)):=setRow_heap W w.heap.size _ _ _ _ HBW.o;have hb2:Below w.heap.size w (W.setRow w.heap.size (jZ (ps++List.replicate 1 0))):=below_setRow hbW (aA _) _;generalize W.setRow w.heap.size (jZ (ps++List.replicate 1 0))=W2 at*;have HA2:=zh (HAI.o W2 hb2 hB2);clear HBW hB2 HCE HLN HFT HON HCL HCP HAI
  go_upto_region 8 with(go_at_call 166;refine HA2.o.mono ?_;rintro e w3 ⟨rfl,zs,g1,g2,g3,g4,hb3⟩)
  have HT:=zh (HRET.o zs w3 g1 g2 g3 g4 hb3);clear g1 g2 g3 g4 HRET HA2
  go_wp2_with (go_at_call 167;refine HT.o.mono ?_;rintro e w4 ⟨hq4,v4,rfl⟩;have HQ4:=zh hq4;clear hq4)
  exact HQ4.o
theorem aHv (X Y:Option Addr)(cx cy a b:Nat)(w:World)(hX:NW w X cx a)(hY:NW w Y cy b)(hn:(dg a).length<=500000/\(dg b).length<=500000)(hl:(dg a).length<(dg b).length):
    Calls Tryz.prog 142 #[.slice X (dg a).length cx,.slice Y (dg b).length cy] w (nV (a+b) w):=by
  have d1:decide (((dg a).length:Int)<((dg b).length:Int))=true:=dT (by omega);have d2:decide ((dg a).length<(dg b).length)=true:=dT (by omega);obtain⟨hn1,hn2⟩:=hn;have HX:=zh hX;have HY:=zh hY;obtain⟨Q,hQ⟩:=eqx (nV (a+b) w)
  by_cases h0:(dg a).length=0
  ·have e0:=mI h0
   have HRET:Hid (Q (.returned (.slice Y (dg b).length cy)) w):=zh (by
    rw[<-hQ,e0,bN]
    exact⟨Y,_,rfl,HY.o,bM _ _⟩)
   rw[hQ];have z1:(((dg a).length:Int)==0)=true:=fY.2 (by omega);have z2:((dg a).length==0)=true:=fY.2 h0;have HZ:=zh h0;clear h0 e0 hQ hX hY hl;generalize (dg a).length=la at*;generalize (dg b).length=lb at*;go_enter Tryz.func142,Tryz.ntmps142;go_wp2;exact HRET.o
  have z1:(((dg a).length:Int)==0)=false:=aG.2 (by omega);have z2:((dg a).length==0)=false:=aG.2 h0;have z3:((dg a).length=0)=False:=bX h0
  have HRET:Hid (∀zs w',zs.length=(dg b).length+1->Dig zs->val zs=a+b->lU w' (some ⟨w.heap.size,0,none⟩) zs->Below w.heap.size w w'->Calls Tryz.prog 167 #[.slice (some ⟨w.heap.size,0,none⟩) ((dg b).length+1) ((dg b).length+1)] w' λe w''=>Q e w''/\∃v,e=.returned v):=zh (λzs w' h1 h2 h3 h4 h5=>by
   have:=qP (some ⟨w.heap.size,0,none⟩) ((dg b).length+1) zs w' h4 h2 (by omega) (by omega);rw[h1,h3]at this;refine this.mono ?_;rintro e w'' ⟨rfl,rfl,hN⟩
   exact⟨by rw[<-hQ];exact⟨_,_,rfl,hN,h5⟩,_,rfl⟩)
  have hpl:0<(dg b).length:=by omega
  obtain⟨pd,hP,hP0⟩:=lU.at' HY.o.wds hpl;subst hP
  have hblt:pd.block<w.heap.size:=bQ w (pd.add 0) hP0 |> λh=>by rwa [kK]at h
  have HCE:Hid (∀V,Below w.heap.size w V->∀j u,((dg b).map vs)[j]?=some u->V.cell? (pd.add j)=some u):=zh (λV h j u hu=>by
   obtain⟨pd',e,_,hc⟩:=Sl.lies (HY.o.wds.keep h) hpl
   injection e with e
   subst e
   exact hc j u hu)
  have HCW:Hid ((dg b).map vs=(dg b).map vs):=zh rfl;have HCP:=zh (vK (xs:=dg b) rfl 1)
  have HAI:Hid (∀V,Below w.heap.size w V->Blk V w.heap.size 170 (jZ (dg b++List.replicate 1 0))->Calls Tryz.prog 166 #[.slice (some ⟨w.heap.size,0,none⟩) ((dg b).length+1) ((dg b).length+1),.slice X (dg a).length cx] V λe w'=>e=.returned (.tuple #[])/\∃zs,zs.length=(dg b).length+1/\Dig zs/\val zs=a+b/\lU w' (some ⟨w.heap.size,0,none⟩) zs/\Below w.heap.size w w'):=zh (λV h hBk=>by
   have hu:Dig (dg b++List.replicate 1 0):=oC (kH b) (by decide)
   have hne:∀ad,X=some ad->ad.block≠w.heap.size:=λad e=>by
    obtain⟨ad',e',hlt,_⟩:=Sl.lies HX.o.wds (show 0<(dg a).length by omega);rw[e]at e'
    injection e' with e'
    subst e';omega
   have:=yW w.heap.size 0 ((dg b).length+1) ((dg b).length+1) cx (dg b++List.replicate 1 0) (dg a) X V hBk (HX.o.wds.keep h) hne hu (kH a) (by simp) (by omega) (by omega);refine this.mono ?_;rintro e w' ⟨rfl,k,zs,hzl,hzd,hk,he,hb,hO⟩
   have hfit:a+b<B^((dg b).length+1):=by
    have h1:=lC b;have h2:=aH (lC a) (aP (show 0<B by decide) (show(dg a).length<=(dg b).length by omega));rw[bS];have:B^(dg b).length*2<=B^(dg b).length*B:=bJ _ (by decide);omega
   have hv:val ((List.drop 0 (dg b++List.replicate 1 0)).take ((dg b).length+1))=b:=by
    rw[gS,bF (by simp),List.replicate_one,tC,kE]
   rw[hv,kE]at he
   have hk0:k=0:=by
    rcases cC k with h|h
    ·exact h
    have:=bJ (B^((dg b).length+1)) h;omega
   rw[hk0,dN]at he;refine⟨rfl,zs,hzl,hzd,by omega,?_,hO.below h (aA _)⟩;rw[List.take_zero,dB,cS (by simp),eA]at hb
   exact qO hb rfl)
  have hmk:=nQ ((dg b).length+1) (by omega) w
  have hc1:(((dg b).length+1:Nat):Int)=((dg b).length:Int)+1:=by omega
  rw[hc1]at hmk;have hwr:IntKind.i64.wrap (((dg b).length:Int)+1)=((dg b).length:Int)+1:=IntWalk.i64_in _ (by omega);obtain⟨W,hW⟩:=eqx (w.alloc (.cells (madeCells #[.int .u64 0] ((dg b).length+1)) 170))
  have hBW:Blk W w.heap.size 170 (jZ (List.replicate ((dg b).length+1) 0)):=by rw[<-hW,<-nU];exact Blk.new _ _ _
  have hbW:Below w.heap.size w W:=by rw[<-hW];exact bal
  rw[hW]at hmk;rw[hQ];have HLN:Hid ((((dg b).map vs)).length=Nat.min (dg b).length ((dg b).length+1)):=zh (by rw[aI];exact(dA (by omega)).symm);have HFT:Hid (0+((dg b).map vs).length<=(jZ (List.replicate ((dg b).length+1) 0)).size):=zh (by rw[qB];simp);have HON:=zh (aCA (dg b));have HCL:Hid (goInt ((dg b).map vs).length=goInt (dg b).length):=zh (by rw[aI]);have HBW:=zh hBW;have HH0:=zh h0;clear hQ hX hY hl hc1 hW hP0 h0 hBW hpl;generalize dg b=ps at*;generalize dg a=rs at*;generalize ps.length=lp at*;generalize rs.length=lr at*;go_enter Tryz.func142,Tryz.ntmps142;go_upto_region 6 with(fail);clear hmk;refine jL ?_;refine eW rfl (λK hK=>?_);go_simp;refine hK _ _ ?_;clear hK K;refine eW rfl (λK hK=>?_);go_simp;refine hK _ _ ?_
  clear hK K;refine wpList_copy_own rfl (.tmp 21) (.tmp 22) 116 116 rfl 170 Tryz.underlying116 aAO w.heap.size 0 (lp+1) (lp+1) pd lp cy rfl rfl (jZ (List.replicate (lp+1) 0)) 170 HBW.o (ps.map vs) HLN.o (HCE.o W hbW) HFT.o HON.o ?_;rw[HCP.o,HCL.o];have hB2:Blk (W.setRow w.heap.size (jZ (ps++List.replicate 1 0))) w.heap.size 170 (jZ (ps++List.replicate 1 0)):=setRow_heap W w.heap.size _ _ _ _ HBW.o;have hb2:Below w.heap.size w (W.setRow w.heap.size (jZ (ps++List.replicate 1 0))):=below_setRow hbW (aA _) _;generalize W.setRow w.heap.size (jZ (ps++List.replicate 1 0))=W2 at*;have HA2:=zh (HAI.o W2 hb2 hB2);clear HBW hB2 HCE HLN HFT HON HCL HCP HAI
  go_upto_region 8 with(go_at_call 166;refine HA2.o.mono ?_;rintro e w3 ⟨rfl,zs,g1,g2,g3,g4,hb3⟩)
  have HT:=zh (HRET.o zs w3 g1 g2 g3 g4 hb3);clear g1 g2 g3 g4 HRET HA2
  go_wp2_with (go_at_call 167;refine HT.o.mono ?_;rintro e w4 ⟨hq4,v4,rfl⟩;have HQ4:=zh hq4;clear hq4)
  exact HQ4.o
theorem aKl (X Y:Option Addr)(cx cy a b:Nat)(w:World)(hX:NW w X cx a)(hY:NW w Y cy b)(hn:(dg a).length<=500000/\(dg b).length<=500000):
    Calls Tryz.prog 142 #[.slice X (dg a).length cx,.slice Y (dg b).length cy] w (nV (a+b) w):=by
  by_cases h:(dg a).length<(dg b).length
  ·exact aHv X Y cx cy a b w hX hY hn h
  exact aHu X Y cx cy a b w hX hY hn (by omega)
theorem aDz (X Y:Option Addr)(cx cy a b:Nat)(w:World)(hX:NW w X cx a)(hY:NW w Y cy b)(hab:b<=a)(hn:(dg a).length<=500000):
    Calls Tryz.prog 144 #[.slice X (dg a).length cx,.slice Y (dg b).length cy] w (nV (a-b) w):=by
  have HX:=zh hX;have HY:=zh hY;have hlen:=Go.Bw.jT hab;obtain⟨Q,hQ⟩:=eqx (nV (a-b) w)
  by_cases h0:(dg b).length=0
  ·have e0:=mI h0
   have HRET:Hid (Q (.returned (.slice X (dg a).length cx)) w):=zh (by
    rw[<-hQ,e0,gQ]
    exact⟨X,_,rfl,HX.o,bM _ _⟩)
   rw[hQ];have z1:(((dg b).length:Int)==0)=true:=fY.2 (by omega);have z2:((dg b).length==0)=true:=fY.2 h0;have HZ:=zh h0;clear h0 e0 hQ hX hY hlen;generalize (dg a).length=la at*;generalize (dg b).length=lb at*;go_enter Tryz.func144,Tryz.ntmps144;go_wp2;exact HRET.o
  have z1:(((dg b).length:Int)==0)=false:=aG.2 (by omega);have z2:((dg b).length==0)=false:=aG.2 h0;have z3:((dg b).length=0)=False:=bX h0;have HCN:=zh (aAP X cx (dg a) w HX.o.wds (by omega) (by omega))
  have HSF:Hid (∀V g ex,w.heap.size<=g->Below w.heap.size w V->(dg a).length+ex<=maxLen->Blk V g 170 (jZ (dg a++List.replicate ex 0))->Calls Tryz.prog 170 #[.slice (some ⟨g,0,none⟩) (dg a).length ((dg a).length+ex),.slice Y (dg b).length cy] V λe w'=>e=.returned (.tuple #[])/\Calls Tryz.prog 167 #[.slice (some ⟨g,0,none⟩) (dg a).length ((dg a).length+ex)] w' λe w''=>Q e w''/\∃v,e=.returned v):=zh (λV g ex hg h hex hBk=>by
   have hu:Dig (dg a++List.replicate ex 0):=pT (kH a) (λx hx=>by rw[fO hx];decide)
   have hne:∀ad,Y=some ad->ad.block≠g:=λad e=>by
    obtain⟨ad',e',hlt,_⟩:=Sl.lies HY.o.wds (show 0<(dg b).length by omega);rw[e]at e'
    injection e' with e'
    subst e';omega
   have:=aDy g 0 (dg a).length ((dg a).length+ex) cy (dg a++List.replicate ex 0) (dg b) Y V hBk (HY.o.wds.keep h) hne hu (kH b) (by simp) hlen (by omega);refine this.mono ?_;rintro e w' ⟨rfl,k,zs,hzl,hzd,hk,he,hb,hO⟩;refine⟨rfl,?_⟩
   have hv:val ((List.drop 0 (dg a++List.replicate ex 0)).take (dg a).length)=a:=by
    rw[gS,List.take_left,kE]
   rw[hv,kE]at he
   have hk0:k=0:=by
    rcases cC k with h|h
    ·exact h
    have h1:=bJ (B^(dg a).length) h;have h2:=kR hzd;rw[hzl]at h2;omega
   rw[hk0,dN]at he;rw[List.take_zero,dB]at hb;have:=qP (some ⟨g,0,none⟩) ((dg a).length+ex) zs w' (tW hb rfl) hzd (by omega) (by omega);rw[hzl]at this;refine this.mono ?_;rintro e w'' ⟨rfl,rfl,hN⟩;rw[show val zs=a-b by omega]at hN ⊢
   exact⟨by rw[<-hQ];exact⟨_,_,rfl,hN,hO.below h hg⟩,_,rfl⟩)
  have HLA:=zh hlen;rw[hQ];clear h0 hQ hX hY hlen HX;generalize dg a=xs at*;generalize (dg b).length=lb at*;unfold aKk at HCN;generalize xs.length=la at*;go_enter Tryz.func144,Tryz.ntmps144
  go_upto_region 4 with(go_at_call 169;refine HCN.o.mono ?_;rintro e w1 ⟨g,ex,rfl,hB1,hg1,hex1,hb1⟩)
  have HS1:=zh (HSF.o w1 g ex hg1 hb1 hex1 hB1);clear hB1 HCN HSF
  go_upto_region 5 with(go_at_call 170;refine HS1.o.mono ?_;rintro e w2 ⟨rfl,hT⟩;have HT:=zh hT;clear hT)
  go_wp2_with (go_at_call 167;refine HT.o.mono ?_;rintro e w4 ⟨hq4,v4,rfl⟩;have HQ4:=zh hq4;clear hq4)
  exact HQ4.o
end Go.Proofs.Tg.Iw
