/- Parts of the proof. -/
import Derived.Test.YtabdoikbodjidaaGreatDoorMBO41
set_option maxHeartbeats 64000000
set_option maxRecDepth 100000
namespace Go.Pm
def mW (key:Nat->Nat):Nat->List Int
  |0=>[]
  |i+1=>(mW key i).take (key i)++(i:Int)::(mW key i).drop (key i)
theorem rI {key:Nat->Nat}(hk:∀i,key i<=i):∀n,Perm n (mW key n)
  |0=>aGZ
  |n+1=>aIZ (rI hk n) (hk n)
end Go.Pm
section
namespace Go.Gr
def aAF (a n:Int):Int:=if a.tmod n<0 then a.tmod n+n else a.tmod n
theorem aCu (a:Int){n:Int}(hn:0<n):0<=aAF a n/\aAF a n<n:=by
 have h1:=Int.tmod_lt_of_pos a hn
 have h2:=Int.lt_tmod_of_pos a hn
 unfold aAF
 split<;>omega
end Go.Gr
namespace Go.Proofs.Tg.Gx
open Go.RowKit Go.Gr
theorem aGd (a n:Int)(w:World)(hn:0<n)(hn2:n<=1000):Calls Tryz.prog 21 #[.int .i64 a,.int .i64 n] w λe w'=>e=.returned (.int .i64 (aAF a n))/\w'=w:=by
 have h1:=Int.tmod_lt_of_pos a hn
 have h2:=Int.lt_tmod_of_pos a hn
 have HM:Hid (aAF a n=if a.tmod n<0 then a.tmod n+n else a.tmod n):=zh rfl
 have hne:(n==0)=false:=by simp;omega
 by_cases h:a.tmod n<0
 ·have d:decide (a.tmod n<0)=true:=by simpa using h
  rw[aQ h]at HM;go_enter Tryz.func21,Tryz.ntmps21;go_wp2;go_ret;exact⟨by rw[HM.o];rfl,rfl⟩
 have d:decide (a.tmod n<0)=false:=by simpa using h
 rw[aJ h]at HM;go_enter Tryz.func21,Tryz.ntmps21;go_wp2;go_ret;exact⟨by rw[HM.o];rfl,rfl⟩
end Go.Proofs.Tg.Gx
end
namespace Go.Proofs.Tg.Bk
open Go.RowKit Go.Gr Go.Sp Go.Ev Go.Pm
open Go.Proofs.Tg.Gp (xI aCN aCO)
theorem aBq {w:World}{b b':Nat}{e:TypeId}{v:Value}{xs:List Value}(h:Que w b e v xs)(hb:b'<=b):Que w b' e v xs:=by
 obtain⟨g',o',cap',cur,h1,h2,h3⟩:=h
 exact⟨g',o',cap',cur,h1,aR hb h2,h3⟩
def oV (l:List Int)(i:Nat):Nat:=if h:i<l.length then(aAF (l[i]'h) ((i:Int)+1)).toNat else 0
theorem aAe (l:List Int)(i:Nat):oV l i<=i:=by
 unfold oV
 split
 ·rename_i h
  have:=aCu (l[i]'h) (show(0:Int)<(i:Int)+1 by omega);omega
 omega
theorem aCi (A:Option Addr)(c n:Nat)(l:List Int)(w:World)(hA:kP w A l)(hl:l.length<=1000000)(hn:n<=6):
    Calls Tryz.prog 23 #[.slice A l.length c,.int .i64 n] w λe w'=>∃E' c',e=.returned (.slice E' n c')/\kP w' E' (mW (oV l) n)/\Below w.heap.size w w':=by
  have HA:=zh hA;have HPM:Hid (∀i,Perm i (mW (oV l) i)):=zh (rI (aAe l));obtain⟨i0,hi0,hz0,hz1,hz2⟩:=info_parts aIm;clear hA;go_enter Tryz.func23,Tryz.ntmps23;go_wp2
  go_loopw [6,5] (λs6 s5 wr=>∃(i:Nat) (v:Value),s6=.int .i64 i/\i<=n/\s5=v/\Hid ((i=0/\v=.slice none 0 0)∨(0<i/\Que wr w.heap.size 3 v ((mW (oV l) i).map vi)))/\Below w.heap.size w wr) (λs6 _ _=>n-(intOf s6).toNat)
  case atStart=>exact⟨0,_,rfl,aW _,rfl,zh (.inl ⟨rfl,rfl⟩),bM _ _⟩
  case round=>
   obtain⟨wa,rfl⟩:∃wa:World,wa=wr:=⟨_,rfl⟩;obtain⟨i,v,rfl,hi,hv5,HV,hba⟩:=hrel;subst hv5
   by_cases hin:i<n
   ·have hkl:=aAe l i;go_upto_if 16 with(fail)
    go_cut [7] (λs7 wx=>s7=.int .i64 (oV l i:Nat)/\Below wa.heap.size wa wx)
    case first=>
     by_cases hil:i<l.length
     ·obtain⟨ad,rfl,hc⟩:=kP.at (HA.o.keep hba) hil
      have q0:(0:Int)<=(i:Int):=by omega
      have q1:(i:Int)<(l.length:Int):=by omega
      have q3:((i:Int)).toNat=i:=by omega
      have hz:=aCu l[i] (show(0:Int)<(i:Int)+1 by omega)
      have hke:aAF l[i] ((i:Int)+1)=((oV l i:Nat):Int):=by unfold oV;rw[jP hil];omega
      have hmod:=λV=>Gx.aGd l[i] ((i:Int)+1) V (by omega) (by omega)
      rw[hke]at hmod;have HMOD:=zh hmod;have d1:decide ((i:Int)<(l.length:Int))=true:=dT q1;have d2:decide (i<l.length)=true:=dT hil;clear hmod hke hz;generalize l[i]=x at*;generalize oV l i=m at*
      go_wp2_with (go_at_call 21;refine(HMOD.o _).mono ?_;rintro e w4 ⟨rfl,rfl⟩)
      go_meet;exact⟨rfl,bM _ _⟩
     have hke:oV l i=0:=by unfold oV;rw[dif_neg hil]
     have d1:decide ((i:Int)<(l.length:Int))=false:=dF (by omega);have d2:decide (i<l.length)=false:=dF hil;go_wp2;go_meet;exact⟨by rw[hke];rfl,bM _ _⟩
    case rest=>
     obtain⟨rfl,hbc⟩:=hcut;obtain⟨wo,rfl⟩:∃wo:World,wo=wc:=⟨_,rfl⟩;have hbo:=dW hba hbc;have HNX:Hid (mW (oV l) (i+1)=(mW (oV l) i).take (oV l i)++(i:Int)::(mW (oV l) i).drop (oV l i)):=zh rfl;have hPl:=(HPM.o i).1;have HV5:=zh (HV.o.imp id (λh=>And.intro h.1 (h.2.below hbc)));clear HV;obtain⟨P1,hP1⟩:=eqx (mW (oV l) (i+1));rw[hP1]at HNX;have HP1:=zh hP1;clear hP1;generalize mW (oV l) i=P at*;generalize oV l i=m at*
     rcases HV5.o with⟨h0,hv⟩|⟨h0,hq⟩
     ·subst hv;subst h0
      obtain rfl:m=0:=by omega
      obtain rfl:P=[]:=bV hPl;clear HV5;go_upto_region 8 with(fail);have BZ:Below wo.heap.size wo wo.drew:=brf.drew;refine dG (S:=(λw'=>True)) (by kernel_rfl) trivial (λhHeld=>?_);generalize wo.drew=Z at*
      repeat' (first
        |(refine gLd 1 25 (.slice none 0 0) rfl rfl hHeld ?_;(try simp only[jA]))
        |(refine gLd 2 26 (.int .i64 0) rfl rfl hHeld ?_;(try simp only[jA]))
        |(refine gLd 3 27 (.slice none 0 0) rfl rfl hHeld ?_;(try simp only[jA]))
        |(refine gLd 5 29 (.int .i64 0) rfl rfl hHeld ?_;(try simp only[jA]))
        |(refine gLd 8 32 (.slice none 0 0) rfl rfl hHeld ?_;(try simp only[jA]))
        |(refine gLd 9 33 (.int .i64 0) rfl rfl hHeld ?_;(try simp only[jA]))
        |(refine gLd 10 34 (.slice none 0 0) rfl rfl hHeld ?_;(try simp only[jA]))
        |(refine gRd [6] ?_)
        |(refine gRd [7] ?_)
        |(refine gRd [11] ?_)
        |(refine gRd [4] ?_)
        |(refine gRd [0] ?_)
        |(refine gRd [0,6] ?_)
        |(refine gRd [4,6] ?_)
        |(exact dM)
        |(refine gCs rfl ?_ ?_)
        |(have _:OpN 0:=tg;clear tg;go_simp;(try have hne6:g6≠Z.heap.size:=by have:=G6.lt;omega);have hba:Below Z.heap.size Z (Z.alloc (.cells #[] 3)):=bal;have BZn:=dW BZ hba;(try replace G6:=G6.keep hba G6.lt);have Q0:=Que.of_blk (base:=wo.heap.size) (xs:=[]) (Blk.new Z 3 #[]) BZ.size (by simp[maxLen]);clear hHeld;refine hK.o _ _ trivial (λhHeld=>?_);clear hK K hba;generalize Z.alloc (.cells #[] 3)=Zn at*;generalize Z.heap.size=g0 at*;obtain⟨Z,rfl⟩:∃x,x=Zn:=⟨_,rfl⟩;(try (replace BZ:=BZn;clear BZn));(try simp only[jA]))
        |(have _:OpN 4:=tg;clear tg;refine kC _ (.inl rfl) _ _ 22 (by rfl) wo.heap.size 3 i0 (.int .i64 0) 8 Tryz.underlying22 hi0 hz0 hz1 hz2 rfl (.slice (some ⟨g0,0,none⟩) 0 0) [] (by simp[Act.eval]) Q0 (.slice none 0 0) 0 [] (by simp[Act.eval]) (nZ Tryz.underlying22 (Sl.nil _ _ _) (by simp)) (by simp[maxLen]<;>omega) (by simp<;>omega) BZ.size ?_;intro v4 Zn Q4 hg _;have BZn:=BZ.grown hg BZ.size (λq hq=>by obtain⟨_,h1,h2,_⟩:=Q0.blk;have h3:=h1.symm.trans hq;injection h3 with h3;omega);(try replace G6:=G6.grown hg (by simpa[Value.ownBlock]using hne6));(try change K (Act.put _ (some 28) v4) Zn);clear hHeld;refine hK.o _ _ trivial (λhHeld=>?_);clear hK K hg;obtain⟨Z,rfl⟩:∃x,x=Zn:=⟨_,rfl⟩;(try (replace BZ:=BZn;clear BZn));(try simp only[jA]))
        |(have _:OpN 6:=tg;clear tg;go_simp;(try have hne6:Z.heap.size≠g0:=by obtain⟨_,h1,_,h3⟩:=Q0.blk;injection h1 with h1;change g0=_ at h1;omega);have hba:Below Z.heap.size Z (Z.alloc (.cells #[.int .i64 0] 3)):=bal;have BZn:=dW BZ hba;(try replace Q0:=Q0.below hba);(try replace Q4:=Q4.below hba);have G6:=Blk.new Z 3 #[.int .i64 0];clear hHeld;refine hK.o _ _ trivial (λhHeld=>?_);clear hK K hba;generalize Z.alloc (.cells #[.int .i64 0] 3)=Zn at*;generalize Z.heap.size=g6 at*;obtain⟨Z,rfl⟩:∃x,x=Zn:=⟨_,rfl⟩;(try (replace BZ:=BZn;clear BZn));(try simp only[jA]))
        |(have _:OpN 7:=tg;clear tg;refine kC _ (.inl rfl) _ _ 22 (by rfl) wo.heap.size 3 i0 (.int .i64 0) 8 Tryz.underlying22 hi0 hz0 hz1 hz2 rfl v4 ([]++[]) (by simp[Act.eval]) Q4 (.slice (some ⟨g6,0,none⟩) 1 1) 1 [.int .i64 0] (by simp[Act.eval]) (nZ Tryz.underlying22 (Gp.xJ G6) (by simp[Value.oneCell'])) (by simp[maxLen]<;>omega) (by simp<;>omega) BZ.size ?_;intro v7 Zn Q7 hg _;have BZn:=BZ.grown hg BZ.size (λq hq=>by obtain⟨_,h1,h2,_⟩:=Q4.blk;have h3:=h1.symm.trans hq;injection h3 with h3;omega);(try change K (Act.put _ (some 31) v7) Zn);clear hHeld;refine hK.o _ _ trivial (λhHeld=>?_);clear hK K hg;obtain⟨Z,rfl⟩:∃x,x=Zn:=⟨_,rfl⟩;(try (replace BZ:=BZn;clear BZn));(try simp only[jA]))
        |(have _:OpN 11:=tg;clear tg;refine kC _ (.inl rfl) _ _ 22 (by rfl) wo.heap.size 3 i0 (.int .i64 0) 8 Tryz.underlying22 hi0 hz0 hz1 hz2 rfl v7 ([]++[]++[.int .i64 0]) (by simp[Act.eval]) Q7 (.slice none 0 0) 0 [] (by simp[Act.eval]) (nZ Tryz.underlying22 (Sl.nil _ _ _) (by simp)) (by simp[maxLen]<;>omega) (by simp<;>omega) BZ.size ?_;intro v11 Zn Q11 hg _;have BZn:=BZ.grown hg BZ.size (λq hq=>by obtain⟨_,h1,h2,_⟩:=Q7.blk;have h3:=h1.symm.trans hq;injection h3 with h3;omega);(try change K (Act.put _ (some 35) v11) Zn);clear hHeld;refine hK.o _ _ trivial (λhHeld=>?_);clear hK K hg;obtain⟨Z,rfl⟩:∃x,x=Zn:=⟨_,rfl⟩;(try (replace BZ:=BZn;clear BZn));(try simp only[jA]))
        |(refine gLd 12 5 (v11) rfl rfl hHeld ?_;(try simp only[jA]))
        |(refine fD (by decide+kernel) ?_ _)
        |(intro K hK tg))
      all_goals
        go_wp2;go_roundw
        case rel=>exact⟨1,_,by go_num,by omega,rfl,zh (.inr ⟨by omega,(by rw[show mW (oV l) (1)=P1 from HP1.o];exact aBq (xs:=P1.map vi) (by simpa[HNX.o,vi]using Q11) hbo.size)⟩),dW hbo BZ⟩
        case measure=>simp[intOf];omega
     obtain⟨od,co,hv,hSl5,_⟩:=hq.sl
     have hcapo:i<=co:=by
      obtain⟨_,_,cap',_,e2,_,_,e4,_⟩:=hq;rw[hv]at e2
      injection e2 with _ _ e5
      rw[e5];rw[aI,hPl]at e4;exact e4
     have hlm:(P.map vi).length=i:=by rw[aI,hPl]
     rw[hlm]at hv hSl5;subst hv;have hmo:m<=i:=hkl;have hco0:(co=0)=False:=bX (by omega)
     have m0:(0:Int)<=(m:Int):=by omega
     have m1:(m:Int)<=(i:Int):=by omega
     have m2:(m:Int)<=(co:Int):=by omega
     have m3:((m:Int)).toNat=m:=by omega
     have HON1:Hid (∀u∈(P.map vi).take m,u.oneCell'=true):=zh (λu hu=>by
      obtain⟨r,_,rfl⟩:=aM.1 (eS hu)
      rfl)
     have HON2:Hid (∀u∈(P.map vi).drop m,u.oneCell'=true):=zh (λu hu=>by
      obtain⟨r,_,rfl⟩:=aM.1 (iP hu)
      rfl)
     clear HV5 hq hlm;go_upto_region 8 with(fail)
     by_cases hcm:m=co
     ·subst hcm;have hfull:i<=m:=hcapo;have BZ:Below wo.heap.size wo wo.drew:=brf.drew;refine dG (S:=(λw'=>True)) (by kernel_rfl) trivial (λhHeld=>?_);generalize wo.drew=Z at*
      repeat' (first
        |(refine gLd 1 25 (.slice (some od) i m) rfl rfl hHeld ?_;(try simp only[jA]))
        |(refine gLd 2 26 (.int .i64 m) rfl rfl hHeld ?_;(try simp only[jA]))
        |(refine gLd 3 27 (.slice (some od) m m) rfl rfl hHeld ?_;(try simp only[jA]))
        |(refine gLd 5 29 (.int .i64 i) rfl rfl hHeld ?_;(try simp only[jA]))
        |(refine gLd 8 32 (.slice (some od) i m) rfl rfl hHeld ?_;(try simp only[jA]))
        |(refine gLd 9 33 (.int .i64 m) rfl rfl hHeld ?_;(try simp only[jA]))
        |(refine gLd 10 34 (.slice (some od) 0 0) rfl rfl hHeld ?_;(try simp only[jA]))
        |(refine gRd [6] ?_)
        |(refine gRd [7] ?_)
        |(refine gRd [11] ?_)
        |(refine gRd [4] ?_)
        |(refine gRd [0] ?_)
        |(refine gRd [0,6] ?_)
        |(refine gRd [4,6] ?_)
        |(exact dM)
        |(refine gCs rfl ?_ ?_)
        |(have _:OpN 0:=tg;clear tg;go_simp;(try have hne6:g6≠Z.heap.size:=by have:=G6.lt;omega);have hba:Below Z.heap.size Z (Z.alloc (.cells #[] 3)):=bal;have BZn:=dW BZ hba;(try replace G6:=G6.keep hba G6.lt);have Q0:=Que.of_blk (base:=wo.heap.size) (xs:=[]) (Blk.new Z 3 #[]) BZ.size (by simp[maxLen]);clear hHeld;refine hK.o _ _ trivial (λhHeld=>?_);clear hK K hba;generalize Z.alloc (.cells #[] 3)=Zn at*;generalize Z.heap.size=g0 at*;obtain⟨Z,rfl⟩:∃x,x=Zn:=⟨_,rfl⟩;(try (replace BZ:=BZn;clear BZn));(try simp only[jA]))
        |(have _:OpN 4:=tg;clear tg;refine kC _ (.inl rfl) _ _ 22 (by rfl) wo.heap.size 3 i0 (.int .i64 0) 8 Tryz.underlying22 hi0 hz0 hz1 hz2 rfl (.slice (some ⟨g0,0,none⟩) 0 0) [] (by simp[Act.eval]) Q0 (.slice (some od) m m) m ((P.map vi).take m) (by simp[Act.eval]) (nZ Tryz.underlying22 (xI (hSl5.keep BZ) hmo) HON1.o) (by simp[maxLen]<;>omega) (by simp<;>omega) BZ.size ?_;intro v4 Zn Q4 hg _;have BZn:=BZ.grown hg BZ.size (λq hq=>by obtain⟨_,h1,h2,_⟩:=Q0.blk;have h3:=h1.symm.trans hq;injection h3 with h3;omega);(try replace G6:=G6.grown hg (by simpa[Value.ownBlock]using hne6));(try change K (Act.put _ (some 28) v4) Zn);clear hHeld;refine hK.o _ _ trivial (λhHeld=>?_);clear hK K hg;obtain⟨Z,rfl⟩:∃x,x=Zn:=⟨_,rfl⟩;(try (replace BZ:=BZn;clear BZn));(try simp only[jA]))
        |(have _:OpN 6:=tg;clear tg;go_simp;(try have hne6:Z.heap.size≠g0:=by obtain⟨_,h1,_,h3⟩:=Q0.blk;injection h1 with h1;change g0=_ at h1;omega);have hba:Below Z.heap.size Z (Z.alloc (.cells #[.int .i64 i] 3)):=bal;have BZn:=dW BZ hba;(try replace Q0:=Q0.below hba);(try replace Q4:=Q4.below hba);have G6:=Blk.new Z 3 #[.int .i64 i];clear hHeld;refine hK.o _ _ trivial (λhHeld=>?_);clear hK K hba;generalize Z.alloc (.cells #[.int .i64 i] 3)=Zn at*;generalize Z.heap.size=g6 at*;obtain⟨Z,rfl⟩:∃x,x=Zn:=⟨_,rfl⟩;(try (replace BZ:=BZn;clear BZn));(try simp only[jA]))
        |(have _:OpN 7:=tg;clear tg;refine kC _ (.inl rfl) _ _ 22 (by rfl) wo.heap.size 3 i0 (.int .i64 0) 8 Tryz.underlying22 hi0 hz0 hz1 hz2 rfl v4 ([]++((P.map vi).take m)) (by simp[Act.eval]) Q4 (.slice (some ⟨g6,0,none⟩) 1 1) 1 [.int .i64 i] (by simp[Act.eval]) (nZ Tryz.underlying22 (Gp.xJ G6) (by simp[Value.oneCell'])) (by simp[maxLen]<;>omega) (by simp<;>omega) BZ.size ?_;intro v7 Zn Q7 hg _;have BZn:=BZ.grown hg BZ.size (λq hq=>by obtain⟨_,h1,h2,_⟩:=Q4.blk;have h3:=h1.symm.trans hq;injection h3 with h3;omega);(try change K (Act.put _ (some 31) v7) Zn);clear hHeld;refine hK.o _ _ trivial (λhHeld=>?_);clear hK K hg;obtain⟨Z,rfl⟩:∃x,x=Zn:=⟨_,rfl⟩;(try (replace BZ:=BZn;clear BZn));(try simp only[jA]))
        |(have _:OpN 11:=tg;clear tg;refine kC _ (.inl rfl) _ _ 22 (by rfl) wo.heap.size 3 i0 (.int .i64 0) 8 Tryz.underlying22 hi0 hz0 hz1 hz2 rfl v7 ([]++((P.map vi).take m)++[.int .i64 i]) (by simp[Act.eval]) Q7 (.slice (some od) 0 0) 0 ((P.map vi).drop m) (by simp[Act.eval]) (nZ Tryz.underlying22 (aCO (by rw[jN (by simp;omega)]) rfl) HON2.o) (by simp[maxLen]<;>omega) (by simp<;>omega) BZ.size ?_;intro v11 Zn Q11 hg _;have BZn:=BZ.grown hg BZ.size (λq hq=>by obtain⟨_,h1,h2,_⟩:=Q7.blk;have h3:=h1.symm.trans hq;injection h3 with h3;omega);(try change K (Act.put _ (some 35) v11) Zn);clear hHeld;refine hK.o _ _ trivial (λhHeld=>?_);clear hK K hg;obtain⟨Z,rfl⟩:∃x,x=Zn:=⟨_,rfl⟩;(try (replace BZ:=BZn;clear BZn));(try simp only[jA]))
        |(refine gLd 12 5 (v11) rfl rfl hHeld ?_;(try simp only[jA]))
        |(refine fD (by decide+kernel) ?_ _)
        |(intro K hK tg))
      all_goals
        go_wp2;go_roundw
        case rel=>exact⟨i+1,_,by go_num,by omega,rfl,zh (.inr ⟨by omega,(by rw[show mW (oV l) (i+1)=P1 from HP1.o];exact aBq (xs:=P1.map vi) (by rw[HNX.o];simpa[vi,jQ,jR]using Q11) hbo.size)⟩),dW hbo BZ⟩
        case measure=>simp[intOf];omega
     have hcmf:(co=m)=False:=bX (λe=>hcm e.symm);have BZ:Below wo.heap.size wo wo.drew:=brf.drew;refine dG (S:=(λw'=>True)) (by kernel_rfl) trivial (λhHeld=>?_);generalize wo.drew=Z at*
     repeat' (first
       |(refine gLd 1 25 (.slice (some od) i co) rfl rfl hHeld ?_;(try simp only[jA]))
       |(refine gLd 2 26 (.int .i64 m) rfl rfl hHeld ?_;(try simp only[jA]))
       |(refine gLd 3 27 (.slice (some od) m co) rfl rfl hHeld ?_;(try simp only[jA]))
       |(refine gLd 5 29 (.int .i64 i) rfl rfl hHeld ?_;(try simp only[jA]))
       |(refine gLd 8 32 (.slice (some od) i co) rfl rfl hHeld ?_;(try simp only[jA]))
       |(refine gLd 9 33 (.int .i64 m) rfl rfl hHeld ?_;(try simp only[jA]))
       |(refine gLd 10 34 (.slice (some (od.add m)) (i-m) (co-m)) rfl rfl hHeld ?_;(try simp only[jA]))
       |(refine gRd [6] ?_)
       |(refine gRd [7] ?_)
       |(refine gRd [11] ?_)
       |(refine gRd [4] ?_)
       |(refine gRd [0] ?_)
       |(refine gRd [0,6] ?_)
       |(refine gRd [4,6] ?_)
       |(exact dM)
       |(refine gCs rfl ?_ ?_)
       |(have _:OpN 0:=tg;clear tg;go_simp;(try have hne6:g6≠Z.heap.size:=by have:=G6.lt;omega);have hba:Below Z.heap.size Z (Z.alloc (.cells #[] 3)):=bal;have BZn:=dW BZ hba;(try replace G6:=G6.keep hba G6.lt);have Q0:=Que.of_blk (base:=wo.heap.size) (xs:=[]) (Blk.new Z 3 #[]) BZ.size (by simp[maxLen]);clear hHeld;refine hK.o _ _ trivial (λhHeld=>?_);clear hK K hba;generalize Z.alloc (.cells #[] 3)=Zn at*;generalize Z.heap.size=g0 at*;obtain⟨Z,rfl⟩:∃x,x=Zn:=⟨_,rfl⟩;(try (replace BZ:=BZn;clear BZn));(try simp only[jA]))
       |(have _:OpN 4:=tg;clear tg;refine kC _ (.inl rfl) _ _ 22 (by rfl) wo.heap.size 3 i0 (.int .i64 0) 8 Tryz.underlying22 hi0 hz0 hz1 hz2 rfl (.slice (some ⟨g0,0,none⟩) 0 0) [] (by simp[Act.eval]) Q0 (.slice (some od) m co) m ((P.map vi).take m) (by simp[Act.eval]) (nZ Tryz.underlying22 (xI (hSl5.keep BZ) hmo) HON1.o) (by simp[maxLen]<;>omega) (by simp<;>omega) BZ.size ?_;intro v4 Zn Q4 hg _;have BZn:=BZ.grown hg BZ.size (λq hq=>by obtain⟨_,h1,h2,_⟩:=Q0.blk;have h3:=h1.symm.trans hq;injection h3 with h3;omega);(try replace G6:=G6.grown hg (by simpa[Value.ownBlock]using hne6));(try change K (Act.put _ (some 28) v4) Zn);clear hHeld;refine hK.o _ _ trivial (λhHeld=>?_);clear hK K hg;obtain⟨Z,rfl⟩:∃x,x=Zn:=⟨_,rfl⟩;(try (replace BZ:=BZn;clear BZn));(try simp only[jA]))
       |(have _:OpN 6:=tg;clear tg;go_simp;(try have hne6:Z.heap.size≠g0:=by obtain⟨_,h1,_,h3⟩:=Q0.blk;injection h1 with h1;change g0=_ at h1;omega);have hba:Below Z.heap.size Z (Z.alloc (.cells #[.int .i64 i] 3)):=bal;have BZn:=dW BZ hba;(try replace Q0:=Q0.below hba);(try replace Q4:=Q4.below hba);have G6:=Blk.new Z 3 #[.int .i64 i];clear hHeld;refine hK.o _ _ trivial (λhHeld=>?_);clear hK K hba;generalize Z.alloc (.cells #[.int .i64 i] 3)=Zn at*;generalize Z.heap.size=g6 at*;obtain⟨Z,rfl⟩:∃x,x=Zn:=⟨_,rfl⟩;(try (replace BZ:=BZn;clear BZn));(try simp only[jA]))
       |(have _:OpN 7:=tg;clear tg;refine kC _ (.inl rfl) _ _ 22 (by rfl) wo.heap.size 3 i0 (.int .i64 0) 8 Tryz.underlying22 hi0 hz0 hz1 hz2 rfl v4 ([]++((P.map vi).take m)) (by simp[Act.eval]) Q4 (.slice (some ⟨g6,0,none⟩) 1 1) 1 [.int .i64 i] (by simp[Act.eval]) (nZ Tryz.underlying22 (Gp.xJ G6) (by simp[Value.oneCell'])) (by simp[maxLen]<;>omega) (by simp<;>omega) BZ.size ?_;intro v7 Zn Q7 hg _;have BZn:=BZ.grown hg BZ.size (λq hq=>by obtain⟨_,h1,h2,_⟩:=Q4.blk;have h3:=h1.symm.trans hq;injection h3 with h3;omega);(try change K (Act.put _ (some 31) v7) Zn);clear hHeld;refine hK.o _ _ trivial (λhHeld=>?_);clear hK K hg;obtain⟨Z,rfl⟩:∃x,x=Zn:=⟨_,rfl⟩;(try (replace BZ:=BZn;clear BZn));(try simp only[jA]))
       |(have _:OpN 11:=tg;clear tg;refine kC _ (.inl rfl) _ _ 22 (by rfl) wo.heap.size 3 i0 (.int .i64 0) 8 Tryz.underlying22 hi0 hz0 hz1 hz2 rfl v7 ([]++((P.map vi).take m)++[.int .i64 i]) (by simp[Act.eval]) Q7 (.slice (some (od.add m)) (i-m) (co-m)) (i-m) ((P.map vi).drop m) (by simp[Act.eval]) (nZ Tryz.underlying22 (aCN (hSl5.keep BZ) hmo) HON2.o) (by simp[maxLen]<;>omega) (by simp<;>omega) BZ.size ?_;intro v11 Zn Q11 hg _;have BZn:=BZ.grown hg BZ.size (λq hq=>by obtain⟨_,h1,h2,_⟩:=Q7.blk;have h3:=h1.symm.trans hq;injection h3 with h3;omega);(try change K (Act.put _ (some 35) v11) Zn);clear hHeld;refine hK.o _ _ trivial (λhHeld=>?_);clear hK K hg;obtain⟨Z,rfl⟩:∃x,x=Zn:=⟨_,rfl⟩;(try (replace BZ:=BZn;clear BZn));(try simp only[jA]))
       |(refine gLd 12 5 (v11) rfl rfl hHeld ?_;(try simp only[jA]))
       |(refine fD (by decide+kernel) ?_ _)
       |(intro K hK tg))
     all_goals
       go_wp2;go_roundw
       case rel=>exact⟨i+1,_,by go_num,by omega,rfl,zh (.inr ⟨by omega,(by rw[show mW (oV l) (i+1)=P1 from HP1.o];exact aBq (xs:=P1.map vi) (by rw[HNX.o];simpa[vi,jQ,jR]using Q11) hbo.size)⟩),dW hbo BZ⟩
       case measure=>simp[intOf];omega
   obtain rfl:i=n:=by omega
   have dk:decide ((i:Int)<(i:Int))=false:=by simp
   rcases HV.o with⟨h0,hv⟩|⟨h0,hq⟩
   ·subst hv;subst h0;go_wp2;go_ret;exact⟨none,⟨0,rfl⟩,Sl.nil _ _ _,hba⟩
   obtain⟨od,co,hv,hSl,_⟩:=hq.sl;subst hv;have hpl:=(HPM.o i).1;rw[aI]at hSl;have HF:Hid (kP wa (some od) (mW (oV l) i)):=zh hSl
   have hlm:((mW (oV l) i).map vi).length=i:=by rw[aI,hpl]
   rw[hlm];clear hSl hq h0 hpl hlm;go_wp2;go_ret;exact⟨some od,co,rfl,HF.o,hba⟩
end Go.Proofs.Tg.Bk
section
namespace Go.Pm
open Go.Gr
theorem aLU {n:Nat}{gs S:List (List Int)}(hn:n<=6)(hg:∀g∈gs,Perm n g)(h:sB n gs S)(hA:Asc S):IsG S/\(S.headD []).length=n:=by
 have hp:∀a∈S,Perm n a:=λa ha=>Gen.perm hg ((h.2 a).1 ha)
 have hu:unit n∈S:=(h.2 _).2 Gen.one
 have hne:S≠[]:=λe=>by rw[e]at hu;cases hu
 have hl:(S.headD []).length=n:=by
  cases S with
  |nil=>exact absurd rfl hne
  |cons x xs=>exact(hp x (by simp)).1
 refine⟨⟨by rw[hl];exact hn,hne,by rw[hl];exact hp,hA,by rw[hl];exact⟨hu,λa ha b hb=>(h.2 _).2 (Gen.prod hg ((h.2 a).1 ha) ((h.2 b).1 hb))⟩⟩,hl⟩
def aGS (n i:Nat):List Int:=(List.replicate n 0).set i 1
theorem aIO (n i:Nat):(aGS n i).length=n:=by simp[aGS]
def oS (n:Nat)(both:Bool)(j:Nat):List (List Int):=(if both then[List.replicate n 0]else[])++(List.range j).map λk=>aGS n (n-1-k)
theorem aBA (n:Nat)(both:Bool)(j:Nat):oS n both (j+1)=oS n both j++[aGS n (n-1-j)]:=by
 unfold oS
 rw[bT,bH,cJ]
 rfl
end Go.Pm
namespace Go.Proofs.Tg.Bk
open Go.RowKit Go.Gr Go.Sp Go.Ev Go.Pm
open Go.Proofs.Tg.Gp (lQ jU lF kS xK)
structure aCl (w:World)(n:Nat)(both:Bool)(wr:World)(j:Nat)(A:Option Addr)(cA:Nat)(rs:List lQ):Prop where
  below:Below w.heap.size w wr
  own:wr.ownsRow w.heap.size 22 1 (.slice A rs.length cA) rs.length (rs.map (jU n))
  rows:lF wr rs
  eq:rs.map Prod.snd=oS n both j
theorem aCl.keep {w wr wz:World}{n j cA:Nat}{both:Bool}{A:Option Addr}{rs:List lQ}(h:aCl w n both wr j A cA rs)(hb:Below wr.heap.size wr wz):aCl w n both wz j A cA rs:=
  ⟨dW h.below hb,kL h.own hb (aA _),h.rows.keep hb,h.eq⟩
def aFJ (both:Bool)(w:World)(e:Ending)(w':World):Prop:=∃(G B:Option Addr) (cG cB n:Nat) (S bs:List (List Int)),e=.returned (.tuple #[.slice G S.length cG,.slice B bs.length cB])/\
  jV w' G S/\jV w' B bs/\1<=n/\n<=4/\IsG S/\(S.headD []).length=n/\bs=oS n both n/\Below w.heap.size w w'
theorem aFK {w wj w7:World}{n j cA c7:Nat}{both:Bool}{A A7:Option Addr}{rs:List lQ}{g:Nat}{l:List Int}{o:Obj}(h:aCl w n both wj j A cA rs)(hB:Blk wj g 3 (kU l))
    (h7:w7.ownsRow w.heap.size 22 1 (.slice A7 (rs.length+1) c7) (rs.length+1) (rs.map (jU n)++[.slice (some ⟨g,0,none⟩) n n])) (hg:(wj.alloc o).grownBy w7 (Value.slice A rs.length cA).ownBlock):
    Below w.heap.size w w7/\w7.ownsRow w.heap.size 22 1 (.slice A7 (rs++[(g,l)]).length c7) (rs++[(g,l)]).length ((rs++[(g,l)]).map (jU n))/\lF w7 (rs++[(g,l)]):=by
  have hal:=dX (bM wj.heap.size wj) (aA _) o;have hox:=h.own.alloc o;have hb:=dW h.below hal;refine⟨hb.grown hg hb.size (λq hq=>(hox.lt q hq).1),?_,λt ht=>?_⟩
  ·rw[aC,bH,List.map_singleton];exact h7
  rcases aK.1 ht with h2|h2
  ·have h1:=(h.rows t h2).keep hal (h.rows t h2).lt;exact h1.grown hg (kQ hox h1 (by decide))
  rw[aN.1 h2];have h1:=hB.keep hal hB.lt;exact h1.grown hg (kQ hox h1 (by decide))
theorem aEz {w w3:World}{E1 E2:Option Addr}{p q:List Int}{n:Nat}(h1:kP w3 E1 p)(h2:kP w E2 q)(hb:Below w3.heap.size w3 w)(hp:p.length=n)(hq:q.length=n)(c1 c2:Nat):jV (w.alloc (.cells #[.slice E1 n c1,.slice E2 n c2] 22)) (some ⟨w.heap.size,0,none⟩) [p,q]:=by
 have hal:=dX (bM w.heap.size w) (aA _) (.cells #[.slice E1 n c1,.slice E2 n c2] 22)
 refine⟨λi=>if i=0 then(E1,c1)else(E2,c2),?_,λi hi=>?_⟩
 ·have h0:Blk (w.alloc (.cells #[.slice E1 n c1,.slice E2 n c2] 22)) w.heap.size 22 [.slice E1 n c1,.slice E2 n c2].toArray:=Blk.new w 22 _
  have h:=vX (n:=2) h0 (by simp);rw[<-hp];rw[<-hp]at h
  have e:(List.range [p,q].length).map (λi=>Value.slice (if i=0 then(E1,c1)else(E2,c2)).1 ([p,q].getD i []).length (if i=0 then(E1,c1)else(E2,c2)).2)=[.slice E1 p.length c1,.slice E2 p.length c2]:=by
   show[Value.slice E1 p.length c1,Value.slice E2 q.length c2]=_
   rw[hq,hp]
  rw[e];exact h
 have:i=0∨i=1:=by simp at hi;omega
 rcases this with rfl|rfl
 ·exact Sl.keep (Sl.keep h1 hb) hal
 exact Sl.keep h2 hal
theorem aAn {n j:Nat}{both:Bool}{r:List Int}(h:r∈oS n both j):r.length=n:=by
 unfold oS at h
 rcases aK.1 h with h|h
 ·split at h
  ·rw[aN.1 h,bU]
  cases h
 obtain⟨k,_,rfl⟩:=aM.1 h
 exact aIO _ _
theorem aCZ {w:World}{A:Option Addr}{L:Nat}{rs:List lQ}(h:Sl w A rs.length 1 (rs.map (jU L)))(hr:lF w rs)(hL:∀r∈rs,r.2.length=L):jV w A (rs.map Prod.snd):=by
 refine⟨λi=>(some ⟨(rs.getD i (0,[])).1,0,none⟩,L),?_,λi hi=>?_⟩
 ·have e:(List.range (rs.map Prod.snd).length).map (λi=>Value.slice (some ⟨(rs.getD i (0,[])).1,0,none⟩) ((rs.map Prod.snd).getD i []).length L)=rs.map (jU L):=by
   refine dJ (by simp) λi h1 h2=>?_
   have hi:i<rs.length:=by simpa using h2
   have:=hL rs[i] (aB _);simp[hi,jU,this]
  rw[e,aI];exact h
 have hi':i<rs.length:=by simpa using hi
 have e1:rs.getD i (0,[])=rs[i]:=by simp[hi']
 have e2:(rs.map Prod.snd).getD i []=rs[i].2:=by simp[hi']
 simp only[e1,e2];exact aCT (hr rs[i] (aB _))
theorem aIP (A B:Option Addr)(cA cB:Nat)(z:Int)(a b:List Int)(both:Bool)(w:World)(hA:kP w A a)(hB:kP w B b)(ha:a.length<=1000)(hb:b.length<=1000):
    Calls Tryz.prog 7 #[.int .i64 z,.slice A a.length cA,.slice B b.length cB,.bool both] w (aFJ both w):=by
  have HM:=zh (Gx.aGd z 4 w (by omega) (by omega));obtain⟨hm0,hm1⟩:=aCu z (show(0:Int)<4 by omega);obtain⟨n,hn⟩:∃n:Nat,aAF z 4+1=(n:Int):=⟨(aAF z 4+1).toNat,by omega⟩
  have hn1:1<=n:=by omega
  have hn4:n<=4:=by omega
  have w1:IntKind.i64.wrap (aAF z 4+1)=(n:Int):=by rw[hn];exact IntWalk.i64_in _ (by omega)
  have HP1:=zh (aCi A cA n a w hA (by omega) (by omega));have HP2:=zh (λV (h:Below w.heap.size w V)=>aCi B cB n b V (hB.keep h) (by omega) (by omega));have HL1:Hid (Perm n (mW (oV a) n)):=zh (rI (aAe a) n);have HL2:Hid (Perm n (mW (oV b) n)):=zh (rI (aAe b) n);have HCL:=zh (λG cG gs V h1 h2 h3=>xK G cG n gs V h1 h2 (by omega) h3);obtain⟨j0,hj0,hjz0,hjz1,hjz2⟩:=info_parts kS;generalize mW (oV a) n=p at*;generalize mW (oV b) n=q at*;generalize aAF z 4=mz at*;clear hA hB hn hm0 hm1;have hpl:p.length=n:=HL1.o.1;have hql:q.length=n:=HL2.o.1;have HPL:=zh hpl;have HQL:=zh hql;clear hpl hql;go_enter Tryz.func7,Tryz.ntmps7
  go_upto_region 2 with(go_at_call 21;refine HM.o.mono ?_;rintro e w2 ⟨rfl,rfl⟩)
  have HTW:Hid (∀g∈[p,q],Perm n g):=zh (λg hg=>by
   simp only[bA,eH,iC]at hg
   rcases hg with rfl|rfl
   ·exact HL1.o
   exact HL2.o)
  go_upto_region 3 with(first
    |(go_at_call 23;with_reducible refine bE HP1.o ?_;rintro e w3 ⟨E1,c1,rfl,hE1,hb3⟩)
    |(go_at_call 23;with_reducible refine bE (HP2.o _ hb3) ?_;rintro e w4 ⟨E2,c2,rfl,hE2,hb4⟩
      have hal:=dX (bM w4.heap.size w4) (aA _) (.cells #[.slice E1 n c1,.slice E2 n c2] 22);have hLS:=aEz (w:=w4) hE1 hE2 hb4 HPL.o HQL.o c1 c2;have hb5:=dW (dW hb3 hb4) hal;have HCL2:Hid (Calls Tryz.prog 22 #[.int .i64 n,.slice (some ⟨w4.heap.size,0,none⟩) 2 2] (w4.alloc (.cells #[.slice E1 n c1,.slice E2 n c2] 22)) λe w'=>∃A c S,e=.returned (.slice A (List.length S) c)/\jV w' A S/\sB n [p,q] S/\Asc S/\Below (w4.alloc (.cells #[.slice E1 n c1,.slice E2 n c2] 22)).heap.size (w4.alloc (.cells #[.slice E1 n c1,.slice E2 n c2] 22)) w'):=zh (HCL.o (some ⟨w4.heap.size,0,none⟩) 2 [p,q] _ hLS HTW.o (by simp))
      clear hLS)
    |(go_at_call 22;refine HCL2.o.mono ?_;rintro e w6 ⟨G,cG,S,rfl,hS,hgen,hasc,hb6⟩))
  have hb06:=dW hb5 hb6;have hisg:=aLU (by omega:n<=6) HTW.o hgen hasc;have HIG:=zh hisg;have HSS:=zh hS;clear hE1 hE2 HCL2 hgen hasc hisg hS hb5 hb6 hal hb3 hb4 HCL HP1 HP2 HPL HQL HL1 HL2 HM
  cases both with
  |false=>
   have HST:Hid (aCl w6 n false w6 0 none 0 []):=zh ⟨bM _ _,dR _ _ _ _,λr hr=>absurd hr (by simp),by simp[oS]⟩;have wn:IntKind.i64.wrap ((n:Int)-1)=(n:Int)-1:=IntWalk.i64_in _ (by omega);go_wp2
   go_loopw [11,12] (λs11 s12 wr=>∃(j:Nat) (A2:Option Addr) (c2:Nat) (rs:List lQ) (i:Int),j<=n/\s12=.int .i64 i/\Hid (i=(n:Int)-1-j)/\-1<=i/\i<=3/\s11=.slice A2 rs.length c2/\Hid (aCl w6 n false wr j A2 c2 rs)) (λ_ s12 _=>(intOf s12+1).toNat)
   case atStart=>exact⟨0,_,_,_,(n:Int)-1,aW _,rfl,zh (by omega),by omega,by omega,rfl,HST⟩
   case round=>
    clear HST;obtain⟨wo,rfl⟩:∃wo:World,wo=wr:=⟨_,rfl⟩;obtain⟨j,A2,c2,rs,i,hj,rfl,HI,hi0,hi3,rfl,HST⟩:=hrel
    by_cases hjn:0<=i
    ·have hjl:j<n:=by have:=HI.o;omega
     obtain⟨k,hk⟩:∃k:Nat,i=(k:Int):=⟨i.toNat,by omega⟩
     have hkn:k<n:=by have:=HI.o;omega
     have hkj:k=n-1-j:=by have:=HI.o;omega
     subst hk;have HBS:=zh (aBA n false j);have HUV:Hid (aGS n (n-1-j)=(List.replicate n 0).set k 1):=zh (by rw[hkj];rfl)
     have hrl:rs.length<=10:=by
      have h1:=bK List.length HST.o.eq;rw[aI]at h1
      have h2:(oS n false j).length<=1+j:=by simp[oS];try omega
      omega
     have d0:decide ((0:Int)<=(k:Int))=true:=dT (by omega)
     have k0:(0:Int)<=(k:Int):=by omega
     have k1:(k:Int)<(n:Int):=by omega
     have k3:((k:Int)).toNat=k:=by omega
     have wk:IntKind.i64.wrap ((k:Int)-1)=(k:Int)-1:=IntWalk.i64_in _ (by omega);have hmk:=nB n n (aA _) (by omega) wo;have B0:=Blk.new wo 3 (madeCells #[.int .i64 0] n);have hal:=dX (bM wo.heap.size wo) (aA _) (.cells (madeCells #[.int .i64 0] n) 3);rw[mD n]at hmk;have e0:Blk (wo.alloc (.cells (kU (List.replicate n 0)) 3)) wo.heap.size 3 (kU (List.replicate n 0)):=Blk.new _ _ _;have hal2:Below wo.heap.size wo (wo.alloc (.cells (kU (List.replicate n 0)) 3)):=dX brf (aA _) _;clear B0 hal;generalize hW:wo.alloc (.cells (kU (List.replicate n 0)) 3)=W at*;have c0:=e0.cell k;have f0:=e0.frozen k;rw[nW _ (by rw[bU];exact hkn)]at c0;rw[List.getElem_replicate]at c0;have B1:=e0.set k (.int .i64 1);rw[nL]at B1
     have hb1:=hJ hal2 (aA _) k (.int .i64 1);have hl1:=e0.lt;have HE0:=zh e0;clear hW e0 hkj;go_upto_region 11 with(fail);clear hmk c0 f0;have hl2:=B1.lt;generalize hW2:W.setCell ⟨wo.heap.size,k,none⟩ (.int .i64 1)=W2 at*;have H2:=HST.o.keep hb1;have hown:=H2.own;have hbz:=H2.below;have HB1:=zh B1;have HH2:=zh H2;clear B1 hW2 H2 HE0 hl1 hal2
     go_wp2_with (at_builtin
                  refine wpList_append_own_at _ rfl _ _ 27 rfl w6.heap.size 22 j0 (.slice none 0 0) 1 24 Tryz.underlying27 hj0 hjz0 hjz1 hjz2 rfl (by decide) (.slice A2 rs.length c2) rs.length (rs.map (jU n)) rfl (hown.alloc _) ⟨W2.heap.size,0,none⟩ 1 1 [.slice (some ⟨wo.heap.size,0,none⟩) n n] rfl rfl (cell_one_new _ _ _) (by simp[Value.oneCell']) (by simp only[maxLen];omega) (by omega) (by have:=hbz.size;simp;omega) ?_;intro v7 w7 hown7 hg7 _ hat7;obtain⟨A7,c7,hv7,_,_⟩:=Sl.of_own hown7
                  subst hv7)
     go_roundw
     case rel=>
      obtain⟨g1,g2,g3⟩:=aFK HH2.o HB1.o hown7 hg7;refine⟨j+1,A7,c7,rs++[(wo.heap.size,(List.replicate n 0).set k 1)],(k:Int)-1,by omega,rfl,zh (by have:=HI.o;omega),by omega,by omega,by simp,zh ⟨g1,g2,g3,?_⟩⟩;rw[bH,HST.o.eq,HBS.o,HUV.o];rfl
     case measure=>(simp[intOf];try omega)
    have hj:j=n:=by have:=HI.o;omega
    subst hj;have d0:decide ((0:Int)<=i)=false:=dF hjn;have hRL:=(Sl.own HST.o.own)
    have HLB:Hid (∃A3 c3 bs,Value.slice A2 rs.length c2=.slice A3 (List.length bs) c3/\jV wo A3 bs/\bs=oS j false j):=zh ⟨A2,c2,rs.map Prod.snd,by rw[aI],aCZ hRL HST.o.rows (λr hr=>by
     have h1:r.2∈rs.map Prod.snd:=gW hr;rw[HST.o.eq]at h1
     exact aAn h1),HST.o.eq⟩
    clear hRL;go_wp2
    go_ret2
    obtain⟨A3,c3,bs,h1,h2,h3⟩:=HLB.o;exact⟨G,A3,cG,c3,j,S,bs,by rw[<-h1];rfl,HSS.o.keep HST.o.below,h2,hn1,hn4,HIG.o.1,HIG.o.2,h3,dW hb06 HST.o.below⟩
  |true=>
   have wn:IntKind.i64.wrap ((n:Int)-1)=(n:Int)-1:=IntWalk.i64_in _ (by omega);have hmk:=nB n n (aA _) (by omega) w6;rw[mD n]at hmk;have e0:Blk (w6.alloc (.cells (kU (List.replicate n 0)) 3)) w6.heap.size 3 (kU (List.replicate n 0)):=Blk.new _ _ _;have hal2:Below w6.heap.size w6 (w6.alloc (.cells (kU (List.replicate n 0)) 3)):=dX brf (aA _) _;generalize hW:w6.alloc (.cells (kU (List.replicate n 0)) 3)=W at*;have hb1:=hal2;have HB1:=zh e0;have hl1:=e0.lt;have H2:aCl w6 n true W 0 none 0 []∨True:=.inr trivial;clear hW e0 H2;have hown:W.ownsRow w6.heap.size 22 1 (.slice none 0 0) 0 []:=dR _ _ _ _
   go_wp2_with (at_builtin
                refine wpList_append_own_at _ rfl _ _ 27 rfl w6.heap.size 22 j0 (.slice none 0 0) 1 24 Tryz.underlying27 hj0 hjz0 hjz1 hjz2 rfl (by decide) (.slice none 0 0) 0 [] rfl (hown.alloc _) ⟨W.heap.size,0,none⟩ 1 1 [.slice (some ⟨w6.heap.size,0,none⟩) n n] rfl rfl (cell_one_new _ _ _) (by simp[Value.oneCell']) (by simp only[maxLen];omega) (by omega) (by have:=hb1.size;simp;omega) ?_;intro v7 w7 hown7 hg7 _ hat7;obtain⟨A7,c7,hv7,_,_⟩:=Sl.of_own hown7
                subst hv7)
   clear hmk
   have HST:Hid (aCl w6 n true w7 0 A7 c7 [(w6.heap.size,List.replicate n 0)]):=zh (by
    have hal:=dX (bM W.heap.size W) (aA _) (.cells #[.slice (some ⟨w6.heap.size,0,none⟩) n n] 22);have hb:=dW hb1 hal;refine⟨hb.grown hg7 hb.size (λq hq=>absurd hq (by simp[Value.ownBlock])),hown7,λt ht=>?_,by simp[oS]⟩;rw[aN.1 ht]
    exact(HB1.o.keep hal HB1.o.lt).grown hg7 (by simp[Value.ownBlock]))
   clear hb1 HB1 hl1 hown hown7 hg7 hat7 hal2
   go_loopw [11,12] (λs11 s12 wr=>∃(j:Nat) (A2:Option Addr) (c2:Nat) (rs:List lQ) (i:Int),j<=n/\s12=.int .i64 i/\Hid (i=(n:Int)-1-j)/\-1<=i/\i<=3/\s11=.slice A2 rs.length c2/\Hid (aCl w6 n true wr j A2 c2 rs)) (λ_ s12 _=>(intOf s12+1).toNat)
   case atStart=>exact⟨0,_,_,_,(n:Int)-1,aW _,rfl,zh (by omega),by omega,by omega,rfl,HST⟩
   case round=>
    clear HST;obtain⟨wo,rfl⟩:∃wo:World,wo=wr:=⟨_,rfl⟩;obtain⟨j,A2,c2,rs,i,hj,rfl,HI,hi0,hi3,rfl,HST⟩:=hrel
    by_cases hjn:0<=i
    ·have hjl:j<n:=by have:=HI.o;omega
     obtain⟨k,hk⟩:∃k:Nat,i=(k:Int):=⟨i.toNat,by omega⟩
     have hkn:k<n:=by have:=HI.o;omega
     have hkj:k=n-1-j:=by have:=HI.o;omega
     subst hk;have HBS:=zh (aBA n true j);have HUV:Hid (aGS n (n-1-j)=(List.replicate n 0).set k 1):=zh (by rw[hkj];rfl)
     have hrl:rs.length<=10:=by
      have h1:=bK List.length HST.o.eq;rw[aI]at h1
      have h2:(oS n true j).length<=1+j:=by simp[oS];try omega
      omega
     have d0:decide ((0:Int)<=(k:Int))=true:=dT (by omega)
     have k0:(0:Int)<=(k:Int):=by omega
     have k1:(k:Int)<(n:Int):=by omega
     have k3:((k:Int)).toNat=k:=by omega
     have wk:IntKind.i64.wrap ((k:Int)-1)=(k:Int)-1:=IntWalk.i64_in _ (by omega);have hmk:=nB n n (aA _) (by omega) wo;have B0:=Blk.new wo 3 (madeCells #[.int .i64 0] n);have hal:=dX (bM wo.heap.size wo) (aA _) (.cells (madeCells #[.int .i64 0] n) 3);rw[mD n]at hmk;have e0:Blk (wo.alloc (.cells (kU (List.replicate n 0)) 3)) wo.heap.size 3 (kU (List.replicate n 0)):=Blk.new _ _ _;have hal2:Below wo.heap.size wo (wo.alloc (.cells (kU (List.replicate n 0)) 3)):=dX brf (aA _) _;clear B0 hal;generalize hW:wo.alloc (.cells (kU (List.replicate n 0)) 3)=W at*;have c0:=e0.cell k;have f0:=e0.frozen k;rw[nW _ (by rw[bU];exact hkn)]at c0;rw[List.getElem_replicate]at c0;have B1:=e0.set k (.int .i64 1);rw[nL]at B1
     have hb1:=hJ hal2 (aA _) k (.int .i64 1);have hl1:=e0.lt;have HE0:=zh e0;clear hW e0 hkj;go_upto_region 11 with(fail);clear hmk c0 f0;have hl2:=B1.lt;generalize hW2:W.setCell ⟨wo.heap.size,k,none⟩ (.int .i64 1)=W2 at*;have H2:=HST.o.keep hb1;have hown:=H2.own;have hbz:=H2.below;have HB1:=zh B1;have HH2:=zh H2;clear B1 hW2 H2 HE0 hl1 hal2
     go_wp2_with (at_builtin
                  refine wpList_append_own_at _ rfl _ _ 27 rfl w6.heap.size 22 j0 (.slice none 0 0) 1 24 Tryz.underlying27 hj0 hjz0 hjz1 hjz2 rfl (by decide) (.slice A2 rs.length c2) rs.length (rs.map (jU n)) rfl (hown.alloc _) ⟨W2.heap.size,0,none⟩ 1 1 [.slice (some ⟨wo.heap.size,0,none⟩) n n] rfl rfl (cell_one_new _ _ _) (by simp[Value.oneCell']) (by simp only[maxLen];omega) (by omega) (by have:=hbz.size;simp;omega) ?_;intro v7 w7 hown7 hg7 _ hat7;obtain⟨A7,c7,hv7,_,_⟩:=Sl.of_own hown7
                  subst hv7)
     go_roundw
     case rel=>
      obtain⟨g1,g2,g3⟩:=aFK HH2.o HB1.o hown7 hg7;refine⟨j+1,A7,c7,rs++[(wo.heap.size,(List.replicate n 0).set k 1)],(k:Int)-1,by omega,rfl,zh (by have:=HI.o;omega),by omega,by omega,by simp,zh ⟨g1,g2,g3,?_⟩⟩;rw[bH,HST.o.eq,HBS.o,HUV.o];rfl
     case measure=>(simp[intOf];try omega)
    have hj:j=n:=by have:=HI.o;omega
    subst hj;have d0:decide ((0:Int)<=i)=false:=dF hjn;have hRL:=(Sl.own HST.o.own)
    have HLB:Hid (∃A3 c3 bs,Value.slice A2 rs.length c2=.slice A3 (List.length bs) c3/\jV wo A3 bs/\bs=oS j true j):=zh ⟨A2,c2,rs.map Prod.snd,by rw[aI],aCZ hRL HST.o.rows (λr hr=>by
     have h1:r.2∈rs.map Prod.snd:=gW hr;rw[HST.o.eq]at h1
     exact aAn h1),HST.o.eq⟩
    clear hRL;go_wp2
    go_ret2
    obtain⟨A3,c3,bs,h1,h2,h3⟩:=HLB.o;exact⟨G,A3,cG,c3,j,S,bs,by rw[<-h1];rfl,HSS.o.keep HST.o.below,h2,hn1,hn4,HIG.o.1,HIG.o.2,h3,dW hb06 HST.o.below⟩
end Go.Proofs.Tg.Bk
end
