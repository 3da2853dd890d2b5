/- Parts of the proof. -/
import Derived.Test.YtabdoikbodjidaaGreatDoorMBO8
set_option maxHeartbeats 64000000
set_option maxRecDepth 100000
namespace Go.Proofs.Tg
open Go.RowKit Go.Qn Go.Gr
theorem lU.one {w:World}{A:Option Addr}{a:Nat}(h:lU w A [a]):∃ad,A=some ad/\w.cell? ad=some (.int .u64 (a:Nat))/\ad.block<w.heap.size:=by
 obtain⟨ad,rfl,hc⟩:=lU.at h (k:=0) (by simp)
 have hc0:w.cell? ad=some (.int .u64 (a:Nat)):=by simpa[Addr.add]using hc
 exact⟨ad,rfl,hc0,bQ w ad hc0⟩
theorem aNs {m:Nat}(h:m≠0):wds m=[m]:=by unfold wds;rw[aJ h]
theorem aIq (A:Option Addr)(c m:Nat)(w:World)(hA:lU w A (wds m)):
    Calls Tryz.prog 99 #[.agg #[.bool false,.slice A (wds m).length c]] w λe w'=>e=.returned (.bool (decide (m=1)))/\Below w.heap.size w w':=by
  by_cases h0:m=0
  ·subst h0;have e:wds 0=[]:=rfl;rw[e];go_enter Tryz.func99,Tryz.ntmps99;go_wp2;go_ret;exact⟨by simp,bal⟩
  rw[aNs h0]at hA ⊢;obtain⟨ad,rfl,k,hl⟩:=hA.one;have k':=oG k (.cells #[.bool false,.slice (some ad) 1 c] 118);go_enter Tryz.func99,Tryz.ntmps99;go_wp2;go_ret;refine⟨?_,bal⟩
  show Ending.returned (.bool ((m:Int)==1))=_
  congr 2
  by_cases h1:m=1
  ·subst h1;rfl
  rw[dF h1];simp;omega
theorem lW (x:Bool)(A:Option Addr)(n c:Nat)(w:World):
    Calls Tryz.prog 94 #[.agg #[.bool x,.slice A n c]] w λe w'=>e=.returned (.bool (decide (n=0)))/\Below w.heap.size w w':=by
  go_enter Tryz.func94,Tryz.ntmps94;go_wp2;go_ret;refine⟨?_,bal⟩
  show Ending.returned (.bool ((n:Int)==0))=_
  congr 2
  by_cases h1:n=0
  ·subst h1;rfl
  rw[dF h1];simp;omega
theorem vF {l num den:List UInt8}{b ok:Bool}(h:pV l b num den ok):(ok=false/\rd l=none)∨(ok=true/\pL num=true/\num.length<=l.length/\den=[]/\rd l=some (b,val num,1))∨
    (ok=true/\pL num=true/\num.length<=l.length/\den.length<=l.length/\den≠[]/\pL den=true/\val num≠0/\val den≠0/\rd l=if Nat.gcd (val num) (val den)=1 then some (b,val num,val den)else none):=by
  obtain⟨h1,h2,h3,h4⟩:=h
  cases ok with
  |false=>exact .inl ⟨rfl,h3 rfl⟩
  |true=>
   obtain⟨a,b,c⟩:=h4 rfl
   by_cases hd:den=[]
   ·exact .inr (.inl ⟨rfl,a,h1,hd,b hd⟩)
   exact .inr (.inr ⟨rfl,a,h1,h2,hd,(c hd).1,(c hd).2.1,(c hd).2.2.1,(c hd).2.2.2⟩)
end Go.Proofs.Tg
namespace Go.Proofs.Tg
open Go.RowKit Go.Qn Go.Gr Go.Mo
theorem yO (w:World)(t:TypeId)(xs:List Value):∀j u,xs[j]?=some u->(w.alloc (.cells xs.toArray t)).cell? ((⟨w.heap.size,0,none⟩:Addr).add j)=some u:=by
 intro j u hu
 rw[kI,bN,Blk.cell (Blk.new w t xs.toArray) j]
 simpa using hu
end Go.Proofs.Tg
namespace Go.Proofs.Tg
open Go.RowKit Go.Gr Go.Qn
def aPI (l:List UInt8)(w:World)(e:Ending)(w':World):Prop:=
  Below w.heap.size w w'/\((pL l=false/\∃n A c,e=.returned (.tuple #[.agg #[.bool false,.slice A n c],.bool false]))∨
    (pL l=true/\∃ad c,e=.returned (.tuple #[.agg #[.bool false,.slice (some ad) (mg (val l)).length c],.bool true])/\kN w' (some ad) (mg (val l))))
theorem aKZ (w:World):Calls Tryz.prog 83 #[.string ByteArray.empty] w (aPI [] w):=by
 have hbA:Below w.heap.size w (w.alloc (.cells #[.bool false,.slice none 0 0] 67)):=bal
 have K2:=Blk.new w 67 #[.bool false,.slice none 0 0]
 have HM:=zh (λW=>qC false none 0 0 W false rfl (by omega))
 go_enter Tryz.func83,Tryz.ntmps83
 go_wp2
 refine wp_loop_rounds 1 ?_
 rw[rounds_succ]
 go_wp2_with (go_at_call 84;refine(HM.o _).mono ?_;rintro e w2 ⟨rfl,hb2⟩
              have K3:=K2.keep hb2 K2.lt
              obtain⟨j0,j1,j2,j3⟩:=K3.two)
 refine aO (v:=.tuple #[.agg #[.bool false,.slice none 0 0],.bool false]) (by simp[results,Tryz.results83,go_sem,j0,j1]) rfl ⟨?_,.inl ⟨rfl,0,none,0,rfl⟩⟩
 exact((dW hbA hb2).setCell (by simp) _).setCell (by simp) _
theorem aPJ (r:List UInt8)(k:Nat)(h:∀c∈r.take k,oD c=true)(hx:r.length<=k∨∃h:k<r.length,oD r[k]=false):(r.takeWhile oD).length=min k r.length:=by
 rw[(aLI r k h hx).1,aS]
theorem aOQ {r:List UInt8}(h:(r.takeWhile oD).length<r.length):∃t,r.dropWhile oD=47::t/\t=r.drop ((r.takeWhile oD).length+1):=by
 have e:=eQ (p:=oD) (l:=r)
 cases hd:r.dropWhile oD with
 |nil=>
  rw[hd,eA]at e;rw[e]at h;omega
 |cons c t=>
  have hc:oD c=false:=by
   have:=List.head?_dropWhile_not oD r;rw[hd]at this;simpa using this
  have hc':c=47:=by unfold oD at hc;simpa using hc
  subst hc';refine⟨t,rfl,?_⟩;rw[hd]at e
  have:r.drop ((r.takeWhile oD).length+1)=(r.takeWhile oD++47::t).drop ((r.takeWhile oD).length+1):=by rw[e]
  rw[this,List.drop_append];simp
end Go.Proofs.Tg
namespace Go.Proofs.Tg.Sx
open Go.RowKit Go.Gr Go.Sp Go.Ev Go.Mo Go.Qn
abbrev Rw:=Option Addr×Nat×List Int
def uF (r:Rw):Value:=.slice r.1 r.2.2.length r.2.1
def aGC (w0 w:World)(base:Nat)(rs:List Rw):Prop:=∀r∈rs,kP w0 r.1 r.2.2∨w.ownsRow base 3 1 (uF r) r.2.2.length (r.2.2.map vi)
theorem vT {w0 w:World}{base c:Nat}{A:Option Addr}{rs:List Rw}(hS:Sl w A rs.length 1 (rs.map uF))(hK:aGC w0 w base rs)(hb:Below w0.heap.size w0 w):jV w A (rs.map λr=>r.2.2):=by
 have _:=c
 refine⟨λi=>((rs.getD i (none,0,[])).1,(rs.getD i (none,0,[])).2.1),?_,λi hi=>?_⟩
 ·have e:(List.range (rs.map λr=>r.2.2).length).map (λi=>Value.slice (rs.getD i (none,0,[])).1 ((rs.map λr=>r.2.2).getD i []).length (rs.getD i (none,0,[])).2.1)=rs.map uF:=by
   refine dJ (by simp) λi h1 h2=>?_
   have hi:i<rs.length:=by simpa using h2
   simp[hi,uF]
  rw[e,aI];exact hS
 have hi':i<rs.length:=by simpa using hi
 have e1:rs.getD i (none,0,[])=rs[i]:=by simp[hi']
 have e2:(rs.map λr=>r.2.2).getD i []=rs[i].2.2:=by simp[hi']
 simp only[e1,e2]
 rcases hK rs[i] (aB _)with h|h
 ·exact h.keep hb
 exact Sl.own h
end Go.Proofs.Tg.Sx
section
namespace Go.Pm
def IsG (l:List (List Int)):Prop:=(l.headD []).length<=6/\l≠[]/\(∀a∈l,Perm (l.headD []).length a)/\Asc l/\Grp (l.headD []).length l
end Go.Pm
namespace Go.Proofs.Tg.Gp
open Go.RowKit Go.Gr Go.Sp Go.Ev Go.Pm
open Go.Proofs.Tg.Sx (Rw uF aGC vT)
structure Pre (n:Nat)(l:List (List Int))(k:Nat):Prop where
  perm:∀i (h:i<l.length),i<k->l[i].length<=6/\Perm n l[i]
  asc:∀i (h:i+1<l.length),i+1<k->lI (l[i]'(by omega)) l[i+1]<0
theorem Pre.succ {n:Nat}{l:List (List Int)}{k:Nat}(h:Pre n l k)(hk:k<l.length)(h6:l[k].length<=6)(hp:Perm n l[k])(ha:∀(_:0<k),lI (l[k-1]'(by omega)) l[k]<0):Pre n l (k+1):=by
 refine⟨λi hi hik=>?_,λi hi hik=>?_⟩
 ·by_cases he:i=k
  ·subst he;exact⟨h6,hp⟩
  exact h.perm i hi (by omega)
 by_cases he:i+1=k
 ·subst he;have:=ha (by omega);simpa using this
 exact h.asc i hi (by omega)
theorem aIk (w:World):jV w none []:=⟨λ_=>(none,0),Sl.nil _ _ _,λi hi=>by simp at hi⟩
structure aPP (w:World)(n:Nat)(l:List (List Int))(wr:World)(k:Nat)(A:Option Addr)(c:Nat)(rs:List Rw)(mb:Nat)(S:List (List Int)):Prop where
  below:Below w.heap.size w wr
  gen:sB n (rs.map λr=>r.2.2) S
  sub:∀g∈rs.map (λr=>r.2.2),g∈l
  all:∀i (h:i<l.length),i<k->Gen n (rs.map λr=>r.2.2) l[i]
  len:rs.length<=k
  own:wr.ownsRow w.heap.size 22 1 (.slice A rs.length c) rs.length (rs.map uF)
  ints:∀r∈rs,kP w r.1 r.2.2
  set:mB wr mb S.length n S
  low:w.heap.size<=mb
theorem nG (L:Option Addr)(cL:Nat)(l:List (List Int))(v:Bool)(w:World)(hL:jV w L l)(hl:l.length<=100000)(hll:∀x∈l,x.length<=1000)(hv:v=true↔IsG l):
    Calls Tryz.prog 37 #[.slice L l.length cL] w λe w'=>e=.returned (.bool v)/\Below w.heap.size w w':=by
  have HV:=zh hv;have HL:=zh hL;have HLL:=zh hll;obtain⟨j0,hj0,hjz0,hjz1,hjz2⟩:=info_parts kS;clear hv hL hll
  cases l with
  |nil=>
   obtain rfl:v=false:=cV (λh=>(HV.o.1 h).2.1 rfl);go_enter Tryz.func37,Tryz.ntmps37;go_wp2;go_ret;exact⟨rfl,bM _ _⟩
  |cons a0 l0=>
   obtain⟨l,hlE⟩:=eqx (a0::l0)
   have hpos:0<l.length:=by rw[<-hlE];simp
   have hn0:(l.headD []).length=l[0].length:=by subst hlE;rfl
   have hne:l≠[]:=by rw[<-hlE];simp
   rw[hlE]at HV HL HLL hl ⊢;clear hlE;obtain⟨n,hn⟩:=eqx (l[0].length)
   have HVN:Hid (v=true↔n<=6/\(∀a∈l,Perm n a)/\Asc l/\Grp n l):=zh (by
    rw[HV.o];unfold IsG;rw[hn0,hn]
    exact⟨λh=>⟨h.1,h.2.2⟩,λh=>⟨h.1,hne,h.2⟩⟩)
   obtain⟨ad,E0,ce0,rfl,hc0,hE0⟩:=HL.o.at hpos;rw[hn]at hc0;have hzl:((l.length:Int)==0)=false:=aG.2 (by omega)
   have p0:(0:Int)<(l.length:Int):=by omega
   have hc0':w.cell? ad=some (.slice E0 n ce0):=by
    have e:ad.add 0=ad:=by unfold Addr.add;split<;>simp_all
    rwa [e]at hc0
   clear hn0 hne hE0 HV;have HN:=zh hn;clear hn;go_enter Tryz.func37,Tryz.ntmps37;go_wp2;clear hc0 hc0'
   go_loopw [19] (λs19 wr=>∃k:Nat,s19=.int .i64 k/\k<=l.length/\Hid (Pre n l k)/\Below w.heap.size w wr) (λs19 _=>l.length-(intOf s19).toNat)
   case atStart=>exact⟨0,rfl,aW _,zh ⟨λi _ h=>by omega,λi _ h=>by omega⟩,bM _ _⟩
   case round=>
    obtain⟨wo,rfl⟩:∃wo:World,wo=wr:=⟨_,rfl⟩;obtain⟨k,rfl,hk,HPRE,hbo⟩:=hrel
    by_cases hkl:k<l.length
    ·obtain⟨ad',E,ce,had,hc,hE⟩:=(HL.o.keep hbo).at hkl
     injection had with had
     subst had
     have q0:(0:Int)<=(k:Int):=by omega
     have q1:(k:Int)<(l.length:Int):=by omega
     have q3:((k:Int)).toNat=k:=by omega
     have hxl:=HLL.o l[k] (aB _)
     by_cases hval:l[k].length<=6/\Perm l[k].length l[k]
     ·have HVL:=zh (qZ E ce l[k] true wo hE (by omega) ⟨λ_=>hval,λ_=>rfl⟩)
      by_cases hlen:l[k].length=n
      ·have hlb:((l[k].length:Int)!=(n:Int))=false:=by simp[hlen]
       have hpn:Perm n l[k]:=by rw[<-hlen];exact hval.2
       by_cases hk0:k=0
       ·have hg0:decide ((0:Int)<(k:Int))=false:=dF (by omega);have hg0':decide (0<k)=false:=dF (by omega);have HP2:=zh (HPRE.o.succ hkl hval.1 hpn (λh=>absurd h (by omega)));clear hval hpn hk0 hlen;generalize l[k]=x at*
        go_wp2_with (go_at_call 69;refine HVL.o.mono ?_;rintro e w1 ⟨rfl,hb1⟩)
        go_roundw
        case rel=>exact⟨k+1,by go_num,by omega,HP2,dW hbo hb1⟩
        case measure=>simp[intOf];omega
       obtain⟨m,hkm⟩:∃m,k=m+1:=⟨k-1,by omega⟩
       have hk1:m<l.length:=by omega
       obtain⟨ad',E1,ce1,had,hc1,hE1⟩:=(HL.o.keep hbo).at hk1
       injection had with had
       subst had;have hg0:decide ((0:Int)<(k:Int))=true:=dT (by omega);have hg0':decide (0<k)=true:=dT (by omega)
       have ww1:IntKind.i64.wrap ((k:Int)-1)=(m:Int):=by rw[IntWalk.i64_in _ (by omega)];omega
       have r0:(0:Int)<=(m:Int):=by omega
       have r1:(m:Int)<(l.length:Int):=by omega
       have r3:((m:Int)).toNat=m:=by omega
       have hyl:=HLL.o (l[m]'hk1) (aB _)
       have hcmp:=λV (h:Below wo.heap.size wo V)=>Gx.tU E1 E ce1 ce (l[m]'hk1) l[k] V (hE1.keep h) (hE.keep h) (by omega)
       by_cases hlt:lI (l[m]'hk1) l[k]<0
       ·have hd:decide (0<=lI (l[m]'hk1) l[k])=false:=dF (by omega)
        have HP2:=zh (HPRE.o.succ hkl hval.1 hpn (λ_=>(by
         have e:k-1=m:=by omega
         simp only[e]
         exact hlt)))
        clear hval hpn hlt hkm hk0 hlen;generalize lI (l[m]'hk1) l[k]=z at*;generalize l[m]'hk1=y at*;generalize l[k]=x at*;have HCM:Hid (∀V,Below wo.heap.size wo V->Calls Tryz.prog 35 #[.slice E1 y.length ce1,.slice E x.length ce] V λe w'=>e=.returned (.int .i64 z)/\V=w'):=zh hcmp;clear hcmp hE hE1
        go_wp2_with (first
          |(go_at_call 69;refine HVL.o.mono ?_;rintro e w1 ⟨rfl,hb1⟩
            have hc1:=gL hb1 hc1)
          |(go_at_call 35;refine(HCM.o _ hb1).mono ?_;rintro e w2 ⟨rfl,rfl⟩))
        go_roundw
        case rel=>exact⟨k+1,by go_num,by omega,HP2,dW hbo hb1⟩
        case measure=>simp[intOf];omega
       have hd:decide (0<=lI (l[m]'hk1) l[k])=true:=dT (by omega);obtain rfl:v=false:=cV (λh=>hlt ((HVN.o.1 h).2.2.1.lt hk1 hkl (by omega)));clear hval hpn hlt hkm hk0 hlen;generalize lI (l[m]'hk1) l[k]=z at*;generalize l[m]'hk1=y at*;generalize l[k]=x at*;have HCM:Hid (∀V,Below wo.heap.size wo V->Calls Tryz.prog 35 #[.slice E1 y.length ce1,.slice E x.length ce] V λe w'=>e=.returned (.int .i64 z)/\V=w'):=zh hcmp;clear hcmp hE hE1
       go_wp2_with (first
         |(go_at_call 69;refine HVL.o.mono ?_;rintro e w1 ⟨rfl,hb1⟩
           have hc1:=gL hb1 hc1)
         |(go_at_call 35;refine(HCM.o _ hb1).mono ?_;rintro e w2 ⟨rfl,rfl⟩))
       go_ret;exact⟨rfl,dW hbo hb1⟩
      have hlb:((l[k].length:Int)!=(n:Int))=true:=by simp;omega
      obtain rfl:v=false:=cV (λh=>hlen ((HVN.o.1 h).2.1 _ (aB _)).1);clear hval hlen;generalize l[k]=x at*
      go_wp2_with (go_at_call 69;refine HVL.o.mono ?_;rintro e w1 ⟨rfl,hb1⟩)
      go_ret;exact⟨rfl,dW hbo hb1⟩
     have HVL:=zh (qZ E ce l[k] false wo hE (by omega) (Iff.intro (λh=>by cases h) (λh=>absurd h hval)))
     obtain rfl:v=false:=cV (λh=>hval (by
      have h1:=HVN.o.1 h;have h2:=h1.2.1 l[k] (aB _);rw[h2.1]
      exact⟨h1.1,h2⟩))
     clear hval;generalize l[k]=x at*
     go_wp2_with (go_at_call 69;refine HVL.o.mono ?_;rintro e w1 ⟨rfl,hb1⟩)
     go_ret;exact⟨rfl,dW hbo hb1⟩
    obtain rfl:k=l.length:=by omega
    have hpl:∀a∈l,Perm n a:=λa ha=>by
     obtain⟨i,hi,rfl⟩:=bI ha;exact(HPRE.o.perm i hi hi).2
    have hn6:n<=6:=by
     have h1:=HPRE.o.perm 0 hpos hpos;have:=h1.2.1;omega
    have hasc:Asc l:=aNW λi hi=>HPRE.o.asc i hi hi
    have HVG:Hid (v=true↔Grp n l):=zh (by
     rw[HVN.o]
     exact⟨λh=>h.2.2.2,λh=>⟨hn6,hpl,hasc,h⟩⟩)
    have HPL:=zh hpl;have HND:=zh hasc.nodup;have HC0:Hid (∀V,Calls Tryz.prog 70 #[.int .i64 n,.slice none 0 0] V λe w'=>∃mb S,e=.returned (.map (some mb))/\sB n [] S/\mB w' mb S.length n S/\V.heap.size<=mb/\Below V.heap.size V w'):=zh (λV=>aBp none 0 n [] V (aIk V) (λg h=>absurd h (by simp)) hn6 (by simp));have HCL:Hid (∀V A c gs,jV V A gs->(∀g∈gs,Perm n g)->gs.length<=1000000->Calls Tryz.prog 70 #[.int .i64 n,.slice A gs.length c] V λe w'=>∃mb S,e=.returned (.map (some mb))/\sB n gs S/\mB w' mb S.length n S/\V.heap.size<=mb/\Below V.heap.size V w'):=zh (λV A c gs h1 h2 h3=>aBp A c n gs V h1 h2 hn6 h3)
    have dk:decide ((l.length:Int)<(l.length:Int))=false:=by simp
    clear hpl hasc HPRE HVN
    go_wp2_with (go_at_call 70;refine(HC0.o _).mono ?_;rintro e w1 ⟨mb,S,rfl,hIG,hS,hlow,hb1⟩)
    have hbw:=dW hbo hb1;have hlow':w.heap.size<=mb:=aR hbo.size hlow;clear dk HC0 hlow
    go_loopw [52,6,7] (λs52 s6 s7 wr=>∃(k:Nat) (A:Option Addr) (c:Nat) (rs:List Rw) (mb:Nat) (S:List (List Int)),s52=.int .i64 k/\k<=l.length/\s6=.slice A rs.length c/\s7=.map (some mb)/\Hid (aPP w n l wr k A c rs mb S)) (λs52 _ _ _=>l.length-(intOf s52).toNat)
    case atStart=>exact⟨0,none,0,[],mb,S,rfl,aW _,rfl,rfl,zh ⟨hbw,hIG,(λg h=>absurd h (by simp)),(λi _ h=>absurd h (by omega)),aA _,dR _ _ _ _,(λr h=>absurd h (by simp)),hS,hlow'⟩⟩
    case round=>
     clear hbw hIG hS hlow';obtain⟨wi,rfl⟩:∃wi:World,wi=wr:=⟨_,rfl⟩;obtain⟨k,A,c,rs,mb,S,rfl,hk2,rfl,rfl,HST⟩:=hrel;have hbi:=HST.o.below
     by_cases hkl2:k<l.length
     ·obtain⟨ad',E,ce,had,hc,hE⟩:=HL.o.at hkl2
      injection had with had
      subst had;have hc:=gL hbi hc
      have q0:(0:Int)<=(k:Int):=by omega
      have q1:(k:Int)<(l.length:Int):=by omega
      have q3:((k:Int)).toNat=k:=by omega
      have hpk:=HPL.o l[k] (aB _);have hlen:=hpk.1;have hdk:=qY hn6 hpk;have hky:=pB E ce l[k] wi (hE.keep hbi) (by omega);rw[hlen]at hc hky;have HKY:=zh hky;clear hky
      by_cases hin:l[k]∈S
      ·have hdec:decide (l[k]∈S)=true:=dT hin
       have HS2:Hid (∀V,Below wi.heap.size wi V->aPP w n l V (k+1) A c rs mb S):=zh (λV h=>
        ⟨dW hbi h,HST.o.gen,HST.o.sub,λi hi hik=>by
         by_cases he:i=k
         ·subst he;exact(HST.o.gen.2 _).1 hin
         exact HST.o.all i hi (by omega),Nat.le_succ_of_le HST.o.len,kL HST.o.own h (aA _),HST.o.ints,HST.o.set.below h HST.o.set.lt,HST.o.low⟩)
       have hset:=HST.o.set;clear hin hpk hlen hE;generalize l[k]=x at*
       go_wp2_with (go_at_call 71;refine HKY.o.mono ?_;rintro e w4 ⟨rfl,hb4⟩
                    have hlook:=(hset.below hb4 hset.lt).look hdk hdec)
       go_roundw
       case rel=>exact⟨k+1,A,c,rs,mb,S,by go_num,by omega,rfl,rfl,zh (HS2.o _ hb4)⟩
       case measure=>simp[intOf];omega
      have hdec:decide (l[k]∈S)=false:=dF hin;have hrl:=HST.o.len;have HIK:=zh hE
      have HSUB:Hid (∀g∈(rs++[(E,ce,l[k])]).map (λr=>r.2.2),g∈l):=zh (λg hg=>by
       rw[bH]at hg
       rcases aK.1 hg with h|h
       ·exact HST.o.sub g h
       rw[aN.1 h];exact aB _)
      have HPG:Hid (∀g∈(rs++[(E,ce,l[k])]).map (λr=>r.2.2),Perm n g):=zh (λg hg=>HPL.o g (HSUB.o g hg))
      have HALL:Hid (∀i (h:i<l.length),i<k+1->Gen n ((rs++[(E,ce,l[k])]).map λr=>r.2.2) l[i]):=zh (λi hi hik=>by
       by_cases he:i=k
       ·subst he;exact Gen.mem HPG.o (by simp)
       refine Gen.mono (λg hg=>?_) (HST.o.all i hi (by omega));rw[bH]
       exact bZ _ hg)
      have HRS:Hid (∀r∈rs++[(E,ce,l[k])],kP w r.1 r.2.2):=zh (λr hr=>by
       rcases aK.1 hr with h|h
       ·exact HST.o.ints r h
       rw[aN.1 h];exact HIK.o)
      have hset:=HST.o.set
      have hcr:uF (E,ce,l[k])=.slice E n ce:=by simp[uF,hlen]
      have HCR:=zh hcr;clear hin hpk hlen hE hcr;generalize l[k]=x at*
      have hrl2:rs.length<=100000:=by omega
      go_upto_region 18 with(first
        |(go_at_call 71;refine HKY.o.mono ?_;rintro e w4 ⟨rfl,hb4⟩
          have hlook:=(hset.below hb4 hset.lt).look hdk hdec)
        |(at_builtin
          have hown4:=kL HST.o.own hb4 (aA _);have hb4w:=dW hbi hb4;refine fR _ rfl _ _ 27 rfl w.heap.size 22 j0 (.slice none 0 0) 1 24 Tryz.underlying27 hj0 hjz0 hjz1 hjz2 rfl (by decide) (.slice A rs.length c) rs.length (rs.map uF) rfl (hown4.alloc _) ⟨w4.heap.size,0,none⟩ 1 1 [.slice E n ce] rfl rfl (cell_one_new _ _ _) (by simp[Value.oneCell']) (by simp only[maxLen];omega) (by omega) (by have:=hb4w.size;simp;omega) ?_;intro v' w5 hown5 hg5 _;obtain⟨A5,c5,hv5,_,_⟩:=Sl.of_own hown5;subst hv5;have hb5:=(hb4w.alloc hb4w.size (.cells #[.slice E n ce] 22)).grown hg5 (by have:=hb4w.size;simp;omega) (λj hj=>(hown4.lt j hj).1)
          have hown6:w5.ownsRow w.heap.size 22 1 (.slice A5 (rs++[(E,ce,x)]).length c5) (rs++[(E,ce,x)]).length ((rs++[(E,ce,x)]).map uF):=by
           rw[aC,bH,List.map_singleton,HCR.o];exact hown5
          have hL5:=vT (c:=c5) (Sl.own hown6) (λr hr=>.inl (HRS.o r hr):aGC w w5 w.heap.size _) hb5
          have hl5:((rs++[(E,ce,x)]).map λr=>r.2.2).length<=1000000:=by simp;omega
          have hcl:=HCL.o w5 A5 c5 _ hL5 HPG.o hl5;rw[aI]at hcl;have HCL5:=zh hcl
          have hrl5:(rs++[(E,ce,x)]).length=rs.length+1:=by simp
          clear hcl hL5 hl5)
        |(go_at_call 70
          have hcl2:=HCL5.o;rw[hrl5]at hcl2;refine hcl2.mono ?_;rintro e w6 ⟨mb6,S6,rfl,hIG6,hS6,hlow6,hb6⟩
          have hlenm:=λty=>mB.len hS6 ty))
      have hb6w:=dW hb5 hb6;have hlow6':w.heap.size<=mb6:=aR hb5.size hlow6;clear hlook HKY HCL5 hset
      by_cases hov:l.length<S6.length
      ·have d1:decide ((l.length:Int)<(S6.length:Int))=true:=dT (by omega);have d2:decide (l.length<S6.length)=true:=dT hov;obtain rfl:v=false:=cV (λh=>hIG6.over HSUB.o hov (HVG.o.1 h));clear hov;go_wp2;go_ret;exact⟨rfl,hb6w⟩
      have d1:decide ((l.length:Int)<(S6.length:Int))=false:=dF (by omega);have d2:decide (l.length<S6.length)=false:=dF hov;clear hov;go_wp2;go_roundw
      case rel=>exact⟨k+1,A5,c5,rs++[(E,ce,x)],mb6,S6,by go_num,by omega,by simp,rfl,zh ⟨hb6w,hIG6,HSUB.o,HALL.o,by simp;omega,kL hown6 hb6 (aA _),HRS.o,hS6,hlow6'⟩⟩
      case measure=>simp[intOf];omega
     obtain rfl:k=l.length:=by omega
     have dk:decide ((l.length:Int)<(l.length:Int))=false:=by simp
     have hlenm:=λty=>mB.len HST.o.set ty
     have hiff:=HST.o.gen.grp HND.o HPL.o HST.o.sub (λa ha=>by
      obtain⟨i,hi,rfl⟩:=bI ha
      exact HST.o.all i hi hi)
     have hq:((S.length:Int)==(l.length:Int))=v:=by
      cases v with
      |true=>exact fY.2 (by have:=hiff.2 (HVG.o.1 rfl);omega)
      |false=>exact aG.2 (λe=>by have:=HVG.o.2 (hiff.1 (by omega));cases this)
     have hq':(S.length==l.length)=v:=by
      cases v with
      |true=>simpa using hiff.2 (HVG.o.1 rfl)
      |false=>exact aG.2 (λe=>by have:=HVG.o.2 (hiff.1 e);cases this)
     clear hiff;go_wp2;go_ret;exact⟨rfl,HST.o.below⟩
end Go.Proofs.Tg.Gp
end
namespace Go.Proofs.Tg.Bk
open Go.RowKit Go.Gr Go.Sp Go.Ev Go.Maps Go.WideShapes Go.Pm Go.Mo
open Go.Proofs.Tg.Gp (lQ jU lF kS nG)
theorem oJ (z:Value)(n:Nat):madeCells #[z] n=(List.replicate n z).toArray:=by
 refine Array.ext ?_ λi h1 h2=>?_
 ·simp[gF]
 simp[madeCells,Nat.mod_one]
theorem uI (n:Nat)(hn:n<=1000000)(w:World):(Instr.makeSlice 27 (.int .i64 (n:Int)) (.int .i64 (n:Int))).run Tryz.prog w=.ok (.slice (some ⟨w.heap.size,0,none⟩) n n) (w.alloc (.cells (madeCells #[.slice none 0 0] n) 22)):=by
 obtain⟨i0,hi,hz0,hz1,hz2⟩:=info_parts kS
 have hr:=run_make (P:=Tryz.prog) w 27 22 i0 (.slice none 0 0) Tryz.underlying27 hi hz0 .i64 .i64 n n (by omega) (by omega) (by rw[hz2];omega) (by omega)
 rw[hz1,dI,dY]at hr
 exact hr
theorem aCT {w:World}{g:Nat}{l:List Int}(h:Blk w g 3 (kU l)):kP w (some ⟨g,0,none⟩) l:=by
 refine⟨by simp,λ_=>⟨_,rfl,h.lt,λj u hu=>?_⟩⟩
 rw[kI,bN,h.cell]
 simpa[kU]using hu
theorem nP {w:World}{g L:Nat}{rs:List lQ}(h:Blk w g 22 (rs.map (jU L)).toArray)(hr:lF w rs)(hL:∀r∈rs,r.2.length=L):jV w (some ⟨g,0,none⟩) (rs.map Prod.snd):=by
 refine⟨λi=>(some ⟨(rs.getD i (0,[])).1,0,none⟩,L),?_,λi hi=>?_⟩
 ·have e:(List.range (rs.map Prod.snd).length).map (λi=>Value.slice (some ⟨(rs.getD i (0,[])).1,0,none⟩) ((rs.map Prod.snd).getD i []).length L)=rs.map (jU L):=by
   refine dJ (by simp) λi h1 h2=>?_
   have hi:i<rs.length:=by simpa using h2
   have:=hL rs[i] (aB _);simp[hi,jU,this]
  rw[e,aI];refine⟨by simp,λ_=>⟨_,rfl,h.lt,λj u hu=>?_⟩⟩;rw[kI,bN,h.cell];simpa using hu
 have hi':i<rs.length:=by simpa using hi
 have e1:rs.getD i (0,[])=rs[i]:=by simp[hi']
 have e2:(rs.map Prod.snd).getD i []=rs[i].2:=by simp[hi']
 simp only[e1,e2];exact aCT (hr rs[i] (aB _))
def rB (n:Nat)(g l:List (List Int)):Int:=if szE n l≠0 then szE n l else if ¬l.Nodup then 10 else if ∃a∈g,¬lZ n a l then 8 else 0
def aIx (n:Nat)(g l:List (List Int))(w:World)(e:Ending)(w':World):Prop:=Below w.heap.size w w'/\
  ((rB n g l≠0/\e=.returned (.tuple #[.slice none 0 0,.int .i64 (rB n g l)]))∨(rB n g l=0/\∃q,e=.returned (.tuple #[.slice (some ⟨q,0,none⟩) g.length g.length,.int .i64 0])/\jV w' (some ⟨q,0,none⟩) (g.map λa=>img n a l)))
theorem aIy {n:Nat}{l:List (List Int)}(h:szE n l=0):(∀m∈l,m.length=n)/\0<l.length/\l.length<=64:=by
 unfold szE at h
 split at h
 ·cases h
 next h1=>
 split at h
 ·cases h
 next h2=>exact⟨λm hm=>cW λhx=>h1 ⟨m,hm,hx⟩,by omega,by omega⟩
structure aLK (w:World)(n:Nat)(g l:List (List Int))(wr:World)(q k:Nat)(rs:List lQ):Prop where
  below:Below w.heap.size w wr
  blk:Blk wr q 22 (rs.map (jU l.length)++List.replicate (g.length-k) (Value.slice none 0 0)).toArray
  rows:lF wr rs
  eq:rs.map Prod.snd=(g.take k).map λa=>img n a l
  acts:∀j (h:j<g.length),j<k->lZ n g[j] l
  low:w.heap.size<=q
theorem xN (xs:List Value)(m:Nat)(z u:Value)(h:0<m):(xs++List.replicate m z).set xs.length u=xs++[u]++List.replicate (m-1) z:=by
 obtain⟨m,rfl⟩:∃k,m=k+1:=⟨m-1,by omega⟩
 rw[cX _ _ (aA _),cP,dO,dL,cJ]
 rfl
theorem aFG (G L:Option Addr)(cG cL n:Nat)(g l:List (List Int))(w:World)(hG:jV w G g)(hg:∀a∈g,Perm n a)(hg0:0<g.length)(hgl:g.length<=1000)(hL:jV w L l)(hv:∀m∈l,oU m=true)(hn:n<=6)(hl:l.length<=1000):
    Calls Tryz.prog 39 #[.slice G g.length cG,.slice L l.length cL] w (aIx n g l w):=by
  have HG:=zh hG;have HP:=zh hg;have HL:=zh hL;have HV:=zh hv;obtain⟨a0,E0,c0',rfl,g0,hE0⟩:=hG.at hg0;rw[(hg _ (aB _)).1,show a0.add 0=a0 by simp[Addr.add]]at g0;have HSZ:=zh (uH L cL n l _ w hL (by omega) rfl);clear hG hg hL hv hE0
  have i0:(0:Int)<(g.length:Int):=by omega
  obtain⟨z,hz⟩:=eqx (szE n l);rw[hz]at HSZ
  by_cases hz0:z=0
  ·subst hz0;have HZ:=zh hz;obtain⟨hln,hl0,hl64⟩:=aIy hz
   have hd:∀m∈l,pY n 48 m:=λm hm=>by
    obtain⟨h1,h2⟩:=aGE (HV.o m hm);exact⟨hln m hm,λx hx=>by have:=h2 x hx;omega⟩
   obtain⟨q,hq⟩:∃q:Bool,q=true↔l.Nodup:=⟨decide l.Nodup,gR⟩
   have HPO:Hid (Calls Tryz.prog 41 #[.slice L l.length cL] w λe w'=>Below w.heap.size w w'/\(q=false->e=.returned (.tuple #[.map none,.bool false]))/\(q=true->∃mb,e=.returned (.tuple #[.map (some mb),.bool true])/\rS w' mb l.length n l/\w.heap.size<=mb)):=
     zh ((rT L cL n l q w HL.o hd hn hl hq).mono (by
      rintro e w' ⟨hb,h⟩;refine⟨hb,λhq=>?_,λhq=>?_⟩
      ·rcases h with⟨_,h2⟩|⟨h2,_⟩
       ·exact h2
       rw[hq]at h2;cases h2
      rcases h with⟨h2,_⟩|⟨_,h2⟩
      ·rw[hq]at h2;cases h2
      exact h2))
   have HQ:=zh hq;have HD:=zh hd;clear hz hln hq hd
   cases q with
   |false=>
    have HER:Hid (rB n g l=10):=zh (by
     unfold rB
     rw[aJ (by rw[HZ.o];simp),aQ (λh=>by have:=HQ.o.2 h;cases this)])
    go_enter Tryz.func39,Tryz.ntmps39
    go_wp2_with (first
      |(go_at_call 73;refine HSZ.o.mono ?_;rintro e w2 ⟨rfl,rfl⟩)
      |(go_at_call 41;refine HPO.o.mono ?_;rintro e w2 ⟨hb2,hr,_⟩;obtain rfl:=hr (by first|rfl|trivial)))
    go_ret2
    exact⟨hb2,.inl ⟨by rw[HER.o];decide,by rw[HER.o];rfl⟩⟩
   |true=>
    have hnd:=HQ.o.1 rfl;have HND:=zh hnd;have hmk:=uI g.length (by omega);clear hnd;go_enter Tryz.func39,Tryz.ntmps39
    go_wp2_with (first
      |(go_at_call 73;refine HSZ.o.mono ?_;rintro e w2 ⟨rfl,rfl⟩)
      |(go_at_call 41;refine HPO.o.mono ?_;rintro e w2 ⟨hb2,_,hr⟩;obtain⟨mb,rfl,hM2,hmb⟩:=hr (by first|rfl|trivial)))
    have hq0:w2.heap.size=w2.heap.size:=rfl;have B0:=Blk.new w2 22 (madeCells #[.slice none 0 0] g.length);have hal:=dX (bM w2.heap.size w2) (aA _) (.cells (madeCells #[.slice none 0 0] g.length) 22);have hM3:=hM2.below hal hM2.lt;have HMB:=zh hM3;have hb3:=dW hb2 hal;have hlow:=hb2.size;have H0:Hid (aLK w n g l (w2.alloc (.cells (madeCells #[.slice none 0 0] g.length) 22)) w2.heap.size 0 []):=zh ⟨hb3,by rw[oJ]at B0 ⊢;simpa using B0,λr hr=>absurd hr (by simp),by simp,λj _ h=>absurd h (by omega),hlow⟩;have hmlt:=hM3.lt
    have hm2:mb≠w2.heap.size:=by have:=hM2.lt;omega
    clear hmk B0 hal hb3 hM3 hb2;generalize hW:w2.alloc (.cells (madeCells #[.slice none 0 0] g.length) 22)=W at*;generalize w2.heap.size=qb at*;clear hW hM2 hq0
    go_loopw [35] (λs35 wr=>∃(k:Nat) (rs:List lQ),s35=.int .i64 k/\k<=g.length/\Hid (aLK w n g l wr qb k rs)/\Hid (rS wr mb l.length n l)) (λs35 _=>g.length-(intOf s35).toNat)
    case atStart=>exact⟨0,[],rfl,aW _,H0,HMB⟩
    case round=>
     clear H0 HMB hmlt;obtain⟨wo,rfl⟩:∃wo:World,wo=wr:=⟨_,rfl⟩;obtain⟨k,rs,rfl,hk,HST,HM⟩:=hrel;have hbo:=HST.o.below
     by_cases hkl:k<g.length
     ·obtain⟨ad,E,ce,had,hc0,hE⟩:=HG.o.at hkl
      injection had with had
      subst had;have hc:=gL hbo hc0;have hpk:=HP.o g[k] (aB _);rw[hpk.1]at hc
      have q0:(0:Int)<=(k:Int):=by omega
      have q1:(k:Int)<(g.length:Int):=by omega
      have q3:((k:Int)).toNat=k:=by omega
      have HSTAR:=zh (aCS E L ce cL n mb l.length g[k] l wo (hE.keep hbo) hpk (HL.o.keep hbo) HD.o hn hl HND.o HM.o)
      have HBAD:Hid (¬lZ n g[k] l->rB n g l=8):=zh (λh=>by
       unfold rB
       rw[aJ (by rw[HZ.o];simp),aJ (λh2=>h2 HND.o),aQ ⟨_,aB hkl,h⟩])
      have HSUC:Hid (lZ n g[k] l->∀j (h:j<g.length),j<k+1->lZ n g[j] l):=zh (λhx j h hj=>by
       by_cases he:j=k
       ·subst he;exact hx
       exact HST.o.acts j h (by omega))
      have HTK:Hid ((g.take (k+1)).map (λa=>img n a l)=(g.take k).map (λa=>img n a l)++[img n g[k] l]):=zh (by rw[aD hkl,bH];rfl)
      have HLN:Hid (rs.length=k):=zh (by
       have:=bK List.length HST.o.eq
       simpa[dA hk]using this)
      clear hpk hE hc0;generalize g[k]=x at*
      by_cases hact:lZ n x l
      ·have HSTAR:=zh (HSTAR.o.mono λ_ _ h=>h.yes hact)
       have hq4:∀V,Below wo.heap.size wo V->Blk V qb 22 (rs.map (jU l.length)++List.replicate (g.length-k) (Value.slice none 0 0)).toArray:=λV h=>HST.o.blk.keep h HST.o.blk.lt
       have hlen:(rs.map (jU l.length)++List.replicate (g.length-k) (Value.slice none 0 0)).length=g.length:=by
        have:=HLN.o;simp;omega
       obtain⟨old,hold⟩:∃old,(rs.map (jU l.length)++List.replicate (g.length-k) (Value.slice none 0 0))[k]?=some old:=⟨_,aF (by omega)⟩;have HOLD:=zh hold;have HQ4:=zh hq4;have HYES:=zh (HSUC.o hact);have hqlt:=HST.o.blk.lt;have HNE:Hid (wo.heap.size≠qb):=zh (by omega);clear hq4 hlen hold hact
       go_wp2_with (go_at_call 44;refine HSTAR.o.mono ?_;rintro e w4 ⟨hb4,rfl,hB4⟩
                    have c0:=(HQ4.o w4 hb4).cell k;have f0:=(HQ4.o w4 hb4).frozen k;rw[eB,HOLD.o]at c0;have HB4:=zh hB4
                    clear hB4)
       go_roundw
       case rel=>
        have hq4:=HQ4.o w4 hb4;refine⟨k+1,rs++[(wo.heap.size,img n x l)],by go_num,by omega,zh ⟨hJ (dW hbo hb4) HST.o.low _ _,?_,λr hr=>?_,?_,HYES.o,HST.o.low⟩,zh ?_⟩
        ·have h1:=hq4.set k (.slice (some ⟨wo.heap.size,0,none⟩) l.length l.length);rw[fT]at h1;have h2:=xN (rs.map (jU l.length)) (g.length-k) (.slice none 0 0) (.slice (some ⟨wo.heap.size,0,none⟩) l.length l.length) (by omega);rw[aI,HLN.o]at h2;rw[h2]at h1;rw[bH,Nat.sub_add_eq];exact h1
        ·rcases aK.1 hr with h|h
         ·have h3:=HST.o.rows r h;have h4:=h3.keep hb4 h3.lt;exact h4.far (λe=>aCP h4 hq4 (by decide) e) _
         rw[aN.1 h];exact HB4.o.far HNE.o _
        ·rw[bH,HST.o.eq,HTK.o];rfl
        have h1:=HM.o.below hb4 HM.o.lt;obtain⟨D,⟨es,clock,hh,r⟩,h2⟩:=h1;exact⟨D,⟨es,clock,(eZ _ _ _ _ hm2).trans hh,r⟩,h2⟩
       case measure=>simp[intOf];omega
      have HSTAR:=zh (HSTAR.o.mono λ_ _ h=>h.no hact);have he:=zh (HBAD.o hact);clear hact
      go_wp2_with (go_at_call 44;refine HSTAR.o.mono ?_;rintro e w4 ⟨hb4,rfl⟩)
      go_ret2
      exact⟨dW hbo hb4,.inl ⟨by rw[he.o];decide,by rw[he.o];rfl⟩⟩
     obtain rfl:k=g.length:=by omega
     have hE:rB n g l=0:=by
      unfold rB
      rw[aJ (by rw[HZ.o];simp),aJ (λh2=>h2 HND.o),aJ (by
       rintro⟨a,ha,hna⟩;obtain⟨j,hj,rfl⟩:=bI ha
       exact hna (HST.o.acts j hj hj))]
     have HER:=zh hE;have hB:=HST.o.blk;rw[cP,fE,eA]at hB
     have hLS:=nP hB HST.o.rows (λr hr=>by
      have h1:r.2∈rs.map Prod.snd:=gW hr;rw[HST.o.eq]at h1;obtain⟨a,_,h2⟩:=aM.1 h1
      rw[<-h2,zN])
     rw[HST.o.eq,eE]at hLS;have HLS:=zh hLS
     have dk:decide ((g.length:Int)<(g.length:Int))=false:=by simp
     clear hE hB hLS;go_wp2
     go_ret2
     exact⟨hbo,.inr ⟨HER.o,_,rfl,HLS.o⟩⟩
  have HER:Hid (rB n g l=z):=zh (by
   unfold rB
   rw[aQ (by rw[hz];exact hz0),hz])
  have dz:decide (z=0)=false:=dF hz0;have dz2:(z==0)=false:=aG.2 hz0;have HZ0:=zh hz0;clear hz hz0;go_enter Tryz.func39,Tryz.ntmps39
  go_wp2_with (go_at_call 73;refine HSZ.o.mono ?_;rintro e w2 ⟨rfl,rfl⟩)
  go_ret2
  exact⟨bM _ _,.inl ⟨by rw[HER.o];exact HZ0.o,by rw[HER.o];rfl⟩⟩
end Go.Proofs.Tg.Bk
