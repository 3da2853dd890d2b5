/- Parts of the proof. -/
import Derived.Deep.Cut
import Derived.Deep.RegionHeld3
import Derived.Lib.IndexBytes
import Derived.Test.YtabdoikbodjidaaGreatDoorMBO1
set_option maxHeartbeats 64000000
set_option maxRecDepth 100000
namespace Go.Proofs.Tg
open Go.RowKit Go.Qn
def bs (l:List UInt8):ByteArray:=⟨l.toArray⟩
theorem oR (s:ByteArray):bs s.data.toList=s:=by cases s;rfl
theorem kG (l:List UInt8):(bs l).data.toList=l:=rfl
theorem kA (l:List UInt8):(bs l).size=l.length:=by show l.toArray.size=_;simp
theorem aCQ (s:ByteArray)(a b:Nat):s.extract a b=bs ((s.data.toList.drop a).take (b-a)):=by rw[<-oR (s.extract a b),Lib.extract_data]
theorem tJ (s:ByteArray)(a:Nat):s.extract a s.size=bs (s.data.toList.drop a):=by rw[<-oR (s.extract a s.size),Lib.extract_to_end]
theorem mF (s:ByteArray):s.data.toList.length=s.size:=by rw[jG];rfl
theorem aCj (s:ByteArray)(w:World)(hs:s.size<=4000):
    Calls Tryz.prog 202 #[.string s,.string ⟨#[45]⟩] w λe w'=>e=.returned (.bool (decide (s.data.toList.head?=some 45)))/\w=w':=by
  go_enter Tryz.func202,Tryz.ntmps202;go_wp2
  ·have h1:1<=(s.size:Int):=by assumption
   go_ret;refine⟨?_,rfl⟩
   show Ending.returned (.bool ((s.extract 0 1).toList==[45]))=_
   rw[Lib.toList_data,Lib.extract_data];have hl:=mF s
   congr 2
   cases hd:s.data.toList with
   |nil=>rw[hd]at hl;simp at hl;omega
   |cons c t=>by_cases hc:c=45<;>simp[hc]
  have h1:(s.size:Int)<1:=by assumption
  go_ret;refine⟨?_,rfl⟩;have hl:=mF s;have:s.data.toList=[]:=bV (by omega);rw[this];rfl
theorem aNu (s:ByteArray)(w:World)(hs:s.size<=4000)(h:s.data.toList.head?=some 45):
    Calls Tryz.prog 202 #[.string s,.string ⟨#[45]⟩] w λe w'=>e=.returned (.bool true)/\w=w':=
  (aCj s w hs).mono λe w' ⟨h1,h2⟩=>⟨by rw[h1,dT h],h2⟩
theorem aNv (s:ByteArray)(w:World)(hs:s.size<=4000)(h:s.data.toList.head?≠some 45):
    Calls Tryz.prog 202 #[.string s,.string ⟨#[45]⟩] w λe w'=>e=.returned (.bool false)/\w=w':=
  (aCj s w hs).mono λe w' ⟨h1,h2⟩=>⟨by rw[h1,dF h],h2⟩
theorem aIu (s:ByteArray)(w:World)(hs:s.size<=4000):
    Calls Tryz.prog 187 #[.string s,.string ⟨#[45]⟩] w λe w'=>e=.returned (.tuple #[.string (bs (cut s.data.toList).2),.bool (cut s.data.toList).1])/\w=w':=by
  by_cases h:s.data.toList.head?=some 45
  ·have h1:1<=(s.size:Int):=by
    have hl:=mF s
    cases hd:s.data.toList with
    |nil=>rw[hd]at h;cases h
    |cons c t=>rw[hd]at hl;simp at hl;omega
   have H:=zh h;clear h;go_enter Tryz.func187,Tryz.ntmps187
   go_wp2_with (go_at_call 202;refine(aNu _ _ hs H.o).mono ?_;rintro e w' ⟨rfl,rfl⟩)
   go_ret2
   refine⟨?_,rfl⟩;have H:=H.o
   show Ending.returned (.tuple #[.string (s.extract 1 s.size),.bool true])=_
   rw[tJ];unfold cut;rw[aQ H];simp
  have H:=zh h;clear h;go_enter Tryz.func187,Tryz.ntmps187
  go_wp2_with (go_at_call 202;refine(aNv _ _ hs H.o).mono ?_;rintro e w' ⟨rfl,rfl⟩)
  go_ret2
  refine⟨?_,rfl⟩;have H:=H.o
  show Ending.returned (.tuple #[.string s,.bool false])=_
  unfold cut;rw[aJ H,oR]
theorem aIv (s:ByteArray)(w:World)(hs:s.size<=4000):
    Calls Tryz.prog 161 #[.string s,.string ⟨#[45]⟩] w λe w'=>e=.returned (.tuple #[.string (bs (cut s.data.toList).2),.bool (cut s.data.toList).1])/\w=w':=by
  go_enter Tryz.func161,Tryz.ntmps161
  go_wp2_with (go_at_call 187;refine(aIu _ _ hs).mono ?_;rintro e w' ⟨rfl,rfl⟩)
  go_ret2
  exact⟨rfl,rfl⟩
theorem aLI {p:UInt8->Bool}(l:List UInt8)(k:Nat)(h:∀c∈l.take k,p c=true)(hx:l.length<=k∨∃h:k<l.length,p l[k]=false):l.takeWhile p=l.take k/\l.dropWhile p=l.drop k:=by
 have:=yK (p:=p) (l.take k) (l.drop k) h (by
  rcases hx with hx|⟨hk,hx⟩
  ·left;rw[List.drop_eq_nil_iff];exact hx
  right;exact⟨l[k],l.drop (k+1),by rw[bG hk],hx⟩)
 rwa [cY]at this
theorem aAf {c:UInt8}(h:isD c=true):(48:Int)<=(c.toNat:Int)/\(c.toNat:Int)<=57:=by rw[rO]at h;omega
set_option maxHeartbeats 1000000 in
theorem zE (s:ByteArray)(w:World)(hs:s.size<=4000):
    Calls Tryz.prog 162 #[.string s] w λe w'=>e=.returned (.tuple #[.string (bs (s.data.toList.takeWhile isD)),.string (bs (s.data.toList.dropWhile isD))])/\Below w.heap.size w w':=by
  go_enter Tryz.func162,Tryz.ntmps162;go_wp2
  go_loop [4] (λi=>∃k:Nat,k<=s.size/\i=.int .i64 k/\Hid (∀c∈s.data.toList.take k,isD c=true)) (λi=>s.size-(intOf i).toNat)
  case atStart=>exact⟨0,aW _,rfl,zh (by simp)⟩
  case round=>
   obtain⟨k,hk,rfl,HD⟩:=hrel;have hl:=zh (mF s)
   by_cases hlt:k<s.size
   ·by_cases hc:isD s[k]=true
    ·obtain⟨c1,c2⟩:=aAf hc
     have d1:decide ((48:Int)<=(s[k].toNat:Int))=true:=by simpa using c1
     have d2:decide ((s[k].toNat:Int)<=57)=true:=by simpa using c2
     have HD':Hid (∀c∈s.data.toList.take (k+1),isD c=true):=zh (by
      intro c hc';rw[aD (by rw[hl.o];exact hlt)]at hc'
      rcases aK.1 hc' with h|h
      ·exact HD.o c h
      simp only[bA,eH,iC]at h
      rw[h];exact hc)
     clear hc;go_wp2;go_round
     case rel=>exact⟨k+1,by omega,by go_num,HD'⟩
     case measure=>simp[intOf];omega
    have hx:(s[k].toNat:Int)<48∨57<(s[k].toNat:Int):=by
     rw[rO]at hc;omega
    have HX:Hid (s.data.toList.takeWhile isD=s.data.toList.take k/\s.data.toList.dropWhile isD=s.data.toList.drop k):=zh (aLI _ k HD.o (.inr ⟨by rw[hl.o];exact hlt,cV hc⟩));clear hc
    have q1:(k:Int)<=(s.size:Int):=by omega
    have q2:(0:Int)<=(k:Int):=by omega
    have q3:((k:Int)).toNat=k:=by omega
    rcases hx with hx|hx
    ·have d1:decide ((48:Int)<=(s[k].toNat:Int))=false:=by simp;omega
     go_wp2
     go_quiet (fail)
     go_wp2
     go_ret2
     refine⟨?_,jX brf _⟩
     show Ending.returned (.tuple #[.string (s.extract 0 k),.string (s.extract k s.size)])=_
     rw[aCQ,tJ,HX.o.1,HX.o.2];simp
    have d1:decide ((48:Int)<=(s[k].toNat:Int))=true:=by simp;omega
    have d2:decide ((s[k].toNat:Int)<=57)=false:=by simp;omega
    go_wp2
    go_quiet (fail)
    go_wp2
    go_ret2
    refine⟨?_,jX brf _⟩
    show Ending.returned (.tuple #[.string (s.extract 0 k),.string (s.extract k s.size)])=_
    rw[aCQ,tJ,HX.o.1,HX.o.2];simp
   obtain rfl:k=s.size:=by omega
   have HX:Hid (s.data.toList.takeWhile isD=s.data.toList.take s.size/\s.data.toList.dropWhile isD=s.data.toList.drop s.size):=zh (aLI _ s.size HD.o (.inl (by rw[hl.o];omega)))
   have q2:(0:Int)<=(s.size:Int):=by omega
   have q3:((s.size:Int)).toNat=s.size:=by omega
   have d0:decide (s.size<s.size)=false:=by simp
   go_wp2
   go_quiet (fail)
   go_wp2
   go_ret2
   refine⟨?_,jX brf _⟩
   show Ending.returned (.tuple #[.string s,.string ByteArray.empty])=_
   have h1:s.data.toList.take s.size=s.data.toList:=bF (by rw[hl.o];omega);have h2:s.data.toList.drop s.size=[]:=List.drop_eq_nil_iff.2 (by rw[hl.o];omega);rw[HX.o.1,HX.o.2,h1,h2,oR];rfl
end Go.Proofs.Tg
namespace Go.Proofs.Tg
open Go.RowKit Go.Gr Go.Ev Go.Mo
open Go.ChangeShapes Go.WideShapes
def vb (c:UInt8):Value:=.int .u8 (c.toNat:Int)
theorem uO:(Tryz.prog.info? 5).map (λi=>(i.zero,i.size,i.bytes))=some (some (.int .u8 0),1,1):=by kernel_rfl
theorem aIf (w:World)(A:Option Addr)(c:Nat)(l:List UInt8)(h:Sl w A l.length 1 (l.map vb)):(convert 150 9 (.slice A l.length c)).run Tryz.prog w=.ok (.string (bs l)) w:=by
 by_cases h0:l=[]
 ·subst h0
  cases A with
  |none=>exact run_convert_bytes_nil w _ 5 Tryz.underlying150 Tryz.underlying5 0 c _ Tryz.underlying9
  |some ad=>exact run_convert_bytes_back w _ _ 5 ad c [] Tryz.underlying150 Tryz.underlying5 Tryz.underlying9 (λj hj=>by simp at hj)
 obtain⟨ad,rfl,_,ha⟩:=h.lies (fF.2 h0)
 exact run_convert_bytes_back w _ _ 5 ad c l Tryz.underlying150 Tryz.underlying5 Tryz.underlying9 (λj hj=>ha j _ (by simp[hj,vb]))
end Go.Proofs.Tg
namespace Go.Proofs.Tg
open Go.RowKit Go.Gr
def vd (x:Nat):Value:=.int .u32 (x:Nat)
structure kN (w:World)(A:Option Addr)(xs:List Nat):Prop where
  sl:Sl w A xs.length 1 (xs.map vd)
  u32:0<xs.length->∀ad,A=some ad->∃cs fz,w.heap[ad.block]?=some (.cells cs 168 fz)
theorem kN.nil (w:World)(A:Option Addr):kN w A []:=⟨Sl.nil _ _ _,λh=>absurd h (by simp)⟩
theorem kN.keep {w w':World}{A:Option Addr}{xs:List Nat}(h:kN w A xs)(hb:Below w.heap.size w w'):kN w' A xs:=
  ⟨h.sl.keep hb,λhp ad e=>by
   obtain⟨cs,fz,hc⟩:=h.u32 hp ad e
   exact⟨cs,fz,(hb.block _ (cR.1 hc).1).trans hc⟩⟩
theorem kN.at {w:World}{A:Option Addr}{xs:List Nat}(h:kN w A xs){k:Nat}(hk:k<xs.length):∃ad,A=some ad/\w.cell? (ad.add k)=some (.int .u32 (xs[k]:Nat)):=by
 obtain⟨ad,rfl,hc⟩:=Sl.at1 h.sl hk
 exact⟨ad,rfl,by simpa[vd]using hc⟩
theorem kN.take {w:World}{A:Option Addr}{xs:List Nat}(h:kN w A xs)(k:Nat)(hk:k<=xs.length):kN w A (xs.take k):=by
 have hl:(xs.take k).length=k:=by rw[aS];omega
 refine⟨⟨by simp,λhp=>?_⟩,λhp=>h.u32 (by omega)⟩
 rw[hl]at hp
 obtain⟨ad,rfl,hlt,ha⟩:=h.sl.lies (by omega)
 refine⟨ad,rfl,hlt,λj u hu=>ha j u ?_⟩
 have hj:=(aX.1 hu).1
 rw[aI,hl]at hj
 rw[cK]at hu ⊢
 rwa [gJ hj]at hu
theorem aKW {w:World}{g:Nat}{cs:Array Value}{xs:List Nat}(h:Blk w g 168 cs)(hx:∀(j:Nat) u,(xs.map vd)[j]?=some u->cs[j]?=some u):kN w (some ⟨g,0,none⟩) xs:=
  ⟨⟨by simp,λ_=>⟨_,rfl,h.lt,λj u hu=>by rw[kI,bN,h.cell j];exact hx j u hu⟩⟩,λ_ ad e=>by
   injection e with e
   subst e
   exact⟨cs,(0,0),h⟩⟩
theorem tF {w:World}{g:Nat}{xs:List Nat}(h:Blk w g 168 (xs.map vd).toArray):kN w (some ⟨g,0,none⟩) xs:=aKW h (λj u hu=>by simpa using hu)
theorem aKX {w:World}{b n c:Nat}{A:Option Addr}{xs:List Nat}(h:w.ownsRow b 168 1 (.slice A n c) n (xs.map vd))(hn:n=xs.length):kN w A xs:=by
 subst hn
 refine⟨Sl.own h,λhp ad e=>?_⟩
 rcases h.2 with⟨h1,h2⟩|⟨g,cap,cur,h1,_,hg,_⟩
 ·injection h1 with h1
  rw[e]at h1;cases h1
 injection h1 with h1
 rw[e]at h1
 injection h1 with h1
 subst h1;exact⟨cur,(0,0),hg⟩
theorem kN.far {w:World}{A:Option Addr}{g:Nat}{xs:List Nat}(h:kN w A xs)(ho:Off A xs.length g)(i:Nat)(u:Value):kN (w.setCell ⟨g,i,none⟩ u) A xs:=
  ⟨Sl.far h.sl ho i u,λhp ad e=>by
   obtain⟨cs,fz,hc⟩:=h.u32 hp ad e;refine⟨cs,fz,?_⟩;rw[eZ _ _ _ _ (ho hp ad e)]
   exact hc⟩
theorem kN.put {w:World}{A:Option Addr}{xs:List Nat}(h:kN w A xs){p:Addr}{v:Value}(hp:w.cell? p=some v)(hv:v∉xs.map vd)(u:Value):kN (w.setCell p u) A xs:=
  ⟨Sl.put h.sl hp hv u,λhl ad e=>by
   obtain⟨cs,fz,hc⟩:=h.u32 hl ad e
   by_cases hg:ad.block=p.block
   ·refine⟨if p.spot.isSome then cs else cs.setIfInBounds p.off u,fz,?_⟩;simp[World.setCell,gM,<-hg,hc]
   exact⟨cs,fz,by rw[eZ _ _ _ _ hg];exact hc⟩⟩
theorem kN.off_ty {w:World}{A:Option Addr}{g:Nat}{t:TypeId}{xs:List Nat}{cs:Array Value}(h:kN w A xs)(B:Blk w g t cs)(hne:t≠168):Off A xs.length g:=by
 intro hp ad e hg
 obtain⟨cs',fz,hc⟩:=h.u32 hp ad e
 rw[hg]at hc
 unfold Blk at B
 rw[B]at hc
 injection hc with hc
 injection hc with _ ht
 exact hne ht
theorem kN.grown {w w':World}{A:Option Addr}{ys:List Value}{zs:List Nat}{b sz n:Nat}{t:TypeId}{v:Value}(h:kN w A zs)(ho:w.ownsRow b t sz v n ys)(hg:w.grownBy w' v.ownBlock)(hne:t≠168):kN w' A zs:=by
 have key:0<zs.length->∀ad,A=some ad->some ad.block≠v.ownBlock:=by
  intro hp ad e he;obtain⟨cs',fz,hc⟩:=h.u32 hp ad e
  rcases ho.2 with⟨rfl,_⟩|⟨g,cap,cur,rfl,_,hg',_⟩
  ·simp[Value.ownBlock]at he
  have:ad.block=g:=by simpa[Value.ownBlock]using he
  rw[this,hg']at hc
  injection hc with hc
  injection hc with _ ht
  exact hne ht
 refine⟨⟨h.sl.len,λhp=>?_⟩,λhp ad e=>?_⟩
 ·obtain⟨ad,e,hlt,ha⟩:=h.sl.lies hp
  refine⟨ad,e,aH hlt hg.size,λj u hu=>hg.cell (ha j u hu) (by rw[kK];exact key hp ad e)⟩
 obtain⟨cs,fz,hc⟩:=h.u32 hp ad e
 exact⟨cs,fz,(hg.block _ (cR.1 hc).1 (key hp ad e)).trans hc⟩
def tzl (xs:List Nat):Nat->Nat
  |0=>0
  |k+1=>if xs.getD k 0=0 then tzl xs k else k+1
theorem tE (xs:List Nat):∀k,tzl xs k<=k
  |0=>aA _
  |k+1=>by
   unfold tzl;have:=tE xs k
   split<;>omega
theorem aDR (A:Option Addr)(c:Nat)(xs:List Nat)(w:World)(hA:kN w A xs)(hn:xs.length<=1000000)(hc:xs.length<=c):
    Calls Tryz.prog 130 #[.slice A xs.length c] w λe w'=>e=.returned (.slice A (tzl xs xs.length) c)/\w=w':=by
  obtain⟨r,hr⟩:=eqx (tzl xs xs.length);rw[hr];have HR:Hid (tzl xs xs.length=r):=zh hr;clear hr;go_enter Tryz.func130,Tryz.ntmps130;go_wp2
  go_loop [0] (λs0=>∃k:Nat,s0=.slice A k c/\k<=xs.length/\Hid (tzl xs k=r)) (λs0=>match s0 with|.slice _ k _=>k|_=>0)
  case atStart=>exact⟨xs.length,rfl,aA _,HR⟩
  case round=>
   obtain⟨k,rfl,hk,HK⟩:=hrel
   cases k with
   |zero=>
    obtain rfl:r=0:=HK.o.symm;go_wp2;go_ret;exact⟨rfl,rfl⟩
   |succ k=>
    obtain⟨ad,rfl,hck⟩:=kN.at hA (k:=k) (by omega);have HX:Hid (xs.getD k 0=xs[k]):=zh (by simp[show k<xs.length by omega]);generalize xs[k]=x at hck HX
    by_cases hx:x=0
    ·subst hx;have HK2:Hid (tzl xs k=r):=zh (by have:=HK.o;unfold tzl at this;rwa [aQ HX.o]at this);go_wp2;go_round
     case rel=>exact⟨k,rfl,by omega,HK2⟩
     case measure=>simp
    have hb:((x:Int)==0)=false:=by simp[hx]
    have hb':(x==0)=false:=by simp[hx]
    obtain rfl:r=k+1:=by have:=HK.o;unfold tzl at this;rw[aJ (by rw[HX.o];exact hx)]at this;exact this.symm
    go_wp2;go_ret;exact⟨rfl,rfl⟩
theorem qC (b:Bool)(A:Option Addr)(n c:Nat)(w:World)(v:Bool)(hv:(b&&decide (0<n))=v)(hn:n<=1000000):
    Calls Tryz.prog 84 #[.bool b,.slice A n c] w λe w'=>e=.returned (.agg #[.bool v,.slice A n c])/\Below w.heap.size w w':=by
  have hbA:Below w.heap.size w (w.alloc (.cells #[.bool v,.slice A n c] 67)):=bal;have hB:=Blk.new w 67 #[.bool v,.slice A n c]
  cases b with
  |false=>
   obtain rfl:v=false:=by rw[<-hv];rfl
   obtain⟨a0,a1,_,_⟩:=hB.two;go_enter Tryz.func84,Tryz.ntmps84;go_wp2;exact aO (v:=.agg #[.bool false,.slice A n c]) (by simp[results,Tryz.results84,go_sem,a0,a1]) rfl ⟨rfl,hbA⟩
  |true=>
   obtain rfl:decide (0<n)=v:=by rw[<-hv];rfl
   obtain⟨a0,a1,_,_⟩:=hB.two
   by_cases h0:0<n
   ·have hd:decide ((0:Int)<(n:Int))=true:=by simp;omega
    have hd':decide (0<n)=true:=by simp;omega
    rw[hd']at a0 a1 hbA ⊢;clear hv hB;go_enter Tryz.func84,Tryz.ntmps84;go_wp2;exact aO (v:=.agg #[.bool true,.slice A n c]) (by simp[results,Tryz.results84,go_sem,a0,a1]) rfl ⟨rfl,hbA⟩
   have hd:decide ((0:Int)<(n:Int))=false:=by simp;omega
   have hd':decide (0<n)=false:=by simp;omega
   rw[hd']at a0 a1 hbA ⊢;clear hv hB;go_enter Tryz.func84,Tryz.ntmps84;go_wp2;exact aO (v:=.agg #[.bool false,.slice A n c]) (by simp[results,Tryz.results84,go_sem,a0,a1]) rfl ⟨rfl,hbA⟩
theorem aDS (b:Bool)(A:Option Addr)(n c:Nat)(w:World)(hn:n<=1000000)(s:Int)(hs:(if b=true then -1 else if n=0 then 0 else 1)=s):
    Calls Tryz.prog 85 #[.agg #[.bool b,.slice A n c]] w λe w'=>e=.returned (.int .i64 s)/\Below w.heap.size w w':=by
  have hbA:Below w.heap.size w (w.alloc (.cells #[.bool b,.slice A n c] 67)):=bal
  cases b with
  |true=>
   obtain rfl:s=-1:=by rw[<-hs];rfl
   clear hs;go_enter Tryz.func85,Tryz.ntmps85;go_wp2;go_ret;exact⟨rfl,hbA⟩
  |false=>
   by_cases h0:n=0
   ·subst h0
    obtain rfl:s=0:=by rw[<-hs];rfl
    clear hs;go_enter Tryz.func85,Tryz.ntmps85;go_wp2;go_ret;exact⟨rfl,hbA⟩
   obtain rfl:s=1:=by rw[<-hs,aJ (by simp),aJ h0]
   have hz:((n:Int)==0)=false:=aG.2 (by omega);have hz':(n==0)=false:=aG.2 h0;clear h0 hs;go_enter Tryz.func85,Tryz.ntmps85;go_wp2;go_ret;exact⟨rfl,hbA⟩
theorem aBd:(Tryz.prog.info? 168).map (λi=>(i.zero,i.size,i.bytes))=some (some (.int .u32 0),1,4):=by kernel_rfl
theorem sK (n:Nat)(hn:n<=1000000)(w:World):(Instr.makeSlice 65 (.int .i64 (n:Int)) (.int .i64 (n:Int))).run Tryz.prog w=.ok (.slice (some ⟨w.heap.size,0,none⟩) n n) (w.alloc (.cells (madeCells #[.int .u32 0] n) 168)):=by
 obtain⟨i0,hi,hz0,hz1,hz2⟩:=info_parts aBd
 have hr:=run_make (P:=Tryz.prog) w 65 168 i0 (.int .u32 0) Tryz.underlying65 hi hz0 .i64 .i64 n n (by omega) (by omega) (by rw[hz2];omega) (by omega)
 rw[hz1,dI,dY]at hr
 exact hr
theorem aFo (w:World):(Instr.makeSlice 65 (.int .i64 1) (.int .i64 1)).run Tryz.prog w=.ok (.slice (some ⟨w.heap.size,0,none⟩) 1 1) (w.alloc (.cells #[.int .u32 0] 168)):=by
 have e:madeCells #[Value.int .u32 0] 1=#[.int .u32 0]:=by kernel_rfl
 have:=sK 1 (by omega) w
 rw[e]at this
 exact this
theorem aLa (A:Option Addr)(c v d:Nat)(w:World)(hA:kN w A [v])(hv:v<4294967296)(hd:d<4294967296)(hd0:0<d):
    Calls Tryz.prog 127 #[.slice A 1 c,.int .u32 (d:Nat)] w λe w'=>e=.returned (.tuple #[.slice (some ⟨w.heap.size,0,none⟩) (tzl [v/d] 1) 1,.int .u32 ((v%d:Nat))])/\Blk w' w.heap.size 168 #[.int .u32 (v/d:Nat)]/\Below w.heap.size w w':=by
  have hmk:=λW=>aFo W
  obtain⟨ad,rfl,hc⟩:=kN.at hA (k:=0) (by simp)
  have hc:w.cell? ad=some (.int .u32 (v:Nat)):=by simpa[Addr.add]using hc
  have hlt:ad.block<w.heap.size:=bQ w _ hc
  have ho:bits BinOp.or IntKind.u64 0 (v:Int)=(v:Int):=by
   simp[bits]
   have e:(2:Int)^IntKind.u64.bits=18446744073709551616:=by decide
   rw[e,Int.emod_eq_of_lt (by omega) (by omega)];exact mA v (by omega)
  have hle:v/d<=v:=cF _ _;have hml:v%d<d:=bL _ hd0;obtain⟨q,hq⟩:=eqx (v/d);obtain⟨r,hr⟩:=eqx (v%d)
  have hq1:(v:Int)/(d:Int)=(q:Int):=by rw[<-hq];simp
  have hr1:(v:Int)%(d:Int)=(r:Int):=by rw[<-hr];simp
  rw[hq,hr];rw[hq]at hle;rw[hr]at hml;clear hq hr;have hq2:(q:Int)%4294967296=(q:Int):=Int.emod_eq_of_lt (by omega) (by omega);have hr2:(r:Int)%4294967296=(r:Int):=Int.emod_eq_of_lt (by omega) (by omega);have hq3:=mA q (by omega);have hB2:=Blk.new w 168 #[.int .u32 (q:Nat)];have hbA:Below w.heap.size w (w.alloc (.cells #[.int .u32 (q:Nat)] 168)):=bal;have hD:kN (w.alloc (.cells #[.int .u32 (q:Nat)] 168)) (some ⟨w.heap.size,0,none⟩) [q]:=tF hB2;have HT:=zh (aDR (some ⟨w.heap.size,0,none⟩) 1 [q] _ hD (by simp) (by simp));have HB2:=zh hB2;clear hD hB2;go_enter Tryz.func127,Tryz.ntmps127;go_wp2;refine wp_loop_rounds 2 ?_;rw[rounds_succ];go_wp2_with (fail);rw[rounds_succ];go_wp2_with (fail);refine HT.o.mono ?_;rintro e _ ⟨rfl,rfl⟩;go_wp2
  go_ret2
  exact⟨rfl,HB2.o,hbA⟩
def uA (v:Nat):Nat:=if v=0 then 0 else uA (v/2)+1
termination_by v
decreasing_by omega
theorem oZ:uA 0=0:=by unfold uA;simp
theorem sL {v:Nat}(h:v≠0):uA v=uA (v/2)+1:=by rw[uA];simp[h]
theorem aLb {v:Nat}:uA v=1↔v=1:=by
 by_cases h:v=0
 ·subst h;rw[oZ]
 rw[sL h]
 by_cases h2:v/2=0
 ·rw[h2,oZ];omega
 rw[sL h2];omega
theorem aNb {v:Nat}:1<uA v↔1<v:=by
 by_cases h:v=0
 ·subst h;rw[oZ]
 rw[sL h]
 by_cases h2:v/2=0
 ·rw[h2,oZ];omega
 rw[sL h2];omega
theorem zZ:∀(n v:Nat),v<=n->uA v<=v
  |0,v,h=>by
   obtain rfl:v=0:=by omega
   rw[oZ];exact aA _
  |n+1,v,h=>by
   by_cases h0:v=0
   ·subst h0;rw[oZ];exact aA _
   rw[sL h0];have:=zZ n (v/2) (by omega);omega
theorem aDU (b:Bool)(A:Option Addr)(c v:Nat)(w:World)(hA:kN w A [v])(hv:v<4294967296):
    Calls Tryz.prog 133 #[.agg #[.bool b,.slice A 1 c]] w λe w'=>e=.returned (.int .i64 (uA v:Nat))/\Below w.heap.size w w':=by
  have hbA:Below w.heap.size w (w.alloc (.cells #[.bool b,.slice A 1 c] 67)):=bal;obtain⟨ad,rfl,ha⟩:=kN.at hA (k:=0) (by simp)
  have ha:w.cell? ad=some (.int .u32 (v:Nat)):=by simpa[Addr.add]using ha
  have hlt:ad.block<w.heap.size:=bQ w _ ha;have hle:=zZ v v (aA _);obtain⟨q,hq⟩:=eqx (uA v);rw[hq]at hle ⊢;have HQ:=zh hq;clear hA hq;go_enter Tryz.func133,Tryz.ntmps133;go_wp2
  go_loop [3,4] (λs3 s4=>∃k x:Nat,s3=.int .i64 k/\s4=.int .u32 x/\x<4294967296/\k<=q/\Hid (k+uA x=q)) (λ_ s4=>(intOf s4).toNat)
  case atStart=>exact⟨0,v,rfl,rfl,hv,aW _,zh (by rw[HQ.o];omega)⟩
  case round=>
   obtain⟨k,x,rfl,rfl,hx,hk,HK⟩:=hrel
   by_cases h0:x=0
   ·subst h0
    obtain rfl:k=q:=by have:=HK.o;rw[oZ]at this;omega
    go_wp2;go_ret;exact⟨rfl,hbA⟩
   have hd:decide ((0:Int)<(x:Int))=true:=by simp;omega
   have hd':decide (0<x)=true:=by simp;omega
   have HK2:Hid (k+1+uA (x/2)=q):=zh (by have:=HK.o;rw[sL h0]at this;omega)
   have hk1:k+1<=q:=by have:=HK2.o;omega
   have hx2:(x:Int).fdiv (2^min (Int.toNat 1) IntKind.u32.bits)=((x/2:Nat):Int):=by
    have e:(2:Int)^min (Int.toNat 1) IntKind.u32.bits=2:=by decide
    rw[e,Int.fdiv_eq_ediv_of_nonneg _ (by omega)];simp
   go_wp2;go_round
   case rel=>exact⟨k+1,x/2,by go_num,by simp,by omega,hk1,HK2⟩
   case measure=>simp[intOf];omega
def mg (v:Nat):List Nat:=if v=0 then[]else[v]
theorem aNc:mg 0=[]:=rfl
theorem aCH {v:Nat}(h:v≠0):mg v=[v]:=aJ h
theorem aBe {w:World}{g:Nat}{v:Nat}(h:Blk w g 168 #[.int .u32 (v:Nat)]):kN w (some ⟨g,0,none⟩) [v]:=
  tF (xs:=[v]) h
def dl (x:Nat):List Nat:=if x=1 then[]else mg x
end Go.Proofs.Tg
namespace Go.Proofs.Tg
open Go.RowKit Go.Gr Go.Qn
def ddg (v:Nat):List UInt8:=if v=0 then[]else Lib.decDigits v
theorem aKY (x r:Nat)(hr:r<10)(h:¬(x=0/\r=0)):ddg (10*x+r)=ddg x++[UInt8.ofNat (48+r)]:=by
 unfold ddg
 rw[aJ (by omega)]
 by_cases h0:x=0
 ·subst h0
  rw[aQ rfl,Lib.decDigits,jP (by omega)];simp
 rw[aJ h0,Lib.decDigits,dif_neg (by omega),show(10*x+r)/10=x by omega,show(10*x+r)%10=r by omega]
theorem mH (v j:Nat):v/10^j=10*(v/10^(j+1))+v/10^j%10:=by
 have:v/10^(j+1)=v/10^j/10:=by rw[bS,eJ]
 rw[this];omega
theorem aFl (b:Bool)(A:Option Addr)(c:Nat)(w:World):
    Calls Tryz.prog 82 #[.agg #[.bool b,.slice A 0 c]] w λe w'=>e=.returned (.string ⟨#[48]⟩)/\Below w.heap.size w w':=by
  have hbA:Below w.heap.size w (w.alloc (.cells #[.bool b,.slice A 0 c] 67)):=bal;go_enter Tryz.func82,Tryz.ntmps82;go_wp2;go_ret;exact⟨rfl,hbA⟩
theorem aFm (b:Bool)(A:Option Addr)(c v:Nat)(w:World)(hA:kN w A [v])(hv:v<1000000000)(hv0:v≠0):
    Calls Tryz.prog 82 #[.agg #[.bool b,.slice A 1 c]] w λe w'=>e=.returned (.string (bs (Lib.decDigits v)))/\Below w.heap.size w w':=by
  have hbA:Below w.heap.size w (w.alloc (.cells #[.bool b,.slice A 1 c] 67)):=bal;have HDV:Hid (ddg v=Lib.decDigits v):=zh (by unfold ddg;rw[aJ hv0])
  have HS:Hid (∀W,Below w.heap.size w W->Calls Tryz.prog 127 #[.slice A 1 c,.int .u32 1000000000] W λe w'=>e=.returned (.tuple #[.slice (some ⟨W.heap.size,0,none⟩) 0 1,.int .u32 (v:Nat)])/\Below W.heap.size W w'):=zh (λW hW=>by
   have h1:=aLa A c v 1000000000 W (hA.keep hW) (by omega) (by omega) (by omega);rw[cT hv,cU hv]at h1
   exact h1.mono λe w' ⟨h1,_,h3⟩=>⟨h1,h3⟩)
  obtain⟨i0,hi,hz0,hz1,hz2⟩:=info_parts aBd;obtain⟨ib,hib,hbz0,hbz1,hbz2⟩:=info_parts uO;clear hA hv0;go_enter Tryz.func82,Tryz.ntmps82;go_wp2;refine wp_loop_rounds 2 ?_;rw[rounds_succ]
  go_wp2_with (first
    |(go_at_call 127;refine(HS.o _ hbA).mono ?_;rintro e w1 ⟨rfl,hb1⟩;have hs1:w.heap.size+1<=w1.heap.size:=by(have:=hb1.size;simpa using this))
    |(at_builtin;refine fR _ rfl _ _ 65 rfl w.heap.size 168 i0 (.int .u32 0) 1 4 Tryz.underlying65 hi hz0 hz1 hz2 rfl (by decide) (.slice none 0 0) 0 [] rfl (dR _ _ _ _) ⟨w1.heap.size,0,none⟩ 1 1 [.int .u32 v] rfl rfl ?c1 ?c2 ?c3 ?c4 ?c5 ?_
      case c1=>exact cell_one_new _ _ _
      case c2=>simp[Value.oneCell']
      case c3=>simp only[maxLen];omega
      case c4=>omega
      case c5=>simp;omega
      intro v' w2 hown' hgrow _;obtain⟨R,cr,hvv,hcr,hS⟩:=Sl.of_own hown'
      subst hvv))
  have hb1':=hbA.trans (hb1.mono (by simp));have hb2:Below w.heap.size w w2:=(hb1'.alloc hb1'.size _).grown hgrow (by simp;have:=hb1'.size;omega) (λk hk=>by simp[Value.ownBlock]at hk);obtain⟨pd,rfl,hp0⟩:=Sl.at1 hS (k:=0) (by simp)
  have hp:w2.cell? pd=some (.int .u32 (v:Nat)):=by simpa[Addr.add]using hp0
  clear hp0;clear hgrow hS hb1 hb1' hbA;rw[rounds_succ];go_wp2;refine wp_loop_rounds 2 ?_;rw[rounds_succ];go_wp2
  go_loopw [7,9] (λs7 s9 wr=>∃(j dv:Nat) (O:Option Addr) (co:Nat) (L:List UInt8),s7=.slice O L.length co/\s9=.int .u32 dv/\j<=9/\dv<=100000000/\Hid (dv=10^j/10)/\Hid (L=ddg (v/10^j))/\L.length+j<=9/\wr.ownsRow w2.heap.size 5 1 (.slice O L.length co) L.length (L.map vb)/\Below w2.heap.size w2 wr) (λ_ s9 _=>(intOf s9).toNat)
  case atStart=>exact⟨9,100000000,none,0,[],rfl,rfl,by omega,by omega,zh (by decide),zh (by rw[cT (by simpa using hv)];rfl),by simp,dR _ _ _ _,bM _ _⟩
  case round=>
   obtain⟨wo,rfl⟩:∃wo:World,wo=wr:=⟨_,rfl⟩;obtain⟨j,dv,O,co,L,rfl,rfl,hj,hdv,HDD,HL,hLj,hown,hbr⟩:=hrel
   cases j with
   |zero=>
    obtain rfl:dv=0:=HDD.o;obtain⟨O',co',hvv,hcc,hS⟩:=Sl.of_own hown
    injection hvv with e1 e2 e3
    subst e1 e3;have hconv:=aIf wo O co L hS;have HF:Hid (L=Lib.decDigits v):=zh (by rw[HL.o,jD,fV,HDV.o]);clear hown hS hcc;go_wp2;rw[rounds_succ];go_wp2;go_ret;have hf:=HF.o;subst hf;exact⟨rfl,dW hb2 hbr⟩
   |succ j=>
    have e10:10^(j+1)/10=10^j:=by rw[bS];omega
    have hpos:0<10^j:=eK (by omega);have hdv':=HDD.o;rw[e10]at hdv'
    have hdp:0<dv:=by omega
    have HPS:=zh (mH v j);have hrl:v/dv%10<10:=bL _ (by omega);have hql:v/dv<=v:=cF _ _;rw[<-hdv']at HPS;have HDV2:=zh hdv';clear hdv' hpos e10;obtain⟨q,hq⟩:=eqx (v/dv);obtain⟨r,hr⟩:=eqx (q%10)
    have hq1:(v:Int)/(dv:Int)=(q:Int):=by rw[<-hq];simp
    have hr1:(q:Int)%10=(r:Int):=by rw[<-hr];simp
    rw[hq,hr]at HPS hrl;rw[hq]at hql;have HQ:Hid (v/10^j=q):=zh (by rw[<-HDV2.o];exact hq);obtain⟨x,hx⟩:=eqx (v/10^(j+1));rw[hx]at HL HPS;clear hx hq hr;have hcp:=gL hbr hp
    have hwr:((48:Int)+(r:Int))%4294967296=48+(r:Int):=by omega
    have hw8:((48:Int)+(r:Int))%256=48+(r:Int):=by omega
    obtain⟨dn,hdn⟩:=eqx (dv/10);have HDN:Hid (dn=10^j/10):=zh (by rw[<-hdn,HDV2.o])
    have hdn1:(dv:Int).tdiv 10=(dn:Int):=by rw[<-hdn];exact(iG dv 10).symm
    have hdn2:(dv:Int)/10=(dn:Int):=by rw[<-hdn];simp
    have hdnl:dn<dv:=by omega
    clear hdn
    have HX0:Hid (L=[]↔x=0):=zh (by
     rw[HL.o];unfold ddg
     by_cases h:x=0
     ·simp[h]
     simp only[h,iff_false]
     exact Qn.pS x)
    have hsz:=hbr.size
    by_cases hz:x=0/\r=0
    ·have HL2:Hid (L=ddg (v/10^j)):=zh (by rw[HQ.o,HPS.o,HL.o,hz.1,hz.2]);have hL0:=HX0.o.2 hz.1
     have hd0:decide ((0:Int)<(L.length:Int))=false:=by rw[hL0];rfl
     have hd0':decide (0<L.length)=false:=by rw[hL0];rfl
     have hr0:((48:Int)+(r:Int)!=48)=false:=by rw[hz.2];rfl
     clear HL HPS hL0 hz;go_wp2;go_roundw
     case rel=>exact⟨j,dn,O,co,L,rfl,rfl,by omega,by omega,HDN,HL2,by omega,hown,hbr⟩
     case measure=>simp[intOf];omega
    have HL2:Hid (L++[UInt8.ofNat (48+r)]=ddg (v/10^j)):=zh (by rw[HQ.o,HPS.o,aKY x r hrl hz,HL.o])
    have hvb:Value.int .u8 (48+(r:Int))=vb (UInt8.ofNat (48+r)):=by
     have:(UInt8.ofNat (48+r)).toNat=48+r:=Qn.toNat_ofNat _ (by omega);unfold vb;rw[this];simp
    have HVB:=zh hvb;clear hvb
    by_cases hL0:L=[]
    ·have hr0:((48:Int)+(r:Int)!=48)=true:=by
      have hx0:=HX0.o.1 hL0;simp;omega
     have hd0:decide ((0:Int)<(L.length:Int))=false:=by rw[hL0];rfl
     have hd0':decide (0<L.length)=false:=by rw[hL0];rfl
     clear HL HPS hz hL0
     go_wp2_with (at_builtin;refine fR _ rfl _ _ 150 rfl w2.heap.size 5 ib (.int .u8 0) 1 1 Tryz.underlying150 hib hbz0 hbz1 hbz2 rfl (by decide) (.slice O L.length co) L.length (L.map vb) rfl (hown.alloc _) ⟨wo.heap.size,0,none⟩ 1 1 [.int .u8 (48+(r:Int))] rfl rfl ?c1 ?c2 ?c3 ?c4 ?c5 ?_
                  case c1=>exact cell_one_new _ _ _
                  case c2=>simp[Value.oneCell']
                  case c3=>simp only[maxLen];omega
                  case c4=>omega
                  case c5=>simp;omega
                  intro v' w3 hown' hgrow _)
     obtain⟨R,cr2,hvv,hcr2,hS⟩:=Sl.of_own hown';subst hvv;go_roundw
     case rel=>
      refine⟨j,dn,R,cr2,L++[UInt8.ofNat (48+r)],by simp,rfl,by omega,by omega,HDN,HL2,by simp;omega,?_,?_⟩
      ·rw[HVB.o]at hown';simpa using hown'
      exact(hbr.alloc hbr.size _).grown hgrow (by simp;omega) (λj hj=>(hown.lt j hj).1)
     case measure=>simp[intOf];omega
    have hLp:0<L.length:=fF.2 hL0
    have hd0:decide ((0:Int)<(L.length:Int))=true:=by simp;omega
    have hd0':decide (0<L.length)=true:=by simp;omega
    clear HL HPS hz hL0
    go_wp2_with (at_builtin;refine fR _ rfl _ _ 150 rfl w2.heap.size 5 ib (.int .u8 0) 1 1 Tryz.underlying150 hib hbz0 hbz1 hbz2 rfl (by decide) (.slice O L.length co) L.length (L.map vb) rfl (hown.alloc _) ⟨wo.heap.size,0,none⟩ 1 1 [.int .u8 (48+(r:Int))] rfl rfl ?c1 ?c2 ?c3 ?c4 ?c5 ?_
                 case c1=>exact cell_one_new _ _ _
                 case c2=>simp[Value.oneCell']
                 case c3=>simp only[maxLen];omega
                 case c4=>omega
                 case c5=>simp;omega
                 intro v' w3 hown' hgrow _)
    obtain⟨R,cr2,hvv,hcr2,hS⟩:=Sl.of_own hown';subst hvv;go_roundw
    case rel=>
     refine⟨j,dn,R,cr2,L++[UInt8.ofNat (48+r)],by simp,rfl,by omega,by omega,HDN,HL2,by simp;omega,?_,?_⟩
     ·rw[HVB.o]at hown';simpa using hown'
     exact(hbr.alloc hbr.size _).grown hgrow (by simp;omega) (λj hj=>(hown.lt j hj).1)
    case measure=>simp[intOf];omega
end Go.Proofs.Tg
