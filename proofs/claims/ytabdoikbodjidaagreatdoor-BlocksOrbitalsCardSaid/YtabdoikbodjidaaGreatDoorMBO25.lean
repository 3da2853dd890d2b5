/- Parts of the proof. -/
import Derived.Test.YtabdoikbodjidaaGreatDoorMBO24
set_option maxHeartbeats 64000000
set_option maxRecDepth 100000
namespace Go.Proofs.Tg.Iw
open Go.RowKit Go.Bw Go.Gr Go.Proofs.Tg
open Go.Proofs.Tg.Fi (TxS TxR Buf kY mG lM nI PT)
def pw (i:Nat):Nat:=CB^2^i
theorem aOF (A:Option Addr)(c:Nat)(l:List UInt8)(X:Option Addr)(cx x Wd:Nat)(w:World)(hT:TxS w A c l)(hX:NW w X cx x)(hn:(dg x).length<=1000)(hW:Wd<=100000)(hl:l.length<=1000000)(ht:PT w)(hpa:∀ad,A=some ad->0<ad.block):
    Calls Tryz.prog 200 #[.slice A l.length c,.slice X (dg x).length cx,.int .i64 (Wd:Nat)] w (kY A l (Dt.D x Wd) w):=by
  by_cases hx:x=0
  ·subst hx;rw[jS];exact aHB A c l X cx Wd w hT hW hl
  exact aKC A c l X cx x Wd w hT hX hx hn hW hl ht hpa
theorem aMK {x:Nat}(hx:(dg x).length<=1000)(W:Nat):(Dt.D x W).length<=W+19304:=by
 have:=aCE (N:=1016) hx (by decide) 0 W
 rw[jD,fV]at this
 omega
theorem wX {A:Option Addr}{l m:List UInt8}{w:World}:∀e w',kY A l m w e w'->∃v,e=.returned v:=λe w' h=>by obtain⟨_,_,rfl,_⟩:=h;exact⟨_,rfl⟩
theorem aDG (A:Option Addr)(c:Nat)(l:List UInt8)(X:Option Addr)(cx x Wd n cp:Nat)(P:Option Addr)(w:World)(hT:TxS w A c l)(hX:NW w X cx x)(hn:(dg x).length<=1000)(hW:Wd<=100000)(hl:l.length<=1000000)(ht:PT w)(hpa:∀ad,A=some ad->0<ad.block)(hp:n<=7)(h:n=0∨(dg x).length<=30):
    Calls Tryz.prog 180 #[.slice A l.length c,.slice X (dg x).length cx,.int .i64 (Wd:Nat),.slice P n cp] w (kY A l (Dt.D x Wd) w):=by
  have HS:=zh (aOF A c l X cx x Wd w hT hX hn hW hl ht hpa);have HR:=zh (wX (A:=A) (l:=l) (m:=Dt.D x Wd) (w:=w));generalize kY A l (Dt.D x Wd) w=Q at*;have y1:IntKind.i64.wrap ((n:Int)-1)=(n:Int)-1:=IntWalk.i64_in _ (by omega);generalize (dg x).length=nx at*;generalize l.length=nl at*;clear hT hX ht hpa
  by_cases h0:n=0
  ·subst h0
   have d1:decide (((0:Nat):Int)-1<0)=true:=by decide
   clear h;go_enter Tryz.func180,Tryz.ntmps180
   go_wp2_with (go_at_call 200;refine HS.o.mono ?_;rintro e w' h;obtain⟨v,rfl⟩:=HR.o _ _ h;have H:=zh h;clear h)
   exact H.o
  have d1:decide ((n:Int)-1<0)=false:=dF (by omega)
  have h30:nx<=30:=by omega
  have d2:decide ((nx:Int)<=30)=true:=dT (by omega);have d2':decide (nx<=30)=true:=dT h30;clear h h0;go_enter Tryz.func180,Tryz.ntmps180
  go_wp2_with (go_at_call 200;refine HS.o.mono ?_;rintro e w' h;obtain⟨v,rfl⟩:=HR.o _ _ h;have H:=zh h;clear h)
  exact H.o
theorem kY.before {A:Option Addr}{l m m':List UInt8}{w w1:World}{e:Ending}{w':World}(h:kY A l m w1 e w')(hb:Below w.heap.size w w1)(hm:m=m'):kY A l m' w e w':=by
 obtain⟨A',c',e,h1,h2⟩:=h
 subst hm
 exact⟨A',c',e,h1,(TxR.of hb).trans h2⟩
theorem aKD {A A':Option Addr}{w w':World}(hR:TxR A w A' w')(ht:PT w)(hpa:∀ad,A=some ad->0<ad.block):∀ad,A'=some ad->0<ad.block:=λad e=>by
 rcases hR.at' with e2|⟨g,e2,hg⟩
 ·exact hpa ad (by rw[<-e2];exact e)
 rw[e]at e2
 injection e2 with e2
 subst e2;exact aH ht.lt hg
end Go.Proofs.Tg.Iw
namespace Go.Proofs.Tg.Iw
open Go.RowKit Go.Bw Go.Gr Go.Proofs.Tg
open Go.Proofs.Tg.Fi (TxS TxR Buf kY mG lM nI PT sV tR)
theorem Buf.cell' {w:World}{g N:Nat}{t:TypeId}{vs:List Value}(h:Buf w g t N vs){i:Nat}(hi:i<vs.length):w.cell? ⟨g,i,none⟩=some vs[i]:=by
 obtain⟨cs,B,hs,ht⟩:=h.ex
 rw[B.cell i]
 have:(cs.toList.take vs.length)[i]?=some vs[i]:=by rw[ht,aF hi]
 rw[fU,aQ hi]at this
 rw[<-this,gK]
end Go.Proofs.Tg.Iw
namespace Go.Proofs.Tg.Iw
open Go.RowKit Go.Bw Go.Gr Go.Proofs.Tg
open Go.Proofs.Tg.Fi (TxS TxR Buf kY mG lM nI PT aBQ)
theorem aHC (A:Option Addr)(c:Nat)(l:List UInt8)(X:Option Addr)(cx:Nat)(w:World)(hT:TxS w A c l)(hl:l.length<=600000):
    Calls Tryz.prog 148 #[.slice A l.length c,.slice X 0 cx] w (kY A l (Lib.decDigits 0) w):=by
  rw[Go.Qn.pK];obtain⟨A',c',w',hr,hT2,hR2⟩:=wW hT 48 (by omega);have HR:Hid ((Builtin.append_ #[150,150] 150 #[.slice A l.length c,.slice (some ⟨w.heap.size,0,none⟩) 1 1]).run Tryz.prog (w.alloc (.cells #[.int .u8 48] 5))=.ok (.slice A' (l.length+1) c') w'):=zh hr;have HEND:Hid (kY A l [48] w (.returned (.slice A' (l.length+1) c')) w'):=zh ⟨A',c',rfl,hT2,hR2⟩;generalize kY A l [48] w=Q at*;clear hr hT hT2 hR2;generalize l.length=nl at*
  have b0:(((0:Nat):Int)==0)=true:=by decide
  go_enter Tryz.func148,Tryz.ntmps148
  go_wp2_with (at_builtin;refine Fi.wpList_append_run _ rfl _ _ 150 150 rfl _ _ HR.o ?_)
  exact HEND.o
theorem aKE (A:Option Addr)(c:Nat)(l:List UInt8)(X:Option Addr)(cx x:Nat)(w:World)(hT:TxS w A c l)(hX:NW w X cx x)(h1:(dg x).length=1)(hl:l.length<=600000)(ht:PT w):
    Calls Tryz.prog 148 #[.slice A l.length c,.slice X (dg x).length cx] w (kY A l (Lib.decDigits x) w):=by
  have hx0:x≠0:=λe=>by rw[e,jS]at h1;simp at h1
  have hxB:x<18446744073709551616:=by
   have:=lC x
   rwa [h1,Nat.pow_one]at this
  obtain⟨ad,rfl,hc⟩:=lU.at' hX.wds (k:=0) (by omega)
  have hd:(dg x)[0]'(by omega)=x:=by
   have e:=lD hx0 hxB;simp[e]
  rw[hd]at hc
  have hc':w.cell? ad=some (.int .u64 (x:Nat)):=by simpa[Addr.add]using hc
  rw[h1];have HA:=zh (aBQ x A c l w hT hxB (by omega) ht);have HR:=zh (wX (A:=A) (l:=l) (m:=Lib.decDigits x) (w:=w));generalize kY A l (Lib.decDigits x) w=Q at*;clear hT hX h1 hd hc;generalize l.length=nl at*
  have b0:(((1:Nat):Int)==0)=false:=by decide
  have b1:(((1:Nat):Int)==1)=true:=by decide
  go_enter Tryz.func148,Tryz.ntmps148
  go_wp2_with (go_at_call 179;refine HA.o.mono ?_;rintro e w' h;obtain⟨v,rfl⟩:=HR.o _ _ h;have H:=zh h;clear h)
  exact H.o
theorem aHD (A:Option Addr)(c:Nat)(l:List UInt8)(X:Option Addr)(cx x:Nat)(w:World)(hT:TxS w A c l)(hX:NW w X cx x)(h2:2<=(dg x).length)(hn:(dg x).length<=28)(hl:l.length<=600000)(ht:PT w)(hpa:∀ad,A=some ad->0<ad.block):
    Calls Tryz.prog 148 #[.slice A l.length c,.slice X (dg x).length cx] w (kY A l (Lib.decDigits x) w):=by
  have hx0:x≠0:=λe=>by rw[e,jS]at h2;simp at h2
  rw[<-Dt.aNF hx0]
  have HSP:Hid (∀wr g,Below w.heap.size w wr->Calls Tryz.prog 180 #[.slice A l.length c,.slice X (dg x).length cx,.int .i64 0,.slice g 1 1] wr (kY A l (Dt.D x 0) w)):=zh (λwr g hb=>
   (aDG A c l X cx x 0 1 1 g wr (hT.keep hb) (hX.keep hb) (by omega) (by omega) (by omega) (ht.keep hb) hpa (by omega) (.inr (by omega))).mono λe w' h=>kY.before (A:=A) (l:=l) h hb rfl)
  have HR:=zh (wX (A:=A) (l:=l) (m:=Dt.D x 0) (w:=w));have HBB:Hid (Below w.heap.size w ((w.alloc (.cells #[.int .u64 10000000000000000000] 170)).alloc (.cells #[.slice (some ⟨w.heap.size,0,none⟩) 1 1] 116))):=zh ((bal).alloc (by simp) _);generalize kY A l (Dt.D x 0) w=Q at*;generalize (dg x).length=nx at*;clear hT hX ht hpa hx0;generalize l.length=nl at*;have b0:((nx:Int)==0)=false:=aG.2 (by omega);have b0':(nx==0)=false:=aG.2 (by omega);have b1:((nx:Int)==1)=false:=aG.2 (by omega);have b1':(nx==1)=false:=aG.2 (by omega);have d1:decide ((30:Int)<(nx:Int))=false:=dF (by omega);have d1':decide (30<nx)=false:=dF (by omega);go_enter Tryz.func148,Tryz.ntmps148;go_upto_block 0 with(fail);go_wp2
  go_loopw [5] (λs5 wr=>∃g,s5=.slice g 1 1/\Hid (Below w.heap.size w wr)) (λ_ _=>0)
  case atStart=>exact⟨_,rfl,HBB⟩
  obtain⟨g,rfl,HM⟩:=hrel
  go_wp2_with (go_at_call 180;refine(HSP.o _ _ HM.o).mono ?_;rintro e w' h;obtain⟨v,rfl⟩:=HR.o _ _ h;have H:=zh h;clear h)
  exact H.o
theorem aDH (A:Option Addr)(c:Nat)(l:List UInt8)(X:Option Addr)(cx x:Nat)(w:World)(hT:TxS w A c l)(hX:NW w X cx x)(hn:(dg x).length<=28)(hl:l.length<=600000)(ht:PT w)(hpa:∀ad,A=some ad->0<ad.block):
    Calls Tryz.prog 148 #[.slice A l.length c,.slice X (dg x).length cx] w (kY A l (Lib.decDigits x) w):=by
  by_cases h0:(dg x).length=0
  ·have:=mI h0;subst this;rw[jS];exact aHC A c l X cx w hT hl
  by_cases h1:(dg x).length=1
  ·exact aKE A c l X cx x w hT hX h1 hl ht
  exact aHD A c l X cx x w hT hX (by omega) hn hl ht hpa
end Go.Proofs.Tg.Iw
namespace Go.Proofs.Tg.Iw
open Go.RowKit Go.Bw Go.Gr Go.Proofs.Tg
open Go.Proofs.Tg.Fi (TxS TxR Buf kY mG lM nI PT)
theorem _root_.Go.Proofs.Tg.Blk.same' {w w':World}{g c:Nat}{t:TypeId}{cs:Array Value}{A A':Option Addr}{l:List UInt8}(B:Blk w g t cs)(hR:TxR A w A' w')(hT:TxS w A c l)(ht:t≠5:=by decide):Blk w' g t cs:=by
 refine(hR.kept.block g B.lt ?_).trans B
 cases A with
 |none=>simp
 |some ad=>
  obtain⟨b,rfl,⟨cs',B',_⟩,_⟩:=hT.own ad rfl;intro e
  injection e with e
  have e:g=b:=e;subst e;unfold Blk at B B';rw[B]at B'
  injection B' with B'
  injection B' with _ e2
  exact ht e2
theorem aFa (z:Int)(X A:Option Addr)(cx c:Nat)(l:List UInt8)(w:World)(hX:NW w X cx z.natAbs)(hT:TxS w A c l)(hn:(dg z.natAbs).length<=28)(hl:l.length<=500000)(ht:PT w)(hpa:∀ad,A=some ad->0<ad.block):
    Calls Tryz.prog 103 #[.agg #[.bool (decide (z<0)),.slice X (dg z.natAbs).length cx],.slice A l.length c] w (kY A l (Lib.itoa z) w):=by
  obtain⟨W,hW⟩:=eqx (w.alloc (.cells #[.bool (decide (z<0)),.slice X (dg z.natAbs).length cx] 118))
  have hbW:Below w.heap.size w W:=by rw[<-hW];exact bal
  have B0:Blk W w.heap.size 118 #[.bool (decide (z<0)),.slice X (dg z.natAbs).length cx]:=by rw[<-hW];exact Blk.new _ _ _
  have HR:=zh (wX (A:=A) (l:=l) (m:=Lib.itoa z) (w:=w))
  by_cases hz:z<0
  ·have e:Lib.itoa z=45::Lib.decDigits z.natAbs:=by unfold Lib.itoa;rw[aQ hz]
   rw[e]at HR ⊢;rw[dT hz]at hW B0 ⊢;obtain⟨A',c',w',hr,hT2,hR2⟩:=wW (hT.keep hbW) 45 (by omega);have hR3:=(TxR.of (A:=A) hbW).trans hR2;have HRUN:Hid ((Builtin.append_ #[150,150] 150 #[.slice A l.length c,.slice (some ⟨W.heap.size,0,none⟩) 1 1]).run Tryz.prog (W.alloc (.cells #[.int .u8 45] 5))=.ok (.slice A' (l.length+1) c') w'):=zh hr;have B1:=B0.same' hR2 (hT.keep hbW)
   have HAW:Hid (Calls Tryz.prog 148 #[.slice A' (l.length+1) c',.slice X (dg z.natAbs).length cx] w' (kY A l (45::Lib.decDigits z.natAbs) w)):=zh (by
    have:=aDH A' c' (l++[45]) X cx z.natAbs w' hT2 (hX.txr hT hR3) hn (by rw[aC];simp;omega) (aEZ ht hR3 hpa) (aKD hR3 ht hpa);rw[aC,dC]at this;refine this.mono ?_;rintro e w2 ⟨A2,c2,rfl,h1,h2⟩
    exact⟨A2,c2,by rw[aC,dC,bP];congr 2;omega,by simpa using h1,hR3.trans h2⟩)
   obtain⟨x0,x1,_,_⟩:=B0.two;obtain⟨k0,k1,_,_⟩:=B1.two;have HWW:=zh hW;generalize kY A l (45::Lib.decDigits z.natAbs) w=Q at*;generalize (dg z.natAbs).length=nx at*;clear hW hX hT ht hpa hT2 hR2 hR3 hr B0 B1 e;generalize l.length=nl at*;go_enter Tryz.func103,Tryz.ntmps103;go_upto_region 1 with(fail);rw[HWW.o]
   go_wp2_with (first
     |(at_builtin;refine Fi.wpList_append_run _ rfl _ _ 150 150 rfl _ _ HRUN.o ?_)
     |(go_at_call 148;refine HAW.o.mono ?_;rintro e w2 h;obtain⟨v,rfl⟩:=HR.o _ _ h;have H:=zh h;clear h))
   exact H.o
  have e:Lib.itoa z=Lib.decDigits z.natAbs:=by
   unfold Lib.itoa;rw[aJ hz,show z.toNat=z.natAbs by omega]
  rw[e]at HR ⊢;rw[dF hz]at hW B0 ⊢
  have HAW:Hid (Calls Tryz.prog 148 #[.slice A l.length c,.slice X (dg z.natAbs).length cx] W (kY A l (Lib.decDigits z.natAbs) w)):=zh
    ((aDH A c l X cx z.natAbs W (hT.keep hbW) (hX.keep hbW) hn (by omega) (ht.keep hbW) hpa).mono λe w' h=>kY.before (A:=A) (l:=l) h hbW rfl)
  obtain⟨x0,x1,_,_⟩:=B0.two;have HWW:=zh hW;generalize kY A l (Lib.decDigits z.natAbs) w=Q at*;generalize (dg z.natAbs).length=nx at*;clear hW hX hT ht hpa B0 e;generalize l.length=nl at*;go_enter Tryz.func103,Tryz.ntmps103;go_upto_region 1 with(fail);rw[HWW.o]
  go_wp2_with (go_at_call 148;refine HAW.o.mono ?_;rintro e w2 h;obtain⟨v,rfl⟩:=HR.o _ _ h;have H:=zh h;clear h)
  exact H.o
theorem aML (z:Int):Lib.itoa z≠[]:=by
 unfold Lib.itoa
 split
 ·simp
 exact Go.Qn.pS _
theorem TxS.cells {w:World}{A:Option Addr}{c:Nat}{l:List UInt8}(h:TxS w A c l)(hl:l≠[]):∃g,A=some ⟨g,0,none⟩/\∀j (hj:j<l.length),w.cell? ((⟨g,0,none⟩:Addr).add j)=some (.int .u8 (l[j].toNat:Int)):=by
 cases A with
 |none=>exact absurd (h.nil rfl).1 hl
 |some ad=>
  obtain⟨g,rfl,B,_⟩:=h.own ad rfl;refine⟨g,rfl,λj hj=>?_⟩
  have hj2:j<(Lib.byteCells l).length:=by rw[Lib.byteCells_length];exact hj
  rw[kI,bN,Buf.cell' B hj2];simp[Lib.byteCells]
theorem aOG (z:Int)(X:Option Addr)(cx:Nat)(w:World)(hX:NW w X cx z.natAbs)(hn:(dg z.natAbs).length<=28)(ht:PT w):
    Calls Tryz.prog 102 #[.agg #[.bool (decide (z<0)),.slice X (dg z.natAbs).length cx]] w λe w'=>e=.returned (.string (bs (Lib.itoa z)))/\Below w.heap.size w w':=by
  obtain⟨W,hW⟩:=eqx (w.alloc (.cells #[.bool (decide (z<0)),.slice X (dg z.natAbs).length cx] 118))
  have hbW:Below w.heap.size w W:=by rw[<-hW];exact bal
  have B0:Blk W w.heap.size 118 #[.bool (decide (z<0)),.slice X (dg z.natAbs).length cx]:=by rw[<-hW];exact Blk.new _ _ _
  have HA:Hid (Calls Tryz.prog 103 #[.agg #[.bool (decide (z<0)),.slice X (dg z.natAbs).length cx],.slice none 0 0] W λe w'=>∃g c',e=.returned (.slice (some ⟨g,0,none⟩) (Lib.itoa z).length c')/\(convert 150 9 (.slice (some ⟨g,0,none⟩) (Lib.itoa z).length c')).run Tryz.prog w'=.ok (.string ⟨(Lib.itoa z).toArray⟩) w'/\Hid (Below w.heap.size w w')):=zh (by
   refine(aFa z X none cx 0 [] W (hX.keep hbW) (Fi.TxS.zero W) hn (by simp) (ht.keep hbW) (λ_ h=>by cases h)).mono ?_;rintro e w' ⟨A',c',rfl,h1,h2⟩;rw[dB]at h1;obtain⟨g,rfl,hc⟩:=TxS.cells h1 (aML z)
   exact⟨g,c',by simp,run_convert_bytes_back (P:=Tryz.prog) w' 150 9 5 ⟨g,0,none⟩ c' (Lib.itoa z) Tryz.underlying150 Tryz.underlying5 Tryz.underlying9 hc,zh (dW hbW (h2.below (aA _) (λ_ h=>by cases h)))⟩)
  obtain⟨x0,x1,_,_⟩:=B0.two;have HWW:=zh hW;have HZ:Hid (bs (Lib.itoa z)=⟨(Lib.itoa z).toArray⟩):=zh rfl;rw[HZ.o];clear hW hX ht B0;generalize decide (z<0)=x at*;generalize (dg z.natAbs).length=nx at*;generalize Lib.itoa z=L at*;obtain⟨ln,hln⟩:=eqx (L.length);rw[hln]at HA;clear hln;go_enter Tryz.func102,Tryz.ntmps102;go_upto_region 1 with(fail);rw[HWW.o]
  go_wp2_with (go_at_call 103;refine HA.o.mono ?_;rintro e w2 ⟨g,c',rfl,hcv,hbe⟩)
  go_ret;exact⟨rfl,hbe.o⟩
end Go.Proofs.Tg.Iw
namespace Go.Proofs.Tg.Fi
open Go.RowKit Go.Rq Go.Qn Go.Proofs.Tg
theorem aDq (a b:Nat)(w:World)(ha:a<9000000000000000000)(hb:b<9000000000000000000):
    Calls Tryz.prog 91 #[.int .i64 a,.int .i64 b] w λe w'=>e=.returned (.int .i64 (Nat.gcd a b:Nat))/\Below w.heap.size w w':=by
  go_enter Tryz.func91,Tryz.ntmps91;go_wp2
  go_loopw [0,1] (λs0 s1 wr=>∃(x y:Nat),s0=.int .i64 x/\s1=.int .i64 y/\x<9000000000000000000/\y<9000000000000000000/\Hid (Nat.gcd x y=Nat.gcd a b)/\Below w.heap.size w wr) (λ_ s1 _=>(intOf s1).toNat)
  case atStart=>exact⟨a,b,rfl,rfl,ha,hb,zh rfl,bM _ _⟩
  case round=>
   obtain⟨wo,rfl⟩:∃wo:World,wo=wr:=⟨_,rfl⟩;obtain⟨x,y,rfl,rfl,hx,hy,HG,hbw⟩:=hrel
   by_cases h0:y=0
   ·subst h0;go_wp2;go_ret;refine⟨?_,hbw⟩;have:=HG.o;rw[iY]at this;rw[this];rfl
   have hne:((y:Int)!=0)=true:=by simp[h0]
   have hne':((y:Int)==0)=false:=by simp[h0]
   have hm:Int.tmod (x:Int) (y:Int)=((x%y:Nat):Int):=by rw[Int.ofNat_tmod]
   have hlt:x%y<y:=bL _ (by omega);have hw:IntKind.i64.wrap (((x%y:Nat):Int))=((x%y:Nat):Int):=IntWalk.i64_in _ (by omega);have HG2:Hid (Nat.gcd y (x%y)=Nat.gcd a b):=zh (by rw[<-HG.o,fN y (x%y),<-Nat.gcd_rec,fN]);generalize x%y=r at*;go_wp2
   go_quiet (fail)
   go_wp2;go_roundw
   case rel=>exact⟨y,r,rfl,rfl,hy,by omega,HG2,jX hbw _⟩
   case measure=>simp[intOf];omega
theorem rJ (n:Int):qtx (n:Rat)=bs (Lib.itoa n):=by
 unfold qtx
 rw[xX];rfl
theorem tS {q:Rat}(h:q.den≠1):qtx q=bs (Lib.itoa q.num++47::Lib.itoa (q.den:Int)):=by
 unfold qtx
 rw[xX,xX]
 unfold lN
 rw[aJ h,dF (show ¬((q.den:Nat):Int)<0 by omega)]
 simp
def mX (q:Rat)(w:World)(e:Ending)(w':World):Prop:=e=.returned (.string (qtx q))/\Below w.heap.size w w'
def z48:Array Value:=Array.replicate 48 (.int .u8 0)
theorem aMm (w:World):w.alloc (.cells #[.int .u8 0,.int .u8 0,.int .u8 0,.int .u8 0,.int .u8 0,.int .u8 0,.int .u8 0,.int .u8 0,.int .u8 0,.int .u8 0,.int .u8 0,.int .u8 0,.int .u8 0,.int .u8 0,.int .u8 0,.int .u8 0,.int .u8 0,.int .u8 0,.int .u8 0,.int .u8 0,.int .u8 0,.int .u8 0,.int .u8 0,.int .u8 0,.int .u8 0,.int .u8 0,.int .u8 0,.int .u8 0,.int .u8 0,.int .u8 0,.int .u8 0,.int .u8 0,.int .u8 0,.int .u8 0,.int .u8 0,.int .u8 0,.int .u8 0,.int .u8 0,.int .u8 0,.int .u8 0,.int .u8 0,.int .u8 0,.int .u8 0,.int .u8 0,.int .u8 0,.int .u8 0,.int .u8 0,.int .u8 0] 149)=w.alloc (.cells z48 149):=rfl
theorem Buf.cellAt {w:World}{g N:Nat}{t:TypeId}{l:List UInt8}(h:Buf w g t N (Lib.byteCells l))(_hl:l.length<=N):∀j (hj:j<l.length),w.cell? ((⟨g,0,none⟩:Addr).add j)=some (Value.int .u8 (l[j].toNat:Int)):=by
 intro j hj
 obtain⟨cs,B,hs,ht⟩:=h.ex
 rw[kI,bN,B.cell j]
 have hl2:(Lib.byteCells l).length=l.length:=by simp[Lib.byteCells]
 have e:(Lib.byteCells l)[j]?=some (Value.int .u8 (l[j].toNat:Int)):=by simp[Lib.byteCells,hj]
 rw[<-ht,hl2,gJ hj]at e
 simpa using e
theorem aJv (n:Int)(d:Nat)(hd:d≠0):Int.tdiv n ((Nat.gcd n.natAbs d:Nat):Int)=(mkRat n d).num/\Int.tdiv (d:Int) ((Nat.gcd n.natAbs d:Nat):Int)=((mkRat n d).den:Int):=by
 have hg:0<Nat.gcd n.natAbs d:=fI _ (by omega)
 rw[Rat.num_mkRat,Rat.den_mkRat,aJ hd,aJ hd,fN d]
 constructor
 ·rw[Int.tdiv_eq_ediv_of_dvd (Int.ofNat_dvd_left.2 (jJ _ _))]
 rw[<-iG]
theorem qK (n:Int)(d:Nat)(w:World)(hn:n.natAbs<9000000000000000000)(hd:d<9000000000000000000)(hd0:d≠0)(ht:PT w):
    Calls Tryz.prog 57 #[.int .i64 n,.int .i64 (d:Nat)] w (mX (mkRat n d) w):=by
  have hdn:decide ((d:Int)<0)=false:=dF (by omega);have HFI:=zh (λ(z:Int) (hz:z.natAbs<9000000000000000000) V (h:PT V)=>qI z (by omega) (by omega) V h)
  by_cases h1:d=1
  ·subst h1;have hq:mkRat n 1=(n:Rat):=Rat.ext (by rw[Rat.num_mkRat];simp) (by rw[Rat.den_mkRat];simp);rw[hq];have HQ:=zh (rJ n);have HT:=zh ht;clear hq ht hdn;unfold mX;go_enter Tryz.func57,Tryz.ntmps57;go_wp2_with (fail);refine(HFI.o n hn w HT.o).mono ?_;rintro e w2 ⟨rfl,hb⟩;go_wp2;go_ret;exact⟨by rw[HQ.o];rfl,hb⟩
  obtain⟨g,hg⟩:=eqx (Nat.gcd n.natAbs d);obtain⟨e1,e2⟩:=aJv n d hd0;obtain⟨f1,f2,_⟩:=aOY n d hd0;rw[hg]at e1 e2 f1 f2
  have hg0:g≠0:=by rw[<-hg];exact fM.1 (fI _ (by omega))
  have HG:=zh (λV=>aDq n.natAbs d V hn hd);rw[hg]at HG;obtain⟨q,hq⟩:=eqx (mkRat n d);rw[hq]at e1 e2 f1 f2 ⊢
  have b1:q.num.natAbs<9000000000000000000:=by rw[f1];exact bB (cF _ _) hn
  have b2:q.den<9000000000000000000:=by rw[f2];exact bB (cF _ _) hd
  have gne:((g:Int)==0)=false:=aG.2 (by omega)
  have d1:((d:Int)!=1)=true:=by simp;omega
  have w1:IntKind.i64.wrap q.num=q.num:=IntWalk.i64_in _ (by omega);have w2:IntKind.i64.wrap (q.den:Int)=(q.den:Int):=IntWalk.i64_in _ (by omega);have HT:=zh ht;have HI:=zh (rJ q.num);have HFR:=zh (tS (q:=q));have HW1:Hid (q.den=1->qtx q=bs (Lib.itoa q.num)):=zh (λh=>by rw[<-rJ,<-aHe h]);clear hg hq f1 f2 ht h1;unfold mX;generalize q.num=qn at*;generalize q.den=qd at*;generalize qtx q=T at*;obtain⟨m,hm⟩:=eqx (n.natAbs);rw[hm]at HG hn;have w0:IntKind.i64.wrap (-n)=-n:=IntWalk.i64_in _ (by omega)
  have hmx:max n (-n)=(m:Int):=by omega
  clear hm;go_enter Tryz.func57,Tryz.ntmps57;go_wp2_with (fail);refine(HG.o _).mono ?_;rintro e w3 ⟨rfl,hb3⟩;have HT3:Hid (∀k,PT (w3.drewN k)):=zh (λk=>HT.o.keep (jX hb3 k))
  by_cases hqd:qd=1
  ·have q1:((qd:Int)==1)=true:=by simp[hqd]
   have q1':(qd==1)=true:=by simp[hqd]
   have HF:=zh (HW1.o hqd);clear hqd;go_wp2
   go_quiet (fail)
   go_wp2_with (fail);refine(HFI.o qn b1 _ (HT3.o _)).mono ?_;rintro e w4 ⟨rfl,hb4⟩;go_wp2;go_ret;exact⟨by rw[HF.o];rfl,hb3.trans ((aBa hb4).mono hb3.size)⟩
  have q1:((qd:Int)==1)=false:=by simp;omega
  have q1':(qd==1)=false:=by simp;omega
  have HF:=zh (HFR.o hqd);clear hqd HFI HG;go_wp2
  go_quiet (fail)
  go_wp2_with (fail);rw[aMm];have HTA:=HT3.o nq;have hbq:Below w.heap.size w (w3.drewN nq):=jX hb3 nq;have hgl:=HTA.lt;have hws:(w3.drewN nq).heap.size=w3.heap.size:=rfl;generalize w3.drewN nq=V at*;obtain⟨W,hW⟩:=eqx (V.alloc (.cells z48 149))
  have hal:Below V.heap.size V W:=by rw[<-hW];exact bal
  have hB0:Buf W V.heap.size 149 48 []:=by rw[<-hW];exact⟨_,Blk.new _ _ _,by simp[z48],rfl⟩
  have HTW:=HTA.keep hal;obtain⟨gB,hgB⟩:=eqx (w3.heap.size);rw[hgB]at hws;rw[hws]at hB0 hgl;have l1:=Lib.itoa_length_le qn (by omega) (by omega);have l2:=Lib.itoa_length_le (qd:Int) (by omega) (by omega);have HA1:=aDp qn (by omega) (by omega) gB 48 149 [] W hB0 (by simp) HTW hgl;unfold mG at HA1;rw[List.length_nil,bN,dB]at HA1
  have HA2:=λV' h h2=>aDp (qd:Int) (by omega) (by omega) gB 48 149 (Lib.byteCells (Lib.itoa qn)++[.int .u8 47]) V' h (by simp[Lib.byteCells];omega) h2 hgl
  unfold mG at HA2
  have hbl:(Lib.byteCells (Lib.itoa qn)++[Value.int .u8 47]).length=(Lib.itoa qn).length+1:=by simp[Lib.byteCells]
  rw[hbl]at HA2
  have hxl:(Lib.byteCells (Lib.itoa qn)).length=(Lib.itoa qn).length:=by simp[Lib.byteCells]
  have htot:(Lib.itoa qn++47::Lib.itoa (qd:Int)).length=(Lib.itoa qn).length+1+(Lib.itoa (qd:Int)).length:=by simp;omega
  have hcel:Lib.byteCells (Lib.itoa qn)++[Value.int .u8 47]++Lib.byteCells (Lib.itoa (qd:Int))=Lib.byteCells (Lib.itoa qn++47::Lib.itoa (qd:Int)):=by simp[Lib.byteCells]
  rw[hcel,<-htot]at HA2;rw[hW,hgB];have HXL:=zh hxl;have HTOT:=zh htot;generalize Lib.itoa qn++47::Lib.itoa (qd:Int)=L at*;generalize Lib.byteCells (Lib.itoa qn)=X1 at*;generalize (Lib.itoa qn).length=k1 at*;generalize (Lib.itoa (qd:Int)).length=k2 at*;have HA1:=zh HA1;have HA2:=zh HA2;have hbW:=dW hbq hal
  have hgw:w.heap.size<=gB:=by rw[<-hws];exact hbq.size
  clear hW hB0 hbl hxl htot hcel hal hbq hb3 HT3 HT HTA HI HW1 HFR;refine HA1.o.mono ?_;rintro e w4 ⟨rfl,hB1,hT1⟩;have hpt1:=HTW.tk hT1 hgl;obtain⟨W2,hW2⟩:=eqx (w4.alloc (.cells #[.int .u8 47] 5))
  have hal2:Below w4.heap.size w4 W2:=by rw[<-hW2];exact bal
  have hcell:∀j v,[Value.int .u8 47][j]?=some v->W2.cell? ((⟨w4.heap.size,0,none⟩:Addr).add j)=some v:=by rw[<-hW2];exact yO w4 5 [.int .u8 47]
  have hsrc:=Src.ofSlice (P:=Tryz.prog) (w:=W2) (size:=1) (tx:=150) Tryz.underlying150 ⟨w4.heap.size,0,none⟩ 1 1 [.int .u8 47] rfl hcell (by simp[Value.oneCell']);obtain⟨hr,hB2,hT2⟩:=qJ (hB1.keep hal2) 150 150 _ _ _ hsrc (by rw[HXL.o];omega);rw[HXL.o]at hr hB2 hT2;have hpt2:=(hpt1.keep hal2).tk hT2 hgl;have HR:=zh hr;have HW2:=zh hW2;have HAA:=zh (HA2.o _ hB2 hpt2);have HTT:=zh ((hT1.then hal2).trans hT2);clear hr hB2 hT2 hsrc hcell hW2 hal2 hpt2 hpt1 hT1 hB1
  go_wp2_with (at_builtin;rw[HW2.o];refine wpList_append_run _ rfl _ _ 150 150 rfl _ _ HR.o ?_)
  refine HAA.o.mono ?_;rintro e w5 ⟨rfl,hB3,hT3⟩
  have hLl:L.length<=48:=by have:=HTOT.o;omega
  have hcv:=run_convert_bytes_back (P:=Tryz.prog) w5 150 9 5 ⟨gB,0,none⟩ 48 L Tryz.underlying150 Tryz.underlying5 Tryz.underlying9 (hB3.cellAt hLl);have HLL:=zh HTOT.o;have hBE:Hid (Below w.heap.size w w5):=zh (Tk.below hbW (HTT.o.trans hT3) hgw);have hll:L.length=k1+1+k2:=HTOT.o;obtain⟨kl,hkl⟩:=eqx (L.length);rw[hkl]at hcv ⊢;clear hll hkl hB3 hT3;go_wp2;go_ret;exact⟨by rw[HF.o];rfl,hBE.o⟩
end Go.Proofs.Tg.Fi
namespace Go.Proofs.Tg.Iw
open Go.RowKit Go.Bw Go.Gr Go.Proofs.Tg Go.Rq Go.Qn
open Go.Proofs.Tg.Fi (TxS TxR Buf kY mG lM nI PT rJ tS qI)
def aAS (z:Int)(w:World)(e:Ending)(w':World):Prop:=((e=.returned (.tuple #[.int .i64 z,.bool true])/\-9223372036854775808<=z/\z<=9223372036854775807)∨e=.returned (.tuple #[.int .i64 0,.bool false]))/\Below w.heap.size w w'
theorem aKF (x:Bool)(X:Option Addr)(cx:Nat)(w:World):Calls Tryz.prog 101 #[.agg #[.bool x,.slice X 0 cx]] w (aAS 0 w):=by
 have hbW:Below w.heap.size w (w.alloc (.cells #[.bool x,.slice X 0 cx] 118)):=bal
 have b0:(((0:Nat):Int)==0)=true:=by decide
 go_enter Tryz.func101,Tryz.ntmps101
 go_wp2
 go_ret2
 exact⟨.inl ⟨rfl,by omega,by omega⟩,hbW⟩
theorem aKG (z:Int)(x:Bool)(X:Option Addr)(cx n m:Nat)(w:World)(hc:∃ad,X=some ad/\w.cell? ad=some (.int .u64 (m:Nat)))(hn:2<=n):Calls Tryz.prog 101 #[.agg #[.bool x,.slice X n cx]] w (aAS z w):=by
 obtain⟨ad,rfl,hc⟩:=hc
 have hbW:Below w.heap.size w (w.alloc (.cells #[.bool x,.slice (some ad) n cx] 118)):=bal
 have c1:=oG hc (.cells #[.bool x,.slice (some ad) n cx] 118)
 have hl:=bQ w ad hc
 have b0:((n:Int)==0)=false:=aG.2 (by omega)
 have b0':(n==0)=false:=aG.2 (by omega)
 have q1:(0:Int)<(n:Int):=by omega
 have d1:decide ((1:Int)<(n:Int))=true:=dT (by omega)
 have d1':decide (1<n)=true:=dT (by omega)
 go_enter Tryz.func101,Tryz.ntmps101
 go_wp2
 go_ret2
 exact⟨.inr rfl,hbW⟩
theorem aMM (x:Bool)(X:Option Addr)(cx m:Nat)(w:World)(hc:∃ad,X=some ad/\w.cell? ad=some (.int .u64 (m:Nat)))(hm0:m≠0)(hm:m<18446744073709551616):Calls Tryz.prog 101 #[.agg #[.bool x,.slice X 1 cx]] w (aAS (if x then -(m:Int)else(m:Int)) w):=by
 obtain⟨ad,rfl,hc⟩:=hc
 have hbW:Below w.heap.size w (w.alloc (.cells #[.bool x,.slice (some ad) 1 cx] 118)):=bal
 have c1:=oG hc (.cells #[.bool x,.slice (some ad) 1 cx] 118)
 have hl:=bQ w ad hc
 have b0:(((1:Nat):Int)==0)=false:=by decide
 have d1:decide ((1:Int)<((1:Nat):Int))=false:=by decide
 have y1:IntKind.u64.wrap (-(m:Int))=18446744073709551616-(m:Int):=by
  have e:IntKind.u64.wrap (-(m:Int))=(-(m:Int))%18446744073709551616:=rfl;rw[e];omega
 cases x
 ·by_cases h:m<=9223372036854775807
  ·have d2:decide ((m:Int)<=9223372036854775807)=true:=dT (by omega);have y3:IntKind.i64.wrap (m:Int)=(m:Int):=IntWalk.i64_in _ (by omega);go_enter Tryz.func101,Tryz.ntmps101;go_wp2
   go_ret2
   exact⟨.inl ⟨rfl,by first|omega|(simp;done)|(simp;omega),by first|omega|(simp;done)|(simp;omega)⟩,hbW⟩
  have d2:decide ((m:Int)<=9223372036854775807)=false:=dF (by omega);go_enter Tryz.func101,Tryz.ntmps101;go_wp2
  go_ret2
  exact⟨.inr rfl,hbW⟩
 by_cases h:m<=9223372036854775808
 ·have d2:decide ((m:Int)<=9223372036854775808)=true:=dT (by omega)
  have y2:IntKind.i64.wrap (18446744073709551616-(m:Int))=-(m:Int):=by
   have e:(18446744073709551616-(m:Int))%18446744073709551616=18446744073709551616-(m:Int):=by omega
   unfold IntKind.wrap;simp[IntKind.signed,IntKind.bits,e];omega
  go_enter Tryz.func101,Tryz.ntmps101;go_wp2
  go_ret2
  exact⟨.inl ⟨rfl,by first|omega|(simp;done)|(simp;omega),by first|omega|(simp;done)|(simp;omega)⟩,hbW⟩
 have d2:decide ((m:Int)<=9223372036854775808)=false:=dF (by omega);go_enter Tryz.func101,Tryz.ntmps101;go_wp2
 go_ret2
 exact⟨.inr rfl,hbW⟩
theorem aPA (z:Int)(X:Option Addr)(cx:Nat)(w:World)(hX:NW w X cx z.natAbs):Calls Tryz.prog 101 #[.agg #[.bool (decide (z<0)),.slice X (dg z.natAbs).length cx]] w (aAS z w):=by
 by_cases h0:z=0
 ·subst h0
  show Calls _ _ #[.agg #[_,.slice X (dg 0).length cx]] _ _
  rw[jS];exact aKF _ X cx w
 have hn0:z.natAbs≠0:=by omega
 have hp:=kB.2 hn0
 obtain⟨ad,e,hc⟩:=lU.at' hX.wds hp
 have hc':w.cell? ad=some (.int .u64 ((dg z.natAbs)[0]:Nat)):=by simpa[Addr.add]using hc
 by_cases h1:(dg z.natAbs).length=1
 ·have hB:z.natAbs<18446744073709551616:=by
   have:=lC z.natAbs
   rwa [h1,Nat.pow_one]at this
  have hd:(dg z.natAbs)[0]=z.natAbs:=by
   have e:=lD hn0 hB;simp[e]
  rw[hd]at hc';have:=aMM (decide (z<0)) X cx z.natAbs w ⟨ad,e,hc'⟩ hn0 hB;rw[h1]
  have e2:(if decide (z<0)=true then -(z.natAbs:Int)else(z.natAbs:Int))=z:=by
   by_cases h:z<0
   ·rw[dT h,aQ rfl];omega
   rw[dF h,aJ (by decide)];omega
  rwa [e2]at this
 exact aKG z _ X cx _ _ w ⟨ad,e,hc'⟩ (by omega)
theorem aHE (n:Int)(h0:-9223372036854775808<=n)(h1:n<=9223372036854775807)(w:World)(ht:PT w):Calls Tryz.prog 32 #[.int .i64 n] w λe w'=>e=.returned (.string (bs (Lib.itoa n)))/\Below w.heap.size w w':=by
 have HF:=zh (qI n h0 h1 w ht)
 generalize bs (Lib.itoa n)=S at*
 clear ht
 go_enter Tryz.func32,Tryz.ntmps32
 go_wp2_with (go_at_call 63;refine HF.o.mono ?_;rintro e w' ⟨rfl,hb⟩)
 go_ret
 exact⟨rfl,hb⟩
theorem aKz {z:Int}(h:(dg z.natAbs).length<=28):(Lib.itoa z).length<=20000:=by
 have h2:=aMK (x:=z.natAbs) (by omega) 0
 unfold Lib.itoa
 by_cases h0:z.natAbs=0
 ·have:z=0:=by omega
  subst this;rw[aJ (by decide)];simp[Go.Qn.pK]
 rw[Dt.aNF h0]at h2
 split
 ·simp;omega
 rw[show z.toNat=z.natAbs by omega];omega
structure mJ (w:World)(q:Rat)(N:Option Addr)(cn:Nat)(D:Option Addr)(cd:Nat):Prop where
  num:NW w N cn q.num.natAbs
  den:NW w D cd (dnz q.den)
theorem mJ.keep {w w':World}{q:Rat}{N D:Option Addr}{cn cd:Nat}(h:mJ w q N cn D cd)(hb:Below w.heap.size w w'):mJ w' q N cn D cd:=⟨h.num.keep hb,h.den.keep hb⟩
def rval (q:Rat)(N:Option Addr)(cn:Nat)(D:Option Addr)(cd:Nat):Value:=.agg #[.bool (decide (q.num<0)),.slice N (dg q.num.natAbs).length cn,.bool false,.slice D (dg (dnz q.den)).length cd]
theorem aEY (q:Rat)(N D:Option Addr)(cn cd:Nat)(w:World)(h:mJ w q N cn D cd)(h1:q.den=1)(hn:(dg q.num.natAbs).length<=28)(ht:PT w):
    Calls Tryz.prog 60 #[.agg #[.bool (decide (q.num<0)),.slice N (dg q.num.natAbs).length cn,.bool false,.slice D 0 cd]] w λe w'=>e=.returned (.string (bs (Lib.itoa q.num)))/\Below w.heap.size w w':=by
  obtain⟨W,hW⟩:=eqx (w.alloc (.cells #[.bool (decide (q.num<0)),.slice N (dg q.num.natAbs).length cn,.bool false,.slice D 0 cd] 120))
  have hbW:Below w.heap.size w W:=by rw[<-hW];exact bal
  have HBW:=zh hbW
  have B0:Blk W w.heap.size 120 #[.bool (decide (q.num<0)),.slice N (dg q.num.natAbs).length cn,.bool false,.slice D 0 cd]:=by rw[<-hW];exact Blk.new _ _ _
  have HB0:=zh B0;have HZ:Hid (∀V,Calls Tryz.prog 94 #[.agg #[.bool false,.slice D 0 cd]] V λe w'=>e=.returned (.bool true)/\Below V.heap.size V w'):=zh (λV=>lW false D 0 cd V);have HI:=zh (λV (hb:Below W.heap.size W V)=>aPA q.num N cn V ((h.num.keep hbW).keep hb));have HF:=zh (λV (hb:Below W.heap.size W V) h0 h1=>aHE q.num h0 h1 V ((ht.keep hbW).keep hb));have HS:=zh (λV (hb:Below W.heap.size W V)=>aOG q.num N cn V ((h.num.keep hbW).keep hb) hn ((ht.keep hbW).keep hb));unfold aAS at HI;have HWW:=zh hW;clear hW hbW B0 h h1 hn ht;generalize decide (q.num<0)=x at*;generalize (dg q.num.natAbs).length=nx at*;generalize bs (Lib.itoa q.num)=S at*;generalize q.num=z at*;obtain⟨x0,x1,x2,x3,_,_,_,_⟩:=HB0.o.four;go_enter Tryz.func60,Tryz.ntmps60;go_upto_region 1 with(fail);rw[HWW.o]
  go_upto_region 2 with(go_at_call 94;refine(HZ.o _).mono ?_;rintro e w1 ⟨rfl,hb1⟩;have HB1:=zh hb1;have Y:=HB0.o.keep hb1 HB0.o.lt;obtain⟨x0,x1,x2,x3,_,_,_,_⟩:=Y.four;clear hb1 Y)
  go_wp2_with (fail);refine(HI.o _ HB1.o).mono ?_;rintro e w2 ⟨⟨rfl,h0,h1⟩|rfl,hb2⟩
  ·have HB2:=zh (dW HB1.o hb2);clear hb2
   go_wp2_with (go_at_call 32;refine(HF.o _ HB2.o h0 h1).mono ?_;rintro e w3 ⟨rfl,hb3⟩;have HB3:=zh (dW HB2.o hb3);clear hb3)
   go_ret;exact⟨rfl,dW HBW.o HB3.o⟩
  have HB2:=zh (dW HB1.o hb2);have Y:=HB0.o.keep HB2.o HB0.o.lt;obtain⟨x0,x1,x2,x3,_,_,_,_⟩:=Y.four;clear hb2 Y
  go_wp2_with (go_at_call 102;refine(HS.o _ HB2.o).mono ?_;rintro e w3 ⟨rfl,hb3⟩;have HB3:=zh (dW HB2.o hb3);clear hb3)
  go_ret;exact⟨rfl,dW HBW.o HB3.o⟩
end Go.Proofs.Tg.Iw
