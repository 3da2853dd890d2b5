/- Parts of the proof. -/
import Derived.Test.YtabdoikbodjidaaGreatDoorMBO23
set_option maxHeartbeats 64000000
set_option maxRecDepth 100000
namespace Go.Dt
open Go.Lib
def wU (n:Nat):List UInt8:=if n=0 then[]else decDigits n
def D (n W:Nat):List UInt8:=List.replicate (W-(wU n).length) 48++wU n
theorem aKx (n:Nat)(h:10<=n):decDigits n=decDigits (n/10)++[UInt8.ofNat (48+n%10)]:=by
 rw[decDigits,dif_neg (by omega)]
theorem aBP (y d:Nat)(hd:d<10)(h:10*y+d≠0):wU (10*y+d)=wU y++[UInt8.ofNat (48+d)]:=by
 unfold wU
 rw[aJ h]
 by_cases hy:y=0
 ·subst hy
  rw[aQ rfl,dN,bN,decDigits_one hd]
  rfl
 rw[aJ hy,aKx _ (by omega)]
 have h1:(10*y+d)/10=y:=by omega
 have h2:(10*y+d)%10=d:=by omega
 rw[h1,h2]
theorem aAR (W:Nat):D 0 W=List.replicate W 48:=by simp[D,wU]
theorem aKy (y d W:Nat)(hd:d<10)(h:y≠0∨1<=W):D (10*y+d) W=D y (W-1)++[UInt8.ofNat (48+d)]:=by
 by_cases h0:10*y+d=0
 ·have hy:y=0:=by omega
  have hd0:d=0:=by omega
  subst hy hd0;rw[aAR,aAR]
  have hW:1<=W:=by rcases h with h|h;exact absurd rfl h;exact h
  have e:W=(W-1)+1:=by omega
  rw[e,fX]
  rfl
 unfold D
 rw[aBP y d hd h0,aC,dC,<-cJ]
 congr 2
 congr 1
 omega
theorem aGn:∀(k a b W:Nat),b<10^k->(a≠0∨k<=W)->D (a*10^k+b) W=D a (W-k)++D b k
  |0,a,b,W,hb,h=>by
   have:b=0:=by simp at hb;exact hb
   subst this;simp[aAR]
  |k+1,a,b,W,hb,h=>by
   obtain⟨y,d,hd,rfl⟩:∃y d,d<10/\b=10*y+d:=⟨b/10,b%10,bL _ (by omega),by omega⟩
   have hy:y<10^k:=by rw[bS]at hb;omega
   have e:a*10^(k+1)+(10*y+d)=10*(a*10^k+y)+d:=by
    rw[bS,<-aV,aT (a*10^k) 10];omega
   have hp:0<10^k:=eK (by decide)
   rw[e,aKy _ d W hd (by
    rcases h with h|h
    ·left
     have:=iJ (eG h) hp;omega
    right;omega),aGn k a y (W-1) hy (by omega),aKy y d (k+1) hd (by omega),cJ,iW]
   rw[show W-1-k=W-(k+1) by omega]
theorem wV:∀{k n:Nat},n<10^k->(wU n).length<=k
  |0,n,h=>by
   have:n=0:=by simp at h;exact h
   subst this;simp[wU]
  |k+1,n,h=>by
   by_cases hn:n=0
   ·subst hn;simp[wU]
   obtain⟨y,d,hd,rfl⟩:∃y d,d<10/\n=10*y+d:=⟨n/10,n%10,bL _ (by omega),by omega⟩
   have hy:y<10^k:=by rw[bS]at h;omega
   have:=wV hy;rw[aBP y d hd hn,aC];simp;omega
theorem aNF {n:Nat}(h:n≠0):D n 0=decDigits n:=by simp[D,wU,h]
theorem aMG (n k:Nat)(hk:1<=k):List.replicate (k-(decDigits n).length) 48++decDigits n=D n k:=by
 by_cases hn:n=0
 ·subst hn
  rw[aAR,Go.Qn.pK]
  have e:k=(k-1)+1:=by omega
  rw[e,fX];simp
 simp[D,wU,hn]
end Go.Dt
section
namespace Go.Proofs.Tg.Fi
open Go.RowKit Go.Proofs.Tg
theorem TxS.tk {w w':World}{A:Option Addr}{c g:Nat}{l:List UInt8}(h:TxS w A c l)(hk:Tk g w w')(hA:∀ad,A=some ad->ad.block≠g):TxS w' A c l:=
  ⟨h.nil,λad e=>by
   obtain⟨b,e2,⟨cs,B,r⟩,U⟩:=h.own ad e;have hne:=hA ad e;rw[e2]at hne;have hs:=hk.block b B.lt (by intro e3;injection e3 with e3;exact hne e3)
   exact⟨b,e2,⟨cs,hs.trans B,r⟩,U.same hs⟩,h.cap⟩
theorem TxS.lt {w:World}{A:Option Addr}{c:Nat}{l:List UInt8}(h:TxS w A c l):∀ad,A=some ad->ad.block<w.heap.size:=λad e=>by
 obtain⟨g,rfl,B,_⟩:=h.own ad e
 exact B.lt
theorem TxR.tk {A A':Option Addr}{w w' w'':World}{g:Nat}(h:TxR A w A' w')(hk:Tk g w' w'')(hg:w.heap.size<=g):TxR A w A' w'':=
  ⟨⟨hk.os.trans h.kept.os,hk.tape.trans h.kept.tape,hk.output.trans h.kept.output,aR h.kept.size hk.size,λk hl hn=>by
   rw[hk.block k (aH hl h.kept.size) (by intro e;injection e with e;omega),h.kept.block k hl hn]⟩,h.at'⟩
theorem TxR.then {A A':Option Addr}{w w' w'':World}(h:TxR A w A' w')(hk:Below w'.heap.size w' w''):TxR A w A' w'':=h.trans (TxR.of hk)
theorem Buf.nil {w:World}{g N:Nat}{t:TypeId}{xs:List Value}(h:Buf w g t N xs):Buf w g t N []:=by
 obtain⟨cs,B,h1,_⟩:=h.ex
 exact⟨cs,B,h1,by simp⟩
theorem Buf.kept {w w':World}{g N:Nat}{t:TypeId}{xs:List Value}{r:Option Nat}(h:Buf w g t N xs)(hk:w.grownBy w' r)(hne:some g≠r):Buf w' g t N xs:=by
 obtain⟨cs,B,h1⟩:=h.ex
 exact⟨cs,(hk.block g B.lt hne).trans B,h1⟩
theorem Buf.src {w:World}{g N:Nat}{t:TypeId}{l:List UInt8}(h:Buf w g t N (Lib.byteCells l))(c:Nat):Src Tryz.prog 1 150 (.slice (some ⟨g,0,none⟩) l.length c) l.length (Lib.byteCells l) w:=by
 obtain⟨cs,B,hsz,ht⟩:=h.ex
 refine Src.ofSlice (P:=Tryz.prog) (w:=w) (size:=1) (tx:=150) Tryz.underlying150 ⟨g,0,none⟩ l.length c (Lib.byteCells l) (by rw[Lib.byteCells_length];omega) (λj u hu=>?_) (by intro u' hu';simp only[Lib.byteCells,aM]at hu';obtain⟨b,_,rfl⟩:=hu';rfl)
 rw[kI,bN,B.cell]
 have hj:=(aX.1 hu).1
 rw[<-ht,fU,aQ hj]at hu
 rw[<-hu,gK]
theorem nI (w:World)(b:UInt8):Src Tryz.prog 1 150 (.slice (some ⟨w.heap.size,0,none⟩) 1 1) 1 (Lib.byteCells [b]) (w.alloc (.cells #[.int .u8 (b.toNat:Int)] 5)):=
  Src.ofSlice (P:=Tryz.prog) (size:=1) (tx:=150) _ Tryz.underlying150 ⟨w.heap.size,0,none⟩ 1 1 (Lib.byteCells [b]) rfl (yO w 5 [.int .u8 (b.toNat:Int)]) (by simp[Lib.byteCells,Value.oneCell'])
end Go.Proofs.Tg.Fi
namespace Go.Proofs.Tg.Iw
open Go.RowKit Go.Bw Go.Gr Go.Proofs.Tg
open Go.Proofs.Tg.Fi (TxS TxR Buf kY mG lM nI PT)
theorem mM.keepB {w w':World}{g c B:Nat}{ys:List Nat}(h:mM w g c ys)(hb:Below B w w')(hg:g<B):mM w' g c ys:=by
 obtain⟨rs,h1,h2⟩:=h.ex
 exact⟨⟨rs,(hb.block g hg).trans h1,h2⟩,h.le⟩
structure LpM (w0:World)(A0:Option Addr)(gc cc gb:Nat)(cs:List Nat)(ds:List UInt8)(wr:World)(A:Option Addr)(c:Nat)(l:List UInt8):Prop where
  tx:TxS wr A c l
  rel:TxR A0 w0 A wr
  ch:mM wr gc cc cs
  buf:Buf wr gb 256 20 (Lib.byteCells ds)
  sep:∀ad,A=some ad->ad.block≠gc/\ad.block≠gb
  ne:gc≠gb
  lo:w0.heap.size<=gb
theorem LpM.keep {w0 wr w':World}{A0 A:Option Addr}{gc cc gb c:Nat}{cs:List Nat}{ds l:List UInt8}(h:LpM w0 A0 gc cc gb cs ds wr A c l)(hb:Below wr.heap.size wr w'):LpM w0 A0 gc cc gb cs ds w' A c l:=
  ⟨h.tx.keep hb,h.rel.then hb,h.ch.keep hb,h.buf.keep hb,h.sep,h.ne,h.lo⟩
theorem LpM.app {w0 wr:World}{A0 A:Option Addr}{gc cc gb c n:Nat}{cs:List Nat}{ds l m:List UInt8}(h:LpM w0 A0 gc cc gb cs ds wr A c l)(tx ty:TypeId)(x:Value)(hs:Src Tryz.prog 1 tx x n (Lib.byteCells m) wr)(hn:m.length=n)(h1:0<n)(hb:l.length+n<=10000000):
    ∃A' c' w',(Builtin.append_ #[150,tx] ty #[.slice A l.length c,x]).run Tryz.prog wr=.ok (.slice A' (l.length+n) c') w'/\LpM w0 A0 gc cc gb cs ds w' A' c' (l++m):=by
  obtain⟨A',c',w',hr,hT,hR⟩:=lM h.tx tx ty x hs hn h1 hb;have hgc:=h.ch.lt;have hgb:=h.buf.lt
  have nc:some gc≠A.map Addr.block:=by
   cases A with
   |none=>simp
   |some ad=>intro e;injection e with e;exact(h.sep ad rfl).1 e.symm
  have nb:some gb≠A.map Addr.block:=by
   cases A with
   |none=>simp
   |some ad=>intro e;injection e with e;exact(h.sep ad rfl).2 e.symm
  refine⟨A',c',w',hr,hT,h.rel.trans hR,h.ch.grown hR.kept nc,h.buf.kept hR.kept nb,λad e=>?_,h.ne,h.lo⟩
  rcases hR.at' with e2|⟨g,e2,hg⟩
  ·exact h.sep ad (by rw[<-e2];exact e)
  rw[e]at e2
  injection e2 with e2
  subst e2;exact⟨by show g≠gc;omega,by show g≠gb;omega⟩
theorem LpM.put {w0 wr w':World}{A0 A:Option Addr}{gc cc gb c:Nat}{cs:List Nat}{ds l xs:List UInt8}{e:Ending}(h:LpM w0 A0 gc cc gb cs ds wr A c l)(hR:mG gb 256 20 [] xs wr e w'):
    e=.returned (.slice (some ⟨gb,0,none⟩) xs.length 20)/\LpM w0 A0 gc cc gb cs xs w' A c l:=by
  obtain⟨he,hB,hT⟩:=hR;rw[List.length_nil,bN]at he;rw[dB]at hB;exact⟨he,h.tx.tk hT λad e=>(h.sep ad e).2,h.rel.tk hT h.lo,h.ch.grown hT (by intro e;injection e with e;exact h.ne e),hB,h.sep,h.ne,h.lo⟩
theorem LpM.zero {w0 wr:World}{A0 A:Option Addr}{gc cc gb c:Nat}{cs:List Nat}{ds l:List UInt8}(h:LpM w0 A0 gc cc gb cs ds wr A c l)(hb:l.length+1<=10000000):
    ∃A' c' w',(Builtin.append_ #[150,150] 150 #[.slice A l.length c,.slice (some ⟨wr.heap.size,0,none⟩) 1 1]).run Tryz.prog (wr.alloc (.cells #[.int .u8 48] 5))=.ok (.slice A' (l.length+1) c') w'/\LpM w0 A0 gc cc gb cs ds w' A' c' (l++[48]):=
  (h.keep (bal)).app 150 150 _ (nI wr 48) rfl (by decide) hb
theorem wW {w:World}{A:Option Addr}{c:Nat}{l:List UInt8}(h:TxS w A c l)(b:UInt8)(hb:l.length+1<=10000000):
    ∃A' c' w',(Builtin.append_ #[150,150] 150 #[.slice A l.length c,.slice (some ⟨w.heap.size,0,none⟩) 1 1]).run Tryz.prog (w.alloc (.cells #[.int .u8 (b.toNat:Int)] 5))=.ok (.slice A' (l.length+1) c') w'/\TxS w' A' c' (l++[b])/\TxR A w A' w':=by
  have hbw:Below w.heap.size w (w.alloc (.cells #[.int .u8 (b.toNat:Int)] 5)):=bal;obtain⟨A',c',w',h1,h2,h3⟩:=lM (h.keep hbw) 150 150 _ (nI w b) rfl (by decide) hb;exact⟨A',c',w',h1,h2,(TxR.of hbw).trans h3⟩
def CB:Nat:=10000000000000000000
theorem aGo:CB=10^19:=by decide
theorem aOB (k:Nat):CB^k=10^(19*k):=by rw[aGo,Nat.pow_mul]
theorem aBS {x k N:Nat}(hx:(dg x).length<=N)(h:x/CB^k≠0):63*k<64*N:=by
 have h1:x<B^N:=aH (lC x) (aP (by decide) hx)
 refine Nat.lt_of_not_le λhk=>h (cT ?_)
 have h2:(2^63)^k<=CB^k:=gX (by decide) k
 have h3:B^N<=(2^63)^k:=by
  rw[<-Nat.pow_mul,show B=2^64 from rfl,<-Nat.pow_mul];exact aP (by decide) hk
 omega
theorem aKB {x k:Nat}(hx:(dg x).length<=1000)(h:x/CB^k≠0):k<1016:=by
 have:=aBS hx h
 omega
structure CkM (w0:World)(base ga cw x:Nat)(wr:World)(y:Nat)(cs:List Nat)(C:Option Addr)(cc:Nat):Prop where
  below:Below w0.heap.size w0 wr
  work:mM wr ga cw (dg y)
  eq:y=x/CB^cs.length
  at':∀i (h:i<cs.length),cs[i]=x/CB^i%CB
  last:0<cs.length->x/CB^(cs.length-1)≠0
  nil:cs.length=0->C=none/\cc=0
  pos:0<cs.length->∃g,C=some ⟨g,0,none⟩/\mM wr g cc cs/\base<=g
  lo:w0.heap.size<=ga
  hi:ga<base
  size:base<=wr.heap.size
structure DiM (w1:World)(ga:Nat)(ra ys:List Nat)(wr:World)(i r:Nat)(qs:List Nat):Prop where
  len:qs.length+i=ys.length
  dig:Dig qs
  lt:r<CB
  eq:val (ys.drop i)=CB*val qs+r
  blk:Blk wr ga 170 (jZ (ys.take i++(qs++ra)))
  only:Tk ga w1 wr
theorem DiM.start {w1:World}{ga:Nat}{ra ys:List Nat}(hB:Blk w1 ga 170 (jZ (ys++ra))):DiM w1 ga ra ys w1 ys.length 0 []:=
  ⟨by simp,λ_ h=>by simp at h,by decide,by rw[iN];simp[val],by rw[eE,dB];exact hB,Tk.refl _ _⟩
theorem DiM.keep {w1 wr wz:World}{ga i r:Nat}{ra ys qs:List Nat}(s:DiM w1 ga ra ys wr i r qs)(hb:Below wr.heap.size wr wz):DiM w1 ga ra ys wz i r qs:=⟨s.len,s.dig,s.lt,s.eq,s.blk.keep hb s.blk.lt,s.only.then hb⟩
theorem DiM.next {w1 wr:World}{ga j r:Nat}{ra ys qs:List Nat}(s:DiM w1 ga ra ys wr (j+1) r qs)(hj:j<ys.length)(hx:ys[j]<B):
    DiM w1 ga ra ys (wr.setCell ⟨ga,j,none⟩ (.int .u64 ((r*B+ys[j])/CB:Nat))) j ((r*B+ys[j])%CB) ((r*B+ys[j])/CB::qs):=by
  have hb:=s.blk.set j (.int .u64 ((r*B+ys[j])/CB:Nat))
  have e:(ys.take (j+1)++(qs++ra)).set j ((r*B+ys[j])/CB)=ys.take j++((r*B+ys[j])/CB::qs++ra):=by
   have hl:(ys.take j).length=j:=by rw[aS];omega
   rw[aD hj,cJ,cX _ _ (by omega),hl,cP]
   rfl
  rw[kX,e]at hb
  have hh:0<CB:=by decide
  exact⟨by have:=s.len;simp only[bP];omega,sI (aEU s.lt hx) s.dig,bL _ hh,aCB hj hh s.eq,hb,s.only.trans (Tk.set _ _ _ _)⟩
theorem DiM.cell {w1 wr:World}{ga j r:Nat}{ra ys qs:List Nat}(s:DiM w1 ga ra ys wr (j+1) r qs)(hj:j<ys.length):wr.cell? ⟨ga,j,none⟩=some (.int .u64 (ys[j]:Nat))/\wr.frozen? ⟨ga,j,none⟩=false:=by
 refine⟨(s.blk.cell j).trans (lL ?_),s.blk.frozen j⟩
 rw[bY (by rw[aS];omega),fU,aQ (by omega),aF hj]
theorem DiM.o {w1 wr:World}{ga r y:Nat}{ra qs:List Nat}(s:DiM w1 ga ra (dg y) wr 0 r qs):val qs=y/CB/\r=y%CB/\qs.length=(dg y).length:=by
 have he:=s.eq
 rw[gS,kE]at he
 obtain⟨h1,h2⟩:=aEV s.lt he
 exact⟨h1,h2,by have:=s.len;omega⟩
theorem CkM.next {w0 wr w1:World}{base ga cw x y cc r:Nat}{cs qs ra:List Nat}{C:Option Addr}(h:CkM w0 base ga cw x wr y cs C cc)(hra:(dg y).length+ra.length=cw)(hy:y≠0)(s:DiM wr ga ra (dg y) w1 0 r qs)(hk:cs.length<=1016):
    ∃C' cc' w',(Builtin.append_ #[116,116] 116 #[.slice C cs.length cc,.slice (some ⟨w1.heap.size,0,none⟩) 1 1]).run Tryz.prog (w1.alloc (.cells #[.int .u64 (r:Nat)] 170))=.ok (.slice C' (cs.length+1) cc') w'/\CkM w0 base ga cw x w' (y/CB) (cs++[r]) C' cc':=by
  obtain⟨o1,o2,o3⟩:=s.o;have hal:Below w1.heap.size w1 (w1.alloc (.cells #[.int .u64 (r:Nat)] 170)):=bal;have hsz:=s.only.size;have hbs:base<=w1.heap.size:=aR h.size hsz
  have hpw:mM w1 ga cw (dg (y/CB)):=by
   have hb:=s.blk;rw[List.take_zero,dB]at hb;have:=aAH hb s.dig (by rw[o3];exact hra) h.work.le
   rwa [o1]at this
  obtain⟨g',c',w',hr,hP,hB,hg⟩:=yV (w1.alloc (.cells #[.int .u64 (r:Nat)] 170)) C cc 1 w1.heap.size r base cs h.nil (λhp=>by
   obtain⟨g,e,hp2,hg⟩:=h.pos hp
   exact⟨g,e,(hp2.grown s.only (by intro e;injection e with e;have:=h.hi;omega)).keep hal,hg⟩) ((Blk.new w1 170 #[.int .u64 (r:Nat)]).cell 0) (by omega) (aR hbs hal.size)
  refine⟨some ⟨g',0,none⟩,c',w',hr,?_,(hpw.keep hal).keepB hB h.hi,?_,?_,λ_=>?_,λe=>by simp at e,λ_=>⟨g',rfl,hP,hg⟩,h.lo,h.hi,aR hbs (aR hal.size hB.size)⟩
  ·have h1:=Tk.below h.below s.only h.lo;exact(dW h1 hal).trans (hB.mono (aR h.lo (eM h.hi)))
  ·rw[aC,dC,bS,<-eJ,<-h.eq]
  ·intro i hi
   by_cases hil:i<cs.length
   ·rw[eY hil];exact h.at' i hil
   have:i=cs.length:=by simp at hi;omega
   subst this;rw[List.getElem_append_right (aA _)];simp only[cP,List.getElem_cons_zero];rw[o2,<-h.eq]
  rw[aC,dC,iW,<-h.eq];exact hy
theorem aMH {x j:Nat}(Wd c:Nat)(hc:c=x/CB^j%CB)(h:x/CB^(j+1)≠0):Dt.D (x/CB^(j+1)) (Wd-19*(j+1))++(List.replicate (19-(Lib.decDigits c).length) 48++Lib.decDigits c)=Dt.D (x/CB^j) (Wd-19*j):=by
 have hcl:c<10^19:=by rw[hc,<-aGo];exact bL _ (by decide)
 have e:x/CB^j=(x/CB^(j+1))*10^19+c:=by
  rw[hc,bS,<-eJ,<-aGo];have:=dD (x/CB^j) CB;rw[aT]at this;exact this.symm
 rw[e,Dt.aGn 19 _ c _ hcl (.inl h),Dt.aMG c 19 (by decide)]
 congr 2
theorem aOC {x j:Nat}(Wd c:Nat)(hc:c=x/CB^j%CB)(h:x/CB^(j+1)=0)(h0:x/CB^j≠0):List.replicate ((Wd-19*j)-(Lib.decDigits c).length) 48++Lib.decDigits c=Dt.D (x/CB^j) (Wd-19*j):=by
 have e:x/CB^j=c:=by
  rw[hc];refine(cU ?_).symm;rw[bS,<-eJ]at h
  rcases Nat.div_eq_zero_iff.1 h with h|h
  ·exact absurd h (by decide)
  exact h
 rw[e]
 rw[e]at h0
 simp[Dt.D,Dt.wU,h0]
theorem aOD {c:Nat}(h:c<CB):0<(Lib.decDigits c).length/\(Lib.decDigits c).length<=19:=by
 refine⟨by rw[Lib.decDigits_length];exact Lib.nDigits_pos c,?_⟩
 by_cases h0:c=0
 ·subst h0;rw[Go.Qn.pK];decide
 have:=Dt.wV (k:=19) (n:=c) (by rw[<-aGo];exact h)
 unfold Dt.wU at this
 rwa [aJ h0]at this
theorem aMI {x j k:Nat}(h:x/CB^k≠0)(hj:j<=k):x/CB^j≠0:=by
 have h1:CB^j<=CB^k:=aP (by decide) hj
 have h2:x/CB^k<=x/CB^j:=Nat.div_le_div_left h1 (eK (by decide))
 exact Nat.ne_of_gt (aH (eG h) h2)
theorem aCE {x N:Nat}(hx:(dg x).length<=1000)(hN:64000<=63*N)(i W:Nat):(Dt.D (x/CB^i) W).length<=W+19*N:=by
 have h1:x/CB^N=0:=cW λh=>by have:=aBS hx h;omega
 have h2:x<CB^N:=by
  rcases Nat.div_eq_zero_iff.1 h1 with h|h
  ·exact absurd h (Nat.ne_of_gt (eK (by decide)))
  exact h
 have h3:x/CB^i<10^(19*N):=by
  rw[<-aOB];exact bB (cF _ _) h2
 have:=Dt.wV h3
 simp[Dt.D];omega
theorem mM.cell {w:World}{g c:Nat}{ys:List Nat}(h:mM w g c ys){j:Nat}(hj:j<ys.length):w.cell? ⟨g,j,none⟩=some (.int .u64 (ys[j]:Nat)):=by
 obtain⟨rs,B,_⟩:=h.ex
 refine(B.cell j).trans (lL ?_)
 rw[bY hj,aF hj]
theorem aEZ {A A':Option Addr}{w w':World}(h:PT w)(hr:TxR A w A' w')(hA:∀ad,A=some ad->0<ad.block):PT w':=by
 have hl:=h.lt
 have hb:=hr.kept.block 0 hl (by
  cases A with
  |none=>simp
  |some ad=>intro e;injection e with e;have:=hA ad rfl;rw[<-e]at this;omega)
 unfold PT Lib.TabIs World.var? at*
 rw[Fi.xZ]at*
 simp only[Option.bind_some]at*
 rw[hb];exact h
theorem aOE {w w':World}{A A' X:Option Addr}{c n:Nat}{l:List UInt8}{xs:List Value}(h:Sl w X n 1 xs)(hx:∀v∈xs,∀b:Int,v≠.int .u8 b)(hT:TxS w A c l)(hR:TxR A w A' w'):Sl w' X n 1 xs:=by
 refine⟨h.len,λhn=>?_⟩
 obtain⟨ad,e,hl,ha⟩:=h.lies hn
 have hne:some ad.block≠A.map Addr.block:=by
  cases A with
  |none=>simp
  |some at0=>
   obtain⟨g,rfl,⟨cs,B,_,_⟩,U⟩:=hT.own at0 rfl;intro e2
   injection e2 with e2
   exact h.off (by decide) B (λv hv hm=>by
    obtain⟨b,rfl⟩:=U _ cs B v hv
    exact hx _ hm b rfl) hn ad e e2
 refine⟨ad,e,aH hl hR.kept.size,λj u hu=>?_⟩
 have:=ha j u hu
 unfold World.cell? at this ⊢
 rw[kK]at this ⊢
 rw[hR.kept.block ad.block hl hne]
 exact this
theorem NW.txr {w w':World}{A A' X:Option Addr}{c d n:Nat}{l:List UInt8}(h:NW w X d n)(hT:TxS w A c l)(hR:TxR A w A' w'):NW w' X d n:=
  ⟨aOE h.wds (λv hv b=>by obtain⟨x,_,rfl⟩:=aM.1 hv;simp[vs]) hT hR,h.cap⟩
end Go.Proofs.Tg.Iw
end
namespace Go.Proofs.Tg.Iw
open Go.RowKit Go.Bw Go.Gr Go.Proofs.Tg
open Go.Proofs.Tg.Fi (TxS TxR Buf kY mG lM nI PT aBR)
def z20:Array Value:=Array.replicate 20 (.int .u8 0)
theorem aGp (w:World):w.alloc (.cells #[.int .u8 0,.int .u8 0,.int .u8 0,.int .u8 0,.int .u8 0,.int .u8 0,.int .u8 0,.int .u8 0,.int .u8 0,.int .u8 0,.int .u8 0,.int .u8 0,.int .u8 0,.int .u8 0,.int .u8 0,.int .u8 0,.int .u8 0,.int .u8 0,.int .u8 0,.int .u8 0] 256)=w.alloc (.cells z20 256):=rfl
theorem aMJ (b:Bool):b=true∨b=false:=by cases b<;>simp
theorem aPz:Tryz.prog.arrayLen 256=20:=by kernel_rfl
theorem aGq (g:Nat)(W:World):(Instr.sliceAt 256 (.pointer (some ⟨g,0,none⟩)) none (some (.int .i64 0)) none).run Tryz.prog W=.ok (.slice (some ⟨g,0,none⟩) 0 20) W:=by
 rw[run_sliceAt_array_h W 256 ⟨g,0,none⟩ (by simp[Program.arrayLen,Program.elem,Tryz.underlying256]) .i64 0 (by omega) (by rw[aPz];omega)]
 go_simp
theorem aHB (A:Option Addr)(c:Nat)(l:List UInt8)(X:Option Addr)(cx Wd:Nat)(w:World)(hT:TxS w A c l)(hW:Wd<=100000)(hl:l.length<=1000000):
    Calls Tryz.prog 200 #[.slice A l.length c,.slice X 0 cx,.int .i64 (Wd:Nat)] w (kY A l (Dt.D 0 Wd) w):=by
  rw[Dt.aAR];have HCL:=zh (aAG X cx w);obtain⟨Q,hQ⟩:=eqx (kY A l (List.replicate Wd 48) w);have HQ:Hid (∀A' c' w',TxS w' A' c' (l++List.replicate Wd 48)->TxR A w A' w'->Q (.returned (.slice A' (l.length+Wd) c')) w'):=zh (λA' c' w' h1 h2=>by rw[<-hQ];exact⟨A',c',by rw[bU],h1,h2⟩);rw[hQ];have HT:=zh hT;obtain⟨n,hn⟩:=eqx (l.length);have HN:=zh hn;rw[hn]at hl HQ ⊢;clear hQ hT hn;go_enter Tryz.func200,Tryz.ntmps200
  go_upto_region 2 with(go_at_call 169;refine HCL.o.mono ?_;rintro e w1 ⟨R,c',rfl,hb1⟩;have HB1:=zh hb1;clear hb1)
  go_upto_block 0 with(fail);go_wp2
  go_loopw [7,8] (λs7 s8 wr=>s7=.slice R 0 c'/\s8=.slice none 0 0/\Hid (wr=w1)) (λ_ _ _=>0)
  case atStart=>exact⟨rfl,rfl,zh rfl⟩
  case round=>
   obtain⟨rfl,rfl,HWR⟩:=hrel;have e:=HWR.o;subst e;clear HWR;go_upto_region 12 with(fail);rw[aGp];have HB2:Hid (Below w.heap.size w (wr.alloc (.cells z20 256))):=zh (dW HB1.o (bal));obtain⟨gb,hgb⟩:=eqx (wr.heap.size);rw[hgb];generalize wr.alloc (.cells z20 256)=W2 at*;go_upto_block 4 with(fail);go_wp2
   go_loopw [0,12,13] (λs0 s12 s13 wr=>s0=.slice A n c/\s12=.bool true/\s13=.int .i64 (-1)/\Hid (wr=W2)) (λ_ _ _ _=>0)
   case atStart=>exact⟨rfl,rfl,by go_num,zh rfl⟩
   case round=>
    obtain⟨rfl,rfl,rfl,HWR⟩:=hrel;have e:=HWR.o;subst e;clear HWR;go_upto_region 27 with(fail);go_upto_block 8 with(fail);go_wp2
    go_loopw [0,82] (λs0 s82 wr=>∃(z nl c':Nat) (A':Option Addr),s0=.slice A' nl c'/\s82=.int .i64 (z:Nat)/\z<=Wd/\nl<=1200000/\Hid (nl=n+z)/\Hid (TxS wr A' c' (l++List.replicate z 48)/\TxR A w A' wr)) (λ_ s82 _=>Wd-(intOf s82).toNat)
    case atStart=>exact⟨0,n,c,A,rfl,rfl,aW _,by omega,zh rfl,zh ⟨by simpa using HT.o.keep HB2.o,TxR.of HB2.o⟩⟩
    case round=>
     obtain⟨wo,rfl⟩:∃wo:World,wo=wr:=⟨_,rfl⟩;obtain⟨z,nl,c',A',rfl,rfl,hz,hnl,HNL,HM⟩:=hrel
     by_cases hzk:z=Wd
     ·have d1:decide ((z:Int)<(Wd:Int))=false:=dF (by omega);have d1':decide (z<Wd)=false:=dF (by omega)
      have HR:Hid (Q (.returned (.slice A' nl c')) wo):=zh (by
       have e:=HNL.o;subst hzk;rw[e]
       exact HQ.o A' c' wo HM.o.1 HM.o.2)
      clear hzk HNL HM HQ;go_wp2;exact HR.o
     have hzl:z<Wd:=by omega
     have d1:decide ((z:Int)<(Wd:Int))=true:=dT (by omega);have d1':decide (z<Wd)=true:=dT hzl
     have hll:(l++List.replicate z 48).length=nl:=by rw[aC,bU,HN.o,HNL.o]
     obtain⟨A'',c'',w'',hr,hM2,hR2⟩:=wW HM.o.1 48 (by rw[hll];omega);rw[hll]at hr;have HR:Hid ((Builtin.append_ #[150,150] 150 #[.slice A' nl c',.slice (some ⟨wo.heap.size,0,none⟩) 1 1]).run Tryz.prog (wo.alloc (.cells #[.int .u8 48] 5))=.ok (.slice A'' (nl+1) c'') w''):=zh hr;have HM2:Hid (TxS w'' A'' c'' (l++List.replicate (z+1) 48)/\TxR A w A'' w''):=zh ⟨by rw[fX,<-cJ];exact hM2,HM.o.2.trans hR2⟩;have HNL2:Hid (nl+1=n+(z+1)):=zh (by have:=HNL.o;omega)
     have hnl2:nl+1<=1200000:=by have:=HNL.o;omega
     clear hr hM2 hR2 hll HM HNL hzk
     go_wp2_with (at_builtin;refine Fi.wpList_append_run _ rfl _ _ 150 150 rfl _ _ HR.o ?_)
     go_roundw
     case rel=>exact⟨z+1,nl+1,c'',A'',rfl,by go_num,by omega,hnl2,HNL2,HM2⟩
     case measure=>first|(simp[intOf];omega)|simp[intOf]
theorem aKC (A:Option Addr)(c:Nat)(l:List UInt8)(X:Option Addr)(cx x Wd:Nat)(w:World)(hT:TxS w A c l)(hX:NW w X cx x)(hx:x≠0)(hn:(dg x).length<=1000)(hW:Wd<=100000)(hl:l.length<=1000000)(ht:PT w)(hpa:∀ad,A=some ad->0<ad.block):
    Calls Tryz.prog 200 #[.slice A l.length c,.slice X (dg x).length cx,.int .i64 (Wd:Nat)] w (kY A l (Dt.D x Wd) w):=by
  have HCL:=zh (sY X cx x w hX (by omega));obtain⟨Q,hQ⟩:=eqx (kY A l (Dt.D x Wd) w);have HQ:Hid (∀A' c' w' m n,Dt.D x Wd=m->n=l.length+m.length->TxS w' A' c' (l++m)->TxR A w A' w'->Q (.returned (.slice A' n c')) w'):=zh (λA' c' w' m n h0 hn h1 h2=>by rw[<-hQ,h0,hn];exact⟨A',c',rfl,h1,h2⟩);rw[hQ];have HT:=zh hT;have HPT:=zh ht;have HPA:=zh hpa;have HX0:=zh hx;have HXL:=zh hn;obtain⟨n,hnn⟩:=eqx ((dg x).length);have HNN:=zh hnn;rw[hnn]at hn HCL ⊢;obtain⟨nl0,hnl0⟩:=eqx (l.length);have HN:=zh hnl0;rw[hnl0]at hl ⊢;clear hQ hT hnn hnl0 ht hX hx hpa;go_enter Tryz.func200,Tryz.ntmps200
  go_upto_region 2 with(go_at_call 169;refine HCL.o.mono ?_;rintro e w1 ⟨R,cw,rfl,hR,hb1⟩;have HR1:=zh hR;have HB1:=zh hb1;clear hb1 hR)
  obtain⟨ga,rfl,hP1,hga⟩:=HR1.o (eG HX0.o);have HP1:=zh hP1;have HK0:Hid (CkM w w1.heap.size ga cw x w1 x [] none 0):=zh ⟨HB1.o,HP1.o,by simp,λi h=>by simp at h,λh=>by simp at h,λ_=>⟨rfl,rfl⟩,λh=>by simp at h,hga,HP1.o.lt,aA _⟩;clear hP1 HR1 HCL HP1;go_upto_block 0 with(fail);go_wp2
  go_loopw [7,8] (λs7 s8 wr=>∃(y m k cc:Nat) (C:Option Addr),s7=.slice (some ⟨ga,0,none⟩) m cw/\s8=.slice C k cc/\m<=1000/\k<=1016/\Hid ((dg y).length=m)/\Hid (∃cs,cs.length=k/\CkM w w1.heap.size ga cw x wr y cs C cc)) (λ_ s8 _=>1016-slen s8)
  case atStart=>exact⟨x,n,0,0,none,rfl,rfl,hn,by omega,HNN,zh ⟨[],rfl,HK0.o⟩⟩
  case round=>
   clear HK0;obtain⟨wo,rfl⟩:∃wo:World,wo=wr:=⟨_,rfl⟩;obtain⟨y,m,k,cc,C,rfl,rfl,hm,hk,HY,HC⟩:=hrel
   by_cases hm0:m=0
   ·subst hm0
    have hm1:decide ((0:Int)<((0:Nat):Int))=false:=by decide
    have hm1':decide (0<0)=false:=by decide
    obtain⟨cs,hcs,hCM⟩:=HC.o;have hy0:y=0:=mI HY.o
    have hk0:0<k:=eG λe=>by
     have h1:=hCM.eq;rw[hcs,e,jD,fV,hy0]at h1;exact HX0.o h1.symm
    obtain⟨gc,rfl,hPc,hgc⟩:=hCM.pos (by rw[hcs];exact hk0);have HTOP:Hid (x/CB^k=0):=zh (by rw[<-hcs,<-hCM.eq];exact hy0);have HLAST:Hid (∀j,j<k->x/CB^j≠0):=zh (λj hj=>aMI (hCM.last (by rw[hcs];exact hk0)) (by rw[hcs];omega))
    have HCS:Hid (∀j,j<k->∃(u:Nat),u=x/CB^j%CB/\u<CB/\∀V,mM V gc cc cs->V.cell? ⟨gc,j,none⟩=some (.int .u64 (u:Nat))):=zh (λj hj=>by
     have hj2:j<cs.length:=by rw[hcs];exact hj
     exact⟨cs[j],hCM.at' j hj2,by rw[hCM.at' j hj2];exact bL _ (by decide),λV hV=>hV.cell hj2⟩)
    have HBW:=zh hCM.below;have HPC:=zh hPc;have hgcw:w.heap.size<=gc:=aR HB1.o.size hgc;clear hPc hCM hcs HC HY hy0;go_upto_region 12 with(fail);rw[aGp];have hal:Below wo.heap.size wo (wo.alloc (.cells z20 256)):=bal
    have HL0:Hid (LpM w A gc cc wo.heap.size cs [] (wo.alloc (.cells z20 256)) A c l):=zh
      ⟨HT.o.keep (dW HBW.o hal),TxR.of (dW HBW.o hal),HPC.o.keep hal,⟨_,Blk.new _ _ _,by simp[z20],by simp[Lib.byteCells]⟩,λad e=>⟨by have:=HT.o.lt ad e;omega,by have:=HT.o.lt ad e;have:=HBW.o.size;omega⟩,by have:=HPC.o.lt;omega,HBW.o.size⟩
    obtain⟨gb,hgb⟩:=eqx (wo.heap.size);rw[hgb]at HL0 ⊢;clear hal hgb;generalize wo.alloc (.cells z20 256)=W2 at*;have wk:IntKind.i64.wrap ((k:Int)-1)=(k:Int)-1:=IntWalk.i64_in _ (by omega);go_upto_block 4 with(fail);go_wp2
    go_loopw [0,12,13] (λs0 s12 s13 wr=>∃(i nl c':Nat) (A':Option Addr) (f:Bool),s0=.slice A' nl c'/\s12=.bool f/\s13=.int .i64 ((i:Int)-1)/\i<=k/\nl<=1200000/\Hid (f=decide (i=k))/\Hid (∃m ds,nl=nl0+m.length/\(i=k->m=[])/\(i<k->m=Dt.D (x/CB^i) (Wd-19*i))/\LpM w A gc cc gb cs ds wr A' c' (l++m))) (λ_ _ s13 _=>(intOf s13+1).toNat)
    case atStart=>exact⟨k,nl0,c,A,true,rfl,rfl,rfl,aA _,by omega,zh (by simp),zh ⟨[],[],by simp,λ_=>rfl,λh=>absurd h (by omega),by simpa using HL0.o⟩⟩
    case round=>
     clear HL0;obtain⟨wi,rfl⟩:∃wi:World,wi=wr:=⟨_,rfl⟩;obtain⟨i,nl,c',A',f,rfl,rfl,rfl,hi,hnl,HF,HM⟩:=hrel
     cases i with
     |zero=>
      have dd:decide ((0:Int)<=((0:Nat):Int)-1)=false:=by decide
      obtain rfl:f=false:=by rw[HF.o];exact dF (by omega)
      have HR:Hid (Q (.returned (.slice A' nl c')) wi):=zh (by
       obtain⟨m,ds,e1,_,e3,hL⟩:=HM.o;have e3:=e3 hk0;rw[jD,fV,dN,gQ]at e3
       exact HQ.o A' c' wi m nl e3.symm (by rw[e1,HN.o]) hL.tx hL.rel)
      clear HF HM HQ;go_wp2;exact HR.o
     |succ j=>
      have e:(((j+1:Nat):Int)-1)=(j:Int):=by omega
      rw[e];clear e
      have hjk:j<k:=by omega
      obtain⟨u,hu,huC,hcell⟩:=HCS.o j hjk;obtain⟨m,ds0,e1,e2,e3,hL⟩:=HM.o;have HU:=zh hu;have cj:=hcell wi hL.ch;have HCELL:=zh hcell;obtain⟨dl,hdl⟩:=eqx ((Lib.decDigits u).length);obtain⟨hd1,hd19⟩:=aOD huC;rw[hdl]at hd1 hd19;have HDL:=zh hdl
      have HAU:Hid (∀V,Below wi.heap.size wi V->Calls Tryz.prog 179 #[.slice (some ⟨gb,0,none⟩) 0 20,.int .u64 (u:Nat),.int .i64 10] V λe w'=>e=.returned (.slice (some ⟨gb,0,none⟩) dl 20)/\Hid (LpM w A gc cc gb cs (Lib.decDigits u) w' A' c' (l++m))):=zh (λV hV=>by
       have hL':=hL.keep hV
       refine(aBR gb u 256 V hL'.buf.nil (Nat.lt_trans huC (by decide)) (aEZ HPT.o hL'.rel HPA.o)).mono λe w' hr=>?_
       obtain⟨q1,q2⟩:=hL'.put hr
       exact⟨by rw[q1,hdl],zh q2⟩)
      have HLEN:Hid (nl=(l++m).length):=zh (by rw[e1,aC,HN.o]);have HMM:Hid ((j+1=k->m=[])/\(j+1<k->m=Dt.D (x/CB^(j+1)) (Wd-19*(j+1)))):=zh ⟨e2,e3⟩
      have hml:m.length+nl0=nl:=by omega
      clear hL hcell hu hdl HM e1 e2 e3 huC
      have q0:(0:Int)<=(j:Int):=by omega
      have q1:(j:Int)<(k:Int):=by omega
      have q3:((j:Int)).toNat=j:=by omega
      have d1:decide ((0:Int)<=(j:Int))=true:=dT q0;have y1:IntKind.i64.wrap ((j:Int)-1)=(j:Int)-1:=IntWalk.i64_in _ (by omega);obtain⟨tj,htj⟩:=eqx (19*j)
      have t1:(19:Int)*(j:Int)=(tj:Int):=by omega
      have t2:IntKind.i64.wrap (tj:Int)=(tj:Int):=IntWalk.i64_in _ (by omega);have t3:IntKind.i64.wrap ((Wd:Int)-(tj:Int))=(Wd:Int)-(tj:Int):=IntWalk.i64_in _ (by omega);have HTJ:=zh htj;clear htj;obtain rfl|rfl:=aMJ f
      ·have hjk':j+1=k:=dQ HF.o.symm;obtain⟨sz,hsz⟩:=eqx (max dl (Wd-tj))
       have s1:max (dl:Int) ((Wd:Int)-(tj:Int))=(sz:Int):=by omega
       obtain⟨zs,hzs⟩:=eqx (sz-dl)
       have s2:(sz:Int)-(dl:Int)=(zs:Int):=by omega
       have hzw:zs<=100000:=by omega
       have HG:Hid (m++(List.replicate zs 48++Lib.decDigits u)=Dt.D (x/CB^j) (Wd-19*j)):=zh (by
        rw[HMM.o.1 hjk',dB,show zs=(Wd-19*j)-(Lib.decDigits u).length by rw[HDL.o,HTJ.o];omega]
        exact aOC Wd u HU.o (by rw[hjk'];exact HTOP.o) (HLAST.o j hjk))
       have s3:IntKind.i64.wrap (zs:Int)=(zs:Int):=IntWalk.i64_in _ (by omega);clear HF HMM hjk' hzs hsz
       have hsl:=λW=>aGq gb W
       have hbe:Below wi.heap.size wi wi.drew:=brf.drew;go_upto_region 16 with(fail)
       go_region_held3 (λw'=>w'.cell? ⟨gc,j,none⟩=some (.int .u64 (u:Nat)))
         (first|exact cj|exact gL hbe cj|go_keep)
         (first|(go_at_call 179;with_reducible refine bE (HAU.o _ (by assumption)) ?_;rintro e w3 ⟨rfl,HL3⟩;have cj:=HCELL.o w3 HL3.o.ch))
       clear HAU cj;go_upto_block 6 with(fail);go_wp2
       go_loopw [0,71] (λs0 s71 wr=>∃(z nl' c'':Nat) (A'':Option Addr),s0=.slice A'' nl' c''/\s71=.int .i64 (z:Nat)/\z<=zs/\nl'=nl+z/\Hid (LpM w A gc cc gb cs (Lib.decDigits u) wr A'' c'' ((l++m)++List.replicate z 48))) (λ_ s71 _=>zs-(intOf s71).toNat)
       case atStart=>exact⟨0,nl,c',A',rfl,rfl,aW _,rfl,zh (by simpa using HL3.o)⟩
       case round=>
        clear HL3;obtain⟨wj,rfl⟩:∃wj:World,wj=wr:=⟨_,rfl⟩;obtain⟨z,nl',c'',A'',rfl,rfl,hz,hnl',HL4⟩:=hrel;have HLL:Hid (((l++m)++List.replicate z 48).length=nl'):=zh (by rw[aC,bU,<-HLEN.o,hnl'])
        by_cases hzk:z=zs
        ·have d2:decide ((z:Int)<(zs:Int))=false:=dF (by omega);have d2':decide (z<zs)=false:=dF (by omega);obtain⟨A3,c3,w5,hr,hL5⟩:=HL4.o.app 150 150 _ (HL4.o.buf.src 20) rfl (by rw[HDL.o];omega) (by rw[HLL.o,HDL.o];omega);rw[HLL.o,HDL.o]at hr;have HR:=zh hr
         have HNEW:Hid (∃m ds,nl'+dl=nl0+m.length/\(j=k->m=[])/\(j<k->m=Dt.D (x/CB^j) (Wd-19*j))/\LpM w A gc cc gb cs ds w5 A3 c3 (l++m)):=zh ⟨m++(List.replicate zs 48++Lib.decDigits u),Lib.decDigits u,by
          simp only[aC,bU,HDL.o];omega,λh=>absurd h (by omega),λ_=>HG.o,by
          rw[hzk]at hL5
          simpa[cJ]using hL5⟩
         have hnb:nl'+dl<=1200000:=by
          obtain⟨mm,_,e1,_,e3,_⟩:=HNEW.o;have:=aCE (N:=1016) HXL.o (by decide) j (Wd-19*j);rw[<-e3 hjk]at this;omega
         have HF2:Hid (false=decide (j=k)):=zh (dF (by omega)).symm;have HNL5:Hid (nl'+dl=nl+z+dl):=zh (by omega);clear hr hL5 HL4 HLL HG hzk hz hnl'
         go_wp2_with (at_builtin;refine Fi.wpList_append_run _ rfl _ _ 150 150 rfl _ _ HR.o ?_)
         refine And.intro ?_ (by first|(simp[intOf];omega)|simp[intOf]);exact⟨j,nl'+dl,c3,A3,false,rfl,rfl,(by first|rfl|go_num),by omega,hnb,HF2,HNEW⟩
        have hzl:z<zs:=by omega
        have d2:decide ((z:Int)<(zs:Int))=true:=dT (by omega);have d2':decide (z<zs)=true:=dT hzl;obtain⟨A3,c3,w5,hr,hL5⟩:=HL4.o.zero (by rw[HLL.o];omega);rw[HLL.o]at hr;have HR:Hid ((Builtin.append_ #[150,150] 150 #[.slice A'' nl' c'',.slice (some ⟨wj.heap.size,0,none⟩) 1 1]).run Tryz.prog (wj.alloc (.cells #[.int .u8 48] 5))=.ok (.slice A3 (nl'+1) c3) w5):=zh hr;have HL6:Hid (LpM w A gc cc gb cs (Lib.decDigits u) w5 A3 c3 ((l++m)++List.replicate (z+1) 48)):=zh (by rw[fX,<-cJ];exact hL5)
        have hnl2:nl'+1=nl+(z+1):=by omega
        have HNL2:=zh hnl2;clear hr hL5 HL4 HLL hzk hnl' hnl2
        go_wp2_with (at_builtin;refine Fi.wpList_append_run _ rfl _ _ 150 150 rfl _ _ HR.o ?_)
        go_roundw
        case rel=>exact⟨z+1,nl'+1,c3,A3,rfl,by go_num,by omega,HNL2.o,HL6⟩
        case measure=>first|(simp[intOf];omega)|simp[intOf]
      have hjk':j+1<k:=by have:=iA HF.o.symm;omega
      obtain⟨zs,hzs⟩:=eqx (19-dl)
      have s2:(19:Int)-(dl:Int)=(zs:Int):=by omega
      have hzw:zs<=100000:=by omega
      have HG:Hid (m++(List.replicate zs 48++Lib.decDigits u)=Dt.D (x/CB^j) (Wd-19*j)):=zh (by
       rw[HMM.o.2 hjk',show zs=19-(Lib.decDigits u).length by rw[HDL.o];omega]
       exact aMH Wd u HU.o (HLAST.o _ hjk'))
      have s3:IntKind.i64.wrap (zs:Int)=(zs:Int):=IntWalk.i64_in _ (by omega);clear HF HMM hjk' hzs
      have hsl:=λW=>aGq gb W
      have hbe:Below wi.heap.size wi wi.drew:=brf.drew;go_upto_region 16 with(fail)
      go_region_held3 (λw'=>w'.cell? ⟨gc,j,none⟩=some (.int .u64 (u:Nat)))
        (first|exact cj|exact gL hbe cj|go_keep)
        (first|(go_at_call 179;with_reducible refine bE (HAU.o _ (by assumption)) ?_;rintro e w3 ⟨rfl,HL3⟩;have cj:=HCELL.o w3 HL3.o.ch))
      clear HAU cj;go_upto_block 6 with(fail);go_wp2
      go_loopw [0,71] (λs0 s71 wr=>∃(z nl' c'':Nat) (A'':Option Addr),s0=.slice A'' nl' c''/\s71=.int .i64 (z:Nat)/\z<=zs/\nl'=nl+z/\Hid (LpM w A gc cc gb cs (Lib.decDigits u) wr A'' c'' ((l++m)++List.replicate z 48))) (λ_ s71 _=>zs-(intOf s71).toNat)
      case atStart=>exact⟨0,nl,c',A',rfl,rfl,aW _,rfl,zh (by simpa using HL3.o)⟩
      case round=>
       clear HL3;obtain⟨wj,rfl⟩:∃wj:World,wj=wr:=⟨_,rfl⟩;obtain⟨z,nl',c'',A'',rfl,rfl,hz,hnl',HL4⟩:=hrel;have HLL:Hid (((l++m)++List.replicate z 48).length=nl'):=zh (by rw[aC,bU,<-HLEN.o,hnl'])
       by_cases hzk:z=zs
       ·have d2:decide ((z:Int)<(zs:Int))=false:=dF (by omega);have d2':decide (z<zs)=false:=dF (by omega);obtain⟨A3,c3,w5,hr,hL5⟩:=HL4.o.app 150 150 _ (HL4.o.buf.src 20) rfl (by rw[HDL.o];omega) (by rw[HLL.o,HDL.o];omega);rw[HLL.o,HDL.o]at hr;have HR:=zh hr
        have HNEW:Hid (∃m ds,nl'+dl=nl0+m.length/\(j=k->m=[])/\(j<k->m=Dt.D (x/CB^j) (Wd-19*j))/\LpM w A gc cc gb cs ds w5 A3 c3 (l++m)):=zh ⟨m++(List.replicate zs 48++Lib.decDigits u),Lib.decDigits u,by
         simp only[aC,bU,HDL.o];omega,λh=>absurd h (by omega),λ_=>HG.o,by
         rw[hzk]at hL5
         simpa[cJ]using hL5⟩
        have hnb:nl'+dl<=1200000:=by
         obtain⟨mm,_,e1,_,e3,_⟩:=HNEW.o;have:=aCE (N:=1016) HXL.o (by decide) j (Wd-19*j);rw[<-e3 hjk]at this;omega
        have HF2:Hid (false=decide (j=k)):=zh (dF (by omega)).symm;have HNL5:Hid (nl'+dl=nl+z+dl):=zh (by omega);clear hr hL5 HL4 HLL HG hzk hz hnl'
        go_wp2_with (at_builtin;refine Fi.wpList_append_run _ rfl _ _ 150 150 rfl _ _ HR.o ?_)
        refine And.intro ?_ (by first|(simp[intOf];omega)|simp[intOf]);exact⟨j,nl'+dl,c3,A3,false,rfl,rfl,(by first|rfl|go_num),by omega,hnb,HF2,HNEW⟩
       have hzl:z<zs:=by omega
       have d2:decide ((z:Int)<(zs:Int))=true:=dT (by omega);have d2':decide (z<zs)=true:=dT hzl;obtain⟨A3,c3,w5,hr,hL5⟩:=HL4.o.zero (by rw[HLL.o];omega);rw[HLL.o]at hr;have HR:Hid ((Builtin.append_ #[150,150] 150 #[.slice A'' nl' c'',.slice (some ⟨wj.heap.size,0,none⟩) 1 1]).run Tryz.prog (wj.alloc (.cells #[.int .u8 48] 5))=.ok (.slice A3 (nl'+1) c3) w5):=zh hr;have HL6:Hid (LpM w A gc cc gb cs (Lib.decDigits u) w5 A3 c3 ((l++m)++List.replicate (z+1) 48)):=zh (by rw[fX,<-cJ];exact hL5)
       have hnl2:nl'+1=nl+(z+1):=by omega
       have HNL2:=zh hnl2;clear hr hL5 HL4 HLL hzk hnl' hnl2
       go_wp2_with (at_builtin;refine Fi.wpList_append_run _ rfl _ _ 150 150 rfl _ _ HR.o ?_)
       go_roundw
       case rel=>exact⟨z+1,nl'+1,c3,A3,rfl,by go_num,by omega,HNL2.o,HL6⟩
       case measure=>first|(simp[intOf];omega)|simp[intOf]
   have hm1:decide ((0:Int)<(m:Int))=true:=dT (by omega);have hm1':decide (0<m)=true:=dT (by omega);obtain⟨cs,hcs,hCM⟩:=HC.o
   have hy0:y≠0:=λe=>by have:=HY.o;rw[e,jS]at this;exact hm0 this.symm
   have hk2:k<1016:=aKB HXL.o (by rw[<-hcs,<-hCM.eq];exact hy0);obtain⟨ra,hBa,hra⟩:=hCM.work.ex;have HST:Hid (DiM wo ga ra (dg y) wo m 0 []):=zh (by rw[<-HY.o];exact DiM.start hBa)
   have HEND:Hid (∀V r qs,DiM wo ga ra (dg y) V 0 r qs->Calls Tryz.prog 167 #[.slice (some ⟨ga,0,none⟩) m cw] V λe w'=>∃m2,e=.returned (.slice (some ⟨ga,0,none⟩) m2 cw)/\V=w'/\m2<=1000/\Hid ((dg (y/CB)).length=m2)):=zh (λV r qs s=>by
    obtain⟨o1,o2,o3⟩:=s.o;have hb:=s.blk;rw[List.take_zero,dB]at hb
    have hq:qs.length=m:=by rw[o3,HY.o]
    have:=qP (some ⟨ga,0,none⟩) cw qs V (tW hb rfl) s.dig (by omega) (by have:=HY.o;omega);rw[hq,o1]at this;refine this.mono ?_;rintro e w' ⟨rfl,rfl,_⟩
    exact⟨_,rfl,rfl,aR (aR (Go.Bw.jT (cF _ _)) (Nat.le_of_eq HY.o)) hm,zh rfl⟩)
   have HNEXT:Hid (∀V r qs,DiM wo ga ra (dg y) V 0 r qs->∃C' cc' w',(Builtin.append_ #[116,116] 116 #[.slice C k cc,.slice (some ⟨V.heap.size,0,none⟩) 1 1]).run Tryz.prog (V.alloc (.cells #[.int .u64 (r:Nat)] 170))=.ok (.slice C' (k+1) cc') w'/\∃cs',cs'.length=k+1/\CkM w w1.heap.size ga cw x w' (y/CB) cs' C' cc'):=zh (λV r qs s=>by
    obtain⟨C',cc',w',hr,hM⟩:=hCM.next hra hy0 s (by omega);rw[hcs]at hr
    exact⟨C',cc',w',hr,_,by rw[aC,hcs];rfl,hM⟩)
   clear hBa hra hCM hcs HC hy0;have w1':IntKind.i64.wrap ((m:Int)-1)=(m:Int)-1:=IntWalk.i64_in _ (by omega);go_upto_block 2 with(fail);go_wp2
   go_loopw [9,10] (λs9 s10 wr=>∃(i r:Nat) (qs:List Nat),s9=.int .u64 (r:Nat)/\s10=.int .i64 ((i:Int)-1)/\i<=m/\Hid (DiM wo ga ra (dg y) wr i r qs)) (λ_ s10 _=>(intOf s10+1).toNat)
   case atStart=>exact⟨m,0,[],rfl,rfl,aA _,HST⟩
   case round=>
    clear HST;obtain⟨wi,rfl⟩:∃wi:World,wi=wr:=⟨_,rfl⟩;obtain⟨i,r,qs,rfl,rfl,hi,HS⟩:=hrel
    cases i with
    |zero=>
     have dd:decide ((0:Int)<=((0:Nat):Int)-1)=false:=by decide
     have HE:=zh (HEND.o _ _ _ HS.o);obtain⟨C',cc',w',hr,hCM'⟩:=HNEXT.o _ _ _ HS.o;have HR:=zh hr;have HC':=zh hCM';clear hr hCM' HEND HNEXT HS
     go_wp2_with (first
       |(go_at_call 167;refine HE.o.mono ?_;rintro e w2 ⟨m2,rfl,rfl,hm2,HM2⟩)
       |(at_builtin;refine Fi.wpList_append_run _ rfl _ _ 116 116 rfl _ _ HR.o ?_))
     refine And.intro ?_ (by first|(simp[slen];omega)|simp[slen]);exact⟨y/CB,m2,k+1,cc',C',rfl,rfl,hm2,by omega,HM2,HC'⟩
    |succ j=>
     have hjl:j<(dg y).length:=by rw[HY.o];omega
     have e:(((j+1:Nat):Int)-1)=(j:Int):=by omega
     rw[e];clear e;obtain⟨cj,fj⟩:=HS.o.cell hjl;have huB:=(kH y) _ (aB hjl);have HNX:Hid (∀V,Below wi.heap.size wi V->DiM wo ga ra (dg y) (V.setCell ⟨ga,j,none⟩ (.int .u64 ((r*B+(dg y)[j])/CB:Nat))) j ((r*B+(dg y)[j])%CB) ((r*B+(dg y)[j])/CB::qs)):=zh (λV hV=>(HS.o.keep hV).next hjl huB);have HCB:Hid (∀V,Below wi.heap.size wi V->V.cell? ⟨ga,j,none⟩=some (.int .u64 ((dg y)[j]:Nat))/\V.frozen? ⟨ga,j,none⟩=false):=zh (λV hV=>(HS.o.keep hV).cell hjl);have hrh:=HS.o.lt;generalize (dg y)[j]=u at*;have hD:=aGh r u CB hrh huB (by decide);obtain⟨q,hq⟩:=eqx ((r*B+u)/CB);obtain⟨r2,hr2⟩:=eqx ((r*B+u)%CB);rw[hq,hr2]at hD HNX
     have HD:Hid (∀V,Calls Tryz.prog 199 #[.int .u64 (r:Nat),.int .u64 (u:Nat),.int .u64 10000000000000000000] V λe w'=>e=.returned (.tuple #[.int .u64 (q:Nat),.int .u64 (r2:Nat)])/\Below V.heap.size V w'):=zh hD;clear hq hr2 hD HEND HNEXT
     have q0:(0:Int)<=(j:Int):=by omega
     have q1:(j:Int)<(m:Int):=by omega
     have q3:((j:Int)).toNat=j:=by omega
     have d1:decide ((0:Int)<=(j:Int))=true:=dT q0;have y1:IntKind.i64.wrap ((j:Int)-1)=(j:Int)-1:=IntWalk.i64_in _ (by omega)
     go_wp2_with (go_at_call 199;refine(HD.o _).mono ?_;rintro e w2 ⟨rfl,hb2⟩;obtain⟨c2,f2⟩:=HCB.o w2 hb2;have HB2:=zh hb2;clear hb2)
     go_roundw
     case rel=>exact⟨j,r2,q::qs,rfl,rfl,by omega,zh (HNX.o _ HB2.o)⟩
     case measure=>first|(simp[intOf];omega)|simp[intOf]
end Go.Proofs.Tg.Iw
