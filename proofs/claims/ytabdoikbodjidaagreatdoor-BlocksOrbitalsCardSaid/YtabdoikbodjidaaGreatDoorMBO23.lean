/- Parts of the proof. -/
import Derived.Lib.ItoaLen
import Derived.Test.YtabdoikbodjidaaGreatDoorMBO22
set_option maxHeartbeats 64000000
set_option maxRecDepth 100000
namespace Go.Proofs.Tg
open Go.RowKit Go.Gr Go.Bn
theorem aFU:∀(l:List Nat) (j:Nat) (h:j<l.length) (s:Nat),val (l.set j s)+B^j*l[j]=val l+B^j*s
  |x::l,0,_,s=>by simp only[dL,val,List.getElem_cons_zero,jD,fJ];omega
  |x::l,j+1,h,s=>by
   have ih:=aFU l j (by simpa using h) s;simp only[List.set_cons_succ,val,List.getElem_cons_succ,bS]
   have e:∀t,B^j*B*t=B*(B^j*t):=λt=>by rw[aT (B^j) B,aV]
   rw[e,e,fQ,<-aZ,ih,aZ];omega
structure aDj (us vs:List Nat)(g:Nat)(w0 wr:World)(i:Nat)(zs:List Nat):Prop where
  len:zs.length=i+vs.length
  dig:Dig zs
  sum:val zs=val (us.take i)*val vs
  blk:Blk wr g 168 (tM (zs++List.replicate (us.length-i) 0))
  below:Below w0.heap.size w0 wr
structure uZ (us vs:List Nat)(g:Nat)(w0 wr:World)(i x k c:Nat)(zs:List Nat):Prop where
  len:zs.length=i+vs.length
  dig:Dig zs
  car:c<B
  sum:val zs+B^(i+k)*c=val (us.take i)*val vs+B^i*(x*val (vs.take k))
  blk:Blk wr g 168 (tM (zs++List.replicate (us.length-i) 0))
  below:Below w0.heap.size w0 wr
theorem aBF {c x y o:Nat}(hc:c<B)(hx:x<B)(hy:y<B)(ho:o<B):c+(x*y+o)<B*B:=by
 have h:x*y<=(B-1)*(B-1):=cE (by omega) (by omega)
 have e:(B-1)*(B-1)=B*B-2*B+1:=by decide
 have e2:2*B<=B*B:=by decide
 omega
theorem uZ.step {us vs:List Nat}{g:Nat}{w0 wo:World}{i x k c:Nat}{zs:List Nat}(h:uZ us vs g w0 wo i x k c zs)(hk:k<vs.length)(hg:w0.heap.size<=g){y o:Nat}(hx:x<B)(hy:y<B)
    (ho:zs[i+k]'(by rw[h.len];omega)=o) (h2:val (vs.take (k+1))=val (vs.take k)+B^k*y):
    uZ us vs g w0 (wo.setCell ⟨g,i+k,none⟩ (.int .u32 (((c+(x*y+o))%B:Nat):Int))) i x (k+1) ((c+(x*y+o))/B) (zs.set (i+k) ((c+(x*y+o))%B)):=by
  have hl:i+k<zs.length:=by rw[h.len];omega
  have hoB:o<B:=by rw[<-ho];exact h.dig _ (aB _)
  refine⟨by rw[gD,h.len],λz hz=>?_,?_,?_,?_,hJ h.below hg _ _⟩
  ·rcases gV hz with hz|rfl
   ·exact h.dig z hz
   exact bL _ (by decide)
  ·rw[eC (by decide)];exact aBF h.car hx hy hoB
  ·have hv:=aFU zs (i+k) hl ((c+(x*y+o))%B);rw[ho]at hv;have hs:=h.sum;have hm:=gE (c+(x*y+o)) B
   have e1:B^(i+(k+1))*((c+(x*y+o))/B)=B^(i+k)*(B*((c+(x*y+o))/B)):=by rw[<-fQ,bS,aV]
   have e2:B^(i+k)*((c+(x*y+o))%B)+B^(i+k)*(B*((c+(x*y+o))/B))=B^(i+k)*(c+(x*y+o)):=by rw[<-aZ,hm]
   have e3:B^(i+k)*(c+(x*y+o))=B^(i+k)*c+B^(i+k)*(x*y)+B^(i+k)*o:=by rw[aZ,aZ,fQ]
   have e4:B^i*(x*val (vs.take (k+1)))=B^i*(x*val (vs.take k))+B^(i+k)*(x*y):=by
    rw[h2,aZ,aZ,eU]
    congr 1
    rw[aV (B^i),dZ x]
   rw[e1,e4];omega
  have:=h.blk.set (i+k) (.int .u32 (((c+(x*y+o))%B:Nat):Int))
  rwa [sE,List.set_append_left _ _ hl]at this
theorem uZ.drew {us vs:List Nat}{g:Nat}{w0 wo:World}{i x k c:Nat}{zs:List Nat}(h:uZ us vs g w0 wo i x k c zs):uZ us vs g w0 wo.drew i x k c zs:=
  ⟨h.len,h.dig,h.car,h.sum,h.blk.drew,h.below.drew⟩
theorem aDj.into {us vs:List Nat}{g:Nat}{w0 wo:World}{i:Nat}{zs:List Nat}(h:aDj us vs g w0 wo i zs)(x:Nat):uZ us vs g w0 wo i x 0 0 zs:=
  ⟨h.len,h.dig,by decide,by simp[h.sum,val],h.blk,h.below⟩
theorem uZ.o {us vs:List Nat}{g:Nat}{w0 wo:World}{i x c:Nat}{zs:List Nat}(h:uZ us vs g w0 wo i x vs.length c zs)(hi:i<us.length)(hg:w0.heap.size<=g)(h1:val (us.take (i+1))=val (us.take i)+B^i*x):
    aDj us vs g w0 (wo.setCell ⟨g,i+vs.length,none⟩ (.int .u32 (c:Nat))) (i+1) (zs++[c]):=by
  refine⟨by rw[aC,h.len];simp;omega,λz hz=>?_,?_,?_,hJ h.below hg _ _⟩
  ·rcases aK.1 hz with hz|hz
   ·exact h.dig z hz
   rw[aN.1 hz];exact h.car
  ·have hs:=h.sum;rw[eE]at hs;rw[lG,h.len,h1,cQ,aV,<-hs];simp[val]
  have:=h.blk.set (i+vs.length) (.int .u32 (c:Nat))
  rwa [sE,cX _ _ (by rw[h.len];exact aA _),h.len,cP,show us.length-i=(us.length-(i+1))+1 by omega,dO,dL,show zs++c::List.replicate (us.length-(i+1)) 0=(zs++[c])++List.replicate (us.length-(i+1)) 0 by simp]at this
theorem aMi (X Y:Option Addr)(cx cy:Nat)(us vs:List Nat)(w:World)(hX:kN w X us)(hY:kN w Y vs)(hu:Dig us)(hv:Dig vs)(hu0:0<us.length)(hv0:0<vs.length)(hn:us.length<=200000)(hm:vs.length<=200000):
    Calls Tryz.prog 129 #[.slice X us.length cx,.slice Y vs.length cy] w (yS (val us*val vs) w):=by
  have HU:=zh hu;have HV:=zh hv;have HX:=zh hX;have HY:=zh hY
  have n1:¬(us.length=0):=by omega
  have n2:¬(vs.length=0):=by omega
  have n3:((us.length:Int)==0)=false:=aG.2 (by omega);have n4:((vs.length:Int)==0)=false:=aG.2 (by omega)
  have hmk:=λW=>sK (us.length+vs.length) (by omega) W
  have hc1:((us.length+vs.length:Nat):Int)=(us.length:Int)+(vs.length:Int):=by omega
  rw[hc1]at hmk;clear hc1;clear hu hv hX hY;go_enter Tryz.func129,Tryz.ntmps129;go_upto_region 4 with(fail);obtain⟨W,hW⟩:=eqx (w.alloc (.cells (madeCells #[.int .u32 0] (us.length+vs.length)) 168))
  have G5:Blk W w.heap.size 168 (tM (List.replicate vs.length 0++List.replicate (us.length-0) 0)):=by
   rw[<-hW,List.replicate_append_replicate,gQ,gC,<-uN];exact Blk.new _ _ _
  have hbW:Below w.heap.size w W:=by rw[<-hW];exact bal
  rw[hW];clear hW hmk;go_wp2
  go_loopw [6] (λs6 wr=>∃(i:Nat) (zs:List Nat),s6=.int .i64 i/\i<=us.length/\Hid (aDj us vs w.heap.size w wr i zs)) (λs6 _=>us.length-(intOf s6).toNat)
  case atStart=>exact⟨0,_,rfl,aW _,zh (aDj.mk (by simp) (λx hx=>by rw[fO hx];decide) (by simp[val,uL]) G5 hbW)⟩
  case round=>
   clear G5 hbW;obtain⟨wo,rfl⟩:∃wo:World,wo=wr:=⟨_,rfl⟩;obtain⟨i,zs0,rfl,hi,HST⟩:=hrel
   by_cases hiu:i<us.length
   ·have hxB:us[i]<4294967296:=HU.o us[i] (aB _);have HTX:=zh (nN hiu)
    have p1:(i:Int)<(us.length:Int):=by omega
    go_wp2
    go_loopw [7,8] (λs7 s8 wr=>∃(k c:Nat) (zs:List Nat),s7=.int .u64 c/\s8=.int .i64 k/\k<=vs.length/\Hid (uZ us vs w.heap.size w wr i us[i] k c zs)) (λ_ s8 _=>vs.length-(intOf s8).toNat)
    case atStart=>exact⟨0,0,_,rfl,rfl,aW _,zh (HST.o.into _)⟩
    case round=>
     obtain⟨wn,rfl⟩:∃wn:World,wn=wr:=⟨_,rfl⟩;obtain⟨k,c,zs,rfl,rfl,hk,HIN⟩:=hrel;have hcB:c<4294967296:=HIN.o.car
     by_cases hkv:k<vs.length
     ·have hyB:vs[k]<4294967296:=HV.o vs[k] (aB _);have HTY:=zh (nN hkv);obtain⟨ad,rfl,hcx⟩:=kN.at (HX.o.keep HIN.o.below) hiu;obtain⟨bd,rfl,hcy⟩:=kN.at (HY.o.keep HIN.o.below) hkv;generalize us[i]=x at*;generalize vs[k]=y at*
      have hj:i+k<zs.length:=by rw[HIN.o.len];omega
      obtain⟨o,ho⟩:=eqx (zs[i+k])
      have hoB:o<4294967296:=by rw[<-ho];exact HIN.o.dig _ (aB _)
      have c0:=HIN.o.blk.cell (i+k);have f0:=HIN.o.blk.frozen (i+k)
      have hzl:(zs++List.replicate (us.length-i) 0).length=us.length+vs.length:=by rw[aC,bU,HIN.o.len];omega
      rw[sS _ (by rw[hzl];omega),eY hj,ho]at c0;have hbd:=aBF hcB hxB hyB hoB;simp only[B]at hbd
      have q0:(0:Int)<=(k:Int):=by omega
      have q1:(k:Int)<(vs.length:Int):=by omega
      have q2:(0:Int)<=(i:Int)+(k:Int):=by omega
      have q3:(i:Int)+(k:Int)<(us.length:Int)+(vs.length:Int):=by omega
      have q4:((i:Int)+(k:Int)).toNat=i+k:=by omega
      have hxy:x*y<18446744073709551616:=by omega
      have w1:IntKind.u64.wrap ((x:Int)*(y:Int))=((x*y:Nat):Int):=by have:=mA (x*y) hxy;simpa using this
      have w2:IntKind.u64.wrap (((x*y:Nat):Int)+(o:Int))=((x*y+o:Nat):Int):=by have:=mA (x*y+o) (by omega);simpa using this
      have w3:IntKind.u64.wrap ((c:Int)+((x*y+o:Nat):Int))=((c+(x*y+o):Nat):Int):=by have:=mA (c+(x*y+o)) (by omega);simpa using this
      go_wp2
      go_region
      go_wp2;go_roundw
      case rel=>
       have hs:=(HIN.o.step hkv (aA _) hxB hyB ho HTY.o).drew
       have e1:(((c+(x*y+o))%B:Nat):Int)=((c:Int)+((x:Int)*(y:Int)+(o:Int)))%4294967296:=by simp[B]
       have e2:(((c+(x*y+o))/B:Nat):Int)=((c:Int)+((x:Int)*(y:Int)+(o:Int)))/4294967296:=by simp[B]
       rw[e1]at hs;exact⟨k+1,(c+(x*y+o))/B,_,by rw[e2],by go_num,by omega,zh hs⟩
      case measure=>simp[intOf];omega
     obtain rfl:k=vs.length:=by omega
     have dd:decide (vs.length<vs.length)=false:=by simp
     generalize us[i]=x at*;have c0:=HIN.o.blk.cell (i+vs.length);have f0:=HIN.o.blk.frozen (i+vs.length)
     have hzl:(zs++List.replicate (us.length-i) 0).length=us.length+vs.length:=by rw[aC,bU,HIN.o.len];omega
     rw[sS _ (by rw[hzl];omega)]at c0;generalize (zs++List.replicate (us.length-i) 0)[i+vs.length]'(by rw[hzl];omega)=old at c0
     have q2:(0:Int)<=(i:Int)+(vs.length:Int):=by omega
     have q3:(i:Int)+(vs.length:Int)<(us.length:Int)+(vs.length:Int):=by omega
     have q4:((i:Int)+(vs.length:Int)).toNat=i+vs.length:=by omega
     have w1:(c:Int)%4294967296=(c:Int):=by omega
     go_wp2;go_roundw
     case rel=>exact⟨i+1,_,by go_num,by omega,zh (HIN.o.o hiu (aA _) HTX.o)⟩
     case measure=>simp[intOf];omega
   obtain rfl:i=us.length:=by omega
   have dd:decide (us.length<us.length)=false:=by simp
   have hb1:=HST.o.blk;rw[cP,fE,eA]at hb1;have hdig:=HST.o.dig;have hlen:=HST.o.len;have hsum:=HST.o.sum;rw[eE]at hsum;have HT:=zh (uM (some ⟨w.heap.size,0,none⟩) (us.length+vs.length) zs0 _ (tF hb1) hdig (by omega) (by omega));have hdl:=qG hdig;rw[hlen,hsum]at HT;rw[hlen,hsum]at hdl;clear hsum hb1 hdig hlen
   go_wp2_with (go_at_call 130;refine HT.o.mono ?_;rintro e w' ⟨rfl,rfl,hD⟩)
   go_ret;exact⟨_,_,rfl,ND.some hD hdl,HST.o.below⟩
theorem aEF (X Y:Option Addr)(cx cy m:Nat)(w:World):
    Calls Tryz.prog 129 #[.slice X 0 cx,.slice Y m cy] w λe w'=>e=.returned (.slice none 0 0)/\w=w':=by
  go_enter Tryz.func129,Tryz.ntmps129;go_wp2;go_ret;exact⟨rfl,rfl⟩
theorem aDk (X Y:Option Addr)(cx cy n:Nat)(w:World)(hn:0<n):
    Calls Tryz.prog 129 #[.slice X n cx,.slice Y 0 cy] w λe w'=>e=.returned (.slice none 0 0)/\w=w':=by
  have n1:¬(n=0):=by omega
  have n3:((n:Int)==0)=false:=aG.2 (by omega);go_enter Tryz.func129,Tryz.ntmps129;go_wp2;go_ret;exact⟨rfl,rfl⟩
theorem aFV {a:Nat}(h:(dg a).length=0):a=0:=by
 have:=kE a
 rw[List.length_eq_zero_iff.1 h]at this
 exact this.symm
theorem aAx {w:World}{e:Ending}{w':World}(h:e=.returned (.slice none 0 0)/\w=w'):yS 0 w e w':=by
 obtain⟨rfl,rfl⟩:=h
 refine⟨none,0,?_,ND.zero _,bM _ _⟩
 rw[jS];rfl
theorem aJq (X Y:Option Addr)(cx cy a b:Nat)(w:World)(hX:kN w X (dg a))(hY:kN w Y (dg b))(ha:(dg a).length<=200000)(hb:(dg b).length<=200000):
    Calls Tryz.prog 129 #[.slice X (dg a).length cx,.slice Y (dg b).length cy] w (yS (a*b) w):=by
  by_cases h:0<(dg a).length/\0<(dg b).length
  ·have:=aMi X Y cx cy (dg a) (dg b) w hX hY (kH a) (kH b) h.1 h.2 ha hb
   rwa [kE,kE]at this
  by_cases h1:(dg a).length=0
  ·rw[h1,aFV h1,Nat.zero_mul]
   exact(aEF X Y cx cy _ w).mono λe w' hh=>aAx hh
  have h2:(dg b).length=0:=by omega
  rw[h2,aFV h2,dN]
  exact(aDk X Y cx cy _ w (by omega)).mono λe w' hh=>aAx hh
end Go.Proofs.Tg
namespace Go.Proofs.Tg
open Go.RowKit Go.Gr Go.Bn Go.Rq
def QAt (w:World)(v:Value)(q:Rat):Prop:=
  ∃N cn D cd,v=.agg #[.bool (decide (q.num<0)),.slice N (dg q.num.natAbs).length cn,.bool false,.slice D (dg (dnz q.den)).length cd]/\ND w N cn q.num.natAbs/\ND w D cd (dnz q.den)
def aOa (q:Rat)(w:World)(e:Ending)(w':World):Prop:=∃v,e=.returned v/\QAt w' v q/\Below w.heap.size w w'
theorem mP {V:World}{g:Nat}{a b c d u:Value}{ad:Addr}(h:V.cell? ad=some u)(hne:ad.block≠g):((((V.setCell ⟨g,0,none⟩ a).setCell ⟨g,1,none⟩ b).setCell ⟨g,2,none⟩ c).setCell ⟨g,3,none⟩ d).cell? ad=some u:=by
 have e:∀k:Nat,(⟨g,k,none⟩:Addr)≠ad:=λk e=>hne (by rw[<-e])
 rw[bR _ _ _ _ (e 3),bR _ _ _ _ (e 2),bR _ _ _ _ (e 1),bR _ _ _ _ (e 0)]
 exact h
theorem wK {V:World}{g:Nat}{a b c d a' b' c' d':Value}{t:TypeId}(h:Blk V g t #[a,b,c,d]):Blk ((((V.setCell ⟨g,0,none⟩ a').setCell ⟨g,1,none⟩ b').setCell ⟨g,2,none⟩ c').setCell ⟨g,3,none⟩ d') g t #[a',b',c',d']:=by
 have:=(((h.set 0 a').set 1 b').set 2 c').set 3 d'
 simpa using this
theorem ND.four {V:World}{g:Nat}{A:Option Addr}{k n:Nat}{cs:Array Value}{a' b' c' d':Value}{t:TypeId}(h:ND V A k n)(B:Blk V g t cs)(hne:t≠168):ND ((((V.setCell ⟨g,0,none⟩ a').setCell ⟨g,1,none⟩ b').setCell ⟨g,2,none⟩ c').setCell ⟨g,3,none⟩ d') A k n:=
  (((h.far B hne 0 a').far (B.set 0 a') hne 1 b').far ((B.set 0 a').set 1 b') hne 2 c').far (((B.set 0 a').set 1 b').set 2 c') hne 3 d'
theorem Below.four {w V:World}{g:Nat}{a' b' c' d':Value}(h:Below w.heap.size w V)(hg:w.heap.size<=g):Below w.heap.size w ((((V.setCell ⟨g,0,none⟩ a').setCell ⟨g,1,none⟩ b').setCell ⟨g,2,none⟩ c').setCell ⟨g,3,none⟩ d'):=
  hJ (hJ (hJ (hJ h hg _ _) hg _ _) hg _ _) hg _ _
theorem aHe {q:Rat}(h:q.den=1):q=(q.num:Rat):=Rat.ext rfl h
end Go.Proofs.Tg
namespace Go.Proofs.Tg
open Go.RowKit Go.Gr Go.Bn Go.Rq Go.Qn
theorem aJi {n:Nat}(h:n<B):dg n=mg n:=by
 by_cases h0:n=0
 ·subst h0;rw[jS,aNc]
 rw[lD h0 h,aCH h0]
theorem aNx {m:Nat}(h:m<B):dg (dnz m)=dl m:=by
 by_cases h0:m=1
 ·subst h0;rw[lK,jS];rfl
 rw[lH h0,aFn h0,aJi h]
theorem aOb (q:Rat)(v:Value)(w:World)(h:QAt w v q)(hs:Sh q):
    Calls Tryz.prog 51 #[v] w λe w'=>e=.returned (.string (qtx q))/\Below w.heap.size w w':=by
  obtain⟨N,cn,D,cd,rfl,h1,h2⟩:=h;have b1:q.num.natAbs<B:=aH hs.1 (by decide);have b2:q.den<B:=aH hs.2 (by decide);have d1:=h1.digs;have d2:=h2.digs;rw[aJi b1]at d1 ⊢;rw[aNx b2]at d2 ⊢;exact aDT (decide (q.num<0)) false N D cn cd q.num.natAbs q.den w d1 d2 hs.1 hs.2 q.den_nz
end Go.Proofs.Tg
namespace Go.Proofs.Tg
open Go.RowKit Go.Gr Go.Bn Go.Rq
abbrev Tk (g:Nat)(w w':World):Prop:=w.grownBy w' (some g)
theorem Tk.of {g:Nat}{w w':World}(h:Below w.heap.size w w'):Tk g w w':=⟨h.os,h.tape,h.output,h.size,λk hk _=>h.block k hk⟩
theorem Tk.refl (g:Nat)(w:World):Tk g w w:=⟨rfl,rfl,rfl,aA _,λ_ _ _=>rfl⟩
theorem Tk.trans {g:Nat}{w w' w'':World}(h:Tk g w w')(k:Tk g w' w''):Tk g w w'':=
  ⟨k.os.trans h.os,k.tape.trans h.tape,k.output.trans h.output,aR h.size k.size,λi hi hg=>(k.block i (aH hi h.size) hg).trans (h.block i hi hg)⟩
theorem Tk.then {g:Nat}{w w' w'':World}(h:Tk g w w')(k:Below w'.heap.size w' w''):Tk g w w'':=h.trans (Tk.of k)
theorem Tk.set (g:Nat)(w:World)(i:Nat)(u:Value):Tk g w (w.setCell ⟨g,i,none⟩ u):=
  ⟨rfl,rfl,rfl,by simp[World.setCell],λk _ hk=>eZ w _ u k (λe=>hk (by rw[e]))⟩
theorem Tk.below {g:Nat}{w0 w w':World}(hb:Below w0.heap.size w0 w)(h:Tk g w w')(hg:w0.heap.size<=g):Below w0.heap.size w0 w':=
  hb.grown h hb.size (λk hk=>by injection hk with hk;omega)
end Go.Proofs.Tg
namespace Go.Proofs.Tg.Fi
open Go.RowKit Go.Rq Go.Qn Go.Lib Go.Sort Go.Proofs.Tg
structure Buf (w:World)(g:Nat)(t:TypeId)(N:Nat)(xs:List Value):Prop where
  ex:∃cs:Array Value,Blk w g t cs/\cs.size=N/\cs.toList.take xs.length=xs
theorem Buf.keep {w w':World}{g N:Nat}{t:TypeId}{xs:List Value}(h:Buf w g t N xs)(hb:Below w.heap.size w w'):Buf w' g t N xs:=by
 obtain⟨cs,B,r⟩:=h.ex
 exact⟨cs,B.keep hb B.lt,r⟩
theorem Buf.lt {w:World}{g N:Nat}{t:TypeId}{xs:List Value}(h:Buf w g t N xs):g<w.heap.size:=by
 obtain⟨cs,B,r⟩:=h.ex
 exact B.lt
theorem Buf.room {w:World}{g N:Nat}{t:TypeId}{xs:List Value}(h:Buf w g t N xs){j:Nat}(hj:j<N):(w.cell? ⟨g,j,none⟩).isSome=true/\w.frozen? ⟨g,j,none⟩=false:=by
 obtain⟨cs,B,hs,_⟩:=h.ex
 refine⟨?_,B.frozen j⟩
 rw[B.cell j]
 simp;omega
theorem sV {g:Nat}{t:TypeId}:∀(kD:List Value) (o:Nat) (w:World) (cs:Array Value),Blk w g t cs->o+kD.length<=cs.size->∃cs',Blk (w.setCells g o kD) g t cs'/\cs'.size=cs.size/\cs'.toList.take (o+kD.length)=cs.toList.take o++kD
  |[],o,w,cs,h,ho=>⟨cs,h,rfl,by simp⟩
  |v::r,o,w,cs,h,ho=>by
   have h1:=h.set o v;obtain⟨cs',B,hs,ht⟩:=sV r (o+1) _ _ h1 (by simp at ho ⊢;omega);refine⟨cs',B,by rw[hs];simp,?_⟩;rw[bP,show o+(r.length+1)=o+1+r.length by omega,ht]
   have ho2:o<cs.toList.length:=by simp at ho ⊢;omega
   rw[show(cs.setIfInBounds o v).toList=cs.toList.set o v by simp,aD (by simpa using ho2)];simp[List.take_set_of_le]
theorem tR (g:Nat):∀(kD:List Value) (o:Nat) (w:World),Tk g w (w.setCells g o kD)
  |[],_,w=>Tk.refl g w
  |v::r,o,w=>(Tk.set g w o v).trans (tR g r (o+1) _)
theorem wpList_append_run {P:Program}(w:World){ops:Array Oper}{rest:List Oper}{o:Oper}{a:Act}{Q:Exit->Act->World->Prop}(hgd:o.guard=none)(s x:Operand)(t tx:TypeId)
    (ho:o.op=.call {callee:=.builtin .append,args:=#[s,x],argTypes:=#[t,tx]}) (v':Value) (w':World)
    (hr:(Builtin.append_ #[t,tx] o.type #[a.eval s,a.eval x]).run P w=.ok v' w') (h:wpList P ops Q rest (a.put o.dst v') w'):wpList P ops Q (o::rest) a w:=by
  refine eW hgd λK hK=>?_
  unfold Oper.wp execOp;simp only[ho,resolve,invoke,builtin,Sem.run_bind,Sem.run_pure,Result.andThen_ok,List.map_toArray,fH,List.map_nil,hr];exact hK _ _ h
theorem uO:(Tryz.prog.info? 5).map (λi=>(i.zero,i.size,i.bytes))=some (some (.int .u8 0),1,1):=by kernel_rfl
theorem qJ {w:World}{g N:Nat}{t:TypeId}{xs:List Value}(h:Buf w g t N xs)(tx ty:TypeId)(x:Value)(n:Nat)(kD:List Value)(hs:Src Tryz.prog 1 tx x n kD w)(hroom:xs.length+n<=N):
    (Builtin.append_ #[150,tx] ty #[.slice (some ⟨g,0,none⟩) xs.length N,x]).run Tryz.prog w=.ok (.slice (some ⟨g,0,none⟩) (xs.length+n) N) (w.setCells g xs.length kD)/\Buf (w.setCells g xs.length kD) g t N (xs++kD)/\Tk g w (w.setCells g xs.length kD):=by
  obtain⟨i0,hi,hz0,hz1,hz2⟩:=info_parts uO;have hnl:=hs.newsLen;refine⟨?_,?_,tR g _ _ _⟩
  ·have:=run_append_room_src (P:=Tryz.prog) w 150 tx ty 5 i0 Tryz.underlying150 hi g 0 xs.length N x n kD (by rw[hz1];exact hs) hroom
     (λj hj=>by rw[hz1];simp only[bN,dI];exact(h.room (by omega)).1) (λj hj=>by rw[hz1];simp only[bN,dI];exact(h.room (by omega)).2)
   rw[hz1]at this;simpa using this
  obtain⟨cs,B,hsz,ht⟩:=h.ex;obtain⟨cs',B',hs',ht'⟩:=sV kD xs.length w cs B (by omega);exact⟨cs',B',by omega,by rw[aC,ht',ht]⟩
def mG (g:Nat)(t:TypeId)(N:Nat)(xs:List Value)(l:List UInt8)(w:World)(e:Ending)(w':World):Prop:=
  e=.returned (.slice (some ⟨g,0,none⟩) (xs.length+l.length) N)/\Buf w' g t N (xs++Lib.byteCells l)/\Tk g w w'
theorem aBH (i:Nat)(h:i<100)(w:World):Calls Tryz.prog 152 #[.int .i64 i] w λe w'=>e=.returned (.string (bs (Lib.decDigits i)))/\w'=w:=
  Any.internal_strconv_small {xW with} i h w
theorem aDn (u:Nat)(h1:1<=u)(h2:u<18446744073709551616)(w:World)(ht:PT w):Calls Tryz.prog 153 #[.int .u64 u] w λe w'=>e=.returned (.int .i64 (Lib.nDigits u))/\w'=w:=
  Any.internal_strconv_numDigits {xW with} u h1 h2 w ht
theorem aDo (g N u:Nat)(t:TypeId)(xs:List Value)(w:World)(h:Buf w g t N xs)(hu:u<100)(hroom:xs.length+20<=N):
    Calls Tryz.prog 165 #[.slice (some ⟨g,0,none⟩) xs.length N,.int .u64 u,.int .i64 10] w (mG g t N xs (Lib.decDigits u) w):=by
  have hlen:(Lib.decDigits u).length<=20:=by
   rw[Lib.decDigits_length]
   by_cases h10:u<10
   ·rw[Lib.nDigits_small h10];omega
   rw[Lib.nDigits_big h10,Lib.nDigits_small (show u/10<10 by omega)];omega
  have hsz:(bs (Lib.decDigits u)).size=(Lib.decDigits u).length:=kA _;have hsrc:=Src.ofString (P:=Tryz.prog) (w:=w) (tx:=9) Tryz.underlying9 (bs (Lib.decDigits u))
  have hbc:Go.byteCells (bs (Lib.decDigits u))=Lib.byteCells (Lib.decDigits u):=by
   unfold Go.byteCells Lib.byteCells;rw[kG]
  rw[hbc,hsz]at hsrc;obtain⟨hr,hB,hT⟩:=qJ h 9 150 _ _ _ hsrc (by omega);have HR:=zh hr;have HB:=zh hB;have HT:=zh hT;have HS:=zh (aBH u hu);generalize bs (Lib.decDigits u)=S at*;clear hr hB hT hsrc hbc hsz h;obtain⟨n,hn⟩:=eqx (xs.length);unfold mG;rw[hn]at HR HB HT hroom ⊢;have HN:=zh hn;clear hn;have hui:decide ((u:Int)<100)=true:=dT (by omega);have hun:decide (u<100)=true:=dT hu;go_enter Tryz.func165,Tryz.ntmps165
  go_wp2_with (first
    |(go_at_call 152;refine(HS.o _).mono ?_;rintro e w' ⟨rfl,rfl⟩)
    |(at_builtin;refine wpList_append_run _ rfl _ _ 150 9 rfl _ _ HR.o ?_))
  go_ret;exact⟨rfl,HB.o,HT.o⟩
theorem aHi (g N u:Nat)(t:TypeId)(xs:List Value)(w:World)(h:Buf w g t N xs)(hu:100<=u)(hu64:u<18446744073709551616)(hroom:xs.length+20<=N)(ht:PT w):
    Calls Tryz.prog 165 #[.slice (some ⟨g,0,none⟩) xs.length N,.int .u64 u,.int .i64 10] w (mG g t N xs (Lib.decDigits u) w):=by
  have hu1:1<=u:=by omega
  have hnd20:Lib.nDigits u<=20:=by have:=Lib.numDigits_eq u hu1 hu64;split at this<;>omega
  have hal:Tryz.prog.arrayLen 201=24:=by kernel_rfl
  have hsl:∀W,(Instr.sliceAt 201 (.pointer (some ⟨w.heap.size,0,none⟩)) none (some (.int .i64 (Lib.nDigits u:Int))) none).run Tryz.prog W=.ok (.slice (some ⟨w.heap.size,0,none⟩) (Lib.nDigits u) 24) W:=λW=>by
   rw[run_sliceAt_array_h W 201 ⟨w.heap.size,0,none⟩ (by simp[Program.arrayLen,Program.elem,Tryz.underlying201]) .i64 (Lib.nDigits u:Int) (by omega) (by rw[hal];omega)];go_simp
  have hH0:=Lib.holds_zero0 w 201 (Lib.nDigits u) (by omega)
  have hfmt:Calls Tryz.prog 154 #[.slice (some ⟨w.heap.size,0,none⟩) (Array.replicate (Lib.nDigits u) (0:UInt8)).size 24,.int .u64 u] (w.alloc (.cells Lib.zeros24 201)) λe w'=>
   e=.returned (.tuple #[])/\∃(n v':Nat) (dk:Array UInt8),w'=(putRow (λ(b:UInt8)=>Value.int .u8 (b.toNat:Int)) (w.alloc (.cells Lib.zeros24 201)) w.heap.size 0 dk).drewN n/\FmtInv (Array.replicate (Lib.nDigits u) (0:UInt8)).size u 0 v' dk:=
   Any.internal_strconv_formatBase10 {xW with} w.heap.size 0 24 u (Array.replicate (Lib.nDigits u) 0) (w.alloc (.cells Lib.zeros24 201)) hH0 (by rw[gU];exact Lib.lt_pow_nDigits u) hu64 (by rw[gU];omega)
  rw[gU]at hfmt;have HH0:=zh hH0
  have iu:(100:Int)<=(u:Int):=by omega
  have HND:=zh (aDn u hu1 hu64 (w.alloc (.cells Lib.zeros24 201)) (Lib.tabIs_alloc ht _));have HFM:=zh hfmt;have HL:=zh (Lib.decDigits_length u);unfold mG;obtain⟨n,hn⟩:=eqx (xs.length);have HN:=zh hn;have HBF:=zh h;rw[hn]at hroom ⊢;clear hH0 hal hfmt hn h;go_enter Tryz.func165,Tryz.ntmps165
  go_wp2_with (go_at_call 153;refine HND.o.mono ?_;rintro e w' ⟨rfl,rfl⟩)
  refine HFM.o.mono ?_;rintro e w' ⟨rfl,k,v',dk,rfl,hF⟩
  have hcells:∀j u',(Lib.byteCells (Lib.decDigits u))[j]?=some u'->((putRow (λ(b:UInt8)=>Value.int .u8 (b.toNat:Int)) (w.alloc (.cells Lib.zeros24 201)) w.heap.size 0 dk).drewN k).cell? ((⟨w.heap.size,0,none⟩:Addr).add j)=some u':=by
   intro j u' hj
   have hjl:j<(Lib.decDigits u).length:=by
    have h5:=(aX.1 hj).1
    rwa [Lib.byteCells_length]at h5
   have e5:(Lib.byteCells (Lib.decDigits u))[j]?=some (Value.int .u8 ((Lib.decDigits u)[j].toNat:Int)):=by simp[Lib.byteCells,hjl]
   rw[e5]at hj
   cases hj
   rw[Lib.row_is_numeral hF j hjl,Lib.add_plain,World.cell?_drewN];exact cell?_putRow (λ(b:UInt8)=>Value.int .u8 (b.toNat:Int)) _ w.heap.size 0 _ dk HH0.o (by rw[hF.size,gU]) j (by rw[hF.size];rw[Lib.decDigits_length]at hjl;exact hjl)
  obtain⟨os,eo⟩:=Lib.fin_at w (.cells Lib.zeros24 201) dk k 0
  have hbe:Below w.heap.size w ((putRow (λ(b:UInt8)=>Value.int .u8 (b.toNat:Int)) (w.alloc (.cells Lib.zeros24 201)) w.heap.size 0 dk).drewN k):=by rw[eo];exact Lib.below_grow _ w (aA _) k os
  generalize (putRow (λ(b:UInt8)=>Value.int .u8 (b.toNat:Int)) (w.alloc (.cells Lib.zeros24 201)) w.heap.size 0 dk).drewN k=W2 at hcells hbe ⊢;clear eo HH0 HFM;have hsrc:=Src.ofSlice (P:=Tryz.prog) (w:=W2) (size:=1) (tx:=150) Tryz.underlying150 ⟨w.heap.size,0,none⟩ (Lib.nDigits u) 24 (Lib.byteCells (Lib.decDigits u)) (by rw[Lib.byteCells_length,Lib.decDigits_length,dI]) hcells (by intro u' hu';simp only[Lib.byteCells,aM]at hu';obtain⟨b,_,rfl⟩:=hu';rfl);obtain⟨hr,hB,hT⟩:=qJ (HBF.o.keep hbe) 150 150 _ _ _ hsrc (by rw[HN.o];omega);rw[HN.o]at hr hB hT;have HR:=zh hr;have HB:=zh hB;have HT:=zh ((Tk.of hbe).trans hT);have HLL:=zh HL.o.symm;generalize Lib.nDigits u=nd at*;clear hr hB hT hsrc hcells hbe
  go_wp2_with (at_builtin;refine wpList_append_run _ rfl _ _ 150 150 rfl _ _ HR.o ?_)
  go_ret;exact⟨by rw[HLL.o];rfl,HB.o,HT.o⟩
theorem xY (g N u:Nat)(t:TypeId)(xs:List Value)(w:World)(h:Buf w g t N xs)(hu64:u<18446744073709551616)(hroom:xs.length+20<=N)(ht:PT w):
    Calls Tryz.prog 165 #[.slice (some ⟨g,0,none⟩) xs.length N,.int .u64 u,.int .i64 10] w (mG g t N xs (Lib.decDigits u) w):=by
  by_cases hu:u<100
  ·exact aDo g N u t xs w h hu hroom
  exact aHi g N u t xs w h (by omega) hu64 hroom ht
theorem xZ:Tryz.prog.globalNamed "internal/strconv.uint64pow10" =some 0:=by kernel_rfl
theorem PT.lt {w:World}(h:PT w):0<w.heap.size:=by
 unfold PT Lib.TabIs World.var? at h
 rw[xZ]at h
 simp only[Option.bind_some]at h
 cases hh:w.heap[(0:Nat)]? with
 |none=>rw[hh]at h;cases h
 |some o=>exact(cR.1 hh).1
theorem PT.tk {g:Nat}{w w':World}(h:PT w)(hk:Tk g w w')(hg:0<g):PT w':=by
 have hl:=h.lt
 have hb:=hk.block 0 hl (by intro e;injection e with e;omega)
 unfold PT Lib.TabIs World.var? at*
 rw[xZ]at*
 simp only[Option.bind_some]at*
 rw[hb];exact h
theorem aMl (i:Int)(h0:-9223372036854775808<=i)(h1:i<9223372036854775808)(g N:Nat)(t:TypeId)(xs:List Value)(w:World)(h:Buf w g t N xs)(hroom:xs.length+21<=N)(ht:PT w)(hg:0<g):
    Calls Tryz.prog 139 #[.slice (some ⟨g,0,none⟩) xs.length N,.int .i64 i,.int .i64 10] w (mG g t N xs (Lib.itoa i) w):=by
  obtain⟨u,hu⟩:=eqx (i.natAbs:Nat)
  have hu64:u<18446744073709551616:=by omega
  by_cases hi:i<0
  ·have hit:Lib.itoa i=45::Lib.decDigits u:=by unfold Lib.itoa;rw[aQ hi,hu]
   have hd:decide (i<0)=true:=dT hi
   have hc:IntKind.u64.wrap i=18446744073709551616-(u:Int):=by
    have e:IntKind.u64.wrap i=i%18446744073709551616:=rfl;rw[e];omega
   have hc2:IntKind.u64.wrap (-(18446744073709551616-(u:Int)))=(u:Int):=by
    have e:IntKind.u64.wrap (-(18446744073709551616-(u:Int)))=(-(18446744073709551616-(u:Int)))%18446744073709551616:=rfl;rw[e];omega
   have hui:i=-(u:Int):=by omega
   obtain⟨W,hW⟩:=eqx (w.alloc (.cells #[.int .u8 45] 5))
   have hbW:Below w.heap.size w W:=by rw[<-hW];exact bal
   have hcell:∀j v,[Value.int .u8 45][j]?=some v->W.cell? ((⟨w.heap.size,0,none⟩:Addr).add j)=some v:=by rw[<-hW];exact yO w 5 [.int .u8 45]
   have hsrc:=Src.ofSlice (P:=Tryz.prog) (w:=W) (size:=1) (tx:=150) Tryz.underlying150 ⟨w.heap.size,0,none⟩ 1 1 [.int .u8 45] rfl hcell (by simp[Value.oneCell']);obtain⟨hr,hB,hT⟩:=qJ (h.keep hbW) 150 150 _ _ _ hsrc (by omega);have hpt:PT (W.setCells g xs.length [.int .u8 45]):=(ht.keep hbW).tk hT hg;have HA:=zh (xY g N u t (xs++[.int .u8 45]) _ hB hu64 (by simp;omega) hpt);have HR:=zh hr;have HT:=zh ((Tk.of hbW).trans hT);have HWW:=zh hW;obtain⟨n,hn⟩:=eqx (xs.length);rw[hit];unfold mG;rw[aC,dC]at HA;unfold mG at HA;rw[hn]at HR HT HA hroom ⊢;have HN:=zh hn;clear hW hr hB hT hsrc hcell hpt hbW h ht hn hit;subst hui;clear hu;go_enter Tryz.func139,Tryz.ntmps139
   go_wp2_with (at_builtin;rw[HWW.o];refine wpList_append_run _ rfl _ _ 150 150 rfl _ _ HR.o ?_)
   refine HA.o.mono ?_;rintro e w2 ⟨rfl,hB2,hT2⟩;go_wp2;go_ret;refine⟨?_,?_,HT.o.trans hT2⟩
   ·rw[HN.o,show n+1+(Lib.decDigits u).length=n+((Lib.decDigits u).length+1) by omega];rfl
   have e:xs++Lib.byteCells (45::Lib.decDigits u)=xs++[.int .u8 45]++Lib.byteCells (Lib.decDigits u):=by simp[Lib.byteCells]
   rw[e];exact hB2
  have hit:Lib.itoa i=Lib.decDigits u:=by
   unfold Lib.itoa;rw[aJ hi,show i.toNat=u by omega]
  have hui:i=(u:Int):=by omega
  have HA:=zh (xY g N u t xs w h hu64 (by omega) ht);obtain⟨n,hn⟩:=eqx (xs.length);rw[hit];rw[hn]at HA hroom ⊢;subst hui;have hd:decide ((u:Int)<0)=false:=dF hi
  have hc:IntKind.u64.wrap (u:Int)=(u:Int):=by
   have e:IntKind.u64.wrap (u:Int)=(u:Int)%18446744073709551616:=rfl;rw[e];omega
  have HN:=zh hn;clear hu hit h ht hn;go_enter Tryz.func139,Tryz.ntmps139;go_wp2_with (fail);refine HA.o.mono ?_;rintro e w2 ⟨rfl,hB2,hT2⟩;go_wp2;go_ret;refine⟨?_,hB2,hT2⟩;rw[HN.o];rfl
theorem aDp (i:Int)(h0:-9223372036854775808<=i)(h1:i<9223372036854775808)(g N:Nat)(t:TypeId)(xs:List Value)(w:World)(h:Buf w g t N xs)(hroom:xs.length+21<=N)(ht:PT w)(hg:0<g):
    Calls Tryz.prog 92 #[.slice (some ⟨g,0,none⟩) xs.length N,.int .i64 i,.int .i64 10] w (mG g t N xs (Lib.itoa i) w):=by
  have HA:=zh (aMl i h0 h1 g N t xs w h hroom ht hg);obtain⟨n,hn⟩:=eqx (xs.length);rw[hn]at HA ⊢;have HN:=zh hn;clear hn h hroom ht;go_enter Tryz.func92,Tryz.ntmps92;go_wp2_with (fail);refine HA.o.mono ?_;rintro e w2 ⟨rfl,hB2,hT2⟩;go_wp2;go_ret;exact⟨by rw[HN.o];rfl,hB2,hT2⟩
def U8 (w:World)(g:Nat):Prop:=∀t cs,Blk w g t cs->∀v∈cs.toList,∃b:Int,v=.int .u8 b
theorem U8.same {w w':World}{g:Nat}(h:U8 w g)(he:w'.heap[g]?=w.heap[g]?):U8 w' g:=λt cs B v hv=>h t cs (by unfold Blk at*;rw[<-he];exact B) v hv
theorem U8.set {w:World}{g:Nat}{t:TypeId}{cs:Array Value}(h:U8 w g)(B:Blk w g t cs)(o:Nat)(b:Int):U8 (w.setCell ⟨g,o,none⟩ (.int .u8 b)) g:=λt' cs' B' v hv=>by
 have B2:=B.set o (.int .u8 b)
 unfold Blk at B' B2
 rw[B']at B2
 injection B2 with B2
 injection B2 with e1 e2
 subst e1
 rw[Array.toList_setIfInBounds]at hv
 rcases gV hv with h2|h2
 ·exact h t cs B v h2
 exact⟨b,h2⟩
theorem U8.sets {g:Nat}{t:TypeId}:∀(m:List UInt8) (o:Nat) (w:World) (cs:Array Value),Blk w g t cs->U8 w g->U8 (w.setCells g o (Lib.byteCells m)) g
  |[],_,_,_,_,h=>h
  |b::m,o,_w,_cs,B,h=>U8.sets m (o+1) _ _ (B.set o (.int .u8 (b.toNat:Int))) (h.set B o _)
theorem U8.new (w:World)(t:TypeId){cs:Array Value}(h:∀v∈cs.toList,∃b:Int,v=.int .u8 b):U8 (w.alloc (.cells cs t)) w.heap.size:=λt' cs' B v hv=>by
 have B2:=Blk.new w t cs
 unfold Blk at B B2
 rw[B]at B2
 injection B2 with B2
 injection B2 with e1 e2
 subst e1
 exact h v hv
structure TxS (w:World)(A:Option Addr)(c:Nat)(l:List UInt8):Prop where
  nil:A=none->l=[]/\c=0
  own:∀ad,A=some ad->∃g,ad=⟨g,0,none⟩/\Buf w g 5 c (Lib.byteCells l)/\U8 w g
  cap:l.length<=c
theorem TxS.zero (w:World):TxS w none 0 []:=⟨λ_=>⟨rfl,rfl⟩,λ_ h=>(by cases h),aA _⟩
theorem TxS.keep {w w':World}{A:Option Addr}{c:Nat}{l:List UInt8}(h:TxS w A c l)(hb:Below w.heap.size w w'):TxS w' A c l:=
  ⟨h.nil,λad e=>by obtain⟨g,e,B,U⟩:=h.own ad e;exact⟨g,e,B.keep hb,U.same (hb.block g B.lt)⟩,h.cap⟩
structure TxR (A:Option Addr)(w:World)(A':Option Addr)(w':World):Prop where
  kept:w.grownBy w' (A.map Addr.block)
  at':A'=A∨∃g,A'=some ⟨g,0,none⟩/\w.heap.size<=g
theorem TxR.of {A:Option Addr}{w w':World}(h:Below w.heap.size w w'):TxR A w A w':=⟨⟨h.os,h.tape,h.output,h.size,λk hk _=>h.block k hk⟩,.inl rfl⟩
theorem TxR.trans {A A' A'':Option Addr}{w w' w'':World}(h:TxR A w A' w')(k:TxR A' w' A'' w''):TxR A w A'' w'':=by
 refine⟨⟨k.kept.os.trans h.kept.os,k.kept.tape.trans h.kept.tape,k.kept.output.trans h.kept.output,aR h.kept.size k.kept.size,λj hj hn=>?_⟩,?_⟩
 ·rw[k.kept.block j (aH hj h.kept.size) ?_,h.kept.block j hj hn]
  rcases h.at' with e|⟨g,e,hg⟩
  ·rw[e];exact hn
  rw[e];intro e2
  injection e2 with e2
  have e2:j=g:=e2;omega
 rcases k.at' with e|⟨g,e,hg⟩
 ·rcases h.at' with e'|⟨g,e',hg⟩
  ·exact .inl (e.trans e')
  exact .inr ⟨g,e.trans e',hg⟩
 exact .inr ⟨g,e,aR h.kept.size hg⟩
theorem TxR.below {A A':Option Addr}{w w':World}{B:Nat}(h:TxR A w A' w')(hB:B<=w.heap.size)(hA:∀ad,A=some ad->B<=ad.block):Below B w w':=
  ⟨h.kept.os,h.kept.tape,h.kept.output,h.kept.size,λk hk=>h.kept.block k (aH hk hB) (by
   cases A with
   |none=>simp
   |some ad=>intro e;injection e with e;have:=hA ad rfl;omega)⟩
theorem lM {w:World}{A:Option Addr}{c n:Nat}{l m:List UInt8}(h:TxS w A c l)(tx ty:TypeId)(x:Value)(hs:Src Tryz.prog 1 tx x n (Lib.byteCells m) w)(hn:m.length=n)(h1:0<n)(hb:l.length+n<=10000000):
    ∃A' c' w',(Builtin.append_ #[150,tx] ty #[.slice A l.length c,x]).run Tryz.prog w=.ok (.slice A' (l.length+n) c') w'/\TxS w' A' c' (l++m)/\TxR A w A' w':=by
  obtain⟨i0,hi,hz0,hz1,hz2⟩:=info_parts uO;have hbl:=Lib.byteCells_length l;have hbm:=Lib.byteCells_length m
  have hap:Lib.byteCells (l++m)=Lib.byteCells l++Lib.byteCells m:=by simp[Lib.byteCells]
  by_cases hroom:l.length+n<=c
  ·cases A with
   |none=>have:=(h.nil rfl).2;omega
   |some ad=>
    obtain⟨g,rfl,B,U⟩:=h.own ad rfl
    have hU:U8 (w.setCells g (Lib.byteCells l).length (Lib.byteCells m)) g:=by
     obtain⟨cs,B2,_,_⟩:=B.ex;exact U8.sets m _ w cs B2 U
    obtain⟨hr,hB,hT⟩:=qJ B tx ty x n (Lib.byteCells m) hs (by omega);rw[hbl]at hr hB hT hU;exact⟨some ⟨g,0,none⟩,c,_,hr,⟨λe=>(by cases e),λad e=>⟨g,by injection e with e;exact e.symm,by rw[hap];exact hB,hU⟩,by rw[aC];omega⟩,⟨hT,.inl rfl⟩⟩
  have hold:(Builtin.firstCells i0.size l.length (.slice A l.length c)).run Tryz.prog w.drew=.ok (Lib.byteCells l).toArray w.drew:=by
   rw[hz1]
   cases A with
   |none=>
    obtain⟨rfl,rfl⟩:=h.nil rfl;exact run_firstCells_none _ _ _ _ _
   |some ad=>
    obtain⟨g,rfl,⟨cs,B,hsz,ht⟩,_⟩:=h.own ad rfl;refine iI _ 1 l.length ⟨g,0,none⟩ l.length c (Lib.byteCells l) (by omega) (λj x hx=>?_);rw[kI,bN,World.cell?_drew,B.cell];have hj:=(aX.1 hx).1;rw[<-ht,fU,aQ hj]at hx;rw[<-hx,gK]
  have hr:=run_append_grow_src (P:=Tryz.prog) w 150 tx ty 5 i0 (.int .u8 0) Tryz.underlying150 hi hz0 A l.length c (Lib.byteCells l) hold x n (Lib.byteCells m) (by rw[hz1];exact hs) (by omega) (by omega) (iZ (by omega) (by rw[hz2];omega));have hge:=jM w (l.length+n) c 5;generalize grownCap w (l.length+n) c 5=cap at*;refine⟨some ⟨w.heap.size,0,none⟩,cap,_,hr,⟨λe=>(by cases e),λad e=>⟨w.heap.size,by injection e with e;exact e.symm,⟨_,Blk.new w.drew 5 _,?_,?_⟩,?_⟩,by rw[aC];omega⟩,⟨⟨rfl,rfl,rfl,by simp,λk hk _=>heap_alloc_old w.drew _ hk⟩,.inr ⟨_,rfl,aA _⟩⟩⟩
  ·have:(Builtin.zeroCells (Value.int .u8 0).cells (cap-(l.length+n))).size=cap-(l.length+n):=by simp[Builtin.zeroCells,Value.cells]
   rw[Array.size_append,this,List.size_toArray,aC,hbl,hbm];omega
  ·rw[hap]
   have e:((Lib.byteCells l++Lib.byteCells m).toArray++Builtin.zeroCells (Value.int .u8 0).cells (cap-(l.length+n))).toList=(Lib.byteCells l++Lib.byteCells m)++(Builtin.zeroCells (Value.int .u8 0).cells (cap-(l.length+n))).toList:=by simp
   rw[e,List.take_left]
  refine U8.new w.drew 5 λv hv=>?_
  rw[Array.toList_append]at hv
  rcases aK.1 hv with h2|h2
  ·have h2:v∈Lib.byteCells l++Lib.byteCells m:=h2;rw[<-hap]at h2;obtain⟨b,_,rfl⟩:=aM.1 h2;exact⟨_,rfl⟩
  simp[Builtin.zeroCells,Value.cells]at h2;obtain⟨i,_,h3⟩:=h2;exact⟨0,by rw[<-h3,Nat.mod_one];rfl⟩
theorem TxS.src {w:World}{A:Option Addr}{c:Nat}{l:List UInt8}(h:TxS w A c l):Src Tryz.prog 1 150 (.slice A l.length c) l.length (Lib.byteCells l) w:=by
 cases A with
 |none=>
  obtain⟨rfl,rfl⟩:=h.nil rfl;exact Src.ofNil _ Tryz.underlying150 0
 |some ad=>
  obtain⟨g,rfl,⟨cs,B,hsz,ht⟩,_⟩:=h.own ad rfl;refine Src.ofSlice (P:=Tryz.prog) (w:=w) (size:=1) (tx:=150) Tryz.underlying150 ⟨g,0,none⟩ l.length c (Lib.byteCells l) (by rw[Lib.byteCells_length];omega) (λj u hu=>?_) (by intro u' hu';simp only[Lib.byteCells,aM]at hu';obtain⟨b,_,rfl⟩:=hu';rfl);rw[kI,bN,B.cell];have hj:=(aX.1 hu).1;rw[<-ht,fU,aQ hj]at hu;rw[<-hu,gK]
def kY (A:Option Addr)(l m:List UInt8)(w:World)(e:Ending)(w':World):Prop:=
  ∃A' c',e=.returned (.slice A' (l.length+m.length) c')/\TxS w' A' c' (l++m)/\TxR A w A' w'
theorem aDF (u:Nat)(A:Option Addr)(c:Nat)(l:List UInt8)(w:World)(h:TxS w A c l)(hu:u<100)(hl:l.length<=9000000):
    Calls Tryz.prog 165 #[.slice A l.length c,.int .u64 u,.int .i64 10] w (kY A l (Lib.decDigits u) w):=by
  have hlen:(Lib.decDigits u).length<=20/\0<(Lib.decDigits u).length:=by
   rw[Lib.decDigits_length]
   by_cases h10:u<10
   ·rw[Lib.nDigits_small h10];omega
   rw[Lib.nDigits_big h10,Lib.nDigits_small (show u/10<10 by omega)];omega
  have hsz:(bs (Lib.decDigits u)).size=(Lib.decDigits u).length:=kA _;have hsrc:=Src.ofString (P:=Tryz.prog) (w:=w) (tx:=9) Tryz.underlying9 (bs (Lib.decDigits u))
  have hbc:Go.byteCells (bs (Lib.decDigits u))=Lib.byteCells (Lib.decDigits u):=by
   unfold Go.byteCells Lib.byteCells;rw[kG]
  rw[hbc,hsz]at hsrc;obtain⟨A',c',W,hr,hB,hT⟩:=lM h 9 150 _ hsrc rfl hlen.2 (by omega);have HR:=zh hr;have HB:=zh hB;have HT:=zh hT;have HS:=zh (aBH u hu);generalize bs (Lib.decDigits u)=S at*;clear hr hB hT hsrc hbc hsz h;obtain⟨n,hn⟩:=eqx (l.length);unfold kY;rw[hn]at HR ⊢;clear hn hl;have hui:decide ((u:Int)<100)=true:=dT (by omega);have hun:decide (u<100)=true:=dT hu;go_enter Tryz.func165,Tryz.ntmps165
  go_wp2_with (first
    |(go_at_call 152;refine(HS.o _).mono ?_;rintro e w' ⟨rfl,rfl⟩)
    |(at_builtin;refine wpList_append_run _ rfl _ _ 150 9 rfl _ _ HR.o ?_))
  go_ret;exact⟨_,_,rfl,HB.o,HT.o⟩
theorem aHz (u:Nat)(A:Option Addr)(c:Nat)(l:List UInt8)(w:World)(h:TxS w A c l)(hu:100<=u)(hu64:u<18446744073709551616)(hl:l.length<=9000000)(ht:PT w):
    Calls Tryz.prog 165 #[.slice A l.length c,.int .u64 u,.int .i64 10] w (kY A l (Lib.decDigits u) w):=by
  have hu1:1<=u:=by omega
  have hnd20:Lib.nDigits u<=20:=by have:=Lib.numDigits_eq u hu1 hu64;split at this<;>omega
  have hnd0:0<Lib.nDigits u:=Lib.nDigits_pos u
  have hal:Tryz.prog.arrayLen 201=24:=by kernel_rfl
  have hsl:∀W,(Instr.sliceAt 201 (.pointer (some ⟨w.heap.size,0,none⟩)) none (some (.int .i64 (Lib.nDigits u:Int))) none).run Tryz.prog W=.ok (.slice (some ⟨w.heap.size,0,none⟩) (Lib.nDigits u) 24) W:=λW=>by
   rw[run_sliceAt_array_h W 201 ⟨w.heap.size,0,none⟩ (by simp[Program.arrayLen,Program.elem,Tryz.underlying201]) .i64 (Lib.nDigits u:Int) (by omega) (by rw[hal];omega)];go_simp
  have hH0:=Lib.holds_zero0 w 201 (Lib.nDigits u) (by omega)
  have hfmt:Calls Tryz.prog 154 #[.slice (some ⟨w.heap.size,0,none⟩) (Array.replicate (Lib.nDigits u) (0:UInt8)).size 24,.int .u64 u] (w.alloc (.cells Lib.zeros24 201)) λe w'=>
   e=.returned (.tuple #[])/\∃(n v':Nat) (dk:Array UInt8),w'=(putRow (λ(b:UInt8)=>Value.int .u8 (b.toNat:Int)) (w.alloc (.cells Lib.zeros24 201)) w.heap.size 0 dk).drewN n/\FmtInv (Array.replicate (Lib.nDigits u) (0:UInt8)).size u 0 v' dk:=
   Any.internal_strconv_formatBase10 {xW with} w.heap.size 0 24 u (Array.replicate (Lib.nDigits u) 0) (w.alloc (.cells Lib.zeros24 201)) hH0 (by rw[gU];exact Lib.lt_pow_nDigits u) hu64 (by rw[gU];omega)
  rw[gU]at hfmt;have HH0:=zh hH0
  have iu:(100:Int)<=(u:Int):=by omega
  have HND:=zh (aDn u hu1 hu64 (w.alloc (.cells Lib.zeros24 201)) (Lib.tabIs_alloc ht _));have HFM:=zh hfmt;have HL:=zh (Lib.decDigits_length u);unfold kY;obtain⟨n,hn⟩:=eqx (l.length);have HN:=zh hn;have HBF:=zh h;rw[hn]at hl ⊢;clear hH0 hal hfmt hn h;go_enter Tryz.func165,Tryz.ntmps165
  go_wp2_with (go_at_call 153;refine HND.o.mono ?_;rintro e w' ⟨rfl,rfl⟩)
  refine HFM.o.mono ?_;rintro e w' ⟨rfl,k,v',dk,rfl,hF⟩
  have hcells:∀j u',(Lib.byteCells (Lib.decDigits u))[j]?=some u'->((putRow (λ(b:UInt8)=>Value.int .u8 (b.toNat:Int)) (w.alloc (.cells Lib.zeros24 201)) w.heap.size 0 dk).drewN k).cell? ((⟨w.heap.size,0,none⟩:Addr).add j)=some u':=by
   intro j u' hj
   have hjl:j<(Lib.decDigits u).length:=by
    have h5:=(aX.1 hj).1
    rwa [Lib.byteCells_length]at h5
   have e5:(Lib.byteCells (Lib.decDigits u))[j]?=some (Value.int .u8 ((Lib.decDigits u)[j].toNat:Int)):=by simp[Lib.byteCells,hjl]
   rw[e5]at hj
   cases hj
   rw[Lib.row_is_numeral hF j hjl,Lib.add_plain,World.cell?_drewN];exact cell?_putRow (λ(b:UInt8)=>Value.int .u8 (b.toNat:Int)) _ w.heap.size 0 _ dk HH0.o (by rw[hF.size,gU]) j (by rw[hF.size];rw[Lib.decDigits_length]at hjl;exact hjl)
  obtain⟨os,eo⟩:=Lib.fin_at w (.cells Lib.zeros24 201) dk k 0
  have hbe:Below w.heap.size w ((putRow (λ(b:UInt8)=>Value.int .u8 (b.toNat:Int)) (w.alloc (.cells Lib.zeros24 201)) w.heap.size 0 dk).drewN k):=by rw[eo];exact Lib.below_grow _ w (aA _) k os
  generalize (putRow (λ(b:UInt8)=>Value.int .u8 (b.toNat:Int)) (w.alloc (.cells Lib.zeros24 201)) w.heap.size 0 dk).drewN k=W2 at hcells hbe ⊢;clear eo HH0 HFM;have hsrc:=Src.ofSlice (P:=Tryz.prog) (w:=W2) (size:=1) (tx:=150) Tryz.underlying150 ⟨w.heap.size,0,none⟩ (Lib.nDigits u) 24 (Lib.byteCells (Lib.decDigits u)) (by rw[Lib.byteCells_length,Lib.decDigits_length,dI]) hcells (by intro u' hu';simp only[Lib.byteCells,aM]at hu';obtain⟨b,_,rfl⟩:=hu';rfl);obtain⟨A',c',W,hr,hB,hT⟩:=lM (HBF.o.keep hbe) 150 150 _ hsrc (Lib.decDigits_length u) hnd0 (by rw[HN.o];omega);rw[HN.o]at hr;have HR:=zh hr;have HB:=zh hB;have HT:=zh ((TxR.of hbe).trans hT);have HLL:=zh HL.o.symm;generalize Lib.nDigits u=nd at*;clear hr hB hT hsrc hcells hbe
  go_wp2_with (at_builtin;refine wpList_append_run _ rfl _ _ 150 150 rfl _ _ HR.o ?_)
  go_ret;exact⟨A',c',by first|rfl|(rw[HLL.o];rfl)|(rw[<-HLL.o];rfl),HB.o,HT.o⟩
theorem aBQ (u:Nat)(A:Option Addr)(c:Nat)(l:List UInt8)(w:World)(h:TxS w A c l)(hu64:u<18446744073709551616)(hl:l.length<=9000000)(ht:PT w):
    Calls Tryz.prog 179 #[.slice A l.length c,.int .u64 u,.int .i64 10] w (kY A l (Lib.decDigits u) w):=by
  have HI:Hid (Calls Tryz.prog 165 #[.slice A l.length c,.int .u64 u,.int .i64 10] w (kY A l (Lib.decDigits u) w)):=zh (by
   by_cases hu:u<100
   ·exact aDF u A c l w h hu hl
   exact aHz u A c l w h (by omega) hu64 hl ht)
  obtain⟨Q,hQ⟩:=eqx (kY A l (Lib.decDigits u) w);have HQ:Hid (∀e w',Q e w'->∃v,e=.returned v):=zh (λe w' h=>by rw[<-hQ]at h;obtain⟨_,_,rfl,_⟩:=h;exact⟨_,rfl⟩);rw[hQ]at HI ⊢;clear hQ h ht;generalize l.length=n at*;go_enter Tryz.func179,Tryz.ntmps179
  go_wp2_with (go_at_call 165;refine HI.o.mono ?_;rintro e w' h;obtain⟨v,rfl⟩:=HQ.o _ _ h;have H:=zh h;clear h)
  exact H.o
theorem aBR (g u:Nat)(t:TypeId)(w:World)(h:Buf w g t 20 [])(hu64:u<18446744073709551616)(ht:PT w):
    Calls Tryz.prog 179 #[.slice (some ⟨g,0,none⟩) 0 20,.int .u64 u,.int .i64 10] w (mG g t 20 [] (Lib.decDigits u) w):=by
  have HI:=zh (xY g 20 u t [] w h hu64 (by simp) ht);obtain⟨Q,hQ⟩:=eqx (mG g t 20 [] (Lib.decDigits u) w);have HQ:Hid (∀e w',Q e w'->∃v,e=.returned v):=zh (λe w' h=>by rw[<-hQ]at h;obtain⟨rfl,_⟩:=h;exact⟨_,rfl⟩);rw[hQ]at HI ⊢;clear hQ h ht;have HI2:Hid (Calls Tryz.prog 165 #[.slice (some ⟨g,0,none⟩) 0 20,.int .u64 u,.int .i64 10] w Q):=HI;clear HI;go_enter Tryz.func179,Tryz.ntmps179
  go_wp2_with (go_at_call 165;refine HI2.o.mono ?_;rintro e w' h;obtain⟨v,rfl⟩:=HQ.o _ _ h;have H:=zh h;clear h)
  exact H.o
end Go.Proofs.Tg.Fi
