/- Parts of the proof. -/
import Derived.Test.YtabdoikbodjidaaGreatDoorMBO18
set_option maxHeartbeats 64000000
set_option maxRecDepth 100000
namespace Go.Proofs.Tg.Iw
open Go.RowKit Go.Bw Go.Gr Go.Proofs.Tg
structure mM (w:World)(g c:Nat)(ys:List Nat):Prop where
  ex:∃rs:List Nat,Blk w g 170 (jZ (ys++rs))/\ys.length+rs.length=c
  le:c<=maxLen
theorem mM.keep {w w':World}{g c:Nat}{ys:List Nat}(h:mM w g c ys)(hb:Below w.heap.size w w'):mM w' g c ys:=by
 obtain⟨rs,h1,h2⟩:=h.ex
 exact⟨⟨rs,h1.keep hb h1.lt,h2⟩,h.le⟩
theorem mM.lt {w:World}{g c:Nat}{ys:List Nat}(h:mM w g c ys):g<w.heap.size:=by
 obtain⟨rs,h1,_⟩:=h.ex
 exact h1.lt
theorem mM.sets {w:World}{g c:Nat}{ys:List Nat}(h:mM w g c ys):lU w (some ⟨g,0,none⟩) ys:=by
 obtain⟨rs,h1,_⟩:=h.ex
 exact tW h1 rfl
theorem mM.grown {w w':World}{g c:Nat}{ys:List Nat}{r:Option Nat}(h:mM w g c ys)(hg:w.grownBy w' r)(hne:some g≠r):mM w' g c ys:=by
 obtain⟨rs,h1,h2⟩:=h.ex
 exact⟨⟨rs,(hg.block g h1.lt hne).trans h1,h2⟩,h.le⟩
theorem mM.of_cl {w:World}{g ex:Nat}{xs:List Nat}(h:Blk w g 170 (jZ (xs++List.replicate ex 0)))(hm:xs.length+ex<=maxLen):mM w g (xs.length+ex) xs:=⟨⟨_,h,by simp⟩,hm⟩
theorem aEM (w:World)(g c d k:Nat)(ys:List Nat)(hP:mM w g c ys)(hk:w.cell? ⟨k,0,none⟩=some (.int .u64 0))(hn:ys.length<=1000000):
    ∃g' c' w',(Builtin.append_ #[116,116] 116 #[.slice (some ⟨g,0,none⟩) ys.length c,.slice (some ⟨k,0,none⟩) 1 d]).run Tryz.prog w=.ok (.slice (some ⟨g',0,none⟩) (ys.length+1) c') w'/\mM w' g' c' (ys++[0])/\w.grownBy w' (some g)/\(g'=g∨g'=w.heap.size):=by
  obtain⟨i0,hi0,hz0,hz1,hz2⟩:=info_parts sH;obtain⟨rs,hB,hl⟩:=hP.ex
  have hsrc:Src Tryz.prog i0.size 116 (.slice (some ⟨k,0,none⟩) 1 d) 1 [.int .u64 0] w:=by
   rw[hz1];refine Src.ofSlice w Tryz.underlying116 ⟨k,0,none⟩ 1 d [.int .u64 0] rfl (λj u hu=>?_) (by simp[Value.oneCell'])
   cases j with
   |zero=>simp at hu;subst hu;simpa[Addr.add]using hk
   |succ j=>simp at hu
  by_cases hroom:ys.length+1<=c
  ·have hr:=run_append_room_src (P:=Tryz.prog) w 116 116 116 170 i0 Tryz.underlying116 hi0 g 0 ys.length c _ 1 [.int .u64 0] hsrc hroom (λj hj=>by
    rw[hz1,hB.cell]
    have:j=0:=by simpa using hj
    subst this;have hs:=qB (ys++rs);simp at hs;simp[hs]
    omega) (λj _=>hB.frozen _)
   rw[hz1]at hr
   have e:w.setCells g (0+ys.length*1) [.int .u64 0]=w.setCell ⟨g,ys.length,none⟩ (.int .u64 ((0:Nat):Int)):=by
    rw[bN,dI];rfl
   rw[e]at hr
   obtain⟨r0,rs',hrs⟩:∃r0 rs',rs=r0::rs':=by
    cases rs with
    |nil=>simp at hl;omega
    |cons a l=>exact⟨a,l,rfl⟩
   subst hrs;have hB2:=hB.set ys.length (.int .u64 ((0:Nat):Int));rw[kX,cX _ _ (aA _),cP,dL]at hB2;refine⟨g,c,_,hr,⟨⟨rs',by rw[cJ];exact hB2,by simp at hl ⊢;omega⟩,hP.le⟩,?_,.inl rfl⟩;exact⟨rfl,rfl,rfl,by simp[World.setCell],λk' _ hne=>eZ w ⟨g,ys.length,none⟩ _ k' (λe=>hne (by rw[e]))⟩
  have hr:=run_append_grow_src (P:=Tryz.prog) w 116 116 116 170 i0 (.int .u64 0) Tryz.underlying116 hi0 hz0 (some ⟨g,0,none⟩) ys.length c (ys.map vs)
    (by
     rw[hz1];refine iI _ 1 ys.length ⟨g,0,none⟩ ys.length c (ys.map vs) (by simp) (λj x hx=>?_);rw[kI,bN,World.cell?_drew,hB.cell];unfold jZ;rw[eB,bH,bY (aX.1 hx).1]
     exact hx) _ 1 [.int .u64 0] hsrc (by omega) (by omega) (iZ (by omega) (by rw[hz2];omega))
  have hge:=jM w (ys.length+1) c 170;have hcm:grownCap w (ys.length+1) c 170<=maxLen:=iM w (ys.length+1) c 170 (by simp only[maxLen];omega);generalize grownCap w (ys.length+1) c 170=cap at*;refine⟨w.heap.size,cap,_,hr,⟨⟨List.replicate (cap-(ys.length+1)) 0,?_,by simp;omega⟩,hcm⟩,⟨rfl,rfl,rfl,by simp,λk hk _=>heap_alloc_old w.drew _ hk⟩,.inr rfl⟩;rw[tB];have:=Blk.new w.drew 170 ((ys.map vs++[Value.int .u64 0]).toArray++jZ (List.replicate (cap-(ys.length+1)) 0))
  have e:(ys.map vs++[Value.int .u64 0]).toArray=jZ (ys++[0]):=by simp[jZ,vs]
  rw[e,qN]at this;rw[e,qN];exact this
theorem aAG (X:Option Addr)(c:Nat)(w:World):Calls Tryz.prog 169 #[.slice X 0 c] w λe w'=>∃R c',e=.returned (.slice R 0 c')/\Below w.heap.size w w':=by
 cases X with
 |none=>
  have hnn:∀W:World,(binOp BinOp.eql 116 (.slice none 0 c) (.slice none 0 0)).run Tryz.prog W=.ok (.bool true) W:=λW=>Lib.run_eql_slice_nil W _ _ none _ _ _ _ Tryz.underlying116
  go_enter Tryz.func169,Tryz.ntmps169;go_wp2;go_ret;exact⟨none,0,rfl,bM _ _⟩
 |some ad=>
  obtain⟨i0,hi0,hz0,hz1,hz2⟩:=info_parts sH
  have hnn:∀W:World,(binOp BinOp.eql 116 (.slice (some ad) 0 c) (.slice none 0 0)).run Tryz.prog W=.ok (.bool false) W:=λW=>Lib.run_eql_slice_nil W _ _ _ _ _ _ _ Tryz.underlying116
  have hsrc:Src Tryz.prog i0.size 116 (.slice (some ad) 0 c) 0 [] (w.alloc (.cells #[] 170)):=by
   rw[hz1];exact Src.ofSlice _ Tryz.underlying116 ad 0 c [] rfl (λj u hu=>by simp at hu) (by simp)
  have hr:=run_append_room_src (P:=Tryz.prog) (w.alloc (.cells #[] 170)) 116 116 116 170 i0 Tryz.underlying116 hi0 w.heap.size 0 0 0 _ 0 [] hsrc (aA _) (λj hj=>by simp at hj) (λj hj=>by simp at hj);have HB:=zh ((bM w.heap.size w).alloc (aA _) (.cells #[] 170));have e:(w.alloc (.cells #[] 170)).setCells w.heap.size (0+0*i0.size) []=w.alloc (.cells #[] 170):=rfl;rw[e]at hr;clear hsrc e;go_enter Tryz.func169,Tryz.ntmps169;go_upto_region 3 with(fail);refine jL ?_;refine eW rfl (λK hK=>?_);go_simp;refine hK _ _ ?_;clear hK K;refine eW rfl (λK hK=>?_);go_simp;refine hK _ _ ?_;clear hK K;refine wpList_append_run _ rfl _ _ 116 rfl (.slice (some ⟨w.heap.size,0,none⟩) 0 0) (.slice (some ad) 0 c) rfl rfl hr ?_;clear hr;go_wp2;go_ret;exact⟨_,_,rfl,HB.o⟩
def rdw (w:World):Value->Nat
  |.slice (some ad) n _=>val ((List.range n).map λi=>match w.cell? (ad.add i)with|some (.int _ z)=>z.toNat|_=>0)
  |_=>0
theorem aOs {w:World}{A:Option Addr}{c:Nat}{xs:List Nat}(h:0<xs.length->lU w A xs):rdw w (.slice A xs.length c)=val xs:=by
 cases xs with
 |nil=>cases A<;>simp[rdw,val]
 |cons x l=>
  obtain⟨ad,rfl,_,hc⟩:=Sl.lies (h (by simp)) (by simp)
  show val _=val _
  congr 1
  refine dJ (by rw[aI,dS]) λi h1 h2=>?_
  have:=hc i (.int .u64 ((x::l)[i]:Nat)) (by rw[cK,aF h2];rfl);rw[dP,List.getElem_range,this];simp
structure GcM (base G N:Nat)(w0 wr:World)(ga ca:Nat)(Bd:Option Addr)(cb x y:Nat):Prop where
  below:Below base w0 wr
  oa:mM wr ga ca (dg x)
  la:base<=ga
  ob:0<y->∃gb,Bd=some ⟨gb,0,none⟩/\mM wr gb cb (dg y)/\base<=gb/\ga≠gb
  le:y<=x
  pos:0<x
  gcd:Nat.gcd x y=G
  small:x<=N
  tiny:(dg y).length<80
theorem GcM.rd {base G N ga ca cb x y:Nat}{w0 wr:World}{Bd:Option Addr}(h:GcM base G N w0 wr ga ca Bd cb x y):rdw wr (.slice Bd (dg y).length cb)=y:=by
 rw[aOs (λhp=>?_),kE]
 have hy:0<y:=by
  rcases cC y with h|h
  ·rw[h,jS]at hp;simp at hp
  exact h
 obtain⟨gb,rfl,hP,_⟩:=h.ob hy
 exact hP.sets
theorem aAH {w:World}{g c:Nat}{zs ra:List Nat}(hB:Blk w g 170 (jZ (zs++ra)))(hd:Dig zs)(hl:zs.length+ra.length=c)(hc:c<=maxLen):mM w g c (dg (val zs)):=by
 obtain⟨h1,h2⟩:=Go.Bw.xU hd
 have e:dg (val zs)++(zs.drop (dg (val zs)).length++ra)=zs++ra:=by
  rw[<-cJ]
  congr 1
  rw[h2]at h1
  conv=>lhs;lhs;rw[<-h1]
  exact cY _ _
 refine⟨⟨zs.drop (dg (val zs)).length++ra,by rw[e];exact hB,?_⟩,hc⟩
 have:=bK List.length e
 simp only[aC]at this ⊢
 omega
theorem aHq (base ga gb ca cb n u0 u1 v0 v1 a b P R:Nat)(odd:Bool)(xs ys ra rb:List Nat)(w:World)(hA:Blk w ga 170 (jZ (xs++ra)))(hB:Blk w gb 170 (jZ (ys++rb)))(hxl:xs.length=n)(hyl:ys.length=n)(hxd:Dig xs)(hyd:Dig ys)(hxv:val xs=a)(hyv:val ys=b)(hn:n<=500000)
    (hu0:u0<B) (hu1:u1<B) (hv0:v0<B) (hv1:v1<B) (hR:yU a b u0 u1 v0 v1 odd P R) (hab:ga≠gb) (h1:base<=ga) (h2:base<=gb):
    Calls Tryz.prog 175 #[.agg #[.int .u64 (u0:Nat),.int .u64 (u1:Nat),.int .u64 (v0:Nat),.int .u64 (v1:Nat),.bool odd],.slice (some ⟨ga,0,none⟩) n ca,.slice (some ⟨gb,0,none⟩) n cb] w λe w'=>e=.returned (.tuple #[])/\∃zs ws,zs.length=n/\ws.length=n/\Dig zs/\Dig ws/\val zs=P/\val ws=R/\Blk w' ga 170 (jZ (zs++ra))/\Blk w' gb 170 (jZ (ws++rb))/\Below base w w':=by
  cases odd with
  |false=>exact aEL base ga gb ca cb n u0 u1 v0 v1 a b P R xs ys ra rb w hA hB hxl hyl hxd hyd hxv hyv hn hu0 hu1 hv0 hv1 hR hab h1 h2
  |true=>exact aHp base ga gb ca cb n u0 u1 v0 v1 a b P R xs ys ra rb w hA hB hxl hyl hxd hyd hxv hyv hn hu0 hu1 hv0 hv1 hR hab h1 h2
theorem sY (X:Option Addr)(c n:Nat)(w:World)(hX:NW w X c n)(hn:(dg n).length<=1000000):
    Calls Tryz.prog 169 #[.slice X (dg n).length c] w λe w'=>∃R c',e=.returned (.slice R (dg n).length c')/\(0<n->∃g,R=some ⟨g,0,none⟩/\mM w' g c' (dg n)/\w.heap.size<=g)/\Below w.heap.size w w':=by
  rcases cC n with h0|h0
  ·subst h0;have h:=aAG X c w;rw[jS];refine h.mono ?_;rintro e w' ⟨R,c',rfl,hb⟩;exact⟨R,c',rfl,λh=>absurd h (by omega),hb⟩
  have hl:0<(dg n).length:=eG λe=>by have:=mI e;omega
  refine(aAP X c (dg n) w hX.wds hl hn).mono ?_;rintro e w' ⟨g,ex,rfl,hB,hg,hm,hb⟩;exact⟨_,_,rfl,λ_=>⟨g,rfl,mM.of_cl hB hm,hg⟩,hb⟩
theorem mM.nw {w:World}{g c n:Nat}(h:mM w g c (dg n)):NW w (some ⟨g,0,none⟩) c n:=⟨h.sets,by obtain⟨rs,_,h2⟩:=h.ex;omega⟩
theorem aAI {w w':World}{base g:Nat}(h:w.grownBy w' (some g))(hb:base<=w.heap.size)(hg:base<=g):Below base w w':=
  ⟨h.os,h.tape,h.output,h.size,λk hk=>h.block k (by omega) (by simp;omega)⟩
def slen:Value->Nat
  |.slice _ n _=>n
  |_=>0
theorem GcM.keep {base G N ga ca cb x y:Nat}{w0 wr wr':World}{Bd:Option Addr}(h:GcM base G N w0 wr ga ca Bd cb x y)(hb:Below wr.heap.size wr wr'):GcM base G N w0 wr' ga ca Bd cb x y:=
  ⟨h.below.trans (hb.mono (by have:=h.la;have:=h.oa.lt;omega)),h.oa.keep hb,h.la,λhy=>by
   obtain⟨gb,h1,h2,h3,h4⟩:=h.ob hy
   exact⟨gb,h1,h2.keep hb,h3,h4⟩,h.le,h.pos,h.gcd,h.small,h.tiny⟩
theorem GcM.div {base G N ga ca gb cb c' p q:Nat}{w0 wr wr':World}{R:Option Addr}(h:GcM base G N w0 wr ga ca (some ⟨gb,0,none⟩) cb p q)(hq:0<q)(hPB:mM wr gb cb (dg q))(hgb:base<=gb)(hb:Below wr.heap.size wr wr')
    (hc:0<p%q->∃g,R=some ⟨g,0,none⟩/\mM wr' g c' (dg (p%q))/\wr.heap.size<=g):GcM base G N w0 wr' gb cb R c' q (p%q):=by
  have hlt:=bL p hq;have hl:=hPB.lt;refine⟨(h.keep hb).below,hPB.keep hb,hgb,λhy=>?_,by omega,hq,?_,?_,?_⟩
  ·obtain⟨g,h1,h2,h3⟩:=hc hy;exact⟨g,h1,h2,by omega,by omega⟩
  ·rw[<-h.gcd,fN,<-Nat.gcd_rec,fN]
  ·have:=h.le;have:=h.small;omega
  have:=Go.Bw.jT (a:=p%q) (b:=q) (by omega);have:=h.tiny;omega
theorem GcM.app {base G N ga ca gb' cb cb' p q u0 u1 v0 v1 P R:Nat}{odd:Bool}{w0 wr wr':World}{Bd:Option Addr}(h:GcM base G N w0 wr ga ca Bd cb p q)(hb:Below base wr wr')(hL:yU p q u0 u1 v0 v1 odd P R)(hA:mM wr' ga ca (dg P))(hB:mM wr' gb' cb' (dg R))(hg:base<=gb')(hne:ga≠gb'):
    GcM base G N w0 wr' ga ca (some ⟨gb',0,none⟩) cb' P R:=by
  have h1:=hL.lt;have h2:=hL.le;have h3:=h.le;have h4:=h.small;refine⟨h.below.trans hb,hA,h.la,λ_=>⟨gb',rfl,hB,hg,hne⟩,by omega,by omega,by rw[hL.gcd,h.gcd],by omega,?_⟩;have:=Go.Bw.jT (a:=R) (b:=q) (by omega);have:=h.tiny;omega
structure PdM (base gs ga ca p q lq u0 u1 v0 v1:Nat)(odd:Bool)(w0 wr:World)(gb cb m:Nat):Prop where
  below:Below base w0 wr
  oa:mM wr ga ca (dg p)
  ob:mM wr gb cb (dg q++List.replicate (m-lq) 0)
  os:Blk wr gs 222 (stp u0 u1 v0 v1 odd)
  lb:base<=gb
  nea:ga≠gb
  nes:gs≠gb
theorem PdM.push {base gs ga ca p q lq u0 u1 v0 v1 gb cb m g' c':Nat}{odd:Bool}{w0 wr wa w':World}(h:PdM base gs ga ca p q lq u0 u1 v0 v1 odd w0 wr gb cb m)(hm:lq<=m)(ha:Below wr.heap.size wr wa)(hP:mM w' g' c' ((dg q++List.replicate (m-lq) 0)++[0]))(hg:wa.grownBy w' (some gb))(hor:g'=gb∨g'=wa.heap.size):
    PdM base gs ga ca p q lq u0 u1 v0 v1 odd w0 w' g' c' (m+1):=by
  have h1:=h.oa.lt;have h2:=h.ob.lt;have h3:=h.os.lt;have h4:=ha.size;have h5:=h.nea;have h6:=h.nes;have h7:=h.lb;refine⟨(h.below.trans (ha.mono (by omega))).trans (aAI hg (by omega) h7),(h.oa.keep ha).grown hg (by simp;omega),?_,?_,by omega,by omega,by omega⟩
  ·rw[show m+1-lq=(m-lq)+1 by omega,fX,<-cJ];exact hP
  exact(hg.block gs (by omega) (by simp;omega)).trans (h.os.keep ha h3)
theorem zR {q m lq:Nat}(h:(dg q).length=lq)(hm:lq<=m):(dg q++List.replicate (m-lq) 0).length=m:=by simp[h];omega
theorem aMs (q k:Nat):val (dg q++List.replicate k 0)=q:=by
 induction k with
 |zero=>simp[kE]
 |succ k ih=>rw[fX,<-cJ,tC,ih]
theorem aMt (q k:Nat):Dig (dg q++List.replicate k 0):=by
 intro x hx
 rcases aK.1 hx with h|h
 ·exact kH q x h
 rw[fO h];decide
theorem aMu {a b:Nat}(X Y:Option Addr)(cx cy:Nat)(w:World)(hX:NW w X cx a)(hY:NW w Y cy b)(hn:(dg a).length<=400000)(hnb:(dg b).length<=400000)(hs:(dg a).length<80∨(dg b).length<80):
    ∃x y U V cu cv,y<=x/\Nat.gcd x y=Nat.gcd a b/\NW w U cu x/\NW w V cv y/\(dg x).length<=400000/\(dg y).length<80/\((a<b/\.slice U (dg x).length cu=(.slice Y (dg b).length cy:Value)/\.slice V (dg y).length cv=(.slice X (dg a).length cx:Value))∨(¬a<b/\.slice U (dg x).length cu=(.slice X (dg a).length cx:Value)/\.slice V (dg y).length cv=(.slice Y (dg b).length cy:Value))):=by
  by_cases h:a<b
  ·have:=Go.Bw.jT (eM h);exact⟨b,a,Y,X,cy,cx,eM h,fN _ _,hY,hX,hnb,by omega,.inl ⟨h,rfl,rfl⟩⟩
  have:=Go.Bw.jT (a:=b) (b:=a) (by omega);exact⟨a,b,X,Y,cx,cy,by omega,rfl,hX,hY,hn,by omega,.inr ⟨h,rfl,rfl⟩⟩
theorem aJQ (X Y:Option Addr)(cx cy a b:Nat)(w:World)(hX:NW w X cx a)(hY:NW w Y cy b)(hn:(dg a).length<=400000)(hnb:(dg b).length<=400000)(hs:(dg a).length<80∨(dg b).length<80)(hT:Tab w):
    Calls Tryz.prog 146 #[.slice X (dg a).length cx,.slice Y (dg b).length cy] w (nV (Nat.gcd a b) w):=by
  obtain⟨x,y,U,V,cu,cv,hyx,hg,hU,hV,hxl,hyl,hor⟩:=aMu X Y cx cy w hX hY hn hnb hs;have HOR:Hid _:=zh hor;rw[<-hg];obtain⟨Q,hQ⟩:=eqx (nV (Nat.gcd x y) w);obtain⟨z,hz⟩:=eqx ((if a<b then(-1:Int)else if a=b then 0 else 1):Int);have HC:=zh (aBO X Y cx cy a b w hX.wds hY.wds (by omega));rw[hz]at HC;obtain⟨t,ht⟩:=eqx (decide (z<0))
  have HZ:Hid (t=decide (a<b)):=zh (by
   rw[<-ht,<-hz]
   by_cases h:a<b
   ·simp[h]
   rw[aJ h];split<;>simp[h])
  have HX0:Hid (y=0->∀V,Dr w V->Q (.returned (.slice U (dg x).length cu)) V):=zh (λh V hd=>by
   rw[<-hQ,h,iY]
   exact⟨U,cu,rfl,hU.keep hd.below,hd.below⟩)
  have HCU:Hid (∀V,Below w.heap.size w V->Calls Tryz.prog 169 #[.slice U (dg x).length cu] V λe w'=>∃R c',e=.returned (.slice R (dg x).length c')/\Hid (0<x->∃g,R=some ⟨g,0,none⟩/\mM w' g c' (dg x)/\V.heap.size<=g)/\Hid (Below V.heap.size V w')):=zh (λW hW=>sY U cu x W (hU.keep hW) (by omega));have HCV:Hid (∀W,Below w.heap.size w W->Calls Tryz.prog 169 #[.slice V (dg y).length cv] W λe w'=>∃R c',e=.returned (.slice R (dg y).length c')/\Hid (0<y->∃g,R=some ⟨g,0,none⟩/\mM w' g c' (dg y)/\W.heap.size<=g)/\Hid (Below W.heap.size W w')):=zh (λW hW=>sY V cv y W (hV.keep hW) (by omega));have HYX:=zh hyx;obtain⟨G,hG⟩:=eqx (Nat.gcd x y);have HG:=zh hG;have HRQ:Hid (∀e V,nV G w e V->Q e V):=zh (λe V h=>by rw[<-hQ,hG];exact h);rw[hQ];obtain⟨la,hla⟩:=eqx ((dg a).length)
  obtain⟨lb,hlb⟩:=eqx ((dg b).length);obtain⟨lx,hlx⟩:=eqx ((dg x).length);obtain⟨ly,hly⟩:=eqx ((dg y).length);rw[hla,hlb]at HC HOR ⊢;rw[hlx]at HX0 HCU HOR hxl;rw[hly]at HCV HOR hyl;have HLX:=zh hlx;have HLY:=zh hly;have HT:=zh hT;clear hor hg hQ hz hX hY hU hV hyx hG hla hlb hlx hly hT hn hnb hs;go_enter Tryz.func146,Tryz.ntmps146
  go_upto_if 13 with(go_at_call 143;refine HC.o.mono ?_;rintro e w1 ⟨rfl,hd1⟩;have HD1:=zh hd1;clear hd1)
  go_cut [0,1] (λs0 s1 wx=>s0=.slice U lx cu/\s1=.slice V ly cv/\wx=w1)
  case first=>
   clear ht HCU HCV HX0 HRQ HT
   rcases HOR.o with⟨h,e1,e2⟩|⟨h,e1,e2⟩
   ·obtain rfl:t=true:=HZ.o.trans (dT h);have E1:=zh e1;have E2:=zh e2;clear h e1 e2 HZ HC HOR;go_wp2;go_meet;exact⟨E1.o.symm,E2.o.symm,rfl⟩
   obtain rfl:t=false:=HZ.o.trans (dF h);have E1:=zh e1;have E2:=zh e2;clear h e1 e2 HZ HC HOR;go_wp2;go_meet;exact⟨E1.o.symm,E2.o.symm,rfl⟩
  case rest=>
   obtain⟨rfl,rfl,rfl⟩:=hcut;clear HC HOR HZ ht
   by_cases hy0:ly=0
   ·have HR:=HX0.o (by rw[<-HLY.o]at hy0;exact mI hy0) _ HD1.o;subst hy0;have HR2:=zh HR;clear HR HX0 HCU HCV HRQ HT;go_wp2;exact HR2.o
   have HB1:=zh HD1.o.below
   have hy1:0<y:=by
    rcases cC y with h|h
    ·rw[<-HLY.o,h,jS]at hy0;simp at hy0
    exact h
   have b0:((ly:Int)==0)=false:=aG.2 (by omega);have b0':(ly==0)=false:=aG.2 hy0;have HCU1:=zh (HCU.o wc HB1.o);clear HX0 HCU HD1
   go_upto_block 0 with(first
     |(go_at_call 169;refine HCU1.o.mono ?_;rintro e w2 ⟨R,cr,rfl,HR1,HB2⟩;have HCV1:=zh (HCV.o w2 (dW HB1.o HB2.o)))
     |(go_at_call 169;refine HCV1.o.mono ?_;rintro e w3 ⟨S,cs,rfl,HR2,HB3⟩))
   obtain⟨ga,rfl,hPA,hga⟩:=HR1.o (by have:=HYX.o;omega);obtain⟨gb,rfl,hPB,hgb⟩:=HR2.o hy1;have hsz:=HB1.o.size;have hsz2:=HB2.o.size;have hPAl:=hPA.lt;have HS0:Hid ((dg x).length=lx/\(dg y).length=ly/\GcM w.heap.size G x w w3 ga cr (some ⟨gb,0,none⟩) cs x y):=zh ⟨HLX.o,HLY.o,dW (dW HB1.o HB2.o) HB3.o,hPA.keep HB3.o,by omega,λ_=>⟨gb,rfl,hPB,by omega,by omega⟩,HYX.o,by have:=HYX.o;omega,HG.o,aA _,by rw[HLY.o];exact hyl⟩;have HN:Hid ((dg x).length<=400000):=zh (by rw[HLX.o];exact hxl);clear HR1 HR2 hPA hPB hga hgb hsz hsz2 hPAl HB1 HB2 HB3 HCU1 HCV1 HCV HYX HG HLX HLY b0 b0' hy0;generalize x=N at*;go_wp2
   go_loopw [5,6] (λs5 s6 wr=>∃(ga ca cb p q lp lq:Nat) (Bd:Option Addr),s5=.slice (some ⟨ga,0,none⟩) lp ca/\s6=.slice Bd lq cb/\lp<=400000/\lq<=lp/\Hid ((dg p).length=lp/\(dg q).length=lq/\GcM w.heap.size G N w wr ga ca Bd cb p q)) (λ_ s6 wr=>rdw wr s6)
   case atStart=>
     have:=Go.Bw.jT HS0.o.2.2.le;rw[HS0.o.1,HS0.o.2.1]at this;exact⟨ga,cr,cs,N,y,lx,ly,some ⟨gb,0,none⟩,rfl,rfl,hxl,this,HS0⟩
   case round=>
    clear HS0;obtain⟨wo,rfl⟩:∃wo:World,wo=wr:=⟨_,rfl⟩;obtain⟨ga,ca,cb,p,q,lp,lq,Bd,rfl,rfl,hlp,hlq,HS⟩:=hrel;have HM:Hid (rdw wo (.slice Bd lq cb)=q):=zh (by have:=HS.o.2.2.rd;rwa [HS.o.2.1]at this);obtain⟨h1,h2,hS⟩:=HS.o
    by_cases hq2:1<lq
    ·have d1:decide ((1:Int)<(lq:Int))=true:=dT (by omega);have d2:decide (1<lq)=true:=dT hq2
     have hq0:0<q:=by
      rcases cC q with h|h
      ·rw[h,jS]at h2;simp at h2;omega
      exact h
     obtain⟨gb,rfl,hPB,hgb,hab⟩:=hS.ob hq0;have HSIM:=zh (aMr (some ⟨ga,0,none⟩) (some ⟨gb,0,none⟩) ca cb p q wo hS.oa.nw hPB.nw (by omega) hS.le (by omega));rw[h1,h2]at HSIM;clear hPB hgb hab hS h1 h2
     go_upto_if 32 with(go_at_call 173;refine HSIM.o.mono ?_;rintro e w4 ⟨u0,u1,v0,v1,odd,rfl,hu0,hu1,hv0,hv1,hLM,hb4⟩;have HLM:=zh hLM;have HB4:=zh hb4;clear hLM hb4)
     have HB5:Hid (Below wo.heap.size wo (w4.alloc (.cells #[.int .u64 (u0:Nat),.int .u64 (u1:Nat),.int .u64 (v0:Nat),.int .u64 (v1:Nat),.bool odd] 222))):=zh (HB4.o.alloc HB4.o.size _);have HBS:Hid (Blk (w4.alloc (.cells #[.int .u64 (u0:Nat),.int .u64 (u1:Nat),.int .u64 (v0:Nat),.int .u64 (v1:Nat),.bool odd] 222)) w4.heap.size 222 (stp u0 u1 v0 v1 odd)):=zh (Blk.new w4 222 (stp u0 u1 v0 v1 odd));have HGS:Hid (wo.heap.size<=w4.heap.size):=zh HB4.o.size;generalize w4.alloc (.cells #[.int .u64 (u0:Nat),.int .u64 (u1:Nat),.int .u64 (v0:Nat),.int .u64 (v1:Nat),.bool odd] 222)=w5 at*;generalize w4.heap.size=gs at*;clear HSIM HB4;obtain⟨hl1,hl2,hS⟩:=HS.o;obtain⟨gb',he,hPB,hgb,hab⟩:=hS.ob hq0
     obtain rfl:gb=gb':=by simpa using he
     clear he;have HPB:=zh hPB;have HM5:=zh (hS.keep HB5.o)
     by_cases hv:v0=0
     ·have HDIV:=zh (aDv (some ⟨ga,0,none⟩) (some ⟨gb,0,none⟩) ca cb p q w5 HM5.o.oa.nw (hPB.keep HB5.o).nw (by omega) (by omega) (by omega) (.inl hS.tiny));rw[hl1,hl2]at HDIV;have HLQ:Hid ((dg q).length=lq):=zh hl2;have HGB:Hid (w.heap.size<=gb):=zh hgb
      have hlr:(dg (p%q)).length<=lq:=by rw[<-hl2];exact Go.Bw.jT (eM (bL p hq0))
      obtain⟨r,hr⟩:=eqx (p%q);have HR:=zh hr;rw[hr]at hlr;obtain⟨lr,hlr2⟩:=eqx ((dg r).length);have HLR:=zh hlr2;rw[hlr2]at hlr
      have HNC:Hid (∀(A:Option Addr) (c:Nat) (V:World),NW V A c r->Calls Tryz.prog 169 #[.slice A lr c] V λe w'=>∃R c',e=.returned (.slice R lr c')/\Hid (0<r->∃g,R=some ⟨g,0,none⟩/\mM w' g c' (dg r)/\V.heap.size<=g)/\Hid (Below V.heap.size V w')):=zh (λA c V h=>by
       have:=sY A c r V h (by omega)
       rwa [hlr2]at this)
      clear hl1 hl2 hS hPB hgb hab hr hlr2 HLM HBS HGS;subst hv
      go_wp2_with (first
        |(go_at_call 174;refine HDIV.o.mono ?_;rintro e w6 ⟨Q1,cq,R1,cr1,rfl,hq6,hr6,hb6⟩;rw[HR.o]at hr6 ⊢;rw[HLR.o];have HN6:=zh (HNC.o R1 cr1 w6 hr6);have HB6:=zh hb6;clear hq6 hr6 hb6)
        |(go_at_call 169;refine HN6.o.mono ?_;rintro e w7 ⟨R2,cr2,rfl,HR7,HB7⟩))
      have HM7:Hid (GcM w.heap.size G N w w7 gb cb R2 cr2 q r):=zh (by
       have hsz:=HB6.o.size
       have hd:=HM5.o.div (c':=cr2) (R:=R2) (wr':=w7) hq0 (HPB.o.keep HB5.o) HGB.o (dW HB6.o HB7.o) (by
        rw[HR.o];intro h;obtain⟨g,e1,e2,e3⟩:=HR7.o h
        exact⟨g,e1,e2,by omega⟩)
       rwa [HR.o]at hd)
      refine⟨⟨gb,cb,cr2,q,r,lq,lr,R2,rfl,rfl,by omega,hlr,zh ⟨HLQ.o,HLR.o,HM7.o⟩⟩,?_⟩;rw[HM.o,<-HLR.o,HM7.o.rd,<-HR.o];exact bL _ hq0
     obtain⟨P,R,hLM⟩:=HLM.o hv;have HL:=zh hLM;have b0:((v0:Int)==0)=false:=aG.2 (by omega);have b0':(v0==0)=false:=aG.2 hv;have b0n:((v0:Int)=0)=False:=bX (by omega);have b0m:(v0=0)=False:=bX hv;have HLP:=zh hl1;have HLQ:=zh hl2
     have hgsb:w.heap.size<=gs:=by have:=HM5.o.la;have:=hS.oa.lt;have:=HGS.o;omega
     have HPD0:Hid (PdM w.heap.size gs ga ca p q lq u0 u1 v0 v1 odd w5 w5 gb cb lq):=zh ⟨bM _ _,HM5.o.oa,by rw[cP];simpa using hPB.keep HB5.o,HBS.o,hgb,hab,by have:=hPB.lt;have:=HGS.o;omega⟩;have HGA:Hid (w.heap.size<=ga):=zh hS.la;clear hLM HLM hl1 hl2 hS hPB hgb hab HBS HGS hgsb hv HPB;rw[b0];go_upto_block 2 with(fail);go_wp2
     go_loopw [6] (λs6 wr=>∃gb cb m:Nat,s6=.slice (some ⟨gb,0,none⟩) m cb/\lq<=m/\m<=lp/\Hid (PdM w.heap.size gs ga ca p q lq u0 u1 v0 v1 odd w5 wr gb cb m)) (λs6 _=>lp-slen s6)
     case atStart=>exact⟨gb,cb,lq,rfl,aA _,hlq,HPD0⟩
     case round=>
      clear HPD0;obtain⟨wi,rfl⟩:∃wi:World,wi=wr:=⟨_,rfl⟩;obtain⟨gb2,cb2,m,rfl,hm1,hm2,HPD⟩:=hrel
      by_cases hml:m<lp
      ·have d3:decide ((m:Int)<(lp:Int))=true:=dT (by omega);have d4:decide (m<lp)=true:=dT hml;have HWA:Hid (Below wi.heap.size wi (wi.alloc (.cells #[.int .u64 0] 170))):=zh (bal);obtain⟨g',c',w',hr,hP',hgr,hor⟩:=aEM (wi.alloc (.cells #[.int .u64 0] 170)) gb2 cb2 1 wi.heap.size _ (HPD.o.ob.keep HWA.o) ((Blk.new wi 170 #[.int .u64 0]).cell 0) (by rw[zR HLQ.o hm1];omega);rw[zR HLQ.o hm1]at hr;have HPN:=zh (HPD.o.push hm1 HWA.o hP' hgr hor);clear hP' hgr hor HWA;go_upto_region 12 with(fail);refine jL ?_;refine eW rfl (λK hK=>?_);go_simp;refine hK _ _ ?_;clear hK K;refine eW rfl (λK hK=>?_);go_simp;refine hK _ _ ?_;clear hK K;refine wpList_append_run _ rfl _ _ 116 rfl (.slice (some ⟨gb2,0,none⟩) m cb2) (.slice (some ⟨wi.heap.size,0,none⟩) 1 1) rfl rfl hr ?_
       clear hr;go_wp2;go_roundw
       case rel=>exact⟨g',c',m+1,rfl,by omega,by omega,HPN⟩
       case measure=>simp[slen];omega
      obtain rfl:m=lp:=by omega
      clear hml;obtain⟨ra,hA,hra⟩:=HPD.o.oa.ex;obtain⟨rb,hB,hrb⟩:=HPD.o.ob.ex;obtain⟨c0,c1,c2,c3,c4,_⟩:=mY HPD.o.os;have HAP:=zh (aHq w.heap.size ga gb2 ca cb2 m u0 u1 v0 v1 p q P R odd _ _ ra rb wi hA hB HLP.o (zR HLQ.o hm1) (kH p) (aMt q _) (kE p) (aMs q _) (by omega) hu0 hu1 hv0 hv1 HL.o HPD.o.nea HGA.o HPD.o.lb);rw[HLP.o]at hra;rw[zR HLQ.o hm1]at hrb;have HRA:=zh hra;have HRB:=zh hrb
      have HTR:Hid (∀(g c:Nat) (zs r:List Nat) (V:World),Blk V g 170 (jZ (zs++r))->zs.length=m->m+r.length=c->Dig zs->Calls Tryz.prog 167 #[.slice (some ⟨g,0,none⟩) m c] V λe w'=>e=.returned (.slice (some ⟨g,0,none⟩) (dg (val zs)).length c)/\V=w'):=zh (λg c zs r V hB hl hc hd=>by
       have:=qP (some ⟨g,0,none⟩) c zs V (tW hB rfl) hd (by omega) (by omega);rw[hl]at this
       exact this.mono λe w' h=>⟨h.1,h.2.1⟩)
      clear hA hB hra hrb
      go_upto_region 14 with(go_at_call 175;refine HAP.o.mono ?_;rintro e w8 ⟨rfl,zs,ws,hzl,hwl,hzd,hwd,hzP,hwR,hA8,hB8,hb8⟩;have HA8:=zh hA8;have HB8:=zh hB8;have Hb8:=zh hb8;have HT1:=zh (HTR.o ga ca zs ra w8 hA8 hzl HRA.o hzd);have HT2:=zh (HTR.o gb2 cb2 ws rb w8 hB8 hwl HRB.o hwd);rw[hzP]at HT1;rw[hwR]at HT2;have HZ8:=zh (And.intro hzl (And.intro hwl (And.intro hzd (And.intro hwd (And.intro hzP hwR)))));clear hA8 hB8 hb8 hzl hwl hzd hwd hzP hwR)
      obtain⟨lP,hlP⟩:=eqx ((dg P).length);obtain⟨lR,hlR⟩:=eqx ((dg R).length);rw[hlP]at HT1;rw[hlR]at HT2
      have HNEW:Hid ((dg P).length=lP/\(dg R).length=lR/\GcM w.heap.size G N w w8 ga ca (some ⟨gb2,0,none⟩) cb2 P R):=zh (by
       obtain⟨z1,z2,z3,z4,z5,z6⟩:=HZ8.o;refine⟨hlP,hlR,HM5.o.app (HPD.o.below.trans Hb8.o) HL.o ?_ ?_ HPD.o.lb HPD.o.nea⟩
       ·have:=aAH HA8.o z3 (by rw[z1];exact HRA.o) HPD.o.oa.le
        rwa [z5]at this
       have:=aAH HB8.o z4 (by rw[z2];exact HRB.o) HPD.o.ob.le
       rwa [z6]at this)
      have hP1:lR<=lP:=by rw[<-hlP,<-hlR];exact Go.Bw.jT (eM HL.o.lt)
      have hP2:lP<=m:=by
       rw[<-hlP,<-HLP.o];exact Go.Bw.jT (aR HL.o.le HS.o.2.2.le)
      clear hlP hlR HZ8 HA8 HB8 HTR HAP c0 c1 c2 c3 c4;refine jL ?_;refine eW rfl (λK hK=>?_);go_simp;refine hK _ _ ?_;clear hK K;refine eW rfl (λK hK=>?_);go_simp
      go_at_call 167
      refine HT1.o.mono ?_;rintro e w9 ⟨rfl,rfl⟩;refine hK _ _ ?_;clear hK K;refine eW rfl (λK hK=>?_);go_simp;refine hK _ _ ?_;clear hK K;refine eW rfl (λK hK=>?_);go_simp
      go_at_call 167
      refine HT2.o.mono ?_;rintro e w9 ⟨rfl,rfl⟩;refine hK _ _ ?_;clear hK K;refine eW rfl (λK hK=>?_);go_simp;refine hK _ _ ?_;clear hK K;refine eW rfl (λK hK=>?_);go_simp;refine hK _ _ ?_;clear hK K
      have HM2:=zh (show rdw w8 (.slice (some ⟨gb2,0,none⟩) lR cb2)<rdw wo (.slice (some ⟨gb,0,none⟩) lq cb)from by
       rw[HM.o,<-HNEW.o.2.1,HNEW.o.2.2.rd];have:=HL.o.lt;have:=HL.o.le
       omega)
      clear HT1 HT2 HPD;simp only[wpList];refine And.intro ?_ HM2.o;exact⟨_,_,_,_,_,_,_,_,_,_,_,_,_,_,_,_,_,_,_,_,_,_,_,_,_,_,_,_,_,_,_,_,_,_,_,_,_,_,_,⟨ga,ca,cb2,P,R,lP,lR,some ⟨gb2,0,none⟩,rfl,rfl,by omega,hP1,HNEW⟩,rfl⟩
    obtain⟨h1,h2,hS⟩:=HS.o;have d1:decide ((1:Int)<(lq:Int))=false:=dF (by omega);have d2:decide (1<lq)=false:=dF hq2
    by_cases hq0:lq=0
    ·have HR:Hid (Q (.returned (.slice (some ⟨ga,0,none⟩) lp ca)) wo):=zh (by
      have e:q=0:=mI (h2.trans hq0);have hg:=hS.gcd;rw[e,iY]at hg;rw[<-h1];rw[hg]
      exact HRQ.o _ _ ⟨_,_,rfl,by have:=hS.oa.nw;rwa [hg]at this,hS.below⟩)
     clear h1 h2 hS HS HM HRQ HT;subst hq0;go_wp2;exact HR.o
    obtain rfl:lq=1:=by omega
    have hq1:0<q:=by
     rcases cC q with h|h
     ·rw[h,jS]at h2;simp at h2
     exact h
    have hqB:q<18446744073709551616:=by
     have:=lC q
     rwa [h2,Nat.pow_one]at this
    have hr:p%q<q:=bL _ hq1;obtain⟨gb2,rfl,hPB,hgb2,hab⟩:=hS.ob hq1;obtain⟨rb,hBk,_⟩:=hPB.ex
    have c0:wo.cell? ⟨gb2,0,none⟩=some (.int .u64 (q:Nat)):=by
     have:=hBk.cell 0;rw[lD (by omega) hqB]at this;exact this
    have K1:Hid (∀V,Below wo.heap.size wo V->Calls Tryz.prog 178 #[.slice (some ⟨ga,0,none⟩) lp ca,.int .u64 (q:Nat)] V λe w'=>e=.returned (.int .u64 (p%q:Nat))/\Below V.heap.size V w'):=zh (λV hV=>by
     have:=aOx (some ⟨ga,0,none⟩) ca q (dg p) V (hS.oa.keep hV).sets (kH p) hq1 hqB (by omega);unfold aKq at this
     rwa [h1,kE]at this)
    have hGq:Nat.gcd q (p%q)=G:=by rw[fN,<-hS.gcd,fN p q,Nat.gcd_rec q p]
    have hGB:G<18446744073709551616:=by
     rw[<-hGq];exact bB (Nat.gcd_le_left _ hq1) hqB
    have K2:Hid (∀V,Below wo.heap.size wo V->Calls Tryz.prog 177 #[.int .u64 (q:Nat),.int .u64 (p%q:Nat)] V λe w'=>e=.returned (.int .u64 (G:Nat))/\V=w'):=zh (λV hV=>by
     have:=aIo q (p%q) V hqB (by omega) (by omega) (HT.o.below (hS.below.trans (hV.mono (by have:=hS.la;have:=hS.oa.lt;omega))) HT.o.1)
     rwa [hGq]at this)
    have K3:Hid (∀V,Below wo.heap.size wo V->Calls Tryz.prog 176 #[.int .u64 (G:Nat)] V λe w'=>∃v,e=.returned v/\Hid (Q (.returned v) w')/\Below V.heap.size V w'):=zh (λV hV=>by
     refine(aEQ G V hGB).mono ?_;rintro e w' ⟨R,c,rfl,hN,hb⟩
     exact⟨_,rfl,zh (HRQ.o _ _ ⟨R,c,rfl,hN,(hS.below.trans (hV.mono (by have:=hS.la;have:=hS.oa.lt;omega))).trans (hb.mono (by have:=hS.below.size;have:=hV.size;omega))⟩),hb⟩)
    generalize p%q=r at*;clear h1 h2 hS HS HM HRQ HT hq1 hr hPB hgb2 hab hBk hGq hGB hqB hq2 hq0;go_upto_region 17 with(fail);have hbe:Below wo.heap.size wo wo.drew:=brf.drew
    go_region_held3 (λw'=>w'.cell? ⟨gb2,0,none⟩=some (.int .u64 (q:Nat))) (first|go_keep|exact gL hbe c0)
      (first
        |(go_at_call 178;refine(K1.o _ (by assumption)).mono ?_;rintro e w' ⟨rfl,hb9⟩;have hbe:=dW hbe hb9;clear hb9)
        |(go_at_call 177;refine(K2.o _ (by assumption)).mono ?_;rintro e w' ⟨rfl,rfl⟩)
        |(go_at_call 176;refine(K3.o _ (by assumption)).mono ?_;rintro e w' ⟨v,rfl,hQ9,hb9⟩;have hbe:=dW hbe hb9;clear hb9))
    all_goals
      go_wp2;exact hQ9.o
theorem aCv (w:World)(g c d k x:Nat)(ys:List Nat)(hP:mM w g c ys)(hk:w.cell? ⟨k,0,none⟩=some (.int .u64 (x:Nat)))(hn:ys.length<=1000000):
    ∃g' c' w',(Builtin.append_ #[116,116] 116 #[.slice (some ⟨g,0,none⟩) ys.length c,.slice (some ⟨k,0,none⟩) 1 d]).run Tryz.prog w=.ok (.slice (some ⟨g',0,none⟩) (ys.length+1) c') w'/\mM w' g' c' (ys++[x])/\w.grownBy w' (some g)/\(g'=g∨g'=w.heap.size):=by
  obtain⟨i0,hi0,hz0,hz1,hz2⟩:=info_parts sH;obtain⟨rs,hB,hl⟩:=hP.ex
  have hsrc:Src Tryz.prog i0.size 116 (.slice (some ⟨k,0,none⟩) 1 d) 1 [.int .u64 (x:Nat)] w:=by
   rw[hz1];refine Src.ofSlice w Tryz.underlying116 ⟨k,0,none⟩ 1 d [.int .u64 (x:Nat)] rfl (λj u hu=>?_) (by simp[Value.oneCell'])
   cases j with
   |zero=>simp at hu;subst hu;simpa[Addr.add]using hk
   |succ j=>simp at hu
  by_cases hroom:ys.length+1<=c
  ·have hr:=run_append_room_src (P:=Tryz.prog) w 116 116 116 170 i0 Tryz.underlying116 hi0 g 0 ys.length c _ 1 [.int .u64 (x:Nat)] hsrc hroom (λj hj=>by
    rw[hz1,hB.cell]
    have:j=0:=by simpa using hj
    subst this;have hs:=qB (ys++rs);simp at hs;simp[hs]
    omega) (λj _=>hB.frozen _)
   rw[hz1]at hr
   have e:w.setCells g (0+ys.length*1) [.int .u64 (x:Nat)]=w.setCell ⟨g,ys.length,none⟩ (.int .u64 ((x:Nat):Int)):=by
    rw[bN,dI];rfl
   rw[e]at hr
   obtain⟨r0,rs',hrs⟩:∃r0 rs',rs=r0::rs':=by
    cases rs with
    |nil=>simp at hl;omega
    |cons a l=>exact⟨a,l,rfl⟩
   subst hrs;have hB2:=hB.set ys.length (.int .u64 ((x:Nat):Int));rw[kX,cX _ _ (aA _),cP,dL]at hB2;refine⟨g,c,_,hr,⟨⟨rs',by rw[cJ];exact hB2,by simp at hl ⊢;omega⟩,hP.le⟩,?_,.inl rfl⟩;exact⟨rfl,rfl,rfl,by simp[World.setCell],λk' _ hne=>eZ w ⟨g,ys.length,none⟩ _ k' (λe=>hne (by rw[e]))⟩
  have hr:=run_append_grow_src (P:=Tryz.prog) w 116 116 116 170 i0 (.int .u64 0) Tryz.underlying116 hi0 hz0 (some ⟨g,0,none⟩) ys.length c (ys.map vs)
    (by
     rw[hz1];refine iI _ 1 ys.length ⟨g,0,none⟩ ys.length c (ys.map vs) (by simp) (λj x hx=>?_);rw[kI,bN,World.cell?_drew,hB.cell];unfold jZ;rw[eB,bH,bY (aX.1 hx).1]
     exact hx) _ 1 [.int .u64 (x:Nat)] hsrc (by omega) (by omega) (iZ (by omega) (by rw[hz2];omega))
  have hge:=jM w (ys.length+1) c 170;have hcm:grownCap w (ys.length+1) c 170<=maxLen:=iM w (ys.length+1) c 170 (by simp only[maxLen];omega);generalize grownCap w (ys.length+1) c 170=cap at*;refine⟨w.heap.size,cap,_,hr,⟨⟨List.replicate (cap-(ys.length+1)) 0,?_,by simp;omega⟩,hcm⟩,⟨rfl,rfl,rfl,by simp,λk hk _=>heap_alloc_old w.drew _ hk⟩,.inr rfl⟩;rw[tB];have:=Blk.new w.drew 170 ((ys.map vs++[Value.int .u64 (x:Nat)]).toArray++jZ (List.replicate (cap-(ys.length+1)) 0))
  have e:(ys.map vs++[Value.int .u64 (x:Nat)]).toArray=jZ (ys++[x]):=by simp[jZ,vs]
  rw[e,qN]at this;rw[e,qN];exact this
theorem yV (w:World)(A:Option Addr)(c d k x base:Nat)(ys:List Nat)(h0:ys.length=0->A=none/\c=0)(hP:0<ys.length->∃g,A=some ⟨g,0,none⟩/\mM w g c ys/\base<=g)(hk:w.cell? ⟨k,0,none⟩=some (.int .u64 (x:Nat)))(hn:ys.length<=1000000)(hb:base<=w.heap.size):
    ∃g' c' w',(Builtin.append_ #[116,116] 116 #[.slice A ys.length c,.slice (some ⟨k,0,none⟩) 1 d]).run Tryz.prog w=.ok (.slice (some ⟨g',0,none⟩) (ys.length+1) c') w'/\mM w' g' c' (ys++[x])/\Below base w w'/\base<=g':=by
  rcases cC ys.length with h|h
  ·obtain⟨rfl,rfl⟩:=h0 h;have e:=bV h;subst e;obtain⟨i0,hi0,hz0,hz1,hz2⟩:=info_parts sH
   have hsrc:Src Tryz.prog i0.size 116 (.slice (some ⟨k,0,none⟩) 1 d) 1 [.int .u64 (x:Nat)] w:=by
    rw[hz1];refine Src.ofSlice w Tryz.underlying116 ⟨k,0,none⟩ 1 d [.int .u64 (x:Nat)] rfl (λj u hu=>?_) (by simp[Value.oneCell'])
    cases j with
    |zero=>simp at hu;subst hu;simpa[Addr.add]using hk
    |succ j=>simp at hu
   have hr:=run_append_grow_src (P:=Tryz.prog) w 116 116 116 170 i0 (.int .u64 0) Tryz.underlying116 hi0 hz0 none 0 0 [] (by rw[hz1];exact run_firstCells_none _ _ _ _ _) _ 1 [.int .u64 (x:Nat)] hsrc (by omega) (by omega) (iZ (by omega) (by rw[hz2];omega));have hge:=jM w (0+1) 0 170;have hcm:grownCap w (0+1) 0 170<=maxLen:=iM w (0+1) 0 170 (by simp only[maxLen];omega);generalize grownCap w (0+1) 0 170=cap at*;refine⟨w.heap.size,cap,_,hr,⟨⟨List.replicate (cap-(0+1)) 0,?_,by simp;omega⟩,hcm⟩,⟨rfl,rfl,rfl,by simp,λk hk=>heap_alloc_old w.drew _ (by show k<w.heap.size;omega)⟩,hb⟩;rw[tB];have:=Blk.new w.drew 170 ((([]:List Value)++[Value.int .u64 (x:Nat)]).toArray++jZ (List.replicate (cap-(0+1)) 0))
   have e:(([]:List Value)++[Value.int .u64 (x:Nat)]).toArray=jZ ([]++[x]):=by simp[jZ,vs]
   rw[e,qN]at this;rw[e,qN];exact this
  obtain⟨g,rfl,hPw,hg⟩:=hP h;obtain⟨g',c',w',h1,h2,h3,h4⟩:=aCv w g c d k x ys hPw hk hn;exact⟨g',c',w',h1,h2,aAI h3 hb hg,by omega⟩
theorem aBL {zs:List Nat}(hd:Dig zs)(h:zs.length<=(dg (val zs)).length):zs=dg (val zs):=by
 obtain⟨h1,h2⟩:=Go.Bw.xU hd
 rw[h2,bF h]at h1
 exact h1
structure PsL (base:Nat)(w0 wr:World)(A:Option Addr)(c:Nat)(xs:List Nat)(p v k cy:Nat):Prop where
  below:Below base w0 wr
  ex:∃zs,zs.length=k/\Dig zs/\val zs+B^k*cy=val (xs.take k)*p+v/\(0<xs.length->∃g ra,A=some ⟨g,0,none⟩/\base<=g/\Blk wr g 170 (jZ (zs++(xs.drop k++ra)))/\xs.length+ra.length=c)
  le:c<=maxLen
structure PsM (base:Nat)(w0 wr:World)(A:Option Addr)(c m:Nat):Prop where
  below:Below base w0 wr
  nil:m=0->A=none/\c=0
  pos:0<m->∃g,A=some ⟨g,0,none⟩/\mM wr g c (dg m)/\base<=g
theorem PsM.start {base c m p v:Nat}{w0 wr wr':World}{A:Option Addr}(h:PsM base w0 wr A c m)(hs:base<=wr.heap.size)(hb:Below wr.heap.size wr wr')(hc:c<=maxLen):PsL base w0 wr' A c (dg m) p v 0 v:=by
 refine⟨h.below.trans (hb.mono hs),⟨[],rfl,by simp[Dig],by simp[val],λhl=>?_⟩,hc⟩
 have hm:0<m:=by
  rcases cC m with h|h
  ·rw[h,jS]at hl;simp at hl
  exact h
 obtain⟨g,h1,h2,h3⟩:=h.pos hm
 obtain⟨ra,h4,h5⟩:=(h2.keep hb).ex
 exact⟨g,ra,h1,h3,by simpa using h4,h5⟩
theorem PsL.done {base c m p v:Nat}{w0 wr:World}{A:Option Addr}(h:PsL base w0 wr A c (dg m) p v (dg m).length 0)(hp:0<p)(h0:m=0->A=none/\c=0):PsM base w0 wr A c (m*p+v)/\(dg (m*p+v)).length=(dg m).length:=by
 obtain⟨zs,h1,h2,h3,h4⟩:=h.ex
 rw[dN,bW,bF (aA _),kE]at h3
 rcases cC m with hm|hm
 ·subst hm
  have hz:zs=[]:=bV (by rw[h1,jS];rfl);subst hz;simp only[val,Nat.zero_mul,bN]at h3;subst h3;exact⟨⟨h.below,λ_=>h0 rfl,λh=>absurd h (by omega)⟩,by simp⟩
 have hl:0<(dg m).length:=(eG λe=>by have:=mI e;omega)
 obtain⟨g,ra,e,hg,hB,hc⟩:=h4 hl;have hmp:m<=m*p+v:=aR (jI m hp) (iV _ _)
 have hzs:zs=dg (m*p+v):=by
  have:=aBL h2 (by rw[h3,h1];exact Go.Bw.jT hmp)
  rwa [h3]at this
 refine⟨⟨h.below,λh=>absurd h (by omega),λ_=>⟨g,e,⟨⟨ra,?_,?_⟩,h.le⟩,hg⟩⟩,by rw[<-hzs,h1]⟩
 ·rw[cS (aA _),dB]at hB
  rwa [<-hzs]
 rw[<-hzs,h1];exact hc
theorem PsL.push {base c m p v cy:Nat}{w0 wr wa:World}{A:Option Addr}(h:PsL base w0 wr A c (dg m) p v (dg m).length cy)(hcy:cy≠0)(hcB:cy<B)(ha:Below wr.heap.size wr wa)(hbs:base<=wr.heap.size)(h0:m=0->A=none/\c=0){k d:Nat}(hk:wa.cell? ⟨k,0,none⟩=some (.int .u64 (cy:Nat)))(hn:(dg m).length<=1000000):
    ∃g' c' w',(Builtin.append_ #[116,116] 116 #[.slice A (dg m).length c,.slice (some ⟨k,0,none⟩) 1 d]).run Tryz.prog wa=.ok (.slice (some ⟨g',0,none⟩) (dg (m*p+v)).length c') w'/\PsM base w0 w' (some ⟨g',0,none⟩) c' (m*p+v)/\c'<=maxLen:=by
  obtain⟨zs,h1,h2,h3,h4⟩:=h.ex;rw[bF (aA _),kE]at h3
  have hd2:Dig (zs++[cy]):=by
   intro x hx
   rcases aK.1 hx with h|h
   ·exact h2 x h
   simp at h;subst h;exact hcB
  have hv:val (zs++[cy])=m*p+v:=by rw[lJ,h1,h3]
  have hvB:B^(dg m).length<=m*p+v:=by
   rw[<-h3];have:B^(dg m).length*1<=B^(dg m).length*cy:=bJ _ (by omega);omega
  have hlen:(dg (m*p+v)).length=(dg m).length+1:=by
   refine aBN ?_ (λ_=>by simpa using hvB);have:=kR hd2;rw[hv]at this;simpa[h1]using this
  have hzs:zs++[cy]=dg (m*p+v):=by
   have:=aBL hd2 (by rw[hv,hlen];simp[h1])
   rwa [hv]at this
  have hm0:m*p+v≠0:=by
   have:0<B^(dg m).length:=eK (by decide);omega
  obtain⟨g',c',w',r1,r2,r3,r4⟩:=yV wa A c d k cy base zs (λhz=>h0 (by
   rw[h1]at hz;exact mI hz)) (λhz=>by
   obtain⟨g,ra,e,hg,hB,hc⟩:=h4 (by omega);rw[cS (aA _),dB]at hB
   exact⟨g,e,⟨⟨ra,hB.keep ha hB.lt,by omega⟩,h.le⟩,hg⟩) hk (by omega) (by have:=ha.size;omega)
  rw[h1]at r1;rw[hzs]at r2;refine⟨g',c',w',by rw[hlen];exact r1,⟨(h.below.trans (ha.mono hbs)).trans r3,λh=>absurd h hm0,λ_=>⟨g',rfl,r2,r4⟩⟩,r2.le⟩
theorem PsL.next {base c p v k cy x:Nat}{w0 wr:World}{A:Option Addr}{xs:List Nat}(h:PsL base w0 wr A c xs p v k cy)(hk:k<xs.length)(hx:xs[k]=x)(hdx:Dig xs)(hp:p<B)(hcy:cy<B):
    ∃g,A=some ⟨g,0,none⟩/\wr.cell? ⟨g,k,none⟩=some (.int .u64 (x:Nat))/\wr.frozen? ⟨g,k,none⟩=false/\x<B/\(x*p+cy)/B<B/\PsL base w0 (wr.setCell ⟨g,k,none⟩ (.int .u64 ((x*p+cy)%B:Nat))) A c xs p v (k+1) ((x*p+cy)/B):=by
  obtain⟨zs,h1,h2,h3,h4⟩:=h.ex;obtain⟨g,ra,e,hg,hB,hc⟩:=h4 (by omega)
  have hxB:x<B:=by rw[<-hx];exact hdx _ (aB hk)
  have hcb:(x*p+cy)/B<B:=by
   apply dV;have h1:x*p<=(B-1)*(B-1):=cE (by omega) (by omega)
   have h2:(B-1)*(B-1)+B<=B*B:=by decide
   omega
  refine⟨g,e,?_,hB.frozen _,hxB,hcb,⟨hJ h.below hg _ _,⟨zs++[(x*p+cy)%B],by simp[h1],?_,?_,λ_=>⟨g,ra,e,hg,?_,hc⟩⟩,h.le⟩⟩
  ·rw[hB.cell];unfold jZ;rw[eB,cK,sG h1 hk,hx]
   rfl
  ·intro y hy
   rcases aK.1 hy with h|h
   ·exact h2 y h
   simp at h;subst h;exact bL _ (by decide)
  ·rw[lJ,h1,lE hk,hx,qM];have hs:=gE (x*p+cy) B
   have e1:B^k*((x*p+cy)%B)+B^k*B*((x*p+cy)/B)=B^k*(x*p+cy):=by
    rw[aV,<-aZ,hs]
   rw[aZ,<-aV]at e1;rw[cQ,aV (B^k) x p,<-aV (B^k) x p];omega
  have:=hB.set k (.int .u64 ((x*p+cy)%B:Nat))
  rwa [kX,yE h1 hk]at this
end Go.Proofs.Tg.Iw
