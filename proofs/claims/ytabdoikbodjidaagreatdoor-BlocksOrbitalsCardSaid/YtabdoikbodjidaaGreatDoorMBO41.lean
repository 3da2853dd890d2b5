/- Parts of the proof. -/
import Derived.Test.YtabdoikbodjidaaGreatDoorMBO36
import Derived.Test.YtabdoikbodjidaaGreatDoorMBO40
set_option maxHeartbeats 64000000
set_option maxRecDepth 100000
namespace Go.Proofs.Tg
open Go.RowKit Go.Gr Go.Bn Go.Rq Go.Ps Go.Qn
def svT (ss:List ByteArray)(k:Nat):Rat:=if h:k<ss.length then qv ss[k]else 0
def sqP (ss:List ByteArray)(n i j:Nat):Nat->Nat->Rat:=λp q=>if p<i∨(p=i/\q<j)then svT ss (p*n+q)else 0
theorem aGt (ss:List ByteArray)(n i j p q:Nat):sqP ss n i (j+1) p q=if p=i/\q=j then svT ss (i*n+j)else sqP ss n i j p q:=by
 unfold sqP
 by_cases h:p=i/\q=j
 ·obtain⟨rfl,rfl⟩:=h
  rw[aQ (by omega),aQ ⟨rfl,rfl⟩]
 rw[aJ h]
 by_cases h2:p<i∨(p=i/\q<j)
 ·rw[aQ h2,aQ (by omega)]
 rw[aJ h2,aJ (by omega)]
theorem aKU (ss:List ByteArray)(n i j p q:Nat)(h:ss.length<=i*n+j):sqP ss n i (j+1) p q=sqP ss n i j p q:=by
 rw[aGt]
 split
 ·rename_i e
  obtain⟨rfl,rfl⟩:=e;unfold sqP svT;rw[aJ (by omega),dif_neg (by omega)]
 rfl
theorem aMV (ss:List ByteArray)(n i p q:Nat)(hq:q<n):sqP ss n (i+1) 0 p q=sqP ss n i n p q:=by
 unfold sqP
 by_cases h2:p<i∨(p=i/\q<n)
 ·rw[aQ h2,aQ (by omega)]
 rw[aJ h2,aJ (by omega)]
def syP (a:Nat->Nat->Rat)(i j:Nat):Nat->Nat->Rat:=λp q=>if q<p/\(p<i∨(p=i/\q<j))then a q p else a p q
theorem aMW (a:Nat->Nat->Rat)(i j p q:Nat)(hj:j<i):syP a i (j+1) p q=if p=i/\q=j then a j i else syP a i j p q:=by
 unfold syP
 by_cases h:p=i/\q=j
 ·obtain⟨rfl,rfl⟩:=h
  rw[aQ (by omega),aQ ⟨rfl,rfl⟩]
 rw[aJ h]
 by_cases h2:q<p/\(p<i∨(p=i/\q<j))
 ·rw[aQ h2,aQ (by omega)]
 rw[aJ h2,aJ (by omega)]
theorem aMX (a:Nat->Nat->Rat)(i p q:Nat):syP a (i+1) 0 p q=syP a i i p q:=by
 unfold syP
 by_cases h2:q<p/\(p<i∨(p=i/\q<i))
 ·rw[aQ h2,aQ (by omega)]
 rw[aJ h2,aJ (by omega)]
theorem aOM (a:Nat->Nat->Rat)(i j:Nat)(hj:j<i):syP a i j j i=a j i:=by
 unfold syP
 rw[aJ (by omega)]
def sqA (ss:List ByteArray)(n:Nat):Nat->Nat->Rat:=λp q=>svT ss (p*n+q)
def sqR (ss:List ByteArray)(n:Nat)(ps:Bool):Nat->Nat->Rat:=if ps then(λp q=>dot n (sqA ss n p) (λt=>sqA ss n q t))else(λp q=>if q<p then sqA ss n q p else sqA ss n p q)
end Go.Proofs.Tg
namespace Go.Av
open Go.Rq Go.Ps Go.Pm Go.Proofs.Tg Go.Proofs.Tg.Iw
theorem aJK {α:Type}{f:α->Rat}{D K:Nat}(hD:0<D):∀{l:List α},(∀x∈l,Bd D K (f x))->Bd D (l.length*K) (sm f l)
  |[],_=>by
   have h:=Bd.zero D;simpa[sm]using h
  |x::l,h=>by
   have h1:=aJK hD (l:=l) λy hy=>h y (by simp[hy])
   have h2:=(h x (by simp)).add h1 hD;refine h2.mono ?_;rw[bP,eV];omega
def BdE (e N:Nat)(f:Nat->Rat):Prop:=∃E K,0<E/\E<=10^e/\K<=10^e/\∀p,p<N->Bd E K (f p)
theorem aCs (e:Nat){c:Nat}(hc:c<=100):c*10^e<=10^(e+2):=by
 rw[eU,aT]
 exact bJ _ hc
theorem aEI {x e k:Nat}(h:x<=10^e)(hk:e<=k):x<=10^k:=aR h (aP (by decide) hk)
theorem BdE.sum {e N:Nat}{f:Nat->Rat}(h:BdE e N f)(he:e+2<=500){l:List Nat}(hl:l.length<=25)(hm:∀p∈l,p<N):Pd 500 (sm f l):=by
 obtain⟨E,K,h0,hE,hK,hb⟩:=h
 have h1:=aJK h0 (l:=l) λp hp=>hb p (hm p hp)
 refine Pd.mono (i:=e+2) (h1.pd h0 (aEI hE (by omega)) ?_) he
 exact aR (cE hl hK) (aCs e (by omega))
theorem BdE.one {e N:Nat}{f:Nat->Rat}(h:BdE e N f)(he:e<=500){p:Nat}(hp:p<N):Pd 500 (f p):=by
 obtain⟨E,K,h0,hE,hK,hb⟩:=h
 exact Pd.mono (i:=e) ((hb p hp).pd h0 hE hK) he
theorem BdE.means {n e:Nat}{g l:List (List Int)}(hA:jY n g l)(hg:g.length<=25){f:Nat->Rat}(h:BdE e (l.length*l.length) f):BdE (e+2) (l.length*l.length) (Go.Av.mean f (jY.im n g l) l.length):=by
 obtain⟨E,K,h0,hE,hK,hb⟩:=h
 have hg0:0<g.length:=fF.2 (λe=>by have:=hA.grp.1;rw[e]at this;exact absurd this (by simp))
 refine⟨E*g.length,g.length*K,iJ h0 hg0,?_,?_,λp hp=>?_⟩
 ·rw[aT]
  exact aR (cE hg hE) (aCs e (by omega))
 ·exact aR (cE hg hK) (aCs e (by omega))
 rw[hA.mean f hp]
 refine Bd.div_nat ?_ hg0
 exact aJK h0 λa ha=>hb _ (aEA (hA.iperm ha) hp)
theorem yC {ss:List ByteArray}{z:Nat}(hs:∀s∈ss,s.size<=z)(k:Nat):(svT ss k).num.natAbs<=10^z/\(svT ss k).den<=10^z:=by
 unfold svT
 split
 ·exact aJJ (hs _ (aB _))
 exact⟨aW _,Nat.one_le_pow _ _ (by decide)⟩
theorem aOp {ss:List ByteArray}{z N:Nat}(hs:∀s∈ss,s.size<=z):∃D,0<D/\D<=(10^z)^N/\∀k,k<N->Bd D (10^z*D) (svT ss k):=by
 obtain⟨D,h0,h1,h2⟩:=aGb (m:=10^z) ((List.range N).map (svT ss)) λq hq=>by
  obtain⟨k,_,rfl⟩:=aM.1 hq;exact yC hs k
 rw[aI,dS]at h1
 exact⟨D,h0,h1,λk hk=>h2 _ (aM.2 ⟨k,bD.2 hk,rfl⟩)⟩
def fl (a:Nat->Nat->Rat)(L:Nat):Nat->Rat:=λp=>a (p/L) (p%L)
end Go.Av
namespace Go.Proofs.Tg.Bk
open Go.RowKit Go.Gr Go.Sp Go.Ev Go.Pm Go.Mo
theorem aGR (W:World)(A L:Option Addr)(hA:jV W A [[0,1],[1,0]])(hL:jV W L [[0,0],[0,1],[1,0]]):
    Calls Tryz.prog 15 #[.slice A 2 2,.slice L 3 3] W λe w'=>∃q,e=.returned (.tuple #[.slice (some ⟨q,0,none⟩) 2 2,.int .i64 0])/\jV w' (some ⟨q,0,none⟩) [[0,1,2],[0,2,1]]/\Below W.heap.size W w':=by
  have h:=aAh A L 2 3 [[0,1],[1,0]] [[0,0],[0,1],[1,0]] W hA (by decide) (by decide) hL (by decide) (by decide);refine h.mono ?_;rintro e w' ⟨hb,h⟩;obtain⟨_,q,h1,h2⟩:=h.resolve_left (λh=>h.1 aNO);rw[aNP]at h2;exact⟨q,h1,h2,hb⟩
def aPo (W:World)(e:Ending)(w':World):Prop:=∃g cA E0 k0 E1 k1,e=.returned (.tuple #[.slice (some ⟨g,0,none⟩) 2 cA,.int .i64 0])/\w'.cell? ⟨g,2,none⟩=some (.slice E0 6 k0)/\w'.cell? ⟨g,5,none⟩=some (.slice E1 3 k1)/\
  aGQ w' E0 ([1,0,0,0,1,1].map tx)/\aGQ w' E1 ([0,1,-1].map tx)/\Below W.heap.size W w'
theorem aEy (W:World)(A L:Option Addr)(hA:jV W A [[1,0]])(hL:jV W L [[0,0],[0,1],[1,0]])(hT:PT W):
    Calls Tryz.prog 18 #[.slice A 1 1,.slice L 3 3] W (aPo W):=by
  have h:=aCW A L 1 3 [[1,0]] [[0,0],[0,1],[1,0]] W hA hL (by decide) (by decide) (by decide) (by decide) hT (λ_=>by
   rw[aFI]
   exact aPn)
  refine h.mono ?_;rintro e w' ⟨hb,h⟩;obtain⟨_,A',cA,cs,h1,h2⟩:=h.resolve_left (λh=>h.1 aPS);rw[aFI]at h2;have heq:=h2.eq;rw[show([[0,1,2],[0,2,1]]:List (List Int)).length=2 from rfl,show([[0,0],[0,1],[1,0]]:List (List Int)).length=3 from rfl,aNQ]at heq
  match cs,heq,h1,h2 with
  |[⟨r0,E0,k0⟩,⟨r1,E1,k1⟩],heq,h1,h2=>
   simp only[fH,List.map_nil,List.cons.injEq,and_true]at heq;obtain⟨rfl,rfl⟩:=heq;have hown:=h2.own;have hr0:=Sl.own (h2.rows _ (List.mem_cons_self ..));have hr1:=Sl.own (h2.rows _ (fP _ (List.mem_cons_self ..)))
   rcases hown.2 with⟨_,h0⟩|⟨g,cap,cur,hv,_⟩
   ·cases h0
   injection hv with hv1 hv2 hv3
   subst hv1 hv3;have hc:=hown.cells (g:=g) rfl;exact⟨g,cA,E0,k0,E1,k1,h1,hc 2 _ rfl,hc 5 _ rfl,hr0,hr1,hb⟩
theorem aIL (W:World)(E:Option Addr)(k:Nat)(hE:aGQ W E ([1,0,0,0,1,1].map tx)):
    Calls Tryz.prog 20 #[.slice E 6 k,.slice (some ⟨W.heap.size,0,none⟩) 6 6] (W.alloc (.cells #[.string ⟨#[49]⟩,.string ⟨#[48]⟩,.string ⟨#[48]⟩,.string ⟨#[48]⟩,.string ⟨#[49]⟩,.string ⟨#[49]⟩] 9)) λe w'=>e=.returned (.bool true)/\Below W.heap.size W w':=by
  have hal:=dX (bM W.heap.size W) (aA _) (.cells #[.string ⟨#[49]⟩,.string ⟨#[48]⟩,.string ⟨#[48]⟩,.string ⟨#[48]⟩,.string ⟨#[49]⟩,.string ⟨#[49]⟩] 9)
  exact(vY E _ k 6 ([1,0,0,0,1,1].map tx) _ (Sl.keep hE hal) (vX (Blk.new _ _ _) rfl) (by decide)).mono λe w' h=>⟨h.1,dW hal h.2⟩
theorem aIM (W:World)(E:Option Addr)(k:Nat)(hE:aGQ W E ([0,1,-1].map tx)):
    Calls Tryz.prog 20 #[.slice E 3 k,.slice (some ⟨W.heap.size,0,none⟩) 3 3] (W.alloc (.cells #[.string ⟨#[48]⟩,.string ⟨#[49]⟩,.string ⟨#[45,49]⟩] 9)) λe w'=>e=.returned (.bool true)/\Below W.heap.size W w':=by
  have hal:=dX (bM W.heap.size W) (aA _) (.cells #[.string ⟨#[48]⟩,.string ⟨#[49]⟩,.string ⟨#[45,49]⟩] 9)
  exact(vY E _ k 3 ([0,1,-1].map tx) _ (Sl.keep hE hal) (vX (Blk.new _ _ _) rfl) (by decide)).mono λe w' h=>⟨h.1,dW hal h.2⟩
theorem aIN (W:World)(A:Option Addr)(c:Nat)(hA:jV W A [[0,1,2],[0,2,1]]):
    Calls Tryz.prog 19 #[.slice A 2 c,.slice (some ⟨W.heap.size+1+1,0,none⟩) 2 2] (((W.alloc (.cells #[.int .i64 0,.int .i64 1,.int .i64 2] 3)).alloc (.cells #[.int .i64 0,.int .i64 2,.int .i64 1] 3)).alloc (.cells #[.slice (some ⟨W.heap.size,0,none⟩) 3 3,.slice (some ⟨W.heap.size+1,0,none⟩) 3 3] 22)) λe w'=>e=.returned (.bool true)/\Below W.heap.size W w':=by
  let os:List Obj:=[.cells #[.int .i64 0,.int .i64 1,.int .i64 2] 3,.cells #[.int .i64 0,.int .i64 2,.int .i64 1] 3,.cells #[.slice (some ⟨W.heap.size,0,none⟩) 3 3,.slice (some ⟨W.heap.size+1,0,none⟩) 3 3] 22]
  have h:=aIr A _ [[0,1,2],[0,2,1]] [[0,1,2],[0,2,1]] c 2 (al W os) (hA.keep (sA W os)) (aBy (W:=al W os) (n:=3) (pQ W os 0 rfl) (pQ W os 1 rfl) rfl rfl (pQ W os 2 rfl)) (by decide) (by decide)
  exact h.mono λe w' h=>⟨by rw[h.1];rfl,dW (sA W os) h.2.below⟩
theorem aCY (w:World)(hT:PT w):Calls Tryz.prog 6 #[] w λe w'=>e=.returned (.bool true)/\Below w.heap.size w w':=by
 go_enter Tryz.func6,Tryz.ntmps6
 go_wp2_with (fail)
 refine(aIK _).mono ?_
 rintro e w1 ⟨A,rfl,hA,hb1⟩
 go_wp2_with (fail)
 refine(aBz _).mono ?_
 rintro e w2 ⟨L,rfl,hL,hb2⟩
 go_wp2_with (fail)
 refine(aGR _ _ _ (hA.keep hb2) hL).mono ?_
 rintro e w3 ⟨q,rfl,hR,hb3⟩
 have hb03:=dW (dW hb1 hb2) hb3
 clear hA hL hb1 hb2 hb3
 go_wp2_with (fail)
 have hbl:Below w3.heap.size w3 ((w3.alloc (.cells #[.int .i64 1,.int .i64 0] 3)).alloc (.cells #[.slice (some ⟨w3.heap.size,0,none⟩) 2 2] 22)):=sA w3 [.cells #[.int .i64 1,.int .i64 0] 3,.cells #[.slice (some ⟨w3.heap.size,0,none⟩) 2 2] 22]
 have hone:jV ((w3.alloc (.cells #[.int .i64 1,.int .i64 0] 3)).alloc (.cells #[.slice (some ⟨w3.heap.size,0,none⟩) 2 2] 22)) (some ⟨w3.heap.size+1,0,none⟩) [[1,0]]:=by
  let os:List Obj:=[.cells #[.int .i64 1,.int .i64 0] 3,.cells #[.slice (some ⟨w3.heap.size,0,none⟩) 2 2] 22]
  exact nP (w:=al w3 os) (L:=2) (rs:=[(w3.heap.size,[1,0])]) (pQ w3 os 1 rfl) (λr hr=>by
   rw[aN.1 hr]
   exact pQ w3 os 0 rfl) (λr hr=>by
   rw[aN.1 hr]
   rfl)
 have hR2:=hR.keep hbl
 have hb04:=dW hb03 hbl
 generalize ((w3.alloc (.cells #[.int .i64 1,.int .i64 0] 3)).alloc (.cells #[.slice (some ⟨w3.heap.size,0,none⟩) 2 2] 22))=w4 at*
 clear hR hbl
 refine(aBz _).mono ?_
 rintro e w5 ⟨L,rfl,hL,hb5⟩
 go_wp2_with (fail)
 refine(aEy w5 _ L (hone.keep hb5) hL (hT.keep (dW hb04 hb5))).mono ?_
 rintro e w6 ⟨g,cA,E0,k0,E1,k1,rfl,c0,c1,hS0,hS1,hb6⟩
 have hR3:=(hR2.keep hb5).keep hb6
 have hb06:=dW (dW hb04 hb5) hb6
 clear hone hL hR2 hb5 hb6 hb04 hb03
 go_wp2_with (fail)
 refine(aIN w6 _ 2 hR3).mono ?_
 rintro e w7 ⟨rfl,hb7⟩
 have hb07:=dW hb06 hb7
 have c0:=gL hb7 c0
 have c1:=gL hb7 c1
 have hS0:=Sl.keep hS0 hb7
 have hS1:=Sl.keep hS1 hb7
 clear hR3 hb7 hb06
 go_wp2_with (fail)
 refine(aIL w7 _ _ hS0).mono ?_
 rintro e w8 ⟨rfl,hb8⟩
 have hb08:=dW hb07 hb8
 have c1:=gL hb8 c1
 have hS1:=Sl.keep hS1 hb8
 clear hb07
 go_wp2_with (fail)
 refine(aIM w8 _ _ hS1).mono ?_
 rintro e w9 ⟨rfl,hb9⟩
 go_wp2_with (fail)
 go_ret
 exact⟨rfl,dW hb08 hb9⟩
end Go.Proofs.Tg.Bk
namespace Go.Proofs.Tg.Bk
open Go.RowKit Go.Gr Go.Sp Go.Ev Go.Pm
theorem aIn (L:Option Addr)(cL:Nat)(l:List (List Int))(q:Bool)(w:World)(hL:jV w L l)(hl:l.length<=1000000)(hq:q=true↔∀x∈l,x.length<=20):
    Calls Tryz.prog 4 #[.slice L l.length cL] w λe w'=>e=.returned (.bool q)/\w=w':=by
  have HL:=zh hL;have HQ:=zh hq;clear hL hq;go_enter Tryz.func4,Tryz.ntmps4;go_wp2
  go_loopw [3] (λs3 wr=>∃k:Nat,s3=.int .i64 k/\k<=l.length/\Hid (∀j (h:j<l.length),j<k->l[j].length<=20)/\w=wr) (λs3 _=>l.length-(intOf s3).toNat)
  case atStart=>exact⟨0,rfl,aW _,zh (λj _ h=>absurd h (by omega)),rfl⟩
  case round=>
   obtain⟨k,rfl,hk,HN,rfl⟩:=hrel
   by_cases hkl:k<l.length
   ·obtain⟨ad,E,ce,rfl,hc,_⟩:=HL.o.at hkl
    have q0:(0:Int)<=(k:Int):=by omega
    have q1:(k:Int)<(l.length:Int):=by omega
    have q3:((k:Int)).toNat=k:=by omega
    by_cases h20:l[k].length<=20
    ·have d1:decide ((20:Int)<(l[k].length:Int))=false:=dF (by omega);have d2:decide (20<l[k].length)=false:=dF (by omega)
     have HN2:Hid (∀j (h:j<l.length),j<k+1->l[j].length<=20):=zh (λj h hj=>by
      by_cases he:j=k
      ·subst he;exact h20
      exact HN.o j h (by omega))
     clear h20;generalize l[k]=x at hc d1 d2;go_wp2;go_roundw
     case rel=>exact⟨k+1,by go_num,by omega,HN2,trivial⟩
     case measure=>simp[intOf];omega
    have d1:decide ((20:Int)<(l[k].length:Int))=true:=dT (by omega);have d2:decide (20<l[k].length)=true:=dT (by omega);obtain rfl:q=false:=cV (λh=>h20 (HQ.o.1 h _ (aB _)));clear h20;generalize l[k]=x at hc d1 d2;go_wp2;go_ret;exact⟨rfl,rfl⟩
   obtain rfl:k=l.length:=by omega
   obtain rfl:q=true:=HQ.o.2 (λx hx=>by
    obtain⟨j,hj,rfl⟩:=bI hx
    exact HN.o j hj hj)
   have dk:decide ((l.length:Int)<(l.length:Int))=false:=by simp
   go_wp2;go_ret;exact⟨rfl,rfl⟩
end Go.Proofs.Tg.Bk
namespace Go.Proofs.Tg.Gp
open Go.RowKit Go.Gr Go.Sp Go.Ev Go.Pm
theorem Que.init {w:World}{base:Nat}{e:TypeId}{td:Addr}{n cap:Nat}{x:Value}{xs:List Value}(h:Que w base e (.slice (some td) n cap) (xs++[x])):Que w base e (.slice (some td) xs.length cap) xs/\xs.length<cap:=by
 obtain⟨g',o',cap',cur,h1,h2,h3,h4,h5,h6,h7⟩:=h
 injection h1 with h1 _ hc
 injection h1 with h1
 subst h1 hc
 rw[aC,dC]at h4
 refine⟨⟨g',o',cap,cur,rfl,h2,h3,by omega,h5,h6,λj u hu=>h7 j u ?_⟩,by omega⟩
 have hj:=(aX.1 hu).1
 rw[bY hj]
 exact hu
theorem xI {w:World}{od:Addr}{n:Nat}{xs:List Value}(h:Sl w (some od) n 1 xs){m:Nat}(hm:m<=n):Sl w (some od) m 1 (xs.take m):=by
 have hl:=h.len
 refine⟨by rw[aS];omega,λhp=>?_⟩
 obtain⟨ad,e,h1,h2⟩:=h.lies (by omega)
 refine⟨ad,e,h1,λj u hu=>h2 j u ?_⟩
 have hj:=(aX.1 hu).1
 rw[aS]at hj
 rwa [gJ (by omega)]at hu
theorem aCN {w:World}{od:Addr}{n:Nat}{xs:List Value}(h:Sl w (some od) n 1 xs){m:Nat}(hm:m<=n):Sl w (some (od.add m)) (n-m) 1 (xs.drop m):=by
 have hl:=h.len
 refine⟨by rw[cZ];omega,λhp=>?_⟩
 obtain⟨ad,e,h1,h2⟩:=h.lies (by omega)
 injection e with e
 subst e
 refine⟨_,rfl,by rw[kK];exact h1,λj u hu=>?_⟩
 rw[aGu]
 rw[iB]at hu
 exact h2 _ u hu
theorem aCO {w:World}{A:Option Addr}{n:Nat}{xs:List Value}(hx:xs=[])(hn:n=0):Sl w A n 1 xs:=by
 subst hx hn
 exact Sl.nil _ _ _
theorem xJ {w:World}{g:Nat}{t:TypeId}{x:Value}(h:Blk w g t #[x]):Sl w (some ⟨g,0,none⟩) 1 1 [x]:=
  ⟨rfl,λ_=>⟨_,rfl,h.lt,λj u hu=>by rw[kI,bN,h.cell j];simpa using hu⟩⟩
structure aPd (w:World)(n:Nat)(gs:List (List Int))(wr:World)(os ts:List lQ)(vo vt:Value):Prop where
  below:Below w.heap.size w wr
  bfs:Bfs n gs (os.map Prod.snd) (ts.map Prod.snd)
  asc:Asc (os.map Prod.snd)
  o:Que wr w.heap.size 22 vo (os.map (jU n))
  todo:Que wr w.heap.size 22 vt (ts.map (jU n))
  orows:lF wr os
  trows:lF wr ts
  dis:vo.ownBlock≠vt.ownBlock
structure aEk (w:World)(n:Nat)(gs:List (List Int))(wr:World)(os ts:List lQ)(vo vt:Value)(ga:Nat)(a:List Int)(j:Nat):Prop where
  below:Below w.heap.size w wr
  mid:Mid n gs (os.map Prod.snd) (ts.map Prod.snd) a j
  asc:Asc (os.map Prod.snd)
  o:Que wr w.heap.size 22 vo (os.map (jU n))
  todo:Que wr w.heap.size 22 vt (ts.map (jU n))
  orows:lF wr os
  trows:lF wr ts
  dis:vo.ownBlock≠vt.ownBlock
  cur:Blk wr ga 3 (kU a)
theorem aEk.keep {w wr wz:World}{n ga j:Nat}{gs:List (List Int)}{os ts:List lQ}{vo vt:Value}{a:List Int}(h:aEk w n gs wr os ts vo vt ga a j)(hb:Below wr.heap.size wr wz):aEk w n gs wz os ts vo vt ga a j:=
  ⟨dW h.below hb,h.mid,h.asc,h.o.below hb,h.todo.below hb,h.orows.keep hb,h.trows.keep hb,h.dis,h.cur.keep hb h.cur.lt⟩
theorem xK (G:Option Addr)(cG n:Nat)(gs:List (List Int))(w:World)(hG:jV w G gs)(hp:∀g∈gs,Perm n g)(hn:n<=6)(hl:gs.length<=1000000):
    Calls Tryz.prog 22 #[.int .i64 n,.slice G gs.length cG] w λe w'=>∃A c S,e=.returned (.slice A (List.length S) c)/\jV w' A S/\sB n gs S/\Asc S/\Below w.heap.size w w':=by
  have HG:=zh hG;have HP:=zh hp;have HUN:=zh (λV=>aIg n V hn);have HUL:Hid ((unit n).length=n):=zh (mV n);have HBF:=zh (Bfs.start n gs);obtain⟨j0,hj0,hjz0,hjz1,hjz2⟩:=info_parts kS;clear hG hp;generalize unit n=u at*;go_enter Tryz.func22,Tryz.ntmps22
  go_upto_region 2 with(go_at_call 48;refine(HUN.o _).mono ?_;rintro e w1 ⟨rfl,hG1,hb1⟩)
  have hal1:=dX (bM w1.heap.size w1) (aA _) (.cells #[.slice (some ⟨w.heap.size,0,none⟩) n n] 22);have hQ1:=Que.of_blk (base:=w.heap.size) (xs:=[jU n (w.heap.size,u)]) (Blk.new w1 22 #[.slice (some ⟨w.heap.size,0,none⟩) n n]) hb1.size (by simp[maxLen]);have hG1x:=hG1.keep hal1 hG1.lt;have hbx:=dW hb1 hal1
  have hlt1:w1.heap.size<(w1.alloc (.cells #[.slice (some ⟨w.heap.size,0,none⟩) n n] 22)).heap.size:=by simp
  clear hG1 hb1 hal1;generalize w1.alloc (.cells #[.slice (some ⟨w.heap.size,0,none⟩) n n] 22)=W1 at*;generalize w1.heap.size=go1 at*
  go_upto_region 3 with(go_at_call 48;refine(HUN.o _).mono ?_;rintro e w2 ⟨rfl,hG2,hb2⟩)
  have hal2:=dX (bM w2.heap.size w2) (aA _) (.cells #[.slice (some ⟨W1.heap.size,0,none⟩) n n] 22);have hbw2:=dW hbx hb2;have hQ2:=Que.of_blk (base:=w.heap.size) (xs:=[jU n (W1.heap.size,u)]) (Blk.new w2 22 #[.slice (some ⟨W1.heap.size,0,none⟩) n n]) hbw2.size (by simp[maxLen])
  have H0:Hid (aPd w n gs (w2.alloc (.cells #[.slice (some ⟨W1.heap.size,0,none⟩) n n] 22)) [(w.heap.size,u)] [(W1.heap.size,u)] (.slice (some ⟨go1,0,none⟩) 1 1) (.slice (some ⟨w2.heap.size,0,none⟩) 1 1)):=zh
    ⟨dW hbw2 hal2,HBF.o,List.pairwise_singleton _ _,(hQ1.below hb2).below hal2,hQ2,λr hr=>by rw[aN.1 hr];exact(hG1x.keep hb2 hG1x.lt).keep hal2 (hG1x.keep hb2 hG1x.lt).lt,λr hr=>by rw[aN.1 hr];exact hG2.keep hal2 hG2.lt,λe=>by
     injection e with e
     change go1=w2.heap.size at e;have:=hb2.size
     omega⟩
  clear hal2 hQ1 hQ2 hG1x hG2 hbx hb2 hbw2 hlt1 HUN HBF;generalize w2.alloc (.cells #[.slice (some ⟨W1.heap.size,0,none⟩) n n] 22)=W2 at*;generalize w2.heap.size=go2 at*;generalize W1.heap.size=gu at*;go_wp2
  go_loopg [5,6] 46656 (λm s5 s6 wr=>∃(os ts:List lQ) (vo vt:Value),s5=vo/\s6=vt/\Hid (aPd w n gs wr os ts vo vt)/\46656-os.length+ts.length<=m/\ts.length<=os.length)
  case atStart=>exact⟨_,_,_,_,rfl,rfl,H0,by simp,by simp⟩
  case round=>
   clear H0;obtain⟨wo,rfl⟩:∃wo:World,wo=wr:=⟨_,rfl⟩;obtain⟨os,ts,vo,vt,rfl,rfl,HST,hm,hts⟩:=hrel;have hos:=HST.o.bfs.few hn HP.o;rw[aI]at hos
   rcases List.eq_nil_or_concat ts with rfl|⟨ts',r,hcc⟩
   ·obtain⟨g,o,cap,cur,rfl,_⟩:=HST.o.todo;obtain⟨od,co,rfl,hSl,_⟩:=HST.o.o.sl;rw[aI]at hSl;have hgen:=HST.o.bfs.fin
    have hrl:∀r∈os,r.2.length=n:=λr hr=>(((hgen.2 r.2).1 (aM.2 ⟨r,hr,rfl⟩)).perm HP.o).1
    have hLs:=nP hSl HST.o.orows hn hrl;have HF:Hid (∃A c S,Value.slice (some od) (os.map (jU n)).length co=.slice A (List.length S) c/\jV wo A S/\sB n gs S/\Asc S):=zh ⟨some od,co,os.map Prod.snd,by simp,hLs,hgen,HST.o.asc⟩;have hbF:=HST.o.below;clear hLs hrl hgen hSl;go_wp2;go_ret;obtain⟨A,c,S,h1,h2,h3,h4⟩:=HF.o;exact⟨A,c,S,(by rw[<-h1];rfl),h2,h3,h4,hbF⟩
   rw[List.concat_eq_append]at hcc;subst hcc;obtain⟨gr,a⟩:=r;obtain⟨td,ct,hvt,hSlt,_,_⟩:=HST.o.todo.sl;subst hvt
   have htod:Que wo w.heap.size 22 (.slice (some td) ((ts'++[(gr,a)]).map (jU n)).length ct) (ts'.map (jU n)++[jU n (gr,a)]):=by
    have h:=HST.o.todo
    have e:(ts'++[(gr,a)]).map (jU n)=ts'.map (jU n)++[jU n (gr,a)]:=by simp
    rw[<-e];exact h
   obtain⟨hinit,hcap⟩:=Go.Proofs.Tg.Gp.Que.init htod;rw[aI]at hinit hcap;obtain⟨td',e1,hcell'⟩:=Sl.at1 hSlt (show ts'.length<((ts'++[(gr,a)]).map (jU n)).length by simp)
   injection e1 with e1
   subst e1
   have hcell:wo.cell? (td.add ts'.length)=some (.slice (some ⟨gr,0,none⟩) n n):=by simpa[jU]using hcell'
   clear hcell'
   have hbfs:Bfs n gs (os.map Prod.snd) (ts'.map Prod.snd++[a]):=by have:=HST.o.bfs;simpa using this
   have HMI:=zh hbfs.popr;have HMD:=zh (⟨HST.o.below,HMI.o,HST.o.asc,HST.o.o,hinit,HST.o.orows,λr hr=>HST.o.trows r (bZ _ hr),HST.o.dis,HST.o.trows (gr,a) (by simp)⟩:aEk w n gs wo os ts' _ (.slice (some td) ts'.length ct) gr a 0)
   have hvl:((ts'++[(gr,a)]).map (jU n)).length=ts'.length+1:=by simp
   have q0:(0:Int)<=(ts'.length:Int):=by omega
   have q3:((ts'.length:Int)).toNat=ts'.length:=by omega
   have ww:IntKind.i64.wrap (ts'.length:Int)=(ts'.length:Int):=by
    rw[aC,dC]at hts;exact IntWalk.i64_in _ (by omega)
   have hcf:(ct=0)=False:=bX (by omega)
   have hts':ts'.length+1<=os.length:=by simpa using hts
   have hm':46656-os.length+ts'.length<gk:=by
    have:(ts'++[(gr,a)]).length=ts'.length+1:=by simp
    omega
   have hcapl:ts'.length<=ct:=by omega
   rw[hvl];clear hinit htod hbfs HMI hSlt HST hvl hm hts;go_wp2
   go_loopw [8,5,6] (λs8 s5 s6 wr=>∃(j:Nat) (os ts:List lQ) (vo vt:Value),s8=.int .i64 j/\j<=gs.length/\s5=vo/\s6=vt/\Hid (aEk w n gs wr os ts vo vt gr a j)/\46656-os.length+ts.length<gk/\ts.length+1<=os.length) (λs8 _ _ _=>gs.length-(intOf s8).toNat)
   case atStart=>exact⟨0,os,ts',_,_,rfl,aW _,rfl,rfl,HMD,hm',hts'⟩
   case round=>
    clear HMD hcell hcf hcap hcapl q0 q3 ww hm' hts';obtain⟨wi,rfl⟩:∃wi:World,wi=wr:=⟨_,rfl⟩;obtain⟨j,os,ts,vo,vt,rfl,hj,rfl,rfl,HMD,hm,hts⟩:=hrel;have hbi:=HMD.o.below;have hos:=HMD.o.mid.few hn HP.o;rw[aI]at hos;obtain⟨od,co,hvo,hSlo,_,hspo⟩:=HMD.o.o.sl;obtain⟨td,ct,hvt,_,_,_⟩:=HMD.o.todo.sl;rw[aI]at hvo hvt hSlo
    by_cases hjl:j<gs.length
    ·obtain⟨ad,E,ce,rfl,hcg,hE⟩:=(HG.o.keep hbi).at hjl;have hpg:=HP.o gs[j] (aB _);have hpa:Perm n a:=(HMD.o.mid.gen a HMD.o.mid.cur).perm HP.o
     have q0:(0:Int)<=(j:Int):=by omega
     have q1:(j:Int)<(gs.length:Int):=by omega
     have q3:((j:Int)).toNat=j:=by omega
     rw[hpg.1]at hcg;have HPR:=zh (aIh E (some ⟨gr,0,none⟩) ce n n gs[j] a wi hE (lO HMD.o.cur hpa.1 hn) hpg hpa hn);have hpc:=mE hpg hpa
     have hal:∀r∈os,r.2.length=n:=λr hr=>((HMD.o.mid.gen r.2 (aM.2 ⟨r,hr,rfl⟩)).perm HP.o).1
     have hLo:=nP hSlo HMD.o.orows hn hal
     have HPLC:Hid (∀V v,Below wi.heap.size wi V->Blk V wi.heap.size 3 (kU (cmp gs[j] a))->(v=true↔cmp gs[j] a∈os.map Prod.snd)->Calls Tryz.prog 50 #[.slice (some od) os.length co,.slice (some ⟨wi.heap.size,0,none⟩) n n] V λe w'=>∃m:Nat,e=.returned (.tuple #[.int .i64 m,.bool v])/\Pm.At (os.map Prod.snd) (cmp gs[j] a) m/\Below V.heap.size V w'):=zh (λV v h hB hv=>by
      have:=aIj (some od) co (os.map Prod.snd) (some ⟨wi.heap.size,0,none⟩) n (cmp gs[j] a) v V (hLo.keep h) (lO hB hpc.1 hn) (by simp;omega) (λx hx=>by
       obtain⟨r,hr,rfl⟩:=aM.1 hx;have:=hal r hr
       omega) HMD.o.asc hv
      rw[aI,hpc.1]at this
      exact this)
     clear hE hal hLo hSlo
     by_cases hin:cmp gs[j] a∈os.map Prod.snd
     ·have HO:=zh (HMD.o.mid.old hjl hin);have HPT:Hid (∀V,Below wi.heap.size wi V->Blk V wi.heap.size 3 (kU (cmp gs[j] a))->Calls Tryz.prog 50 #[.slice (some od) os.length co,.slice (some ⟨wi.heap.size,0,none⟩) n n] V λe w'=>∃m:Nat,e=.returned (.tuple #[.int .i64 m,.bool true])/\Below V.heap.size V w'):=zh (λV h hB=>(HPLC.o V true h hB ⟨λ_=>hin,λ_=>rfl⟩).mono λe w' ⟨m,h1,_,h3⟩=>⟨m,h1,h3⟩);clear hin HPLC hpg hpa hpc;generalize cmp gs[j] a=z at*;subst hvo hvt
      go_wp2_with (first
        |(go_at_call 49;refine HPR.o.mono ?_;rintro e w4 ⟨rfl,hG4,hb4⟩)
        |(go_at_call 50;refine(HPT.o _ hb4 hG4).mono ?_;rintro e w5 ⟨m,rfl,hb5⟩))
      go_roundw
      case rel=>
       have hK:=HMD.o.keep (dW hb4 hb5);exact⟨j+1,os,ts,_,_,by go_num,by omega,rfl,rfl,zh ⟨hK.below,HO.o,hK.asc,hK.o,hK.todo,hK.orows,hK.trows,hK.dis,hK.cur⟩,hm,hts⟩
      case measure=>simp[intOf];omega
     have HPF:Hid (∀V,Below wi.heap.size wi V->Blk V wi.heap.size 3 (kU (cmp gs[j] a))->Calls Tryz.prog 50 #[.slice (some od) os.length co,.slice (some ⟨wi.heap.size,0,none⟩) n n] V λe w'=>∃m:Nat,e=.returned (.tuple #[.int .i64 m,.bool false])/\Pm.At (os.map Prod.snd) (cmp gs[j] a) m/\Below V.heap.size V w'):=zh (λV h hB=>HPLC.o V false h hB (Iff.intro (λh=>by cases h) (λh=>absurd h hin)));have HPM:Hid (∀m,Pm.At (os.map Prod.snd) (cmp gs[j] a) m->Asc ((os.map Prod.snd).take m++cmp gs[j] a::(os.map Prod.snd).drop m)/\Mid n gs ((os.map Prod.snd).take m++cmp gs[j] a::(os.map Prod.snd).drop m) (ts.map Prod.snd++[cmp gs[j] a]) a (j+1)):=zh (λm h=>HMD.o.mid.place hjl HMD.o.asc h hin);clear hin HPLC hpg hpa hpc;generalize cmp gs[j] a=z at*;subst hvo hvt
     go_upto_region 12 with(first
       |(go_at_call 49;refine HPR.o.mono ?_;rintro e w4 ⟨rfl,hG4,hb4⟩)
       |(go_at_call 50;refine(HPF.o _ hb4 hG4).mono ?_;rintro e w5 ⟨m,rfl,hat5,hb5⟩))
     have hb45:=dW hb4 hb5;have HK5:=zh (HMD.o.keep hb45);have hZ5:=hG4.keep hb5 hG4.lt
     have hmo:m<=os.length:=by have:=hat5.1;rwa [aI]at this
     obtain⟨od',co',e1,hSl5,_⟩:=HK5.o.o.sl
     have hcapo:os.length<=co:=by
      obtain⟨_,_,cap',_,e2,_,_,e4,_⟩:=HK5.o.o
      injection e2 with _ _ e5
      rw[e5];simpa using e4
     injection e1 with e1 e2 e3
     injection e1 with e1
     subst e1;clear e2 e3;rw[aI]at hSl5;have HAT5:=zh (HPM.o m hat5);have hco0:(co=0)=False:=bX (by omega)
     have m0:(0:Int)<=(m:Int):=by omega
     have m1:(m:Int)<=(os.length:Int):=by omega
     have m2:(m:Int)<=(co:Int):=by omega
     have m3:((m:Int)).toNat=m:=by omega
     clear hG4 HPR HPF HPM hat5 hcg q0 q1 q3
     have HON1:Hid (∀u∈(os.map (jU n)).take m,u.oneCell'=true):=zh (λu hu=>by
      obtain⟨r,_,rfl⟩:=aM.1 (eS hu)
      rfl)
     have HON2:Hid (∀u∈(os.map (jU n)).drop m,u.oneCell'=true):=zh (λu hu=>by
      obtain⟨r,_,rfl⟩:=aM.1 (iP hu)
      rfl)
     go_cut [5] (λs5 wx=>Que wx w5.heap.size 22 s5 ([]++(os.map (jU n)).take m++[.slice (some ⟨wi.heap.size,0,none⟩) n n]++(os.map (jU n)).drop m)/\Below w5.heap.size w5 wx)
     case first=>
      by_cases hcm:m=co
      ·subst hcm;have hfull:os.length<=m:=hcapo;have BZ:Below w5.heap.size w5 w5.drew:=brf.drew;refine dG (S:=(λw'=>True)) (by kernel_rfl) trivial (λhHeld=>?_);generalize w5.drew=Z at*
       repeat' (first
         |(refine gLd 1 53 (.slice (some od) os.length m) rfl rfl hHeld ?_;(try simp only[jA]))
         |(refine gLd 2 54 (.int .i64 m) rfl rfl hHeld ?_;(try simp only[jA]))
         |(refine gLd 3 55 (.slice (some od) m m) rfl rfl hHeld ?_;(try simp only[jA]))
         |(refine gLd 5 57 (.slice (some ⟨wi.heap.size,0,none⟩) n n) rfl rfl hHeld ?_;(try simp only[jA]))
         |(refine gLd 8 60 (.slice (some od) os.length m) rfl rfl hHeld ?_;(try simp only[jA]))
         |(refine gLd 9 61 (.int .i64 m) rfl rfl hHeld ?_;(try simp only[jA]))
         |(refine gLd 10 62 (.slice (some (od)) 0 0) rfl rfl hHeld ?_;(try simp only[jA]))
         |(refine gRd [6] ?_)
         |(refine gRd [7] ?_)
         |(refine gRd [11] ?_)
         |(refine gRd [4] ?_)
         |(refine gRd [0] ?_)
         |(refine gRd [0,6] ?_)
         |(refine gRd [4,6] ?_)
         |(exact dM)
         |(refine gCs rfl ?_ ?_)
         |(have _:OpN 0:=tg;clear tg;go_simp;(try have hne6:g6≠Z.heap.size:=by have:=G6.lt;omega);have hba:Below Z.heap.size Z (Z.alloc (.cells #[] 22)):=bal;have BZn:=dW BZ hba;(try replace G6:=G6.keep hba G6.lt);have Q0:=Que.of_blk (base:=w5.heap.size) (xs:=[]) (Blk.new Z 22 #[]) BZ.size (by simp[maxLen]);clear hHeld;refine hK.o _ _ trivial (λhHeld=>?_);clear hK K hba;generalize Z.alloc (.cells #[] 22)=Zn at*;generalize Z.heap.size=g0 at*;obtain⟨Z,rfl⟩:∃x,x=Zn:=⟨_,rfl⟩;(try (replace BZ:=BZn;clear BZn));(try simp only[jA]))
         |(have _:OpN 4:=tg;clear tg;refine kC _ (.inl rfl) _ _ 27 (by rfl) w5.heap.size 22 j0 (.slice none 0 0) 24 Tryz.underlying27 hj0 hjz0 hjz1 hjz2 rfl (.slice (some ⟨g0,0,none⟩) 0 0) [] (by simp[Act.eval]) Q0 (.slice (some od) m m) m ((os.map (jU n)).take m) (by simp[Act.eval]) (nZ Tryz.underlying27 (xI (hSl5.keep BZ) hmo) HON1.o) (by simp[maxLen];omega) (by simp;omega) BZ.size ?_;intro v4 Zn Q4 hg _;have BZn:=BZ.grown hg BZ.size (λq hq=>by obtain⟨_,h1,h2,_⟩:=Q0.blk;have h3:=h1.symm.trans hq;injection h3 with h3;omega);(try replace G6:=G6.grown hg (by simpa[Value.ownBlock]using hne6));(try change K (Act.put _ (some 56) v4) Zn);clear hHeld;refine hK.o _ _ trivial (λhHeld=>?_);clear hK K hg;obtain⟨Z,rfl⟩:∃x,x=Zn:=⟨_,rfl⟩;(try (replace BZ:=BZn;clear BZn));(try simp only[jA]))
         |(have _:OpN 6:=tg;clear tg;go_simp;(try have hne6:Z.heap.size≠g0:=by obtain⟨_,h1,_,h3⟩:=Q0.blk;injection h1 with h1;change g0=_ at h1;omega);have hba:Below Z.heap.size Z (Z.alloc (.cells #[.slice (some ⟨wi.heap.size,0,none⟩) n n] 22)):=bal;have BZn:=dW BZ hba;(try replace Q0:=Q0.below hba);(try replace Q4:=Q4.below hba);have G6:=Blk.new Z 22 #[.slice (some ⟨wi.heap.size,0,none⟩) n n];clear hHeld;refine hK.o _ _ trivial (λhHeld=>?_);clear hK K hba;generalize Z.alloc (.cells #[.slice (some ⟨wi.heap.size,0,none⟩) n n] 22)=Zn at*;generalize Z.heap.size=g6 at*;obtain⟨Z,rfl⟩:∃x,x=Zn:=⟨_,rfl⟩;(try (replace BZ:=BZn;clear BZn));(try simp only[jA]))
         |(have _:OpN 7:=tg;clear tg;refine kC _ (.inl rfl) _ _ 27 (by rfl) w5.heap.size 22 j0 (.slice none 0 0) 24 Tryz.underlying27 hj0 hjz0 hjz1 hjz2 rfl v4 ([]++(os.map (jU n)).take m) (by simp[Act.eval]) Q4 (.slice (some ⟨g6,0,none⟩) 1 1) 1 [.slice (some ⟨wi.heap.size,0,none⟩) n n] (by simp[Act.eval]) (nZ Tryz.underlying27 (xJ G6) (by simp[Value.oneCell'])) (by simp[maxLen];omega) (by simp;omega) BZ.size ?_;intro v7 Zn Q7 hg _;have BZn:=BZ.grown hg BZ.size (λq hq=>by obtain⟨_,h1,h2,_⟩:=Q4.blk;have h3:=h1.symm.trans hq;injection h3 with h3;omega);(try change K (Act.put _ (some 59) v7) Zn);clear hHeld;refine hK.o _ _ trivial (λhHeld=>?_);clear hK K hg;obtain⟨Z,rfl⟩:∃x,x=Zn:=⟨_,rfl⟩;(try (replace BZ:=BZn;clear BZn));(try simp only[jA]))
         |(have _:OpN 11:=tg;clear tg;refine kC _ (.inl rfl) _ _ 27 (by rfl) w5.heap.size 22 j0 (.slice none 0 0) 24 Tryz.underlying27 hj0 hjz0 hjz1 hjz2 rfl v7 ([]++(os.map (jU n)).take m++[.slice (some ⟨wi.heap.size,0,none⟩) n n]) (by simp[Act.eval]) Q7 (.slice (some (od)) 0 0) 0 ((os.map (jU n)).drop m) (by simp[Act.eval]) (nZ Tryz.underlying27 (aCO (by rw[jN (by simp;omega)]) rfl) HON2.o) (by simp[maxLen];omega) (by simp;omega) BZ.size ?_;intro v11 Zn Q11 hg _;have BZn:=BZ.grown hg BZ.size (λq hq=>by obtain⟨_,h1,h2,_⟩:=Q7.blk;have h3:=h1.symm.trans hq;injection h3 with h3;omega);(try change K (Act.put _ (some 63) v11) Zn);clear hHeld;refine hK.o _ _ trivial (λhHeld=>?_);clear hK K hg;obtain⟨Z,rfl⟩:∃x,x=Zn:=⟨_,rfl⟩;(try (replace BZ:=BZn;clear BZn));(try simp only[jA]))
         |(refine gLd 12 5 (v11) rfl rfl hHeld ?_;(try simp only[jA]))
         |(refine fD (by decide+kernel) ?_ _)
         |(intro K hK tg))
       all_goals
         go_wp2;go_meet;exact⟨Q11,BZ⟩
      have hcmf:(co=m)=False:=bX (λe=>hcm e.symm);have BZ:Below w5.heap.size w5 w5.drew:=brf.drew;refine dG (S:=(λw'=>True)) (by kernel_rfl) trivial (λhHeld=>?_);generalize w5.drew=Z at*
      repeat' (first
        |(refine gLd 1 53 (.slice (some od) os.length co) rfl rfl hHeld ?_;(try simp only[jA]))
        |(refine gLd 2 54 (.int .i64 m) rfl rfl hHeld ?_;(try simp only[jA]))
        |(refine gLd 3 55 (.slice (some od) m co) rfl rfl hHeld ?_;(try simp only[jA]))
        |(refine gLd 5 57 (.slice (some ⟨wi.heap.size,0,none⟩) n n) rfl rfl hHeld ?_;(try simp only[jA]))
        |(refine gLd 8 60 (.slice (some od) os.length co) rfl rfl hHeld ?_;(try simp only[jA]))
        |(refine gLd 9 61 (.int .i64 m) rfl rfl hHeld ?_;(try simp only[jA]))
        |(refine gLd 10 62 (.slice (some (od.add m)) (os.length-m) (co-m)) rfl rfl hHeld ?_;(try simp only[jA]))
        |(refine gRd [6] ?_)
        |(refine gRd [7] ?_)
        |(refine gRd [11] ?_)
        |(refine gRd [4] ?_)
        |(refine gRd [0] ?_)
        |(refine gRd [0,6] ?_)
        |(refine gRd [4,6] ?_)
        |(exact dM)
        |(refine gCs rfl ?_ ?_)
        |(have _:OpN 0:=tg;clear tg;go_simp;(try have hne6:g6≠Z.heap.size:=by have:=G6.lt;omega);have hba:Below Z.heap.size Z (Z.alloc (.cells #[] 22)):=bal;have BZn:=dW BZ hba;(try replace G6:=G6.keep hba G6.lt);have Q0:=Que.of_blk (base:=w5.heap.size) (xs:=[]) (Blk.new Z 22 #[]) BZ.size (by simp[maxLen]);clear hHeld;refine hK.o _ _ trivial (λhHeld=>?_);clear hK K hba;generalize Z.alloc (.cells #[] 22)=Zn at*;generalize Z.heap.size=g0 at*;obtain⟨Z,rfl⟩:∃x,x=Zn:=⟨_,rfl⟩;(try (replace BZ:=BZn;clear BZn));(try simp only[jA]))
        |(have _:OpN 4:=tg;clear tg;refine kC _ (.inl rfl) _ _ 27 (by rfl) w5.heap.size 22 j0 (.slice none 0 0) 24 Tryz.underlying27 hj0 hjz0 hjz1 hjz2 rfl (.slice (some ⟨g0,0,none⟩) 0 0) [] (by simp[Act.eval]) Q0 (.slice (some od) m co) m ((os.map (jU n)).take m) (by simp[Act.eval]) (nZ Tryz.underlying27 (xI (hSl5.keep BZ) hmo) HON1.o) (by simp[maxLen];omega) (by simp;omega) BZ.size ?_;intro v4 Zn Q4 hg _;have BZn:=BZ.grown hg BZ.size (λq hq=>by obtain⟨_,h1,h2,_⟩:=Q0.blk;have h3:=h1.symm.trans hq;injection h3 with h3;omega);(try replace G6:=G6.grown hg (by simpa[Value.ownBlock]using hne6));(try change K (Act.put _ (some 56) v4) Zn);clear hHeld;refine hK.o _ _ trivial (λhHeld=>?_);clear hK K hg;obtain⟨Z,rfl⟩:∃x,x=Zn:=⟨_,rfl⟩;(try (replace BZ:=BZn;clear BZn));(try simp only[jA]))
        |(have _:OpN 6:=tg;clear tg;go_simp;(try have hne6:Z.heap.size≠g0:=by obtain⟨_,h1,_,h3⟩:=Q0.blk;injection h1 with h1;change g0=_ at h1;omega);have hba:Below Z.heap.size Z (Z.alloc (.cells #[.slice (some ⟨wi.heap.size,0,none⟩) n n] 22)):=bal;have BZn:=dW BZ hba;(try replace Q0:=Q0.below hba);(try replace Q4:=Q4.below hba);have G6:=Blk.new Z 22 #[.slice (some ⟨wi.heap.size,0,none⟩) n n];clear hHeld;refine hK.o _ _ trivial (λhHeld=>?_);clear hK K hba;generalize Z.alloc (.cells #[.slice (some ⟨wi.heap.size,0,none⟩) n n] 22)=Zn at*;generalize Z.heap.size=g6 at*;obtain⟨Z,rfl⟩:∃x,x=Zn:=⟨_,rfl⟩;(try (replace BZ:=BZn;clear BZn));(try simp only[jA]))
        |(have _:OpN 7:=tg;clear tg;refine kC _ (.inl rfl) _ _ 27 (by rfl) w5.heap.size 22 j0 (.slice none 0 0) 24 Tryz.underlying27 hj0 hjz0 hjz1 hjz2 rfl v4 ([]++(os.map (jU n)).take m) (by simp[Act.eval]) Q4 (.slice (some ⟨g6,0,none⟩) 1 1) 1 [.slice (some ⟨wi.heap.size,0,none⟩) n n] (by simp[Act.eval]) (nZ Tryz.underlying27 (xJ G6) (by simp[Value.oneCell'])) (by simp[maxLen];omega) (by simp;omega) BZ.size ?_;intro v7 Zn Q7 hg _;have BZn:=BZ.grown hg BZ.size (λq hq=>by obtain⟨_,h1,h2,_⟩:=Q4.blk;have h3:=h1.symm.trans hq;injection h3 with h3;omega);(try change K (Act.put _ (some 59) v7) Zn);clear hHeld;refine hK.o _ _ trivial (λhHeld=>?_);clear hK K hg;obtain⟨Z,rfl⟩:∃x,x=Zn:=⟨_,rfl⟩;(try (replace BZ:=BZn;clear BZn));(try simp only[jA]))
        |(have _:OpN 11:=tg;clear tg;refine kC _ (.inl rfl) _ _ 27 (by rfl) w5.heap.size 22 j0 (.slice none 0 0) 24 Tryz.underlying27 hj0 hjz0 hjz1 hjz2 rfl v7 ([]++(os.map (jU n)).take m++[.slice (some ⟨wi.heap.size,0,none⟩) n n]) (by simp[Act.eval]) Q7 (.slice (some (od.add m)) (os.length-m) (co-m)) (os.length-m) ((os.map (jU n)).drop m) (by simp[Act.eval]) (nZ Tryz.underlying27 (aCN (hSl5.keep BZ) hmo) HON2.o) (by simp[maxLen];omega) (by simp;omega) BZ.size ?_;intro v11 Zn Q11 hg _;have BZn:=BZ.grown hg BZ.size (λq hq=>by obtain⟨_,h1,h2,_⟩:=Q7.blk;have h3:=h1.symm.trans hq;injection h3 with h3;omega);(try change K (Act.put _ (some 63) v11) Zn);clear hHeld;refine hK.o _ _ trivial (λhHeld=>?_);clear hK K hg;obtain⟨Z,rfl⟩:∃x,x=Zn:=⟨_,rfl⟩;(try (replace BZ:=BZn;clear BZn));(try simp only[jA]))
        |(refine gLd 12 5 (v11) rfl rfl hHeld ?_;(try simp only[jA]))
        |(refine fD (by decide+kernel) ?_ _)
        |(intro K hK tg))
      all_goals
        go_wp2;go_meet;exact⟨Q11,BZ⟩
     case rest=>
      obtain⟨hQx,hbx⟩:=hcut;obtain⟨wx,rfl⟩:∃wx:World,wx=wc:=⟨_,rfl⟩;have HKX:=zh (HK5.o.keep hbx);have hZx:=hZ5.keep hbx hZ5.lt;have hbX:=HKX.o.below
      have hosl:os.length+1<=46656:=by
       have h1:=HAT5.o.2.few hn HP.o;simp at h1;omega
      obtain⟨gT,eT,_,ltT⟩:=HK5.o.todo.blk;obtain⟨gO,eO,geO,ltO⟩:=hQx.blk
      have hmap:(os.take m++(wi.heap.size,z)::os.drop m).map Prod.snd=(os.map Prod.snd).take m++z::(os.map Prod.snd).drop m:=by simp[]
      have hmapc:(os.take m++(wi.heap.size,z)::os.drop m).map (jU n)=[]++(os.map (jU n)).take m++[.slice (some ⟨wi.heap.size,0,none⟩) n n]++(os.map (jU n)).drop m:=by simp[jU]
      have HMAP:=zh hmap;have HMAPC:=zh hmapc;have hQx':=zh hQx;have HEO:=zh eO;have HET:=zh eT
      have hw5:w.heap.size<=w5.heap.size:=by have:=HK5.o.below.size;exact this
      have hal:=dX (bM wx.heap.size wx) (aA _) (.cells #[.slice (some ⟨wi.heap.size,0,none⟩) n n] 22);have KX:=zh (HKX.o.keep hal);have ZX:=zh (hZx.keep hal hZx.lt);have hbs:=hbX.size
      have hosl2:ts.length<=46656:=by omega
      clear hmap hmapc hQx eO eT hSl5 hZ5 hZx m0 m1 m2 m3 hco0 hcapo
      go_wp2_with (at_builtin
                   refine oQ _ rfl _ _ 27 rfl w.heap.size 22 j0 (.slice none 0 0) 24 Tryz.underlying27 hj0 hjz0 hjz1 hjz2 rfl (.slice (some td) ts.length ct) (ts.map (jU n)) rfl KX.o.todo ⟨wx.heap.size,0,none⟩ 1 (.slice (some ⟨wi.heap.size,0,none⟩) n n) rfl ((Blk.new wx 22 #[.slice (some ⟨wi.heap.size,0,none⟩) n n]).cell 0) (by simp[Value.oneCell']) (by simp[maxLen];omega) (by simp;omega) (by have:=hal.size;omega) ?_
                   intro v8 w8 hQ8 hg8 hloc8 _)
      go_roundw
      case rel=>
       refine⟨j+1,os.take m++(wi.heap.size,z)::os.drop m,ts++[(wi.heap.size,z)],_,v8,by go_num,by omega,rfl,rfl,zh ⟨?_,?_,?_,?_,?_,?_,?_,?_,?_⟩,by simp;omega,by simp;omega⟩
       ·exact(hbX.alloc hbs _).grown hg8 (by have:=hal.size;omega) (λq hq=>by
         obtain⟨g9,e9,h9,_⟩:=KX.o.todo.blk;have h10:=e9.symm.trans hq
         injection h10 with h10
         omega)
       ·rw[HMAP.o,bH];exact HAT5.o.2
       ·rw[HMAP.o];exact HAT5.o.1
       ·rw[HMAPC.o];obtain⟨g',o',cap',cur,h1,h2,h3,h4⟩:=hQx'.o.below hal;refine⟨g',o',cap',cur,h1,aR hw5 h2,(hg8.block g' (cR.1 h3).1 (λe=>?_)).trans h3,h4⟩;have e2:=e.trans HET.o
        injection e2 with e2
        omega
       ·rw[bH];exact hQ8
       ·intro r hr
        have hr2:r∈os∨r=(wi.heap.size,z):=by
         rcases aK.1 hr with h|h
         ·exact .inl (eS h)
         rcases bA.1 h with h|h
         ·exact .inr h
         exact .inl (iP h)
        rcases hr2 with h|h
        ·exact(KX.o.orows.grown KX.o.todo hg8) r h
        rw[h];exact ZX.o.grown hg8 (KX.o.todo.ne ZX.o (by decide))
       ·exact(KX.o.trows.grown KX.o.todo hg8).snoc (ZX.o.grown hg8 (KX.o.todo.ne ZX.o (by decide)))
       ·intro e;have e3:=HEO.o.symm.trans e
        rcases hloc8 with h|h
        ·have e4:=e3.trans (h.trans HET.o)
         injection e4 with e4
         omega
        have e4:=e3.trans h
        injection e4 with e4
        simp at e4;omega
       exact KX.o.cur.grown hg8 (KX.o.todo.ne KX.o.cur (by decide))
      case measure=>simp[intOf];omega
    obtain rfl:j=gs.length:=by omega
    have HF:=zh (HMD.o.mid.fin);have HFS:=zh (⟨HMD.o.below,HF.o,HMD.o.asc,HMD.o.o,HMD.o.todo,HMD.o.orows,HMD.o.trows,HMD.o.dis⟩:aPd w n gs wi os ts _ _)
    have dk:decide ((gs.length:Int)<(gs.length:Int))=false:=by simp
    clear hSlo;go_wp2
    go_roundg (46656-os.length+ts.length)
    case measure=>omega
    case rel=>exact⟨os,ts,_,_,rfl,rfl,HFS,by omega,by omega⟩
end Go.Proofs.Tg.Gp
