/- Parts of the proof. -/
import Derived.Deep.DeepCutAuto
import Derived.DeepKeys5
import Derived.Laws.CopyOwn
import Derived.StillTailTactics
import Derived.Test.YtabdoikbodjidaaGreatDoorMBO3
set_option maxHeartbeats 64000000
set_option maxRecDepth 100000
section
namespace Go.Sp
open Classical
structure Eqv (C:Nat->Nat->Prop):Prop where
  refl:∀a,C a a
  symm:∀a b,C a b->C b a
  trans:∀a b c,C a b->C b c->C a c
inductive aCh (C:Nat->Nat->Prop):Nat->List (List Int)->Prop
  |zero:aCh C 0 []
  |skip {k:Nat} {ls:List (List Int)}:aCh C k ls->(∃l∈ls,(k:Int)∈l)->aCh C (k+1) ls
  |add {k:Nat} {ls:List (List Int)} {l:List Int}:aCh C k ls->(∀m∈ls,(k:Int)∉m)->l.Pairwise (·<·)->(∀x:Int,x∈l↔∃v:Nat,x=v/\C k v)->aCh C (k+1) (ls++[l])
section
variable {C C' : Nat -> Nat -> Prop} {n : Nat} {ls ms : List (List Int)}
end
end Go.Sp
end
section
namespace Go.Sp
structure aCr (N:Nat) where
  C:Nat->Nat->Nat->Prop
  B:Nat->List (List Int)
  eqv:∀t,Eqv (C t)
  mono:∀t a b,C t a b->C (t+1) a b
  lt:∀t a b,a<N->C t a b->b<N
  made:∀t,aCh (C t) N (B t)
section
variable {N : Nat} (R : aCr N)
end
end Go.Sp
end
namespace Go.Sp
open Go.Ev
def kv (m:List Int):List Int:=(List.range 6).map λi=>m.getD i 0
theorem rY (m:List Int):(kv m).length=6:=by simp[kv]
theorem aNJ (m:List Int){i:Nat}(h:i<6):(kv m)[i]?=some (m.getD i 0):=by simp[kv,h]
theorem aOZ {a b:List Int}(hl:a.length=b.length)(h6:a.length<=6)(h:kv a=kv b):a=b:=by
 refine dJ hl λi h1 h2=>?_
 have e:(kv a)[i]?=(kv b)[i]?:=by rw[h]
 rw[aNJ a (by omega),aNJ b (by omega)]at e
 simpa[h1,h2]using e
theorem aLu {m:List Int}{c:Int}(hc:0<=c)(h:∀x∈m,0<=x/\x<=c):∀x∈kv m,0<=x/\x<=c:=by
 intro x hx
 obtain⟨i,_,rfl⟩:=aM.1 hx
 by_cases hi:i<m.length
 ·rw[aE,aF hi,Option.getD_some];exact h _ (aB _)
 rw[aE,eI (by omega)];exact⟨Int.le_refl _,hc⟩
end Go.Sp
section
namespace Go.Gr
end Go.Gr
namespace Go.Proofs.Tg.Gx
open Go.RowKit Go.Gr
theorem sW (a:Int)(w:World):Calls Tryz.prog 117 #[.int .i64 a] w λe w'=>e=.returned (.bool false)/\w=w':=by
 go_enter Tryz.func117,Tryz.ntmps117
 go_wp2
 go_ret
 exact⟨by simp,rfl⟩
theorem aCt (a b:Int)(w:World):Calls Tryz.prog 66 #[.int .i64 a,.int .i64 b] w λe w'=>e=.returned (.int .i64 (sN a b))/\w=w':=by
 by_cases h1:a<b
 ·have e:sN a b=-1:=by unfold sN;rw[aQ h1]
  rw[e];clear e;go_enter Tryz.func66,Tryz.ntmps66
  go_wp2_with (go_at_call 117;refine(sW _ _).mono ?_;rintro e w' ⟨rfl,rfl⟩)
  go_ret;exact⟨rfl,rfl⟩
 by_cases h2:b<a
 ·have e:sN a b=1:=by unfold sN;rw[aJ h1,aQ h2]
  rw[e];clear e;go_enter Tryz.func66,Tryz.ntmps66
  go_wp2_with (go_at_call 117;refine(sW _ _).mono ?_;rintro e w' ⟨rfl,rfl⟩)
  go_ret;exact⟨rfl,rfl⟩
 have e:sN a b=0:=by unfold sN;rw[aJ h1,aJ h2]
 rw[e];clear e;go_enter Tryz.func66,Tryz.ntmps66
 go_wp2_with (go_at_call 117;refine(sW _ _).mono ?_;rintro e w' ⟨rfl,rfl⟩)
 go_ret;exact⟨rfl,rfl⟩
end Go.Proofs.Tg.Gx
end
namespace Go.Proofs.Tg.Gx
open Go.RowKit Go.Gr
def aAE (n:Nat)(f:Nat->Value):Array Value:=((List.range n).map f).toArray
theorem aDs (n:Nat)(f:Nat->Value)(i:Nat)(v:Value):(aAE n f).setIfInBounds i v=aAE n (λk=>if k=i then v else f k):=by
 apply Array.ext
 ·simp[aAE]
 intro k h1 h2
 rw[Array.getElem_setIfInBounds (by simpa using h1)];simp only[aAE,List.getElem_toArray,dP,List.getElem_range]
 by_cases hk:i=k
 ·subst hk;simp
 rw[aJ hk,aJ (λe=>hk e.symm)]
theorem vJ {n:Nat}{f g:Nat->Value}(h:∀i,i<n->f i=g i):aAE n f=aAE n g:=by
 unfold aAE
 rw[dK (λi hi=>h i (by simpa using hi))]
end Go.Proofs.Tg.Gx
namespace Go.Gr
def aJL (sets:List Nat)(inT i:Nat)(b:Int×Int×Int)(k:Nat):Int×Int×Int:=
  if inT.testBit i=false/\inT.testBit k=true/\b.2.2<((size (sets.getD i 0&&& sets.getD k 0):Nat):Int)then((i:Int),(k:Int),((size (sets.getD i 0&&& sets.getD k 0):Nat):Int))else b
def aPu (sets:List Nat)(inT i:Nat)(b:Int×Int×Int)(k:Nat):Int×Int×Int:=(List.range k).foldl (aJL sets inT i) b
def aGc (sets:List Nat)(inT m:Nat):Nat->Int×Int×Int
  |0=>(-1,-1,-1)
  |i+1=>aPu sets inT i (aGc sets inT m i) m
def rU (sets:List Nat):Nat->Nat×List Int
  |0=>(aPN 0 0,List.replicate sets.length (-1))
  |r+1=>
   let b:=aGc sets (rU sets r).1 sets.length sets.length
   (aPN (rU sets r).1 b.1.toNat,if 0<b.2.2 then(rU sets r).2.set b.1.toNat b.2.1 else(rU sets r).2)
end Go.Gr
namespace Go.Proofs.Tg.Gx
open Go.RowKit Go.Gr
theorem tU (A B:Option Addr)(c d:Nat)(l m:List Int)(w:World)(hA:kP w A l)(hB:kP w B m)(hl:l.length<=1000000):
    Calls Tryz.prog 35 #[.slice A l.length c,.slice B m.length d] w λe w'=>e=.returned (.int .i64 (lI l m))/\w=w':=by
  go_enter Tryz.func35,Tryz.ntmps35;go_wp2
  go_loop [11] (λi=>∃k:Nat,i=.int .i64 k/\k<=l.length/\k<=m.length/\Hid (lI l m=lI (l.drop k) (m.drop k))) (λi=>l.length-(intOf i).toNat)
  case atStart=>exact⟨0,rfl,aW _,aW _,zh rfl⟩
  case round=>
   obtain⟨k,rfl,hk1,hk2,HC⟩:=hrel
   by_cases hkl:k<l.length
   ·obtain⟨ad,rfl,hc⟩:=kP.at hA hkl;have HL:Hid (l.drop k=l[k]::l.drop (k+1)):=zh (bG hkl);generalize l[k]=x at hc HL
    by_cases hkm:k<m.length
    ·obtain⟨bd,rfl,hd⟩:=kP.at hB hkm;have HM:Hid (m.drop k=m[k]::m.drop (k+1)):=zh (bG hkm);generalize m[k]=y at hd HM
     have dm:decide ((m.length:Int)<=(k:Int))=false:=by simp;omega
     have hce:lI l m=if sN x y=0 then lI (l.drop (k+1)) (m.drop (k+1))else sN x y:=by
      rw[HC.o,HL.o,HM.o,lI];unfold sN
      by_cases h1:x<y
      ·simp[h1]
      by_cases h2:y<x<;>simp[h1,h2]
     have HE:=zh hce;clear hce HC HL HM;have hcc:=aCt x y w;generalize sN x y=z at HE hcc;have HQ:=zh hcc;clear hcc
     by_cases hz:z=0
     ·have hzb:(z !=0)=false:=by simp[hz]
      have HZ:=zh hz;clear hz
      go_wp2_with (go_at_call 66;refine HQ.o.mono ?_;rintro e w' ⟨rfl,rfl⟩)
      go_round
      case rel=>exact⟨k+1,by go_num,by omega,by omega,zh (by rw[HE.o,aQ HZ.o])⟩
      case measure=>simp[intOf];omega
     have hzb:(z !=0)=true:=by simp[hz]
     have HZ:=zh hz;clear hz
     go_wp2_with (go_at_call 66;refine HQ.o.mono ?_;rintro e w' ⟨rfl,rfl⟩)
     go_ret;exact⟨by rw[HE.o,aJ HZ.o];rfl,rfl⟩
    have dm:decide ((m.length:Int)<=(k:Int))=true:=by simp;omega
    have HE:Hid (lI l m=1):=zh (by rw[HC.o,HL.o,show m.drop k=[]from cS (by omega)];rfl);clear HC HL;go_wp2;go_ret;exact⟨by rw[HE.o];rfl,rfl⟩
   obtain rfl:k=l.length:=by omega
   by_cases hlm:l.length<m.length
   ·have dm:decide ((l.length:Int)<(m.length:Int))=true:=by simp;omega
    have HE:Hid (lI l m=-1):=zh (by rw[HC.o,iN,bG hlm];rfl);clear HC;go_wp2;go_ret;exact⟨by rw[HE.o];rfl,rfl⟩
   have dm:decide ((l.length:Int)<(m.length:Int))=false:=by simp;omega
   have HE:Hid (lI l m=0):=zh (by rw[HC.o,iN,show m.drop l.length=[]from cS (by omega)];rfl);clear HC;go_wp2;go_ret;exact⟨by rw[HE.o];rfl,rfl⟩
end Go.Proofs.Tg.Gx
section
namespace Go.Gr
open Go
section
variable {sets : List Nat} {inT m : Nat}
end
def pk (sets:List Nat):Nat->Nat
  |0=>0
  |r+1=>(aGc sets (rU sets r).1 sets.length sets.length).1.toNat
def pq (sets:List Nat):Nat->Nat
  |0=>0
  |r+1=>(aGc sets (rU sets r).1 sets.length sets.length).2.1.toNat
def pw (sets:List Nat)(r:Nat):Nat:=size (sets.getD (pk sets r) 0&&& sets.getD (pq sets r) 0)
structure aCr (sets:List Nat)(r:Nat):Prop where
  bits:∀i,(rU sets r).1.testBit i=true↔∃s,s<=r/\pk sets s=i
  lt:∀s,s<=r->pk sets s<sets.length
  new:∀s,0<s->s<=r->∀s',s'<s->pk sets s'≠pk sets s
  par:∀s,0<s->s<=r->∃s',s'<s/\pq sets s=pk sets s'
  most:∀s,0<s->s<=r->∀i,i<sets.length->(∀s',s'<s->pk sets s'≠i)->∀s',s'<s->size (sets.getD i 0&&& sets.getD (pk sets s') 0)<=pw sets s
  len:(rU sets r).2.length=sets.length
  tree:∀s,s<=r->(rU sets r).2.getD (pk sets s) 0=if 0<s/\0<pw sets s then((pq sets s:Nat):Int)else -1
  rest:∀i,i<sets.length->(∀s,s<=r->pk sets s≠i)->(rU sets r).2.getD i 0=-1
end Go.Gr
end
section
namespace Go.Sp
open Go.Ev Go.Mo Go.Gr
section
variable {N : Nat} (R : aCr N)
end
def pY (n:Nat)(c:Int)(v:List Int):Prop:=v.length=n/\∀x∈v,0<=x/\x<=c
theorem aGE {m:List Int}(h:oU m=true):pY m.length 24 m:=by
 have h:=sJ.1 h
 refine⟨rfl,λx hx=>⟨h.2.1 x hx,?_⟩⟩
 have:∀(l:List Int),(∀e∈l,0<=e)->x∈l->x<=l.sum/\0<=l.sum:=by
  intro l
  induction l with
  |nil=>intro _ h;cases h
  |cons y l ih=>
   intro h0 hx
   have h1:0<=l.sum:=by
    have:∀l:List Int,(∀e∈l,0<=e)->0<=l.sum:=by
     intro l
     induction l with
     |nil=>intro _;simp
     |cons z l ih=>intro h;rw[List.sum_cons];have:=h z (by simp);have:=ih (λe he=>h e (by simp[he]));omega
    exact this l (λe he=>h0 e (by simp[he]))
   have hy:=h0 y (by simp);rw[List.sum_cons]
   rcases bA.1 hx with rfl|hx
   ·omega
   have:=ih (λe he=>h0 e (by simp[he])) hx;omega
 have:=(this m h.2.1 hx).1
 omega
end Go.Sp
end
namespace Go.Pm
open Go.Sp
def mvF (L:Nat)(a m:List Int)(k:Nat):List Int:=(List.range k).foldl (λr v=>r.set (a.getD v 0).toNat (m.getD v 0)) (List.replicate L 0)
theorem aAt (L:Nat)(a m:List Int):mvF L a m 0=List.replicate L 0:=rfl
theorem sC (L:Nat)(a m:List Int)(k:Nat):mvF L a m (k+1)=(mvF L a m k).set (a.getD k 0).toNat (m.getD k 0):=by simp[mvF,bT]
theorem nO (L:Nat)(a m:List Int):∀k,(mvF L a m k).length=L
  |0=>by simp[mvF]
  |k+1=>by rw[sC,gD,nO L a m k]
theorem zP (m:List Int){i:Nat}(h:i<6):(kv m).getD i 0=m.getD i 0:=by simp[kv,h]
theorem aNY {l:List Int}{i:Nat}(hi:i<l.length)(_hl:l.length<=6)(x:Int):kv (l.set i x)=(kv l).set i x:=by
 refine pC (by rw[gD,rY,rY]) λj hj=>?_
 rw[rY]at hj
 rw[zP _ hj]
 simp only[aE,List.getElem?_set]
 by_cases h:i=j
 ·subst h
  rw[aQ rfl,aQ rfl,aQ hi,aQ (by rw[rY];exact hj)]
 rw[aJ h,aJ h]
 have:=zP l hj;simpa only[aE]using this.symm
theorem aMd {n:Nat}(_hn:n<=6):kv (List.replicate n 0)=List.replicate 6 0:=by
 refine pC (by rw[rY,bU]) λj hj=>?_
 rw[rY]at hj
 have e:∀m j:Nat,(List.replicate m (0:Int)).getD j 0=0:=λm j=>by
  rw[aE,iD]
  split<;>rfl
 rw[zP _ hj,e,e]
theorem aJa {n:Nat}(hn:n<=6){a m:List Int}(ha:Perm n a):∀k,k<=n->kv (mvF n a m k)=mvF 6 a m k
  |0,_=>by rw[aAt,aAt,aMd hn]
  |k+1,hk=>by
   have h1:=kM ha (show k<n by omega);rw[sC,sC,aNY (by rw[nO];omega) (by rw[nO];exact hn),aJa hn ha k (by omega)]
def mv (n:Nat)(a m:List Int):List Int:=mvF n a m n
theorem aFP {n:Nat}{c:Int}(hc:0<=c){a m:List Int}(hm:pY n c m):∀k,pY n c (mvF n a m k)
  |0=>⟨nO _ _ _ _,λx hx=>by rw[aAt]at hx;rw[fO hx];omega⟩
  |k+1=>by
   have ih:=aFP (a:=a) hc hm k;refine⟨nO _ _ _ _,λx hx=>?_⟩;rw[sC]at hx
   rcases gV hx with h|h
   ·exact ih.2 x h
   rw[h]
   by_cases hk:k<m.length
   ·rw[show m.getD k 0=m[k] by simp[hk]];exact hm.2 _ (aB _)
   rw[show m.getD k 0=0 by simp[hk]];omega
def img (n:Nat)(a:List Int)(basis:List (List Int)):List Int:=basis.map λm=>((basis.idxOf (mv n a m):Nat):Int)
def lZ (n:Nat)(a:List Int)(basis:List (List Int)):Prop:=∀m∈basis,mv n a m∈basis
instance (n:Nat)(a:List Int)(basis:List (List Int)):Decidable (lZ n a basis):=inferInstanceAs (Decidable (∀_∈_,_))
end Go.Pm
namespace Go.Pm
open Go.Gr
def sgn (s c:Nat):Int:=if size (s&&& c)%2=0 then 1 else -1
theorem aNM (s c:Nat):sgn s c=1∨sgn s c=-1:=by
 unfold sgn
 split
 ·exact .inl rfl
 exact .inr rfl
def plc (im:List (List Int))(i s:Nat):Nat:=((im.getD s []).getD i 0).toNat
def wvT (c:Nat)(im:List (List Int))(L i k:Nat):List Int:=(List.range k).foldl (λw s=>w.set (plc im i s) (w.getD (plc im i s) 0+sgn s c)) (List.replicate L 0)
theorem aAi (c:Nat)(im:List (List Int))(L i:Nat):wvT c im L i 0=List.replicate L 0:=rfl
theorem aAj (c:Nat)(im:List (List Int))(L i k:Nat):wvT c im L i (k+1)=(wvT c im L i k).set (plc im i k) ((wvT c im L i k).getD (plc im i k) 0+sgn k c):=by simp[wvT,bT]
theorem rH (c:Nat)(im:List (List Int))(L i:Nat):∀k,(wvT c im L i k).length=L
  |0=>by simp[wvT]
  |k+1=>by rw[aAj,gD,rH c im L i k]
theorem xO (c:Nat)(im:List (List Int))(L i:Nat):∀k,∀x∈wvT c im L i k,-(k:Int)<=x/\x<=k
  |0=>λx hx=>by
   rw[aAi]at hx;rw[fO hx];omega
  |k+1=>λx hx=>by
   have ih:=xO c im L i k;rw[aAj]at hx
   rcases gV hx with h|h
   ·have:=ih x h;omega
   rw[h];have hs:=aNM k c
   by_cases hp:plc im i k<(wvT c im L i k).length
   ·have:=ih ((wvT c im L i k).getD (plc im i k) 0) (by
     rw[show(wvT c im L i k).getD (plc im i k) 0=(wvT c im L i k)[plc im i k] by simp[hp]]
     exact aB _)
    rcases hs with hs|hs<;>rw[hs]<;>omega
   rw[show(wvT c im L i k).getD (plc im i k) 0=0 by simp[hp]]
   rcases hs with hs|hs<;>rw[hs]<;>omega
def wv (c:Nat)(im:List (List Int))(L i:Nat):List Int:=wvT c im L i im.length
def aEp (im:List (List Int))(i:Nat):Prop:=∀p∈im,(i:Int)<=p.getD i 0
instance (im:List (List Int))(i:Nat):Decidable (aEp im i):=inferInstanceAs (Decidable (∀_∈_,_))
def tK (c:Nat)(im:List (List Int))(L i:Nat):Option (List Int):=if aEp im i/\(wv c im L i).getD i 0≠0 then some ((wv c im L i).map λx=>x.tdiv ((wv c im L i).getD i 0))else none
def qE (c:Nat)(im:List (List Int))(L k:Nat):List (List Int):=(List.range k).filterMap (tK c im L)
theorem aGJ (c:Nat)(im:List (List Int))(L k:Nat):qE c im L (k+1)=qE c im L k++(tK c im L k).toList:=by
 unfold qE
 rw[bT,List.filterMap_append]
 congr 1
def Sg (x:Int):Prop:=x=0∨x=1∨x=-1
def aLL (c:Nat)(im:List (List Int))(L:Nat):Prop:=∀i,i<L->∀r,tK c im L i=some r->∀x∈r,Sg x
theorem aGK {c:Nat}{im:List (List Int)}{L i:Nat}{r:List Int}(h:tK c im L i=some r):r.length=L:=by
 unfold tK at h
 split at h
 ·injection h with h
  rw[<-h,aI];exact rH _ _ _ _ _
 cases h
end Go.Pm
namespace Go.Proofs.Tg
open Go.RowKit
theorem aLz:(Tryz.prog.info? 3).map (·.size)=some 1:=by kernel_rfl
structure But (g:Nat)(W W':World):Prop where
  below:∀(B:Nat) (w0:World),Below B w0 W->B<=g->Below B w0 W'
  blk:∀(g':Nat) (t:TypeId) (cs:Array Value),g'≠g->Blk W g' t cs->Blk W' g' t cs
theorem xF {ops:Array Oper}{rest:List Oper}{o:Oper}{a:Act}{Q:Exit->Act->World->Prop}{W:World}(hgd:o.guard=none)(d s:Operand)
    (ho:o.op=.call {callee:=.builtin .copy,args:=#[d,s],argTypes:=#[22,22]}) (g:Nat) (t:TypeId) (A:Option Addr) (c:Nat) (el:List Int) (z:List Value)
    (hd:a.eval d=.slice (some ⟨g,0,none⟩) 6 6) (hs:a.eval s=.slice A el.length c) (hA:kP W A el) (hl:el.length<=6)
    (hB:Blk W g t ([Value.int .i64 0,Value.int .i64 0,Value.int .i64 0,Value.int .i64 0,Value.int .i64 0,Value.int .i64 0]++z).toArray)
    (h:∀W',Blk W' g t ([Value.int .i64 (el.getD 0 0),Value.int .i64 (el.getD 1 0),Value.int .i64 (el.getD 2 0),Value.int .i64 (el.getD 3 0),Value.int .i64 (el.getD 4 0),Value.int .i64 (el.getD 5 0)]++z).toArray->But g W W'->wpList Tryz.prog ops Q rest (a.put o.dst (goInt el.length)) W'):
    wpList Tryz.prog ops Q (o::rest) a W:=by
  by_cases h0:el=[]
  ·subst h0
   refine eW hgd λK hK=>?_
   have hrun:=run_copy_none (P:=Tryz.prog) W 22 22 o.type 3 (some ⟨g,0,none⟩) A 6 6 0 c Tryz.underlying22 aLz rfl;have hs':a.eval s=.slice A 0 c:=hs;unfold Oper.wp;simp[execOp,ho,resolve,invoke,builtin,hd,hs',hrun,Result.andThen];exact hK _ _ (h W hB ⟨λ_ _ h _=>h,λ_ _ _ _ h=>h⟩)
  have hp:0<el.length:=fF.2 h0;obtain⟨ad,rfl,_,hc⟩:=hA.lies hp;refine wpList_copy_own hgd d s 22 22 ho 3 Tryz.underlying22 aLz g 0 6 6 ad el.length c hd hs _ t hB (el.map vi) (by rw[aI];exact(dA hl).symm) hc (by simp;omega) (by simp[vi,Value.oneCell']) ?_
  have key:(([Value.int .i64 0,Value.int .i64 0,Value.int .i64 0,Value.int .i64 0,Value.int .i64 0,Value.int .i64 0]++z).toArray.toList.take 0++(el.map vi++([Value.int .i64 0,Value.int .i64 0,Value.int .i64 0,Value.int .i64 0,Value.int .i64 0,Value.int .i64 0]++z).toArray.toList.drop (0+(el.map vi).length))).toArray
      =([Value.int .i64 (el.getD 0 0),Value.int .i64 (el.getD 1 0),Value.int .i64 (el.getD 2 0),Value.int .i64 (el.getD 3 0),Value.int .i64 (el.getD 4 0),Value.int .i64 (el.getD 5 0)]++z).toArray:=by
    match el,hl with
    |[],_=>exact absurd rfl h0
    |[_],_=>simp[vi]
    |[_,_],_=>simp[vi]
    |[_,_,_],_=>simp[vi]
    |[_,_,_,_],_=>simp[vi]
    |[_,_,_,_,_],_=>simp[vi]
    |[_,_,_,_,_,_],_=>simp[vi]
    |_::_::_::_::_::_::_::l,hl=>simp at hl
  rw[key]
  have hlen:(goInt ((el.map vi).length))=goInt el.length:=by simp
  rw[hlen];refine h _ ?_ ⟨λB w0 hb hg=>below_setRow hb hg _,λg' t' cs hne hb=>?_⟩
  ·exact setRow_heap W g _ _ t _ hB
  exact(setRow_other W g g' _ hne).trans hb
end Go.Proofs.Tg
namespace Go.Proofs.Tg
open Go.RowKit Go.Maps Go.WideShapes
theorem nF {H:Type}{P:Program}{e:TypeId}(he:P.underlying e=some .bool){v:Value}{z:DataW H×List MemPlace}(h:plainElem P e v=some z):∃a,v=.bool a/\z=(.lit (.bool a),[]):=by
 unfold plainElem at h
 rw[he]at h
 cases v<;>simp at h
 exact⟨_,rfl,h.symm⟩
def kl6 (l:List Int):Lit:=.string (keyBytes (l.map λx=>Lit.int .i64 x))
theorem nK {x:Int}(h:-1000000<=x/\x<=1000000):(Lit.int .i64 x).wf=true:=by
 have e1:IntKind.i64.min=-9223372036854775808:=rfl
 have e2:IntKind.i64.max=9223372036854775807:=rfl
 simp only[Lit.wf,Bool.and_eq_true,decide_eq_true_eq]
 omega
theorem aCf {P:Program}{T I:TypeId}(hT:P.underlying T=some (.array 6 I))(hI:P.underlying I=some (.int .i64))(hk:P.keyType T=true)(c1:P.cellsOf I=1)(c6:P.cellsOf T=6){s:Nat}(hs:P.types.size=s+1)
    (l:List Int) (hl:l.length=6) (hw:∀x∈l,-1000000<=x/\x<=1000000):keyOf P T (.agg (l.map λx=>Value.int .i64 x).toArray)=some (kl6 l):=by
  match l,hl with
  |[a,b,c,d,e,f],_=>
   have ha:=nK (hw a (by simp));have hb:=nK (hw b (by simp));have hc:=nK (hw c (by simp));have hd:=nK (hw d (by simp));have he:=nK (hw e (by simp));have hf:=nK (hw f (by simp));have hr:List.range 6=[0,1,2,3,4,5]:=rfl;unfold keyOf;simp[hT,hk,Value.formed,c6,Value.cells,hs,Program.keyLits,hI,c1,hr,ha,hb,hc,hd,he,hf,kl6]
end Go.Proofs.Tg
namespace Go.Proofs.Tg
open Go.RowKit Go.Maps Go.WideShapes Go.Sp
theorem aAc (l:List Int):WideAt.IsKeyLit (kl6 l):=trivial
theorem aBn:∀(l m:List Int),l.length=m.length->Go.Alike (l.map λx=>Lit.int .i64 x) (m.map λx=>Lit.int .i64 x)
  |[],[],_=>trivial
  |[],_::_,h=>by simp at h
  |_::_,[],h=>by simp at h
  |x::l,y::m,h=>⟨rfl,aBn l m (by simpa using h)⟩
theorem aGD {l m:List Int}(h:l.length=m.length)(hl:∀x∈l,-1000000<=x/\x<=1000000)(hm:∀x∈m,-1000000<=x/\x<=1000000)(e:kl6 l=kl6 m):l=m:=by
 unfold kl6 at e
 injection e with e
 have:=Go.keyBytes_inj (aBn l m h) (λa ha=>by obtain⟨x,hx,rfl⟩:=aM.1 ha;exact nK (hl x hx)) (λa ha=>by obtain⟨x,hx,rfl⟩:=aM.1 ha;exact nK (hm x hx)) e
 have inj:∀(l m:List Int),(l.map λx=>Lit.int .i64 x)=(m.map λx=>Lit.int .i64 x)->l=m:=by
  intro l
  induction l with
  |nil=>intro m h;cases m with
   |nil=>rfl
   |cons _ _=>simp at h
  |cons x l ih=>intro m h;cases m with
   |nil=>simp at h
   |cons y m=>
    simp only[fH,List.cons.injEq]at h;obtain⟨h1,h2⟩:=h
    injection h1 with _ h1
    rw[h1,ih m h2]
 exact inj l m this
theorem aCL {n:Nat}{v:List Int}(h:pY n 48 v):∀x∈kv v,-1000000<=x/\x<=1000000:=λx hx=>by
 have:=aLu (by omega) h.2 x hx
 omega
theorem aCM {n:Nat}(hn:n<=6){u v:List Int}(hu:pY n 48 u)(hv:pY n 48 v)(e:kl6 (kv u)=kl6 (kv v)):u=v:=
  aOZ (by rw[hu.1,hv.1]) (by rw[hu.1];exact hn) (aGD (by rw[rY,rY]) (aCL hu) (aCL hv) e)
end Go.Proofs.Tg
namespace Go.Proofs.Tg
open Go.RowKit Go.Maps
def qU (w:World)(b:Nat):Prop:=∃es clock,w.heap[b]?=some (.map es clock)
theorem uG {w:World}{P:Program}{k:TypeId}{R:Value->Option (DataW Unit×List MemPlace)}{b n:Nat}{D:DataW Unit}(h:w.ownsMap P k R b n D):qU w b:=by
 obtain⟨es,clock,hb,_⟩:=h
 exact⟨es,clock,hb⟩
theorem qU.lt {w:World}{b:Nat}(h:qU w b):b<w.heap.size:=by
 obtain⟨es,clock,hb⟩:=h
 exact(cR.1 hb).1
theorem aLt {w:World}{b:Nat}(h:qU w b){p:Addr}(hp:p.block=b):w.cell? p=none:=by
 obtain⟨es,clock,hb⟩:=h
 unfold World.cell?
 rw[hp,hb]
theorem aCg {w w':World}{b:Nat}(hm:qU w b)(hg:w.grownBy w' (some b)){p:Addr}{v:Value}(h:w.cell? p=some v):w'.cell? p=some v:=by
 have hne:p.block≠b:=λe=>by rw[aLt hm e]at h;cases h
 have hl:=bQ w p h
 have:=hg.block p.block hl (by simp;exact hne)
 unfold World.cell? at h ⊢
 rw[this]
 exact h
theorem Sl.turn {w w':World}{b:Nat}{A:Option Addr}{n sz:Nat}{xs:List Value}(h:Sl w A n sz xs)(hm:qU w b)(hg:w.grownBy w' (some b)):Sl w' A n sz xs:=
  ⟨h.len,λhn=>by
   obtain⟨ad,e,hl,ha⟩:=h.lies hn
   exact⟨ad,e,aH hl hg.size,λj u hu=>aCg hm hg (ha j u hu)⟩⟩
theorem Blk.turn {w w':World}{b g:Nat}{t:TypeId}{cs:Array Value}(h:Blk w g t cs)(hm:qU w b)(hg:w.grownBy w' (some b)):Blk w' g t cs:=by
 refine(hg.block g h.lt ?_).trans h
 intro e
 obtain⟨es,clock,hb⟩:=hm
 have:g=b:=by simpa using e
 subst this
 unfold Blk at h
 rw[hb]at h
 cases h
end Go.Proofs.Tg
namespace Go.Proofs.Tg
open Go.RowKit Go.Maps Go.WideShapes
structure yN {α:Type}[DecidableEq α](kl:α->Lit)(dom:α->Prop)(S:List α)(D:DataW Unit):Prop where
  tidy:Maps.Tidy D
  at':∀v,dom v->D.atKey (kl v) (.lit (.bool false))=.lit (.bool (decide (v∈S)))
  has:∀v,dom v->Maps.has D (kl v)=decide (v∈S)
  size:Maps.size D=S.length
theorem yN.nil {α:Type}[DecidableEq α](kl:α->Lit)(dom:α->Prop):yN kl dom [] (.map []):=⟨Maps.tidy_empty,λv _=>by simp[DataW.atKey],λv _=>by simp[Maps.has],rfl⟩
theorem yN.put {α:Type}[DecidableEq α]{kl:α->Lit}{dom:α->Prop}{S:List α}{D:DataW Unit}(h:yN kl dom S D)(hk:∀v,dom v->WideAt.IsKeyLit (kl v))(hi:∀u v,dom u->dom v->kl u=kl v->u=v){x:α}(hx:dom x)(hn:x∉S):
    yN kl dom (x::S) (D.put (kl x) (.lit (.bool true))):=by
  refine⟨h.tidy.put (hk x hx) _,λv hv=>?_,λv hv=>?_,?_⟩
  ·by_cases he:v=x
   ·subst he;rw[Maps.atKey_put_same h.tidy.isMap (hk v hv)];simp
   rw[Maps.atKey_put_other (λe=>he (hi v x hv hx e)),h.at' v hv];simp[he]
  ·by_cases he:v=x
   ·subst he;rw[Maps.has_put_same h.tidy.isMap (hk v hv)];simp
   rw[Maps.has_put_other (λe=>he (hi v x hv hx e)),h.has v hv];simp[he]
  rw[Maps.size_put h.tidy,h.has x hx,h.size];simp[hn]
end Go.Proofs.Tg
namespace Go.Proofs.Tg.Gp
open Go.RowKit Go.Gr Go.Sp Go.Ev Go.Maps Go.WideShapes Go.Pm
theorem six {w:World}{g:Nat}{t:TypeId}{a0 a1 a2 a3 a4 a5:Value}(h:Blk w g t #[a0,a1,a2,a3,a4,a5]):
    (w.cell? ⟨g,0,none⟩=some a0/\w.cell? ⟨g,1,none⟩=some a1/\w.cell? ⟨g,2,none⟩=some a2/\w.cell? ⟨g,3,none⟩=some a3/\w.cell? ⟨g,4,none⟩=some a4/\w.cell? ⟨g,5,none⟩=some a5)/\
    (w.frozen? ⟨g,0,none⟩=false/\w.frozen? ⟨g,1,none⟩=false/\w.frozen? ⟨g,2,none⟩=false/\w.frozen? ⟨g,3,none⟩=false/\w.frozen? ⟨g,4,none⟩=false/\w.frozen? ⟨g,5,none⟩=false):=
  ⟨⟨h.cell 0,h.cell 1,h.cell 2,h.cell 3,h.cell 4,h.cell 5⟩,h.frozen 0,h.frozen 1,h.frozen 2,h.frozen 3,h.frozen 4,h.frozen 5⟩
theorem aFz {w w':World}{B g:Nat}(h:Below B w w')(hg:B<=g)(a0 a1 a2 a3 a4 a5:Value):
    Below B w ((((((w'.setCell ⟨g,0,none⟩ a0).setCell ⟨g,1,none⟩ a1).setCell ⟨g,2,none⟩ a2).setCell ⟨g,3,none⟩ a3).setCell ⟨g,4,none⟩ a4).setCell ⟨g,5,none⟩ a5):=
  hJ (hJ (hJ (hJ (hJ (hJ h hg _ _) hg _ _) hg _ _) hg _ _) hg _ _) hg _ _
def rZ (el:List Int):Value:=.agg ((kv el).map vi).toArray
def z6:Array Value:=#[.int .i64 0,.int .i64 0,.int .i64 0,.int .i64 0,.int .i64 0,.int .i64 0]
theorem aAd (el:List Int):rZ el=.agg #[.int .i64 (el.getD 0 0),.int .i64 (el.getD 1 0),.int .i64 (el.getD 2 0),.int .i64 (el.getD 3 0),.int .i64 (el.getD 4 0),.int .i64 (el.getD 5 0)]:=rfl
theorem pB (A:Option Addr)(c:Nat)(el:List Int)(w:World)(hA:kP w A el)(hl:el.length<=6):
    Calls Tryz.prog 71 #[.slice A el.length c] w λe w'=>e=.returned (rZ el)/\Below w.heap.size w w':=by
  have HK:=zh (aAd el);generalize rZ el=kk at*;obtain⟨W,hW⟩:=eqx ((w.alloc (.cells z6 132)).alloc (.cells z6 132))
  have B2:Blk W w.heap.size 132 z6:=by rw[<-hW];exact(Blk.new _ _ _).alloc _
  have B3:Blk W (w.heap.size+1) 132 z6:=by rw[<-hW];have:=Blk.new (w.alloc (.cells z6 132)) 132 z6;simpa using this
  have hbW:Below w.heap.size w W:=by rw[<-hW];exact(bal).alloc (by simp) _
  have hAW:=Sl.keep hA hbW;have HWW:=zh hW;clear hW hA;go_enter Tryz.func71,Tryz.ntmps71;go_upto_region 2 with(fail);have hh:=HWW.o;unfold z6 at hh;rw[hh];clear hh
  go_wp2_with (first
    |(refine xF rfl _ _ rfl (w.heap.size+1) 132 A c el [] rfl rfl hAW hl B3 ?_
      intro W' E3 hbut;have E2:=hbut.blk _ _ _ (by omega) B2;have hb':=hbut.below _ _ hbW (by omega);obtain⟨⟨a0,a1,a2,a3,a4,a5⟩,f0,f1,f2,f3,f4,f5⟩:=six E2;obtain⟨⟨j0,j1,j2,j3,j4,j5⟩,k0,k1,k2,k3,k4,k5⟩:=six E3;have hz:=E2.lt;clear B2 B3 E2 E3 hbut hAW;generalize el.getD 0 0=v0 at*;generalize el.getD 1 0=v1 at*;generalize el.getD 2 0=v2 at*;generalize el.getD 3 0=v3 at*;generalize el.getD 4 0=v4 at*
      generalize el.getD 5 0=v5 at*))
  refine aO (v:=.agg #[.int .i64 v0,.int .i64 v1,.int .i64 v2,.int .i64 v3,.int .i64 v4,.int .i64 v5]) (by simp[results,Tryz.results71,go_sem,a0,a1,a2,a3,a4,a5]) rfl ⟨by rw[HK.o],?_⟩;exact aFz hb' (by omega) _ _ _ _ _ _
theorem uP:laidOutB Tryz.prog=true:=by kernel_rfl
theorem vU:Keyed Tryz.prog 132:=
  Keyed.of_law (deep_law_laid uP (m:=6) (by decide) (dQ (by kernel_rfl)) (by kernel_rfl) (by kernel_rfl))
theorem qX {n:Nat}{el:List Int}(h:pY n 48 el):keyOf Tryz.prog 132 (rZ el)=some (kl6 (kv el)):=
  aCf (I:=3) (s:=Tryz.prog.types.size-1) Tryz.underlying132 Tryz.underlying3 (by kernel_rfl) (by kernel_rfl) (by kernel_rfl) (by kernel_rfl) (kv el) (rY el) (aCL h)
theorem aEi (w:World):(zeroValue 4).run Tryz.prog w=.ok (.bool false) w:=by kernel_rfl
def mB (w:World)(mb cnt n:Nat)(S:List (List Int)):Prop:=
  ∃D:DataW Unit,w.ownsMap Tryz.prog 132 (plainElem Tryz.prog 4) mb cnt D/\yN (λv=>kl6 (kv v)) (pY n 48) S D
theorem mB.mapB {w:World}{mb cnt n:Nat}{S:List (List Int)}(h:mB w mb cnt n S):qU w mb:=by
 obtain⟨D,h,_⟩:=h
 exact uG h
theorem mB.made (w:World)(n:Nat):mB (w.alloc (.map #[] 0)) w.heap.size 0 n []:=⟨_,World.ownsMap_made _ _ _ _,yN.nil _ _⟩
theorem mB.below {w w':World}{B mb cnt n:Nat}{S:List (List Int)}(h:mB w mb cnt n S)(hb:Below B w w')(hB:mb<B):mB w' mb cnt n S:=by
 obtain⟨D,⟨es,clock,hh,r⟩,h2⟩:=h
 exact⟨D,⟨es,clock,(hb.block mb hB).trans hh,r⟩,h2⟩
theorem mB.lt {w:World}{mb cnt n:Nat}{S:List (List Int)}(h:mB w mb cnt n S):mb<w.heap.size:=by
 obtain⟨es,clock,hh⟩:=h.mapB
 exact(cR.1 hh).1
theorem mB.grown {w w':World}{mb cnt n:Nat}{S:List (List Int)}{r:Option Nat}(h:mB w mb cnt n S)(hg:w.grownBy w' r)(hr:some mb≠r):mB w' mb cnt n S:=by
 have hlt:=h.lt
 obtain⟨D,⟨es,clock,hh,r⟩,h2⟩:=h
 exact⟨D,⟨es,clock,(hg.block mb hlt hr).trans hh,r⟩,h2⟩
theorem mB.look {w:World}{mb cnt n:Nat}{S:List (List Int)}(h:mB w mb cnt n S){v:List Int}(hv:pY n 48 v){c:Bool}(hc:decide (v∈S)=c):
    (Instr.lookup 129 (.map (some mb)) (rZ v) false).run Tryz.prog w=.ok (.bool c) w:=by
  obtain⟨D,h1,h2⟩:=h;obtain⟨v',ps,hrun,hv2⟩:=h1.lookup vU Tryz.underlying129 (aEi w) (plainElem_bool Tryz.underlying4 false) (qX hv);obtain⟨c',rfl,e⟩:=nF Tryz.underlying4 hv2;rw[h2.at' v hv,(dH.2 Iff.rfl).trans hc]at e
  injection e with e _
  injection e with e
  injection e with e
  subst e;exact hrun
theorem mB.put {w:World}{mb cnt n:Nat}{S:List (List Int)}(h:mB w mb cnt n S)(hn:n<=6)(hcnt:cnt<=1000000000){v:List Int}(hv:pY n 48 v)(hnew:v∉S):
    ∃w',(Instr.mapUpdate 129 (.map (some mb)) (rZ v) (.bool true)).run Tryz.prog w=.ok () w'/\mB w' mb (cnt+1) n (v::S)/\w.grownBy w' (some mb):=by
  obtain⟨D,h1,h2⟩:=h;obtain⟨w',hrun,h3,h4⟩:=h1.update vU Tryz.underlying129 (by simp only[maxLen];omega) (qX hv) (plainElem_bool Tryz.underlying4 true);exact⟨w',hrun,⟨_,h3,h2.put (λ_ _=>aAc _) (λ_ _ hu hv=>aCM hn hu hv) hv hnew⟩,h4⟩
theorem mB.len {w:World}{mb cnt n:Nat}{S:List (List Int)}(h:mB w mb cnt n S)(ty:TypeId):(Builtin.len_ #[129] ty #[.map (some mb)]).run Tryz.prog w=.ok (.int .i64 S.length) w:=by
 obtain⟨D,h1,h2⟩:=h
 rw[h1.len Tryz.underlying129 ty,h2.size]
theorem zB {w w1 w2:World}{B mb:Nat}(h:Below B w w1)(hm:qU w1 mb)(hg:w1.grownBy w2 (some mb))(hB:B<=mb):Below B w w2:=
  h.grown hg (by have:=hm.lt;omega) (λq hq=>by injection hq with hq;omega)
theorem qY {n:Nat}(hn:n<=6){a:List Int}(h:Perm n a):pY n 48 a:=⟨h.1,λx hx=>by have:=h.2.1 x hx;omega⟩
end Go.Proofs.Tg.Gp
