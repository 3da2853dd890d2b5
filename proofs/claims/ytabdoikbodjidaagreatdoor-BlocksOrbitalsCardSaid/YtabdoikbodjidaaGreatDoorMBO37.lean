/- Parts of the proof. -/
import Derived.Test.YtabdoikbodjidaaGreatDoorMBO36
set_option maxHeartbeats 64000000
set_option maxRecDepth 100000
section
namespace Go.Pm
open Go.Av
structure aLc (im:List (List Int))(L:Nat)(st:List (Nat×Nat)×List (List (Nat×Nat))):Prop where
  mem:∀q,q∈st.1↔q∈st.2.flatten
  nd:st.2.flatten.Nodup
  orb:∀o∈st.2,∃i k,i<=k/\k<L/\o=rQ im L (i,k)
theorem aHO {l:List (Nat×Nat)}(h:l.Pairwise ltP):l.Nodup:=h.imp λ{a b} hab e=>by rw[e]at hab;exact uW _ hab
theorem aLc.step {im:List (List Int)}{L:Nat}{st:List (Nat×Nat)×List (List (Nat×Nat))}(h:aLc im L st)(hp:∀a∈im,Perm L a)(hG:tG im L)(hS:rX im L st.1){i k:Nat}(hik:i<=k)(hk:k<L):aLc im L (kZ im L st (i,k)):=by
 unfold kZ
 split
 ·exact h
 rename_i hn
 have hf:=aNI hG hS hik hk hn;refine⟨λq=>?_,?_,λo ho=>?_⟩
 ·rw[aK,jF,aK,h.mem];simp[pA hp (show i<L by omega) hk]
 ·rw[jF,eL];refine⟨h.nd,by simpa using aHO (aCa im L (i,k)),λa ha b hb e=>?_⟩;subst e;have hb2:a∈lX im (i,k):=(pA hp (by omega) hk a).1 (by simpa using hb);exact hf a hb2 ((h.mem a).2 ha)
 rcases aK.1 ho with ho|ho
 ·exact h.orb o ho
 exact⟨i,k,hik,hk,by simpa using ho⟩
theorem aDV {im:List (List Int)}{L:Nat}{st:List (Nat×Nat)×List (List (Nat×Nat))}{p q:Nat×Nat}(h:q∈st.1):q∈(kZ im L st p).1:=by
 unfold kZ
 split
 ·exact h
 exact bZ _ h
theorem aHP {im:List (List Int)}{L:Nat}{st:List (Nat×Nat)×List (List (Nat×Nat))}{p:Nat×Nat}(h:p∈lX im p):p∈(kZ im L st p).1:=by
 unfold kZ
 split
 ·assumption
 exact eF _ h
theorem aBf {im:List (List Int)}{L:Nat}(hp:∀a∈im,Perm L a)(hG:tG im L)(hs:∀i k,i<=k->k<L->(i,k)∈lX im (i,k)):∀i,i<=L->aLc im L (kT im L i)/\∀x y,x<i->x<=y->y<L->(x,y)∈(kT im L i).1
  |0,_=>⟨⟨λq=>by simp[kT],by simp[kT],λo ho=>by simp[kT]at ho⟩,λx y hx=>by omega⟩
  |i+1,hi=>by
   obtain⟨h1,h2⟩:=aBf hp hG hs i (by omega);have hS:=uC im L i (by omega)
   have key:∀n,n<=L-i->aLc im L ((List.range n).foldl (λst j=>kZ im L st (i,i+j)) (kT im L i))/\rX im L ((List.range n).foldl (λst j=>kZ im L st (i,i+j)) (kT im L i)).1/\
       (∀x y,x<i->x<=y->y<L->(x,y)∈((List.range n).foldl (λst j=>kZ im L st (i,i+j)) (kT im L i)).1)/\∀j,j<n->(i,i+j)∈((List.range n).foldl (λst j=>kZ im L st (i,i+j)) (kT im L i)).1:=by
     intro n
     induction n with
     |zero=>exact λ_=>⟨h1,hS,h2,λj hj=>by omega⟩
     |succ n ih=>
      intro hn;obtain⟨a1,a2,a3,a4⟩:=ih (by omega);rw[bT,eR];refine⟨a1.step hp hG a2 (by omega) (by omega),a2.step (by omega) (by omega),λx y hx hxy hy=>aDV (a3 x y hx hxy hy),λj hj=>?_⟩
      by_cases e:j=n
      ·subst e;exact aHP (hs _ _ (by omega) (by omega))
      exact aDV (a4 j (by omega))
   obtain⟨a1,_,a3,a4⟩:=key (L-i) (aA _);refine⟨a1,λx y hx hxy hy=>?_⟩
   by_cases e:x=i
   ·subst e;have:=a4 (y-x) (by omega);rw[show x+(y-x)=y by omega]at this;exact this
   exact a3 x y (by omega) hxy hy
def aAa (L:Nat):List (Nat×Nat):=(List.range L).flatMap λi=>(List.range (L-i)).map λj=>(i,i+j)
theorem aOR {L:Nat}(q:Nat×Nat):q∈aAa L↔q.1<=q.2/\q.2<L:=by
 unfold aAa
 rw[List.mem_flatMap]
 constructor
 ·rintro⟨i,hi,h⟩
  obtain⟨j,hj,rfl⟩:=aM.1 h;have:=bD.1 hi;have:=bD.1 hj;exact⟨by simp,by simp only;omega⟩
 rintro⟨h1,h2⟩
 refine⟨q.1,bD.2 (by omega),aM.2 ⟨q.2-q.1,bD.2 (by omega),?_⟩⟩;rw[show q.1+(q.2-q.1)=q.2 by omega]
theorem aLd {L:Nat}(h:L<=5):(aAa L).Nodup/\(aAa L).length=L*(L+1)/2:=by
 have:L=0∨L=1∨L=2∨L=3∨L=4∨L=5:=by omega
 rcases this with rfl|rfl|rfl|rfl|rfl|rfl<;>decide
structure aLe (im:List (List Int))(L:Nat)(os:List (List (Nat×Nat))):Prop where
  nd:os.flatten.Nodup
  mem:∀q,q∈os.flatten↔q.1<=q.2/\q.2<L
  orb:∀o∈os,∃i k,i<=k/\k<L/\o=rQ im L (i,k)
theorem aLf {im:List (List Int)}{L:Nat}(hp:∀a∈im,Perm L a){i k:Nat}(hi:i<L)(hk:k<L){q:Nat×Nat}(h:q∈lX im (i,k)):q.1<=q.2/\q.2<L:=by
 obtain⟨a,ha,rfl⟩:=aM.1 h
 have h1:=kM (hp a ha) hi
 have h2:=kM (hp a ha) hk
 unfold prA
 simp only
 omega
theorem aNd {im:List (List Int)}{L:Nat}(hp:∀a∈im,Perm L a)(hG:tG im L)(hs:∀i k,i<=k->k<L->(i,k)∈lX im (i,k)):aLe im L (kT im L L).2:=by
 obtain⟨h1,h2⟩:=aBf hp hG hs L (aA _)
 refine⟨h1.nd,λq=>⟨λh=>?_,λh=>(h1.mem q).1 ?_⟩,h1.orb⟩
 ·obtain⟨o,ho,hq⟩:=List.mem_flatten.1 h
  obtain⟨i,k,hik,hk,rfl⟩:=h1.orb o ho;exact aLf hp (by omega) hk ((pA hp (by omega) hk q).1 hq)
 exact h2 q.1 q.2 (by omega) h.1 h.2
theorem aLe.len {im:List (List Int)}{L:Nat}{os:List (List (Nat×Nat))}(h:aLe im L os)(hL:L<=5):os.flatten.length=L*(L+1)/2:=by
 obtain⟨h1,h2⟩:=aLd hL
 rw[<-h2]
 exact((List.perm_ext_iff_of_nodup h.nd h1).2 λq=>by rw[h.mem,aOR]).length_eq
def plP (L:Nat)(q:Nat×Nat):Nat:=q.1*L+q.2
theorem aNe {L:Nat}{p q:Nat×Nat}(hp:p.2<L)(hq:q.2<L)(h:plP L p=plP L q):p=q:=by
 unfold plP at h
 have hL:0<L:=by omega
 have e1:(p.1*L+p.2)/L=p.1:=by rw[aT,eX hL,cT hp,bW]
 have e2:(q.1*L+q.2)/L=q.1:=by rw[aT,eX hL,cT hq,bW]
 have e3:(p.1*L+p.2)%L=p.2:=by rw[aT,fG,cU hp]
 have e4:(q.1*L+q.2)%L=q.2:=by rw[aT,fG,cU hq]
 rw[h]at e1 e3
 exact Prod.ext (e1.symm.trans e2) (e3.symm.trans e4)
def aBg (f:Nat->Rat)(L:Nat)(o:List (Nat×Nat)):Prop:=∀q∈o,f (plP L q)=f (plP L (o.headD (0,0)))
def aDW (f:Nat->Rat)(L:Nat):Prop:=∀i k,i<L->k<L->f (i*L+k)=f (k*L+i)
theorem aGy {f:Nat->Rat}{L:Nat}(hs:aDW f L){a:List Int}(ha:Perm L a){i k:Nat}(hi:i<L)(hk:k<L):f (plP L (prA a i k))=f (plA L a (i*L+k)):=by
 have h1:=kM ha hi
 have h2:=kM ha hk
 have hL:0<L:=by omega
 unfold plA
 rw[show(i*L+k)/L=i by rw[aT,eX hL,cT hk,bW],show(i*L+k)%L=k by rw[aT,fG,cU hk]]
 unfold prA plP
 generalize a.getD i 0=x at*
 generalize a.getD k 0=y at*
 simp only
 by_cases h:x.toNat<=y.toNat
 ·rw[dA h,Nat.max_eq_right h]
 rw[Nat.min_eq_right (by omega),Nat.max_eq_left (by omega)]
 exact hs _ _ (by omega) (by omega)
theorem aHQ {im:List (List Int)}{L N:Nat}{os:List (List (Nat×Nat))}{f:Nat->Rat}(hN:L*L=N)(h:aLe im L os)(hp:∀a∈im,Perm L a)(hG:tG im L)(hs:aDW f L):(∀o∈os,aBg f L o)↔Inv f im L N:=by
 have hself:∀{i k:Nat},i<L->k<L->f (i*L+k)=f (plP L (min i k,max i k)):=λ{i k} hi hk=>by
  unfold plP
  by_cases h:i<=k
  ·rw[dA h,Nat.max_eq_right h]
  rw[Nat.min_eq_right (by omega),Nat.max_eq_left (by omega)];exact hs _ _ hi hk
 constructor
 ·intro hc a ha p hpN
  have hL:0<L:=by
   rcases cC L with e|e
   ·rw[e]at hN;omega
   exact e
  have hi:p/L<L:=dV (by rw[hN];exact hpN);have hk:=bL p hL
  have hpe:p/L*L+p%L=p:=by rw[aT];exact dD p L
  generalize p/L=i at*;generalize p%L=k at*;subst hpe;have hap:=hp a ha;obtain⟨x,hx⟩:=eqx (min i k);obtain⟨y,hy⟩:=eqx (max i k)
  have hxy:x<=y:=by omega
  have hyL:y<L:=by omega
  have hpr:prA a x y=prA a i k:=by
   unfold prA
   have:(x=i/\y=k)∨(x=k/\y=i):=by omega
   rcases this with⟨rfl,rfl⟩|⟨rfl,rfl⟩
   ·rfl
   rw[Nat.min_comm,Nat.max_comm]
  have hr:prA a x y∈lX im (x,y):=aM.2 ⟨a,ha,rfl⟩;obtain⟨o,ho,hro⟩:=List.mem_flatten.1 ((h.mem _).2 (aLf hp (by omega) hyL hr));obtain⟨i1,k1,h1,h2,rfl⟩:=h.orb o ho;have hr1:=(pA hp (show i1<L by omega) h2 _).1 hro;have hxo:=(pA hp (show i1<L by omega) h2 _).2 (hG x y i1 k1 hxy hyL (by omega) h2 _ hr hr1);have e1:=hc _ ho _ hro;have e2:=hc _ ho _ hxo;rw[hself hi hk,hx,hy,e2,<-e1,hpr,aGy hs hap hi hk]
 intro hv o ho q hq
 obtain⟨i1,k1,h1,h2,rfl⟩:=h.orb o ho
 have key:∀r∈rQ im L (i1,k1),f (plP L r)=f (i1*L+k1):=λr hr=>by
  obtain⟨a,ha,rfl⟩:=aM.1 ((pA hp (show i1<L by omega) h2 _).1 hr);rw[aGy hs (hp a ha) (show i1<L by omega) h2];refine hv a ha _ ?_;have:=aY L (show i1+1<=L by omega);rw[eV]at this;omega
 rw[key q hq]
 have hne:rQ im L (i1,k1)≠[]:=λe=>by rw[e]at hq;cases hq
 cases hl:rQ im L (i1,k1)with
 |nil=>exact absurd hl hne
 |cons b t=>
  have:=key b (by rw[hl];simp);simp only[List.headD_cons];exact this.symm
end Go.Pm
namespace Go.Av
open Go.Pm
theorem jY.mean_sym {n:Nat}{g l:List (List Int)}(h:jY n g l){f:Nat->Rat}(hs:aDW f l.length):aDW (Go.Av.mean f (jY.im n g l) l.length) l.length:=by
 intro i k hi hk
 have hL:0<l.length:=by omega
 have hlt:∀i k,i<l.length->k<l.length->i*l.length+k<l.length*l.length:=λi k hi hk=>by
  have:=aY l.length (show i+1<=l.length by omega);rw[eV]at this;omega
 rw[h.mean f (hlt i k hi hk),h.mean f (hlt k i hk hi)]
 congr 1
 refine xR λa ha=>?_
 have hp:=h.iperm ha
 have h1:=kM hp hi
 have h2:=kM hp hk
 unfold plA
 rw[show(i*l.length+k)/l.length=i by rw[aT,eX hL,cT hk,bW],show(i*l.length+k)%l.length=k by rw[aT,fG,cU hk]]
 rw[show(k*l.length+i)/l.length=k by rw[aT,eX hL,cT hi,bW],show(k*l.length+i)%l.length=i by rw[aT,fG,cU hi]]
 exact hs _ _ (by omega) (by omega)
end Go.Av
end
namespace Go.Pm
open Go.Av
def uB (L N:Nat)(pr:List (Nat×Nat)):List Value:=(List.range N).map λp=>Value.bool (decide (∃q∈pr,plP L q=p))
theorem aHR (L N:Nat):uB L N []=List.replicate N (.bool false):=by
 refine dJ (by simp[uB]) λp h1 h2=>?_
 simp[uB]
theorem aHS (L N:Nat)(pr:List (Nat×Nat))(q:Nat×Nat):(uB L N pr).set (plP L q) (.bool true)=uB L N (pr++[q]):=by
 refine dJ (by simp[uB]) λp h1 h2=>?_
 rw[List.getElem_set]
 by_cases e:plP L q=p
 ·rw[aQ e]
  have:decide (∃r∈pr++[q],plP L r=p)=true:=dT ⟨q,by simp,e⟩;simp only[uB,dP,List.getElem_range,this]
 rw[aJ e]
 simp only[uB,dP,List.getElem_range]
 congr 1
 refine dH.2 ⟨?_,?_⟩
 ·rintro⟨r,hr,h⟩;exact⟨r,bZ _ hr,h⟩
 rintro⟨r,hr,h⟩
 rcases aK.1 hr with hr|hr
 ·exact⟨r,hr,h⟩
 rw[aN.1 hr]at h;exact absurd h e
theorem aLg {L N:Nat}{pr:List (Nat×Nat)}{q:Nat×Nat}(h:plP L q<N)(hpr:∀r∈pr,r.2<L)(hq:q.2<L)(hn:q∉pr):(uB L N pr)[plP L q]?=some (.bool false):=by
 have e:decide (∃r∈pr,plP L r=plP L q)=false:=dF (by
  rintro⟨r,hr,he⟩;rw[aNe (hpr r hr) hq he]at hr
  exact hn hr)
 unfold uB
 rw[cK,List.getElem?_range h]
 simp only[gZ,e]
def oP (os:List (List (Nat×Nat)))(i k:Nat):List (Nat×Nat):=(os.take i).flatten++(os.getD i []).take k
theorem aLh {os:List (List (Nat×Nat))}{i:Nat}(h:i<os.length):oP os i os[i].length=oP os (i+1) 0:=by
 unfold oP
 rw[aD h,jF]
 simp[h]
theorem aHT {os:List (List (Nat×Nat))}{i k:Nat}(h:i<os.length)(hk:k<os[i].length):oP os i (k+1)=oP os i k++[os[i][k]]:=by
 unfold oP
 have e:os.getD i []=os[i]:=by simp[h]
 rw[e,aD hk,cJ]
theorem aLi (os:List (List (Nat×Nat))):oP os os.length 0=os.flatten:=by
 unfold oP
 simp
theorem vS {os:List (List (Nat×Nat))}{i k:Nat}(h:i<os.length)(hk:k<os[i].length):∃t,os.flatten=oP os i k++os[i][k]::t:=by
 have e:os.getD i []=os[i]:=by simp[h]
 refine⟨os[i].drop (k+1)++(os.drop (i+1)).flatten,?_⟩
 unfold oP
 rw[e,cJ,<-jH,<-cJ (List.take k os[i]),<-bG hk,cY,<-List.flatten_cons,<-bG h,<-jF,cY]
theorem aLj {os:List (List (Nat×Nat))}{i k:Nat}(hn:os.flatten.Nodup)(h:i<os.length)(hk:k<os[i].length):os[i][k]∉oP os i k:=by
 obtain⟨t,e⟩:=vS h hk
 rw[e,eL]at hn
 intro hm
 exact hn.2.2 _ hm _ (by simp) rfl
theorem aDX {os:List (List (Nat×Nat))}{i k:Nat}(h:i<os.length)(hk:k<os[i].length):∀q∈oP os i k,q∈os.flatten:=by
 obtain⟨t,e⟩:=vS h hk
 intro q hq
 rw[e]
 exact bZ _ hq
def pM (f:Nat->Rat)(L:Nat)(os:List (List (Nat×Nat)))(i k:Nat):Prop:=(∀o∈os.take i,aBg f L o)/\∀q∈(os.getD i []).take k,f (plP L q)=f (plP L ((os.getD i []).headD (0,0)))
theorem aLk (f:Nat->Rat)(L:Nat)(os:List (List (Nat×Nat))):pM f L os 0 0:=⟨by simp,by simp⟩
theorem aNf {f:Nat->Rat}{L:Nat}{os:List (List (Nat×Nat))}{i:Nat}(h:i<os.length):pM f L os i os[i].length↔pM f L os (i+1) 0:=by
 have e:os.getD i []=os[i]:=by simp[h]
 unfold pM
 rw[e,eE,aD h]
 constructor
 ·rintro⟨h1,h2⟩
  refine⟨λo ho=>?_,by simp⟩
  rcases aK.1 ho with ho|ho
  ·exact h1 o ho
  rw[aN.1 ho];exact h2
 rintro⟨h1,_⟩
 exact⟨λo ho=>h1 o (bZ _ ho),h1 os[i] (eF _ (aN.2 rfl))⟩
theorem aLl {f:Nat->Rat}{L:Nat}{os:List (List (Nat×Nat))}{i k:Nat}(h:i<os.length)(hk:k<os[i].length):pM f L os i (k+1)↔(pM f L os i k/\f (plP L os[i][k])=f (plP L (os[i].headD (0,0)))):=by
 have e:os.getD i []=os[i]:=by simp[h]
 unfold pM
 rw[e,aD hk]
 constructor
 ·rintro⟨h1,h2⟩
  exact⟨⟨h1,λq hq=>h2 q (bZ _ hq)⟩,h2 _ (eF _ (aN.2 rfl))⟩
 rintro⟨⟨h1,h2⟩,h3⟩
 refine⟨h1,λq hq=>?_⟩
 rcases aK.1 hq with hq|hq
 ·exact h2 q hq
 rw[aN.1 hq];exact h3
theorem aNg {f:Nat->Rat}{L:Nat}{os:List (List (Nat×Nat))}:pM f L os os.length 0↔∀o∈os,aBg f L o:=by
 unfold pM
 simp
end Go.Pm
namespace Go.Proofs.Tg.Bk
open Go.RowKit Go.Gr Go.Sp Go.Ev Go.Pm
def yY (p q:Nat×Nat):Int:=lI [(p.1:Int),(p.2:Int)] [(q.1:Int),(q.2:Int)]
theorem pN (p q:Nat×Nat):yY p q<0↔ltP p q:=by
 unfold yY ltP
 simp only[lI]
 by_cases h1:(p.1:Int)<(q.1:Int)
 ·rw[aQ h1];simp;omega
 rw[aJ h1]
 by_cases h2:(q.1:Int)<(p.1:Int)
 ·rw[aQ h2];simp;omega
 rw[aJ h2]
 by_cases h3:(p.2:Int)<(q.2:Int)
 ·rw[aQ h3];simp;omega
 rw[aJ h3]
 split<;>simp<;>omega
theorem aEb (p q:Nat×Nat)(W:World):Calls Tryz.prog 34 #[aCb p,aCb q] W λe w'=>e=.returned (.int .i64 (yY p q))/\∃n,w'=((W.alloc (.cells #[.int .i64 p.1,.int .i64 p.2] 45)).alloc (.cells #[.int .i64 q.1,.int .i64 q.2] 45)).drewN n:=by
 obtain⟨V,hV⟩:=eqx ((W.alloc (.cells #[.int .i64 p.1,.int .i64 p.2] 45)).alloc (.cells #[.int .i64 q.1,.int .i64 q.2] 45))
 have B0:Blk V W.heap.size 45 #[.int .i64 p.1,.int .i64 p.2]:=by rw[<-hV];exact(Blk.new _ _ _).alloc _
 have B1:Blk V (W.heap.size+1) 45 #[.int .i64 q.1,.int .i64 q.2]:=by
  rw[<-hV];have:=Blk.new (W.alloc (.cells #[.int .i64 p.1,.int .i64 p.2] 45)) 45 #[.int .i64 q.1,.int .i64 q.2];simpa using this
 have i0:kP V (some ⟨W.heap.size,0,none⟩) [(p.1:Int),(p.2:Int)]:=by
  refine⟨rfl,λ_=>⟨_,rfl,B0.lt,λj u hu=>?_⟩⟩;rw[kI,bN,B0.cell]
  match j,hu with
  |0,hu=>exact hu
  |1,hu=>exact hu
 have i1:kP V (some ⟨W.heap.size+1,0,none⟩) [(q.1:Int),(q.2:Int)]:=by
  refine⟨rfl,λ_=>⟨_,rfl,B1.lt,λj u hu=>?_⟩⟩;rw[kI,bN,B1.cell]
  match j,hu with
  |0,hu=>exact hu
  |1,hu=>exact hu
 have HC:Hid (∀n,Calls Tryz.prog 35 #[.slice (some ⟨W.heap.size,0,none⟩) 2 2,.slice (some ⟨W.heap.size+1,0,none⟩) 2 2] (V.drewN n) λe w'=>e=.returned (.int .i64 (yY p q))/\V.drewN n=w'):=zh (λn=>
  Gx.tU (some ⟨W.heap.size,0,none⟩) (some ⟨W.heap.size+1,0,none⟩) 2 2 [(p.1:Int),(p.2:Int)] [(q.1:Int),(q.2:Int)] (V.drewN n) (i0.drewN n) (i1.drewN n) (by simp))
 have HV:=zh hV
 generalize yY p q=r at*
 obtain⟨p1,p2⟩:=p
 obtain⟨q1,q2⟩:=q
 unfold aCb
 simp only at HV
 clear hV B0 B1 i0 i1
 go_enter Tryz.func34,Tryz.ntmps34
 go_upto_region 1 with(fail)
 rw[HV.o]
 go_quiet ((go_at_call 35;exact aDN (HC.o _)))
 go_wp2
 go_ret
 exact⟨rfl,nq,by rw[HV.o]⟩
end Go.Proofs.Tg.Bk
