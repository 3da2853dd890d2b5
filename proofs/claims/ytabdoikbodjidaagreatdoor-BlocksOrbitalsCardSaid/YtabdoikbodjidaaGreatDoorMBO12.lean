/- Parts of the proof. -/
import Derived.Test.YtabdoikbodjidaaGreatDoorMBO11
set_option maxHeartbeats 64000000
set_option maxRecDepth 100000
namespace Go.Pm
def prA (a:List Int)(i k:Nat):Nat×Nat:=(min (a.getD i 0).toNat (a.getD k 0).toNat,max (a.getD i 0).toNat (a.getD k 0).toNat)
def lX (im:List (List Int))(p:Nat×Nat):List (Nat×Nat):=im.map λa=>prA a p.1 p.2
def rQ (im:List (List Int))(L:Nat)(p:Nat×Nat):List (Nat×Nat):=((List.range (L*L)).map λx=>(x/L,x%L)).filter λq=>decide (q∈lX im p)
def kZ (im:List (List Int))(L:Nat)(st:List (Nat×Nat)×List (List (Nat×Nat)))(p:Nat×Nat):List (Nat×Nat)×List (List (Nat×Nat)):=if p∈st.1 then st else(st.1++lX im p,st.2++[rQ im L p])
def kT (im:List (List Int))(L:Nat):Nat->List (Nat×Nat)×List (List (Nat×Nat))
  |0=>([],[])
  |i+1=>(List.range (L-i)).foldl (λst j=>kZ im L st (i,i+j)) (kT im L i)
def sM (im:List (List Int))(L i k:Nat):List (Nat×Nat)×List (List (Nat×Nat)):=(List.range (k-i)).foldl (λst j=>kZ im L st (i,i+j)) (kT im L i)
theorem aDZ (im:List (List Int))(L i:Nat):sM im L i i=kT im L i:=by simp[sM]
theorem aHU (im:List (List Int))(L i:Nat):sM im L i L=kT im L (i+1):=rfl
theorem aFp (im:List (List Int))(L:Nat){i k:Nat}(h:i<=k):sM im L i (k+1)=kZ im L (sM im L i k) (i,k):=by
 unfold sM
 rw[show k+1-i=k-i+1 by omega,bT,eR]
 simp only[List.foldl_cons,List.foldl_nil]
 rw[show i+(k-i)=k by omega]
def tG (im:List (List Int))(L:Nat):Prop:=∀i k i' k',i<=k->k<L->i'<L->k'<L->∀r,r∈lX im (i,k)->r∈lX im (i',k')->(i,k)∈lX im (i',k')
def rX (im:List (List Int))(L:Nat)(S:List (Nat×Nat)):Prop:=∀r∈S,∃i k,i<L/\k<L/\r∈lX im (i,k)/\∀q∈lX im (i,k),q∈S
theorem rX.step {im:List (List Int)}{L:Nat}{st:List (Nat×Nat)×List (List (Nat×Nat))}(h:rX im L st.1){i k:Nat}(hi:i<L)(hk:k<L):rX im L (kZ im L st (i,k)).1:=by
 unfold kZ
 split
 ·exact h
 intro r hr
 rcases aK.1 hr with h1|h1
 ·obtain⟨i',k',h2,h3,h4,h5⟩:=h r h1;exact⟨i',k',h2,h3,h4,λq hq=>bZ _ (h5 q hq)⟩
 exact⟨i,k,hi,hk,h1,λq hq=>eF _ hq⟩
theorem uC (im:List (List Int))(L:Nat):∀i,i<=L->rX im L (kT im L i).1
  |0,_=>λr hr=>by cases hr
  |i+1,hi=>by
   have h:=uC im L i (by omega)
   have h2:∀n,n<=L-i->rX im L ((List.range n).foldl (λst j=>kZ im L st (i,i+j)) (kT im L i)).1:=by
    intro n
    induction n with
    |zero=>exact λ_=>h
    |succ n ih=>
     intro hn;rw[bT,eR];exact(ih (by omega)).step (by omega) (by omega)
   exact h2 _ (aA _)
theorem aFq (im:List (List Int))(L:Nat){i k:Nat}(hi:i<=L)(hk:k<=L):rX im L (sM im L i k).1:=by
 have h:=uC im L i hi
 have h2:∀n,i+n<=L->rX im L ((List.range n).foldl (λst j=>kZ im L st (i,i+j)) (kT im L i)).1:=by
  intro n
  induction n with
  |zero=>exact λ_=>h
  |succ n ih=>
   intro hn;rw[bT,eR];exact(ih (by omega)).step (by omega) (by omega)
 unfold sM
 by_cases hik:i<=k
 ·exact h2 _ (by omega)
 rw[show k-i=0 by omega];exact h
theorem aNI {im:List (List Int)}{L:Nat}(hG:tG im L){S:List (Nat×Nat)}(hS:rX im L S){i k:Nat}(hik:i<=k)(hk:k<L)(hn:(i,k)∉S):∀r∈lX im (i,k),r∉S:=λr hr hrS=>by
 obtain⟨i',k',h1,h2,h3,h4⟩:=hS r hrS
 exact hn (h4 _ (hG i k i' k' hik hk h1 h2 r hr h3))
def kD (l:List (Nat×Nat)):List (Nat×Nat):=l.foldl (λo p=>if p∈o then o else o++[p]) []
theorem oW (l:List (Nat×Nat))(p:Nat×Nat):kD (l++[p])=if p∈kD l then kD l else kD l++[p]:=by
 unfold kD
 rw[eR]
 rfl
theorem nH (l:List (Nat×Nat)):∀p,p∈kD l↔p∈l:=by
 induction l using mQ with
 |h0=>simp[kD]
 |h1 l a ih=>
  intro p;rw[oW]
  split
  ·next h=>
   rw[ih,aK,aN]
   constructor
   ·exact .inl
   rintro(h2|rfl)
   ·exact h2
   exact(ih _).1 h
  rw[aK,aN,ih,aK,aN]
theorem sP (l:List (Nat×Nat)):(kD l).Nodup:=by
 induction l using mQ with
 |h0=>simp[kD]
 |h1 l a ih=>
  rw[oW]
  split
  ·exact ih
  next h=>
  refine eL.2 ⟨ih,by simp,λx hx y hy e=>?_⟩;rw[aN.1 hy]at e;exact h (e▸hx)
def ltP (p q:Nat×Nat):Prop:=p.1<q.1∨(p.1=q.1/\p.2<q.2)
instance (p q:Nat×Nat):Decidable (ltP p q):=inferInstanceAs (Decidable (_∨_))
theorem uW (p:Nat×Nat):¬ltP p p:=λh=>by rcases h with h|h<;>omega
theorem uX {p q r:Nat×Nat}(h:ltP p q)(h2:ltP q r):ltP p r:=by
 unfold ltP at*
 omega
theorem aCK (p q:Nat×Nat):ltP p q∨p=q∨ltP q p:=by
 obtain⟨a,b⟩:=p
 obtain⟨c,d⟩:=q
 simp only[ltP,Prod.mk.injEq]
 omega
theorem aGz:∀{l l':List (Nat×Nat)},l.Pairwise ltP->l'.Pairwise ltP->(∀p,p∈l↔p∈l')->l=l'
  |[],[],_,_,_=>rfl
  |[],b::l',_,_,h=>by have:=(h b).2 (by simp);cases this
  |a::l,[],_,_,h=>by have:=(h a).1 (by simp);cases this
  |a::l,b::l',h1,h2,h=>by
   have p1:=List.pairwise_cons.1 h1;have p2:=List.pairwise_cons.1 h2
   have hab:a=b:=by
    rcases bA.1 ((h a).1 (by simp))with e|e
    ·exact e
    rcases bA.1 ((h b).2 (by simp))with e2|e2
    ·exact e2.symm
    exact absurd (uX (p2.1 a e) (p1.1 b e2)) (uW _)
   subst hab
   congr 1
   refine aGz p1.2 p2.2 λp=>?_
   have hp:=h p;simp only[bA]at hp
   constructor
   ·intro hm
    rcases hp.1 (.inr hm)with e|e
    ·rw[e]at hm;exact absurd (p1.1 _ hm) (uW _)
    exact e
   intro hm
   rcases hp.2 (.inr hm)with e|e
   ·rw[e]at hm;exact absurd (p2.1 _ hm) (uW _)
   exact e
theorem aCa (im:List (List Int))(L:Nat)(p:Nat×Nat):(rQ im L p).Pairwise ltP:=by
 unfold rQ
 refine List.Pairwise.sublist List.filter_sublist ?_
 refine dU.2 (List.pairwise_lt_range.imp_of_mem λ{x y} hx hy hxy=>?_)
 have h1:=bD.1 hx
 have h2:=bD.1 hy
 unfold ltP
 simp only
 by_cases hd:x/L<y/L
 ·exact .inl hd
 have hle:x/L<=y/L:=Nat.div_le_div_right (eM hxy)
 have he:x/L=y/L:=by omega
 refine .inr ⟨he,?_⟩;have e1:=dD x L;have e2:=dD y L;rw[he]at e1;omega
theorem pA {im:List (List Int)}{L:Nat}(hp:∀a∈im,Perm L a){i k:Nat}(hi:i<L)(hk:k<L)(q:Nat×Nat):q∈rQ im L (i,k)↔q∈lX im (i,k):=by
 unfold rQ
 rw[cM,gR]
 refine⟨λh=>h.2,λh=>⟨?_,h⟩⟩
 obtain⟨a,ha,rfl⟩:=aM.1 h
 have h1:=kM (hp a ha) hi
 have h2:=kM (hp a ha) hk
 refine aM.2 ⟨min (a.getD i 0).toNat (a.getD k 0).toNat*L+max (a.getD i 0).toNat (a.getD k 0).toNat,bD.2 ?_,?_⟩
 ·have hm1:min (a.getD i 0).toNat (a.getD k 0).toNat+1<=L:=by omega
  have hm2:max (a.getD i 0).toNat (a.getD k 0).toNat<L:=by omega
  have:=aY L hm1;rw[cQ]at this;omega
 have hm2:max (a.getD i 0).toNat (a.getD k 0).toNat<L:=by omega
 unfold prA;rw[gC,Nat.add_mul_div_right _ _ (by omega),Nat.add_mul_mod_self_right,cT hm2,cU hm2,bN]
theorem aHV {n:Nat}{a:List Int}(h:Perm n a){t:Nat}(ht:t<n):∃j,j<n/\a.getD j 0=(t:Int):=by
 have hm:(t:Int)∈a:=by
  apply cW;intro hno;have hnd:((t:Int)::a).Nodup:=fK.2 ⟨hno,h.2.2⟩
  have hsub:∀x∈(t:Int)::a,x∈unit n:=λx hx=>by
   have hx2:0<=x/\x<n:=by
    rcases bA.1 hx with rfl|hx
    ·omega
    exact h.2.1 x hx
   exact aM.2 ⟨x.toNat,bD.2 (by omega),by omega⟩
  have:=hnd.length_le_of_subset hsub;rw[bP,h.1,mV]at this;omega
 obtain⟨j,hj,he⟩:=bI hm
 exact⟨j,by rw[<-h.1];exact hj,by simp[hj,he]⟩
theorem aOV {n:Nat}{a b m:List Int}(ha:Perm n a)(hb:Perm n b):mv n (cmp a b) m=mv n a (mv n b m):=by
 have hab:=mE ha hb
 refine pC (by rw[mv,mv,nO,nO]) λt ht=>?_
 rw[mv,nO]at ht
 obtain⟨j,hj,he⟩:=aHV hab ht
 have h1:=vG (m:=m) hab n (aA _) j hj
 have hbj:=kM hb hj
 have hc:(cmp a b).getD j 0=a.getD (b.getD j 0).toNat 0:=oL a b (by rw[hb.1];exact hj)
 have h2:=vG (m:=mv n b m) ha n (aA _) (b.getD j 0).toNat (by omega)
 have h3:=vG (m:=m) hb n (aA _) j hj
 rw[he]at h1
 rw[<-hc,he]at h2
 rw[show((t:Int)).toNat=t by omega]at h1 h2
 unfold mv at h2 ⊢
 rw[h1,h2]
 exact h3.symm
theorem xC {n:Nat}{a:List Int}{l:List (List Int)}{i:Nat}(h:i<l.length):(img n a l).getD i 0=((l.idxOf (mv n a l[i]):Nat):Int):=by simp[img,h]
theorem xD {n:Nat}{a b:List Int}{l:List (List Int)}(ha:Perm n a)(hb:Perm n b)(hB:lZ n b l){i:Nat}(hi:i<l.length):(img n (cmp a b) l).getD i 0=(img n a l).getD ((img n b l).getD i 0).toNat 0:=by
 rw[xC hi,xC hi,aOV ha hb]
 obtain⟨h1,h2⟩:=vW (hB _ (aB hi))
 rw[show(((l.idxOf (mv n b l[i]):Nat):Int)).toNat=l.idxOf (mv n b l[i]) by omega,xC h1,h2]
theorem uD {n:Nat}{l:List (List Int)}(hl:∀m∈l,m.length=n)(hn:l.Nodup){i:Nat}(hi:i<l.length):(img n (unit n) l).getD i 0=(i:Int):=by
 rw[xC hi]
 have hm:mv n (unit n) l[i]=l[i]:=by
  refine pC (by rw[mv,nO,hl _ (aB _)]) λt ht=>?_
  rw[mv,nO]at ht;have h1:=vG (m:=l[i]) (nM n) n (aA _) t ht;rw[aAq ht,show((t:Int)).toNat=t by omega]at h1;exact h1
 have h2:l.idxOf l[i]=i:=Go.Proofs.Tg.Bk.aFF hn hi
 rw[hm,h2]
theorem aAb {n:Nat}{g:List (List Int)}(hn:n<=6)(hG:Grp n g)(hp:∀a∈g,Perm n a){a:List Int}(ha:a∈g):∃b∈g,cmp b a=unit n:=by
 obtain⟨K,_,hK⟩:=aJb hn (hp a ha)
 have hmem:∀k,pw a k∈g:=λk=>by
  induction k with
  |zero=>exact ha
  |succ k ih=>exact hG.2 a ha _ ih
 cases K with
 |zero=>
  refine⟨unit n,hG.1,?_⟩;have:a=unit n:=hK;rw[this,oM (nM n)]
 |succ K=>
  refine⟨pw a K,hmem K,?_⟩;have h1:cmp a (pw a K)=unit n:=hK;have pa:=hp a ha;have pb:=hp _ (hmem K);refine zO pa (mE pb pa) (nM n) ?_;rw[<-lS pb.1 pa,h1,oM pa,oB pa.1]
theorem aGA {n:Nat}{g l:List (List Int)}(hn:n<=6)(hG:Grp n g)(hp:∀a∈g,Perm n a)(hA:∀a∈g,lZ n a l)(hl:∀m∈l,m.length=n)(hnd:l.Nodup):tG (g.map λa=>img n a l) l.length:=by
 intro i k i' k' hik hk hi' hk' r h1 h2
 obtain⟨x,hx,rfl⟩:=aM.1 h1
 obtain⟨a,ha,rfl⟩:=aM.1 hx
 obtain⟨y,hy,he⟩:=aM.1 h2
 obtain⟨b,hb,rfl⟩:=aM.1 hy
 obtain⟨a',ha',hinv⟩:=aAb hn hG hp ha
 refine aM.2 ⟨img n (cmp a' b) l,aM.2 ⟨_,hG.2 a' ha' b hb,rfl⟩,?_⟩
 have hperm:∀c∈g,Perm l.length (img n c l):=λc hc=>aAl hnd (hA c hc) (λx hx y hy h=>aEw (hp c hc) (hl x hx) (hl y hy) h)
 have hback:∀j,j<l.length->(img n a' l).getD ((img n a l).getD j 0).toNat 0=(j:Int):=λj hj=>by
  rw[<-xD (hp a' ha') (hp a ha) (hA a ha) hj,hinv,uD hl hnd hj]
 have hb1:=kM (hperm b hb) hi'
 have hb2:=kM (hperm b hb) hk'
 have ha1:=kM (hperm a ha) (show i<l.length by omega)
 have ha2:=kM (hperm a ha) hk
 have e1:=hback i (by omega)
 have e2:=hback k hk
 unfold prA at he ⊢
 simp only[Prod.mk.injEq]at he ⊢
 rw[xD (hp a' ha') (hp b hb) (hA b hb) hi',xD (hp a' ha') (hp b hb) (hA b hb) hk']
 generalize (img n a l).getD i 0=ai at*
 generalize (img n a l).getD k 0=ak at*
 generalize (img n b l).getD i' 0=bi at*
 generalize (img n b l).getD k' 0=bk at*
 have hc:(bi.toNat=ai.toNat/\bk.toNat=ak.toNat)∨(bi.toNat=ak.toNat/\bk.toNat=ai.toNat):=by omega
 rcases hc with⟨c1,c2⟩|⟨c1,c2⟩
 ·rw[c1,c2,e1,e2]
  omega
 rw[c1,c2,e1,e2]
 omega
end Go.Pm
namespace Go.Bw
abbrev B:Nat:=18446744073709551616
def val:List Nat->Nat
  |[]=>0
  |x::xs=>x+B*val xs
def Dig (xs:List Nat):Prop:=∀x∈xs,x<B
def zG (xs:List Nat):Prop:=∀h:xs≠[],xs.getLast h≠0
theorem lG (xs ys:List Nat):val (xs++ys)=val xs+B^xs.length*val ys:=by
 induction xs with
 |nil=>simp[val]
 |cons x xs ih=>
  simp only[jH,val,ih,bP,bS];rw[aZ,aT (B^xs.length) B,aV];omega
theorem kR {xs:List Nat}(h:Dig xs):val xs<B^xs.length:=by
 induction xs with
 |nil=>simp[val]
 |cons x xs ih=>
  have h1:=h x (by simp);have h2:=ih (λy hy=>h y (by simp[hy]));simp only[val,bP,bS];have:B*(val xs+1)<=B*B^xs.length:=bJ _ h2;rw[aT (B^xs.length) B];rw[aZ]at this;omega
theorem uL (n:Nat):val (List.replicate n 0)=0:=by
 induction n with
 |zero=>rfl
 |succ n ih=>rw[dO];simp[val,ih]
def dg (n:Nat):List Nat:=if _h:n=0 then[]else n%B::dg (n/B)
termination_by n
decreasing_by exact iK (by omega) (by decide)
theorem jS:dg 0=[]:=by unfold dg;rfl
theorem oF {n:Nat}(h:n≠0):dg n=n%B::dg (n/B):=by rw[dg];simp[h]
theorem lD {n:Nat}(h:n≠0)(hb:n<B):dg n=[n]:=by
 rw[oF h,cU hb,cT hb,jS]
theorem kE (n:Nat):val (dg n)=n:=by
 induction n using Nat.strongRecOn with
 |_ n ih=>
  by_cases h:n=0
  ·subst h;rw[jS];rfl
  rw[oF h];simp only[val];rw[ih _ (iK (by omega) (by decide))];have:=gE n B;omega
theorem kH (n:Nat):Dig (dg n):=by
 induction n using Nat.strongRecOn with
 |_ n ih=>
  by_cases h:n=0
  ·subst h;rw[jS];intro x hx;cases hx
  rw[oF h];intro x hx
  rcases bA.1 hx with rfl|hx
  ·exact bL _ (by decide)
  exact ih _ (iK (by omega) (by decide)) x hx
theorem sD {x:Nat}{xs:List Nat}(h:zG (x::xs)):zG xs:=by
 intro hne
 have:=h (by simp)
 rwa [List.getLast_cons hne]at this
theorem aAu {xs:List Nat}(h:zG xs)(hv:val xs=0):xs=[]:=by
 induction xs with
 |nil=>rfl
 |cons x xs ih=>
  simp only[val]at hv
  have h1:x=0:=by omega
  have h2:val xs=0:=by
   have:B*val xs=0:=by omega
   rcases Nat.mul_eq_zero.1 this with h|h
   ·exact absurd h (by decide)
   exact h
  have h3:=ih (sD h) h2;subst h3 h1;exact absurd rfl (h (by simp))
theorem aEE {xs:List Nat}(hd:Dig xs)(hn:zG xs):dg (val xs)=xs:=by
 induction xs with
 |nil=>exact jS
 |cons x xs ih=>
  have hx:=hd x (by simp);have ih:=ih (λy hy=>hd y (by simp[hy])) (sD hn)
  have hv:val (x::xs)≠0:=λe=>by have:=aAu hn e;cases this
  rw[oF hv];simp only[val]at hv ⊢;rw[gI,cU hx,gH _ _ (by decide),cT hx,bN,ih]
theorem aMB (n:Nat):zG (dg n):=by
 induction n using Nat.strongRecOn with
 |_ n ih=>
  by_cases h:n=0
  ·subst h;rw[jS];intro h;exact absurd rfl h
  intro hne;have hlt:n/B<n:=iK (by omega) (by decide);have ih:=ih _ hlt;have e:=oF h
  by_cases h2:n/B=0
  ·have hb:n<B:=by
    rcases Nat.div_eq_zero_iff.1 h2 with h3|h3
    ·exact absurd h3 (by decide)
    exact h3
   have:∀(l:List Nat) (hl:l≠[]),l=[n]->l.getLast hl≠0:=λl hl el=>by subst el;simpa using h
   exact this _ hne (lD h hb)
  have hd:dg (n/B)≠[]:=λe2=>h2 (by have:=kE (n/B);rw[e2]at this;exact this.symm)
  have:∀(l:List Nat) (hl:l≠[]),l=n%B::dg (n/B)->l.getLast hl≠0:=λl hl el=>by
   subst el;rw[List.getLast_cons hd];exact ih hd
  exact this _ hne e
theorem qF (xs:List Nat):val (xs++[0])=val xs:=by rw[lG];simp[val]
theorem mC {n k:Nat}(h:n<B^k):(dg n).length<=k:=by
 induction k generalizing n with
 |zero=>have:n=0:=by simpa using h
        subst this;rw[jS];simp
 |succ k ih=>
  by_cases h0:n=0
  ·subst h0;rw[jS];simp
  rw[oF h0,bP]
  have:n/B<B^k:=by
   rw[bS]at h;exact dV (by rw[aT];exact h)
  have:=ih this;omega
theorem aPy {n k:Nat}(h:B^k<=n):k<(dg n).length:=by
 have h1:=kR (kH n)
 rw[kE]at h1
 rcases eN k (dg n).length with h2|h2
 ·exact h2
 have:=aP (show 0<B by decide) h2
 omega
structure yU (a b u0 u1 v0 v1:Nat)(odd:Bool)(P R:Nat):Prop where
  lt:R<P
  le:P<=b
  lin:(odd=true/\v0*b+P=u0*a/\u1*a+R=v1*b/\u0*v1=v0*u1+1)∨(odd=false/\u0*a+P=v0*b/\v1*b+R=u1*a/\v0*u1=u0*v1+1)
def aPv (a b u v r:Nat)(odd:Bool):Prop:=(odd=true/\r+u*a=v*b)∨(odd=false/\r+v*b=u*a)
structure zJ (a b A C f g u0 u1 u2 v0 v1 v2:Nat)(odd:Bool):Prop where
  ge:g<=f
  pos:1<=v2
  le2:u2<=v2
  sumA:v2*f+v1*g=A
  sumC:u2*f+u1*g=C
  lin:(odd=true/\f+u1*A=v1*C/\g+v2*C=u2*A/\u2*v1=u1*v2+1)∨(odd=false/\f+v1*C=u1*A/\g+u2*A=v2*C/\u1*v2=u2*v1+1)
  first:(v1=0/\u1=1/\u2=0/\v2=1/\odd=false)∨(u1<=v1/\1<=v1/\∃r,r<=b/\aPv a b u1 v1 r odd)
  ret:v0≠0->∃P R,yU a b u0 u1 v0 v1 odd P R
theorem zJ.start {a b A C:Nat}(h:C<=A):zJ a b A C A C 0 1 0 0 0 1 false:=
  ⟨h,aA _,by omega,by omega,by omega,.inr ⟨rfl,by omega,by omega,by omega⟩,.inl ⟨rfl,rfl,rfl,rfl,rfl⟩,λh=>absurd rfl h⟩
theorem zJ.fit {a b A C f g u0 u1 u2 v0 v1 v2:Nat}{odd:Bool}(s:zJ a b A C f g u0 u1 u2 v0 v1 v2 odd)(hg:v2<=g):0<g/\v1+v2<=A/\v1+f/g*v2<=A/\u1+f/g*u2<=C/\f/g*v2<=A/\f/g*u2<=C:=by
 have h0:0<g:=by have:=s.pos;omega
 have hf:0<f:=by have:=s.ge;omega
 have h1:v1*1<=v1*g:=bJ _ h0
 have h2:v2*1<=v2*f:=bJ _ hf
 have h3:u1*1<=u1*g:=bJ _ h0
 have hq:f/g<=f:=cF _ _
 have h4:f/g*v2<=v2*f:=by rw[aT];exact bJ _ hq
 have h5:f/g*u2<=u2*f:=by rw[aT];exact bJ _ hq
 have a1:=s.sumA
 have a2:=s.sumC
 omega
theorem aGe {a b D A C f g u1 u2 v1 v2 al bl:Nat}(ha:a=A*D+al)(hb:b=C*D+bl)(hal:al<D)(hbl:bl<D)(h1:f+v1*C=u1*A)(h2:g+u2*A=v2*C)(hu:u2<=v2)(hg:v2<=g)(hfg:v1+v2+g<=f)(hp:1<=v2):
    ∃P R,P+v1*b=u1*a/\R+u2*a=v2*b/\R<P:=by
  subst ha hb
  have e1:u1*(A*D+al)=(f+v1*C)*D+u1*al:=by rw[h1,aZ,aV]
  have e2:v2*(C*D+bl)=(g+u2*A)*D+v2*bl:=by rw[h2,aZ,aV]
  have e3:v1*(C*D+bl)=v1*C*D+v1*bl:=by rw[aZ,aV]
  have e4:u2*(A*D+al)=u2*A*D+u2*al:=by rw[aZ,aV]
  rw[e1,e2,e3,e4,cQ,cQ];have k1:u2*al<=v2*D:=cE hu (eM hal);have k2:v2*D<=g*D:=aY _ hg;have k3:v1*bl<=v1*D:=bJ _ (eM hbl);have k4:v2*bl<v2*D:=iH hbl hp;have k5:(v1+v2+g)*D<=f*D:=aY _ hfg;rw[cQ,cQ]at k5;generalize v1*C*D=x1 at*;generalize u2*A*D=x2 at*;generalize f*D=x3 at*;generalize g*D=x4 at*;generalize v1*D=x5 at*;generalize v2*D=x6 at*;generalize u1*al=x7 at*;generalize u2*al=x8 at*;generalize v1*bl=x9 at*;generalize v2*bl=y1 at*;exact⟨x3+x7-x9,x4+y1-x8,by omega,by omega,by omega⟩
theorem aJM {a b D A C f g u1 u2 v1 v2 al bl:Nat}(ha:a=A*D+al)(hb:b=C*D+bl)(hal:al<D)(hbl:bl<D)(h1:f+u1*A=v1*C)(h2:g+v2*C=u2*A)(hu:u1<=v1)(hu2:u2<=v2)(hg:v2<=g)(hfg:v1+v2+g<=f)(hp:1<=v2):
    ∃P R,P+u1*a=v1*b/\R+v2*b=u2*a/\R<P:=by
  subst ha hb
  have e1:v1*(C*D+bl)=(f+u1*A)*D+v1*bl:=by rw[h1,aZ,aV]
  have e2:u2*(A*D+al)=(g+v2*C)*D+u2*al:=by rw[h2,aZ,aV]
  have e3:u1*(A*D+al)=u1*A*D+u1*al:=by rw[aZ,aV]
  have e4:v2*(C*D+bl)=v2*C*D+v2*bl:=by rw[aZ,aV]
  rw[e1,e2,e3,e4,cQ,cQ];have k1:v2*bl<=v2*D:=bJ _ (eM hbl);have k2:v2*D<=g*D:=aY _ hg;have k3:u1*al<=v1*D:=cE hu (eM hal);have k4:u2*al<=v2*D:=cE hu2 (eM hal);have k5:(v1+v2+g)*D<=f*D:=aY _ hfg;rw[cQ,cQ]at k5
  have k6:u2*al<v2*D:=by
   rcases cC u2 with h|h
   ·subst h;rw[Nat.zero_mul];exact iJ hp (by omega)
   exact aH (iH hal h) (aY _ hu2)
  generalize u1*A*D=x1 at*;generalize v2*C*D=x2 at*;generalize f*D=x3 at*;generalize g*D=x4 at*;generalize v1*D=x5 at*;generalize v2*D=x6 at*;generalize u1*al=x7 at*;generalize u2*al=x8 at*;generalize v1*bl=x9 at*;generalize v2*bl=y1 at*;exact⟨x3+x9-x7,x4+x8-y1,by omega,by omega,by omega⟩
theorem aJN {A C f g u1 u2 v1 v2 q r:Nat}(hf:f=q*g+r)(h1:f+v1*C=u1*A)(h2:g+u2*A=v2*C)(hd:u1*v2=u2*v1+1):
    r+(v1+q*v2)*C=(u1+q*u2)*A/\(u1+q*u2)*v2=u2*(v1+q*v2)+1:=by
  constructor
  ·have k:=bK (q*·) h2;simp only[aZ]at k;rw[cQ,cQ,aV,aV];generalize q*(v2*C)=x1 at*;generalize q*(u2*A)=x2 at*;generalize q*g=x3 at*;omega
  rw[cQ,aZ,hd,aV,dZ u2 q v2];omega
theorem zJ.next {a b D A C al bl f g u0 u1 u2 v0 v1 v2:Nat}{odd:Bool}(s:zJ a b A C f g u0 u1 u2 v0 v1 v2 odd)(ha:a=A*D+al)(hb:b=C*D+bl)(hal:al<D)(hbl:bl<D)(_hab:b<=a)(hg:v2<=g)(hfg:v1+v2<=f-g):
    zJ a b A C g (f%g) u1 u2 (u1+f/g*u2) v1 v2 (v1+f/g*v2) (!odd):=by
  have h0:0<g:=by have:=s.pos;omega
  have hge:=s.ge
  have hfg':v1+v2+g<=f:=by have:=s.pos;omega
  have hr:f%g<g:=bL _ h0
  have hdm:f=f/g*g+f%g:=by rw[aT];exact(dD _ _).symm
  have hq1:1<=f/g:=(Nat.le_div_iff_mul_le h0).2 (by omega);have hpos:=s.pos;have hl2:=s.le2;have hA:=s.sumA;have hC:=s.sumC;have hlin:=s.lin
  have hfi:=s.first
  generalize f/g=q at*;generalize f%g=r at*
  have hqv:v2<=q*v2:=by have:=aY v2 hq1;rwa [fJ]at this
  have hqu:q*u2<=q*v2:=bJ _ hl2;refine⟨eM hr,by omega,?_,?_,?_,?_,?_,?_⟩
  ·rcases hfi with⟨rfl,rfl,rfl,rfl,_⟩|⟨h1,_,_⟩
   ·omega
   omega
  ·have e1:v2*f=v2*(q*g)+v2*r:=by rw[<-aZ,<-hdm]
   have e2:v2*(q*g)=q*v2*g:=by rw[<-aV,aT v2 q]
   rw[cQ,<-e2];omega
  ·have e1:u2*f=u2*(q*g)+u2*r:=by rw[<-aZ,<-hdm]
   have e2:u2*(q*g)=q*u2*g:=by rw[<-aV,aT u2 q]
   rw[cQ,<-e2];omega
  ·rcases hlin with⟨rfl,l1,l2,l3⟩|⟨rfl,l1,l2,l3⟩
   ·obtain⟨m1,m2⟩:=aJN (A:=C) (C:=A) (u1:=v1) (u2:=v2) (v1:=u1) (v2:=u2) hdm l1 l2 (by rw[aT v1,aT v2];exact l3);exact .inr ⟨rfl,l2,m1,by rw[aT u2,aT (u1+q*u2)];exact m2⟩
   obtain⟨m1,m2⟩:=aJN hdm l1 l2 l3;exact .inl ⟨rfl,l2,m1,m2⟩
  ·right
   refine⟨hl2,hpos,?_⟩
   rcases hlin with⟨rfl,l1,l2,l3⟩|⟨rfl,l1,l2,l3⟩
   ·rcases hfi with⟨_,_,_,_,h⟩|⟨h1,_,r0,hr0,hv⟩
    ·cases h
    obtain⟨P,R,p1,p2,p3⟩:=aJM ha hb hal hbl l1 l2 h1 hl2 hg hfg' hpos
    have hP:P=r0:=by
     rcases hv with⟨_,hv⟩|⟨h,_⟩
     ·omega
     cases h
    exact⟨R,by omega,.inr ⟨rfl,p2⟩⟩
   rcases hfi with⟨rfl,rfl,rfl,rfl,_⟩|⟨h1,_,r0,hr0,hv⟩
   ·exact⟨b,aA _,.inl ⟨rfl,by omega⟩⟩
   obtain⟨P,R,p1,p2,p3⟩:=aGe ha hb hal hbl l1 l2 hl2 hg hfg' hpos
   have hP:P=r0:=by
    rcases hv with⟨h,_⟩|⟨_,hv⟩
    ·cases h
    omega
   exact⟨R,by omega,.inl ⟨rfl,p2⟩⟩
  intro hv0
  rcases hlin with⟨rfl,l1,l2,l3⟩|⟨rfl,l1,l2,l3⟩
  ·rcases hfi with⟨_,_,_,_,h⟩|⟨h1,_,r0,hr0,hv⟩
   ·cases h
   obtain⟨P,R,p1,p2,p3⟩:=aJM ha hb hal hbl l1 l2 h1 hl2 hg hfg' hpos
   have hP:P=r0:=by
    rcases hv with⟨_,hv⟩|⟨h,_⟩
    ·omega
    cases h
   exact⟨P,R,p3,by omega,.inr ⟨rfl,by omega,by omega,by rw[aT v1];exact l3⟩⟩
  rcases hfi with⟨h,_⟩|⟨h1,_,r0,hr0,hv⟩
  ·exact absurd h hv0
  obtain⟨P,R,p1,p2,p3⟩:=aGe ha hb hal hbl l1 l2 hl2 hg hfg' hpos
  have hP:P=r0:=by
   rcases hv with⟨h,_⟩|⟨_,hv⟩
   ·cases h
   omega
  exact⟨P,R,p3,by omega,.inl ⟨rfl,by omega,by omega,by rw[aT v1];exact l3⟩⟩
theorem yU.gcd {a b u0 u1 v0 v1 P R:Nat}{odd:Bool}(h:yU a b u0 u1 v0 v1 odd P R):Nat.gcd P R=Nat.gcd a b:=by
 apply Nat.dvd_antisymm
 ·--a common divisor of P and R divides a and b
  have hP:=jJ P R;have hR:=jE P R;generalize Nat.gcd P R=d at*
  have key:∀{x y z:Nat},x+y=z->d∣y->d∣z->d∣x:=λ{x y z} e h1 h2=>by
   rw[<-e]at h2;exact(Nat.dvd_add_left h1).1 h2
  rcases h.lin with⟨_,l1,l2,l3⟩|⟨_,l1,l2,l3⟩
  ·--a=v1 P+v0 R,b=u1 P+u0 R
   have ea:a+(v1*(v0*b)+v0*(u1*a))=v1*(u0*a)+v0*(v1*b)-0:=by
    have:=bK (·*a) l3;simp only[cQ]at this
    have e1:v1*(u0*a)=u0*v1*a:=by rw[dZ,aV]
    have e2:v0*(u1*a)=v0*u1*a:=(aV _ _ _).symm;have e3:v1*(v0*b)=v0*(v1*b):=dZ _ _ _;omega
   have hA:a=v1*P+v0*R:=by
    have k1:=bK (v1*·) l1;have k2:=bK (v0*·) l2;simp only[aZ]at k1 k2;omega
   have hB:b=u1*P+u0*R:=by
    have k1:=bK (u1*·) l1;have k2:=bK (u0*·) l2;simp only[aZ]at k1 k2;have:=bK (·*b) l3;simp only[cQ]at this;have e1:u0*(v1*b)=u0*v1*b:=(aV _ _ _).symm
    have e2:u1*(v0*b)=v0*u1*b:=by rw[dZ,aV]
    have e3:u1*(u0*a)=u0*(u1*a):=dZ _ _ _;omega
   refine Nat.dvd_gcd ?_ ?_
   ·rw[hA];exact Nat.dvd_add (fW hP (eD _ _)) (fW hR (eD _ _))
   rw[hB];exact Nat.dvd_add (fW hP (eD _ _)) (fW hR (eD _ _))
  have hA:a=v1*P+v0*R:=by
   have k1:=bK (v1*·) l1;have k2:=bK (v0*·) l2;simp only[aZ]at k1 k2;have:=bK (·*a) l3;simp only[cQ]at this;have e1:v0*(u1*a)=v0*u1*a:=(aV _ _ _).symm
   have e2:v1*(u0*a)=u0*v1*a:=by rw[dZ,aV]
   have e3:v1*(v0*b)=v0*(v1*b):=dZ _ _ _;omega
  have hB:b=u1*P+u0*R:=by
   have k1:=bK (u1*·) l1;have k2:=bK (u0*·) l2;simp only[aZ]at k1 k2;have:=bK (·*b) l3;simp only[cQ]at this
   have e1:u1*(v0*b)=v0*u1*b:=by rw[dZ,aV]
   have e2:u0*(v1*b)=u0*v1*b:=(aV _ _ _).symm;have e3:u1*(u0*a)=u0*(u1*a):=dZ _ _ _;omega
  refine Nat.dvd_gcd ?_ ?_
  ·rw[hA];exact Nat.dvd_add (fW hP (eD _ _)) (fW hR (eD _ _))
  rw[hB];exact Nat.dvd_add (fW hP (eD _ _)) (fW hR (eD _ _))
 have ha:=jJ a b
 have hb:=jE a b;generalize Nat.gcd a b=d at*
 have key:∀{x y z:Nat},y+x=z->d∣y->d∣z->d∣x:=λ{x y z} e h1 h2=>by
  rw[<-e]at h2;exact(Nat.dvd_add_right h1).1 h2
 rcases h.lin with⟨_,l1,l2,_⟩|⟨_,l1,l2,_⟩
 ·exact Nat.dvd_gcd (key l1 (fW hb (eD _ _)) (fW ha (eD _ _))) (key l2 (fW ha (eD _ _)) (fW hb (eD _ _)))
 exact Nat.dvd_gcd (key l1 (fW ha (eD _ _)) (fW hb (eD _ _))) (key l2 (fW hb (eD _ _)) (fW ha (eD _ _)))
structure nX (u v top u2 v1 v2 P:Nat):Prop where
  u_hi:(top*B+u2)*P<=u
  u_lo:u<(top*B+u2+1)*P
  v_hi:(v1*B+v2)*P<=v
  v_lo:v<(v1*B+v2+1)*P
  u2lt:u2<B
  v2lt:v2<B
  big:B<=2*v1
  v1lt:v1<B
theorem nX.two {u v top u2 v1 v2 P q:Nat}(h:nX u v top u2 v1 v2 P)(hq:q*v<=u):q*(v1*B+v2)<=top*B+u2:=by
 have h1:q*((v1*B+v2)*P)<=q*v:=bJ _ h.v_hi
 have h2:q*(v1*B+v2)*P<(top*B+u2+1)*P:=by
  rw[aV];exact bB (aR h1 hq) h.u_lo
 have:=eP h2
 omega
theorem nX.first {u v top u2 v1 v2 P q:Nat}(h:nX u v top u2 v1 v2 P)(hq:q*v<=u):q<=top/v1:=by
 have h1:=h.two hq
 have hu:=h.u2lt
 have hb:=h.big
 rw[aZ,<-aV]at h1
 have h2:q*v1*B<(top+1)*B:=by rw[cQ];omega
 have h3:=eP h2
 rw[Nat.le_div_iff_mul_le (by simp only[B]at hb;omega)]
 omega
theorem nX.down {u v top u2 v1 v2 P q e r:Nat}(h:nX u v top u2 v1 v2 P)(hq:q*v<=u)(he:e*v1+r=top)(ht:r*B+u2<e*v2)(hqe:q<=e):q<=e-1:=by
 rcases eN q e with h1|h1
 ·omega
 have:q=e:=by omega
 subst this;have h2:=h.two hq;rw[aZ,<-aV,<-he,cQ]at h2;omega
theorem nX.small {u v top u2 v1 v2 P:Nat}(h:nX u v top u2 v1 v2 P)(hlt:u<v*B):top/v1<=B+1:=by
 have hb:=h.big
 have hv2:=h.v2lt
 have h1:(top*B+u2)*P<(v1*B+v2+1)*P*B:=bB h.u_hi (aH hlt (aY _ (eM h.v_lo)))
 have h2:(top*B+u2)*P<((v1*B+v2+1)*B)*P:=by rw[Nat.mul_right_comm];exact h1
 have h3:=eP h2
 have h4:(v1*B+v2+1)*B<=(v1*B+B)*B:=aY _ (by omega)
 have h5:top*B<(v1*B+B)*B:=bB (iV _ u2) (aH h3 h4)
 have h6:top<v1*B+B:=eP h5
 have h7:top<(B+2)*v1:=by
  simp only[B]at h6 hb ⊢;omega
 have:=(eC (by simp only[B]at hb;omega)).2 h7
 omega
theorem nX.near {u v top u2 v1 v2 P e r:Nat}(h:nX u v top u2 v1 v2 P)(hP:0<P)(he:e*v1+r=top)(heB:e<=B)(ht:e*v2<=r*B+u2∨B<=r):e*v<u+v:=by
 have hv2:=h.v2lt
 have hbg:=h.big
 have h0:e*v2<=r*B+u2:=by
  rcases ht with ht|ht
  ·exact ht
  have h1:e*v2<=B*B:=cE heB (eM hv2);have h2:B*B<=r*B:=aY _ ht;omega
 have h1:e*(v1*B+v2)<=top*B+u2:=by
  rw[aZ,<-aV,<-he,cQ];omega
 have h2:e*(v1*B+v2)*P<=u:=aR (aY _ h1) h.u_hi
 rcases cC e with rfl|hpos
 ·have h3:1*P<=(v1*B+v2)*P:=aY _ (by simp only[B]at hbg ⊢;omega)
  have:=h.v_hi;omega
 have h3:e*v<e*((v1*B+v2+1)*P):=iH h.v_lo hpos
 have h4:e*((v1*B+v2+1)*P)=e*(v1*B+v2)*P+e*P:=by rw[<-aV,aZ,cQ,dI]
 have h5:e*P<=v:=by
  refine aR (aY P ?_) h.v_hi;simp only[B]at hbg heB ⊢;omega
 omega
structure Est (top v1 q e r:Nat):Prop where
  eq:e*v1+r=top
  ge:q<=e
  le:e<=B+1
theorem Est.start {u v top u2 v1 v2 P q:Nat}(h:nX u v top u2 v1 v2 P)(hq:q*v<=u)(hlt:u<v*B):Est top v1 q (top/v1) (top%v1):=
  ⟨by rw[aT];exact dD _ _,h.first hq,h.small hlt⟩
theorem Est.round {u v top u2 v1 v2 P q e r:Nat}(h:nX u v top u2 v1 v2 P)(hq:q*v<=u)(hqB:q<B)(s:Est top v1 q e r)(ht:B<=e∨r*B+u2<e*v2):Est top v1 q (e-1) (r+v1)/\e-1<=B/\0<e:=by
 have hpos:0<e:=by
  rcases ht with ht|ht
  ·exact aH (by decide) ht
  rcases cC e with rfl|h0
  ·rw[Nat.zero_mul]at ht;exact absurd ht (Nat.not_lt_zero _)
  exact h0
 have hle:=s.le
 refine⟨⟨?_,?_,by omega⟩,by omega,hpos⟩
 ·have he:=s.eq
  obtain⟨d,rfl⟩:∃d,e=d+1:=⟨e-1,by omega⟩;rw[iW];rw[cQ,fJ]at he;omega
 rcases ht with ht|ht
 ·omega
 exact h.down hq s.eq ht s.ge
theorem Est.stop {u v top u2 v1 v2 P q e r:Nat}(h:nX u v top u2 v1 v2 P)(hP:0<P)(hq:q=u/v)(hv:0<v)(s:Est top v1 q e r)(heB:e<=B)(ht:e*v2<=r*B+u2∨B<=r):e=q∨e=q+1:=by
 have h1:=h.near hP s.eq heB ht
 have h2:=s.ge
 have h3:e<q+2:=by
  refine eP (a:=v) ?_;have h4:=Nat.lt_div_mul_add (a:=u) hv;rw[<-hq]at h4;rw[cQ];omega
 omega
theorem aGj {l:List Nat}{m a b:Nat}(hl:l.length=m):val (l++[a,b])=val l+(b*B+a)*B^m:=by
 rw[lG,hl]
 simp only[val,dN,bW]
 rw[aT (B^m),aT B b,gC a]
theorem aHw {l:List Nat}{m a b c:Nat}(hl:l.length=m):val (l++[a,b,c])=val l+((c*B+b)*B+a)*B^m:=by
 rw[lG,hl]
 simp only[val,dN,bW]
 rw[aT (B^m),aT B c,gC b,aT B (c*B+b),gC a]
theorem aMC {us vs:List Nat}{m a b c x y:Nat}(hu:us.length=m)(hv:vs.length=m)(du:Dig us)(dv:Dig vs)(ha:a<B)(hx:x<B)(hy:y<B)(hbig:B<=2*y):
    nX (val (us++[a,b,c])) (val (vs++[x,y])) (c*B+b) a y x (B^m):=by
  have h1:=kR du;have h2:=kR dv;rw[hu]at h1;rw[hv]at h2;rw[aHw hu,aGj hv];refine⟨jO _ _,?_,jO _ _,?_,ha,hx,hbig,hy⟩
  ·rw[cQ _ 1,fJ];omega
  rw[cQ _ 1,fJ];omega
theorem aDA {W V q e low top c bo K z:Nat}(hq:q=W/V)(hV:0<V)(hVK:V<=K)(he:e=q∨e=q+1)(hW:W=low+K*top)(hs:z+e*V=low+K*(c+bo))(_:z<K)(ht:c+bo<=top):
    e=q/\z=W%V/\top=c+bo:=by
  have hm:=dD W V;have hlt:=bL W hV;rw[<-hq,aT]at hm;obtain⟨d,rfl⟩:∃d,top=c+bo+d:=⟨top-(c+bo),by omega⟩;rw[aZ K (c+bo)]at hW
  have h1:e=q:=by
   rcases he with h|h
   ·exact h
   subst h;rw[cQ,fJ]at hs;omega
  subst h1
  have h2:z+K*d=W%V:=by omega
  have h3:d=0:=by
   rcases cC d with h|h
   ·exact h
   have:K*1<=K*d:=bJ _ h;omega
  subst h3;exact⟨rfl,by omega,by omega⟩
theorem aDB {W V q e low top c bo K z:Nat}(hq:q=W/V)(hV:0<V)(hVK:V<=K)(he:e=q∨e=q+1)(hW:W=low+K*top)(hs:z+e*V=low+K*(c+bo))(hz:z<K)(ht:top<c+bo):
    e=q+1/\c+bo=top+1/\z+V=W%V+K:=by
  have hm:=dD W V;have hlt:=bL W hV;rw[<-hq,aT]at hm;obtain⟨d,hd⟩:∃d,c+bo=top+1+d:=⟨c+bo-top-1,by omega⟩;rw[hd,aZ,aZ,dI]at hs
  have h1:e=q+1:=by
   rcases he with h|h
   ·subst h;omega
   exact h
  subst h1;rw[cQ,fJ]at hs
  have h3:d=0:=by
   rcases cC d with h|h
   ·exact h
   have:K*1<=K*d:=bJ _ h;omega
  subst h3;rw[dN]at hs;exact⟨rfl,by omega,by omega⟩
theorem aEW {R V K z z2 c:Nat}(hR:R<V)(hVK:V<=K)(hs:z2+K*c=z+V)(hz:z+V=R+K)(hz2:z2<K):c=1/\z2=R:=by
 have hc:c=1:=by
  rcases Nat.lt_trichotomy c 1 with h|h|h
  ·have:c=0:=by omega
   subst this;omega
  ·exact h
  have:K*2<=K*c:=bJ _ h;omega
 subst hc
 exact⟨rfl,by omega⟩
structure wR (A V L M:Nat)(k:Nat)(us qs:List Nat):Prop where
  len:us.length=L
  dig:Dig us
  rest:val (us.drop k)<V
  qlen:qs.length+k=M
  qdig:Dig qs
  sum:A=val us+B^k*V*val qs
theorem mT (us:List Nat)(k:Nat)(h:k<=us.length):val us=val (us.take k)+B^k*val (us.drop k):=by
 conv=>lhs;rw[<-cY k us,lG,aS,dA h]
theorem tX {xs:List Nat}(h:Dig xs)(k:Nat):Dig (xs.drop k):=λx hx=>h x (iP hx)
theorem tD {xs:List Nat}(h:Dig xs)(k:Nat):Dig (xs.take k):=λx hx=>h x (eS hx)
theorem pT {xs ys:List Nat}(h:Dig xs)(g:Dig ys):Dig (xs++ys):=λx hx=>by
 rcases aK.1 hx with hx|hx
 ·exact h x hx
 exact g x hx
theorem sI {x:Nat}{xs:List Nat}(h:x<B)(g:Dig xs):Dig (x::xs):=λy hy=>by
 rcases bA.1 hy with rfl|hy
 ·exact h
 exact g y hy
theorem rV {us:List Nat}{k:Nat}(h:k<us.length):val (us.drop k)=us[k]+B*val (us.drop (k+1)):=by
 rw[bG h];rfl
theorem aHx {us:List Nat}{n:Nat}(h:val us<B^n)(hn:n<=us.length):val (us.drop n)=0:=by
 have h1:=mT us n hn
 rcases cC (val (us.drop n))with h2|h2
 ·exact h2
 have:B^n*1<=B^n*val (us.drop n):=bJ _ h2
 omega
theorem wR.window {A V L M j n:Nat}{us qs:List Nat}(h:wR A V L M (j+1) us qs)(hV:V<=B^n)(hj:j+n<L)(hn:0<n):
    val (us.drop j)=val ((us.drop j).take n)+B^n*(us.drop j).getD n 0/\val (us.drop j)<V*B/\val (us.drop (j+n+1))=0:=by
  have hl:=h.len;have h0:val (us.drop (j+1))<B^n:=aH h.rest hV
  have h1:val (us.drop (j+n+1))=0:=by
   have:=aHx h0 (by rw[cZ];omega)
   rwa [iX,show j+1+n=j+n+1 by omega]at this
  have h2:=mT (us.drop j) n (by rw[cZ];omega);rw[iX,rV (show j+n<us.length by omega),h1,dN,bW]at h2
  have h3:(us.drop j).getD n 0=us[j+n]'(by omega):=by simp[show j+n<us.length by omega]
  refine⟨by rw[h3];exact h2,?_,h1⟩;rw[rV (show j<us.length by omega)];have h4:=h.dig us[j] (aB _);have h5:=h.rest;have h6:B*(val (us.drop (j+1))+1)<=B*V:=bJ _ h5;rw[aZ,dI]at h6;rw[aT V];omega
theorem wR.next {A V L M j n q:Nat}{us qs zs:List Nat}(h:wR A V L M (j+1) us qs)(hV:V<=B^n)(hj:j+n<L)(hn:0<n)(hq:q=val (us.drop j)/V)(hV0:0<V)(hz:val zs=val (us.drop j)%V)(hzl:zs.length=n)(hzd:Dig zs):
    wR A V L M j (us.take j++(zs++0::us.drop (j+n+1))) (q::qs):=by
  obtain⟨_,hw,h1⟩:=h.window hV hj hn;have hl:=h.len
  have htl:(us.take j).length=j:=by rw[aS];omega
  have hv:val (zs++0::us.drop (j+n+1))=val (us.drop j)%V:=by
   rw[lG,hz];simp[val,h1]
  refine⟨?_,?_,?_,?_,?_,?_⟩
  ·simp only[aC,htl,bP,hzl,cZ];omega
  ·exact pT (tD h.dig _) (pT hzd (sI (by decide) (tX h.dig _)))
  ·rw[gY (by omega),cS (by omega),dB,hv];exact bL _ hV0
  ·rw[bP];have:=h.qlen;omega
  ·refine sI ?_ h.qdig;rw[hq,eC hV0,aT];exact hw
  rw[lG,htl,hv];have hs:=h.sum;rw[mT us j (by omega)]at hs;have hm:=dD (val (us.drop j)) V;rw[<-hq]at hm;simp only[val]
  have e1:B^j*val (us.drop j)=B^j*(V*q)+B^j*(val (us.drop j)%V):=by rw[<-aZ,hm]
  have e2:B^j*V*(q+B*val qs)=B^j*(V*q)+B^(j+1)*V*val qs:=by
   rw[aZ,aV (B^j) V q,bS]
   congr 1
   rw[aV (B^j),aV (B^j),aV (B^j),dZ V,aV B]
  rw[e2];omega
theorem wR.done {A V L M:Nat}{us qs:List Nat}(h:wR A V L M 0 us qs):val qs=A/V/\val us=A%V:=by
 have hs:=h.sum
 have hr:=h.rest
 rw[gS]at hr
 rw[jD,fJ]at hs
 have hV:0<V:=by omega
 constructor
 ·rw[hs,gC,eX hV,cT hr,bW]
 rw[hs,gC,fG,cU hr]
theorem aBM {a b s:Nat}:a*2^s/(b*2^s)=a/b/\a*2^s%(b*2^s)=a%b*2^s:=
  ⟨Nat.mul_div_mul_right _ _ (dE s),jB _ _ _⟩
end Go.Bw
