/- Parts of the proof. -/
import Derived.Test.YtabdoikbodjidaaGreatDoorMBO34
set_option maxHeartbeats 64000000
set_option maxRecDepth 100000
namespace Go.Av
open Go.Pm
def plA (L:Nat)(a:List Int)(p:Nat):Nat:=(a.getD (p/L) 0).toNat*L+(a.getD (p%L) 0).toNat
def lB (im:List (List Int))(L p:Nat):List Nat:=im.map λa=>plA L a p
theorem aEA {L p:Nat}{a:List Int}(h:Perm L a)(hp:p<L*L):plA L a p<L*L:=by
 have hL:0<L:=by rcases cC L with h|h;·subst h;omega
                 exact h
 have h1:=kM h (show p/L<L from dV hp)
 have h2:=kM h (bL p hL)
 unfold plA
 generalize a.getD (p/L) 0=x at*
 generalize a.getD (p%L) 0=y at*
 have h3:x.toNat+1<=L:=by omega
 have h4:=aY L h3
 rw[eV]at h4
 omega
theorem aGU {L p:Nat}{a:List Int}(h:Perm L a)(hp:p<L*L):plA L a p/L=(a.getD (p/L) 0).toNat/\plA L a p%L=(a.getD (p%L) 0).toNat:=by
 have hL:0<L:=by rcases cC L with h|h;·subst h;omega
                 exact h
 have h2:=kM h (bL p hL)
 unfold plA
 generalize a.getD (p/L) 0=x at*
 generalize a.getD (p%L) 0=y at*
 refine⟨?_,?_⟩
 ·rw[aT,eX hL,cT (by omega),bW]
 rw[aT,fG,cU (by omega)]
structure jY (n:Nat)(g l:List (List Int)):Prop where
  n6:n<=6
  grp:Grp n g
  perm:∀a∈g,Perm n a
  nd:g.Nodup
  acts:∀a∈g,lZ n a l
  len:∀m∈l,m.length=n
  bnd:l.Nodup
def jY.im (n:Nat)(g l:List (List Int)):List (List Int):=g.map λa=>img n a l
theorem jY.iperm {n:Nat}{g l:List (List Int)}(h:jY n g l){a:List Int}(ha:a∈g):Perm l.length (img n a l):=
  aAl h.bnd (h.acts a ha) (λ_ hx _ hy e=>aEw (h.perm a ha) (h.len _ hx) (h.len _ hy) e)
theorem jY.cmp {n:Nat}{g l:List (List Int)}(h:jY n g l){a b:List Int}(ha:a∈g)(hb:b∈g){p:Nat}(hp:p<l.length*l.length):plA l.length (img n (cmp a b) l) p=plA l.length (img n a l) (plA l.length (img n b l) p):=by
 have hL:0<l.length:=by
  rcases cC l.length with h|h
  ·rw[h]at hp;omega
  exact h
 obtain⟨h1,h2⟩:=aGU (h.iperm hb) hp
 rw[plA,xD (h.perm a ha) (h.perm b hb) (h.acts b hb) (dV hp),xD (h.perm a ha) (h.perm b hb) (h.acts b hb) (bL p hL)]
 unfold plA at h1 h2 ⊢
 rw[h1,h2]
theorem jY.unit {n:Nat}{g l:List (List Int)}(h:jY n g l){p:Nat}(hp:p<l.length*l.length):plA l.length (img n (unit n) l) p=p:=by
 have hL:0<l.length:=by
  rcases cC l.length with h|h
  ·rw[h]at hp;omega
  exact h
 unfold plA
 rw[uD h.len h.bnd (dV hp),uD h.len h.bnd (bL p hL)]
 show(p/l.length)*l.length+p%l.length=p
 rw[aT];exact dD p l.length
theorem jY.back {n:Nat}{g l:List (List Int)}(h:jY n g l){b:List Int}(hb:b∈g):∃c∈g,∀p,p<l.length*l.length->plA l.length (img n c l) (plA l.length (img n b l) p)=p:=by
 obtain⟨c,hc,e⟩:=aAb h.n6 h.grp h.perm hb
 refine⟨c,hc,λp hp=>?_⟩
 rw[<-h.cmp hc hb hp,e,h.unit hp]
theorem jY.self {n:Nat}{g l:List (List Int)}(h:jY n g l){p:Nat}(hp:p<l.length*l.length):p∈lB (jY.im n g l) l.length p:=
  aM.2 ⟨_,aM.2 ⟨_,h.grp.1,rfl⟩,h.unit hp⟩
theorem uJ (n:Nat)(g l:List (List Int))(p:Nat):lB (jY.im n g l) l.length p=g.map λa=>plA l.length (img n a l) p:=by
 unfold lB jY.im
 rw[List.map_map]
 rfl
theorem sQ {α β:Type}[DecidableEq β](f:α->β)(q:β):∀l:List α,(l.map f).count q=(l.filter λa=>decide (f a=q)).length
  |[]=>rfl
  |x::l=>by
   rw[fH,List.count_cons,sQ f q l,List.filter_cons]
   by_cases h:f x=q
   ·simp[h]
   simp[h]
theorem aCm {n:Nat}{a b c:List Int}(ha:Perm n a)(hb:Perm n b)(hc:Perm n c)(h:cmp a b=cmp a c):b=c:=by
 refine pC (by rw[hb.1,hc.1]) λi hi=>?_
 rw[hb.1]at hi
 have h1:=bK (λx=>x.getD i 0) h
 simp only[oL a b (by rw[hb.1];exact hi),oL a c (by rw[hc.1];exact hi)]at h1
 have b1:=kM hb hi
 have c1:=kM hc hi
 have:=vZ ha (show(b.getD i 0).toNat<n by omega) (show(c.getD i 0).toNat<n by omega) h1
 omega
theorem jY.count_le {n:Nat}{g l:List (List Int)}(h:jY n g l){b:List Int}(hb:b∈g){p r:Nat}(hr:r<l.length*l.length):(lB (jY.im n g l) l.length r).count p<=(lB (jY.im n g l) l.length r).count (plA l.length (img n b l) p):=by
 rw[uJ,sQ,sQ]
 rw[<-aI (f:=Go.Pm.cmp b)]
 refine List.Nodup.length_le_of_subset ?_ ?_
 ·have h1:(g.filter λa=>decide (plA l.length (img n a l) r=p)).Nodup:=h.nd.filter _
  refine dU.2 (List.Pairwise.imp_of_mem ?_ h1);intro x y hx hy hne e;exact hne (aCm (h.perm b hb) (h.perm x ((cM.1 hx).1)) (h.perm y ((cM.1 hy).1)) e)
 intro x hx
 obtain⟨a,ha,rfl⟩:=aM.1 hx;obtain⟨ha1,ha2⟩:=cM.1 ha;refine cM.2 ⟨h.grp.2 b hb a ha1,dT ?_⟩;rw[h.cmp hb ha1 hr,dQ ha2]
theorem jY.count {n:Nat}{g l:List (List Int)}(h:jY n g l){r:Nat}(hr:r<l.length*l.length):∀q∈lB (jY.im n g l) l.length r,(lB (jY.im n g l) l.length r).count q=(lB (jY.im n g l) l.length r).count r:=by
 intro q hq
 rw[uJ]at hq
 obtain⟨b,hb,rfl⟩:=aM.1 hq
 obtain⟨c,hc,hcb⟩:=h.back hb
 refine Nat.le_antisymm ?_ (h.count_le hb hr)
 have:=h.count_le hc (p:=plA l.length (img n b l) r) hr
 rwa [hcb r hr]at this
def mean (f:Nat->Rat)(im:List (List Int))(L p:Nat):Rat:=sm f (kD (lB im L p))/((kD (lB im L p)).length:Rat)
theorem jY.mean {n:Nat}{g l:List (List Int)}(h:jY n g l)(f:Nat->Rat){p:Nat}(hp:p<l.length*l.length):mean f (jY.im n g l) l.length p=sm (λa=>f (plA l.length (img n a l) p)) g/(g.length:Rat):=by
 have h1:=aGT f (l:=lB (jY.im n g l) l.length p) (λe=>by have:=h.self hp;rw[e]at this;exact absurd this (by simp)) (h.count hp)
 unfold Go.Av.mean
 rw[h1,uJ,aIQ,aI]
theorem jY.right {n:Nat}{g l:List (List Int)}(h:jY n g l){b:List Int}(hb:b∈g):(g.map λa=>Go.Pm.cmp a b).Perm g:=by
 have hi:∀x∈g,∀y∈g,Go.Pm.cmp x b=Go.Pm.cmp y b->x=y:=λx hx y hy e=>by
  obtain⟨c,hc,e1⟩:=aAb h.n6 h.grp h.perm hb;obtain⟨d,hd,e2⟩:=aAb h.n6 h.grp h.perm hc;have h3:=lS (n:=n) (a:=d) (b:=c) (c:=b) (h.perm c hc).1 (h.perm b hb);rw[e2,e1,oM (h.perm b hb),oB (h.perm d hd).1]at h3;subst h3;have h4:=lS (n:=n) (a:=x) (b:=b) (c:=c) (h.perm b hb).1 (h.perm c hc);have h5:=lS (n:=n) (a:=y) (b:=b) (c:=c) (h.perm b hb).1 (h.perm c hc);rw[e2,oB (h.perm x hx).1,e]at h4;rw[e2,oB (h.perm y hy).1]at h5;exact h4.symm.trans h5
 have hnd:(g.map λa=>Go.Pm.cmp a b).Nodup:=by
  refine dU.2 (List.Pairwise.imp_of_mem ?_ h.nd);intro x y hx hy hne e;exact hne (hi x hx y hy e)
 have hsub:(g.map λa=>Go.Pm.cmp a b) ⊆ g:=λx hx=>by
  obtain⟨a,ha,rfl⟩:=aM.1 hx;exact h.grp.2 a ha b hb
 refine(List.perm_ext_iff_of_nodup hnd h.nd).2 λx=>⟨λhx=>hsub hx,λhx=>?_⟩
 apply cW
 intro hno
 have h1:(x::g.map λa=>Go.Pm.cmp a b).Nodup:=fK.2 ⟨hno,hnd⟩
 have:=h1.length_le_of_subset (l₂:=g) (λy hy=>by
  rcases bA.1 hy with rfl|hy
  ·exact hx
  exact hsub hy)
 rw[bP,aI]at this
 omega
theorem jY.mean_const {n:Nat}{g l:List (List Int)}(h:jY n g l)(f:Nat->Rat){p q:Nat}(hp:p<l.length*l.length)(hq:q∈lB (jY.im n g l) l.length p):Go.Av.mean f (jY.im n g l) l.length q=Go.Av.mean f (jY.im n g l) l.length p:=by
 rw[uJ]at hq
 obtain⟨b,hb,rfl⟩:=aM.1 hq
 rw[h.mean f hp,h.mean f (aEA (h.iperm hb) hp)]
 congr 1
 refine Eq.trans ?_ (aLV (h.right hb))
 rw[aIQ]
 exact xR λa ha=>by rw[h.cmp ha hb hp]
theorem jY.orbit_lt {n:Nat}{g l:List (List Int)}(h:jY n g l){p q:Nat}(hp:p<l.length*l.length)(hq:q∈lB (jY.im n g l) l.length p):q<l.length*l.length:=by
 rw[uJ]at hq
 obtain⟨b,hb,rfl⟩:=aM.1 hq
 exact aEA (h.iperm hb) hp
def done (im:List (List Int))(L k p:Nat):Bool:=(List.range k).any λj=>decide (p∈lB im L j)
theorem aGV (im:List (List Int))(L p:Nat):done im L 0 p=false:=rfl
theorem xS (im:List (List Int))(L k p:Nat):done im L (k+1) p=(done im L k p||decide (p∈lB im L k)):=by
 unfold done
 rw[bT,List.any_append]
 simp
theorem jY.done_iff {n:Nat}{g l:List (List Int)}(h:jY n g l){k:Nat}(hk:k<l.length*l.length)(hd:done (jY.im n g l) l.length k k=true){p:Nat}(hp:p∈lB (jY.im n g l) l.length k):done (jY.im n g l) l.length k p=true:=by
 unfold done at hd ⊢
 rw[List.any_eq_true]at hd ⊢
 obtain⟨j,hj,hj2⟩:=hd
 have hj3:=bD.1 hj
 refine⟨j,hj,dT ?_⟩
 have h2:=dQ hj2
 rw[uJ]at h2 hp ⊢
 obtain⟨b,hb,e⟩:=aM.1 h2
 obtain⟨a,ha,rfl⟩:=aM.1 hp
 refine aM.2 ⟨Go.Pm.cmp a b,h.grp.2 a ha b hb,?_⟩
 rw[h.cmp ha hb (by omega),e]
theorem jY.done_skip {n:Nat}{g l:List (List Int)}(h:jY n g l){k:Nat}(hk:k<l.length*l.length)(hd:done (jY.im n g l) l.length k k=true)(p:Nat):done (jY.im n g l) l.length (k+1) p=done (jY.im n g l) l.length k p:=by
 rw[xS]
 by_cases hp:p∈lB (jY.im n g l) l.length k
 ·rw[h.done_iff hk hd hp];rfl
 rw[dF hp,Bool.or_false]
theorem jY.done_all {n:Nat}{g l:List (List Int)}(h:jY n g l){p:Nat}(hp:p<l.length*l.length):done (jY.im n g l) l.length (l.length*l.length) p=true:=by
 unfold done
 rw[List.any_eq_true]
 exact⟨p,bD.2 hp,dT (h.self hp)⟩
theorem aAp {α:Type}[DecidableEq α](l:List α):(kD l).length<=l.length:=by
 refine List.Nodup.length_le_of_subset (sP l) λx hx=>(nH l x).1 hx
end Go.Av
section
namespace Go.Rq
theorem aIT:qtx 0=⟨#[48]⟩:=by decide+kernel
theorem aIU (q:Rat):(qtx q).toList.isEmpty=false:=by
 unfold qtx
 rw[Go.Proofs.Tg.jW]
 have h:0<(Go.Lib.decDigits q.num.natAbs).length:=fF.2 (Go.Qn.pS _)
 cases hl:Go.Qn.lN (decide (q.num<0)) q.num.natAbs q.den with
 |nil=>
  unfold Go.Qn.lN at hl;have:=bK List.length hl;rw[aC,aC,List.length_nil]at this;omega
 |cons a l=>rfl
end Go.Rq
namespace Go.Av
open Go.Pm Go.Rq Go.Proofs.Tg.Fi
def avP (f:Nat->Rat)(im:List (List Int))(L k:Nat)(S:List Nat)(p:Nat):Value:=if p∈S then vq (mean f im L k)else if done im L k p=true then vq (mean f im L p)else .string ⟨#[]⟩
def avR (f:Nat->Rat)(im:List (List Int))(L N k:Nat)(S:List Nat):List Value:=(List.range N).map (avP f im L k S)
theorem aLX (f:Nat->Rat)(im:List (List Int))(L N k:Nat)(S:List Nat):(avR f im L N k S).length=N:=by simp[avR]
theorem aIV (f:Nat->Rat)(im:List (List Int))(L N:Nat):avR f im L N 0 []=List.replicate N (.string ⟨#[]⟩):=by
 refine dJ (by simp[avR]) λp h1 h2=>?_
 simp[avR,avP,aGV]
theorem aLY (f:Nat->Rat)(im:List (List Int))(L N k:Nat)(S:List Nat)(p:Nat):(avR f im L N k S).set p (vq (mean f im L k))=avR f im L N k (S++[p]):=by
 refine dJ (by simp[avR]) λq h1 h2=>?_
 rw[List.getElem_set]
 by_cases e:p=q
 ·subst e
  simp[avR,avP]
 have e2:¬q=p:=λh=>e h.symm
 simp[avR,avP,e,e2]
theorem aIW {n:Nat}{g l:List (List Int)}(h:jY n g l)(f:Nat->Rat){k:Nat}(hk:k<l.length*l.length):avR f (jY.im n g l) l.length (l.length*l.length) k (kD (lB (jY.im n g l) l.length k))=avR f (jY.im n g l) l.length (l.length*l.length) (k+1) []:=by
 unfold avR
 refine dK λp hp=>?_
 unfold avP
 by_cases hm:p∈lB (jY.im n g l) l.length k
 ·rw[aQ ((nH _ _).2 hm),aJ (by simp),xS,dT hm,Bool.or_true,aQ rfl,h.mean_const f hk hm]
 rw[aJ (λh2=>hm ((nH _ _).1 h2)),aJ (show ¬p∈([]:List Nat) by simp),xS,dF hm,Bool.or_false]
theorem aIX {n:Nat}{g l:List (List Int)}(h:jY n g l)(f:Nat->Rat){k:Nat}(hk:k<l.length*l.length)(hd:done (jY.im n g l) l.length k k=true):avR f (jY.im n g l) l.length (l.length*l.length) (k+1) []=avR f (jY.im n g l) l.length (l.length*l.length) k []:=by
 unfold avR
 refine dK λp hp=>?_
 unfold avP
 rw[h.done_skip hk hd]
 rfl
theorem aLZ {n:Nat}{g l:List (List Int)}(h:jY n g l)(f:Nat->Rat):avR f (jY.im n g l) l.length (l.length*l.length) (l.length*l.length) []=((List.range (l.length*l.length)).map (mean f (jY.im n g l) l.length)).map vq:=by
 unfold avR
 rw[List.map_map]
 refine dK λp hp=>?_
 unfold avP
 rw[aJ (by simp),h.done_all (bD.1 hp),aQ rfl]
 rfl
theorem aNU (f:Nat->Rat)(im:List (List Int))(L N k:Nat){p:Nat}(hp:p<N):(avR f im L N k [])[p]?=some (if done im L k p=true then vq (mean f im L p)else .string ⟨#[]⟩):=by
 simp[avR,avP,hp]
end Go.Av
end
namespace Go.Proofs.Tg.Bk
open Go.RowKit Go.Gr Go.Sp Go.Ev Go.Pm Go.Mo
open Go.Proofs.Tg.Gp (lQ jU lF lO kS)
theorem aGP {w:World}{g:Nat}{t:TypeId}{cs:List Value}(h:Blk w g t cs.toArray):∀j u,cs[j]?=some u->w.cell? ((⟨g,0,none⟩:Addr).add j)=some u:=by
 intro j u hu
 rw[kI,bN,h.cell]
 simpa using hu
theorem aII {c:Nat}{im:List (List Int)}{L k:Nat}{r:List Int}(h:r∈qE c im L k):r.length=L:=by
 obtain⟨i,_,hi⟩:=List.mem_filterMap.1 h
 exact aGK hi
theorem aLT {c:Nat}{im:List (List Int)}{L:Nat}(hs:aLL c im L){r:List Int}(h:r∈qE c im L L):∀x∈r,Sg x:=by
 obtain⟨i,hi,hr⟩:=List.mem_filterMap.1 h
 exact hs i (bD.1 hi) r hr
theorem aIJ (c:Nat)(im:List (List Int))(L:Nat):(qE c im L L).length<=L:=by
 have:=List.length_filterMap_le (tK c im L) (List.range L)
 rwa [dS]at this
theorem aCW (A B:Option Addr)(cA cB:Nat)(l b:List (List Int))(w:World)(hA:jV w A l)(hB:jV w B b)(hl:l.length<=6)(hb:b.length<=1000)(hll:∀x∈l,x.length<=1000)(hbb:∀x∈b,x.length<=1000)(hT:PT w)
    (hs:adE l b=0->∀c,c<(aEu (adN l b) l b).length->aLL c (aEu (adN l b) l b) b.length):
    Calls Tryz.prog 18 #[.slice A l.length cA,.slice B b.length cB] w (aAm l b w):=by
  have HA:=zh hA;have HB:=zh hB;have HT:=zh hT;have HCK:=zh (aLR A B cA cB l b w hA hB (by omega) hb hll hbb);have HS:=zh hs;clear hA hB hll hbb hT hs
  by_cases hz:chE l b=0
  ·obtain⟨hpl,hn6,hdb,hb0,hb64⟩:=aCV hz;have HZ:=zh hz
   have HCK2:Hid (Calls Tryz.prog 40 #[.slice A l.length cA,.slice B b.length cB] w λe w'=>e=.returned (.tuple #[.int .i64 (adN l b),.int .i64 0])/\Below w.heap.size w w'):=zh (HCK.o.mono (λe w' h=>by
    obtain⟨h1,n,h2,h3⟩:=h;rw[h3 hz,hz]at h2
    exact⟨h2,h1⟩))
   have HPL:=zh hpl;have HDB:=zh hdb;clear HCK hz hpl hdb
   by_cases hnd:b.Nodup
   ·have HND:=zh hnd
    have HE11:Hid (¬aBx (adN l b) l->adE l b=11):=zh (λh=>by
     unfold adE
     rw[aJ (by rw[HZ.o];simp),aJ (λh=>h hnd),aQ h])
    have HE8:Hid (aBx (adN l b) l->(∃p∈kJ (adN l b) l,¬lZ (adN l b) p b)->adE l b=8):=zh (λh h2=>by
     unfold adE
     rw[aJ (by rw[HZ.o];simp),aJ (λh=>h hnd),aJ (λh3=>h3 h),aQ h2])
    have HE0:Hid (aBx (adN l b) l->(∀p∈kJ (adN l b) l,lZ (adN l b) p b)->adE l b=0):=zh (λh h2=>by
     unfold adE
     rw[aJ (by rw[HZ.o];simp),aJ (λh=>h hnd),aJ (λh3=>h3 h),aJ (by
      rintro⟨p,hp,hn⟩
      exact hn (h2 p hp))])
    unfold aAm;generalize adN l b=n at*
    have HPO:Hid (∀W,jV W B b->Calls Tryz.prog 41 #[.slice B b.length cB] W λe w'=>Below W.heap.size W w'/\∃mp,e=.returned (.tuple #[.map (some mp),.bool true])/\rS w' mp b.length n b/\W.heap.size<=mp):=
      zh (λW h=>(rT B cB n b true W h HDB.o hn6 hb ⟨λ_=>HND.o,λ_=>rfl⟩).mono (by
       rintro e w' ⟨h1,⟨h2,_⟩|⟨_,h2⟩⟩
       ·cases h2
       exact⟨h1,h2⟩))
    have HNS:=zh (λV=>aEl n V hn6);clear hnd;go_enter Tryz.func18,Tryz.ntmps18
    go_wp2_with (first
      |(go_at_call 40;refine HCK2.o.mono ?_;rintro e w1 ⟨rfl,hb1⟩)
      |(go_at_call 41;refine(HPO.o _ (HB.o.keep hb1)).mono ?_;rintro e w2 ⟨hb2,mp,rfl,hM2,hmp⟩)
      |(go_at_call 42;refine(HNS.o _).mono ?_;rintro e w3 ⟨gs,mb,v,rs,S,rfl,hsub,hb3⟩))
    have HSUB0:Hid (aPm w2 w2.heap.size n l w3 gs mb 0):=zh ⟨hb3,⟨v,rs,S,by simpa using hsub⟩,λj _ h=>absurd h (by omega)⟩;have hb02:=dW hb1 hb2;have hmpl:=hM2.lt;have HM2:=zh hM2;clear hsub hb3 hM2 HPO HNS HCK2
    go_loopw [43] (λs43 wr=>∃k:Nat,s43=.int .i64 k/\k<=l.length/\Hid (aPm w2 w2.heap.size n l wr gs mb k)) (λs43 _=>l.length-(intOf s43).toNat)
    case atStart=>exact⟨0,rfl,aW _,HSUB0⟩
    case round=>
     clear HSUB0;obtain⟨wo,rfl⟩:∃wo:World,wo=wr:=⟨_,rfl⟩;obtain⟨k,rfl,hk,HST⟩:=hrel;have hbo:=HST.o.below;have hbw:=hb02.trans (hbo.mono hb02.size)
     by_cases hkl:k<l.length
     ·obtain⟨ad,E,ce,rfl,hc0,hE⟩:=HA.o.at hkl;have hpk:=HPL.o l[k] (aB _);rw[hpk.1.1]at hc0;have hc:=gL hbw hc0
      have q0:(0:Int)<=(k:Int):=by omega
      have q1:(k:Int)<(l.length:Int):=by omega
      have q3:((k:Int)).toNat=k:=by omega
      obtain⟨q,hq⟩:∃q:Bool,q=true↔l[k]∉kJ n (l.take k)/\∀b∈l.take k,cmp l[k] b=cmp b l[k]:=by classical exact⟨decide _,gR⟩
      obtain⟨hS,hN⟩:=aLS (λa ha=>⟨(HPL.o a ha).1,(HPL.o a ha).2.1⟩) (eM hkl) HST.o.ok;obtain⟨v,rs,S,hsub⟩:=HST.o.sub;have HTK:Hid (l.take (k+1)=l.take k++[l[k]]):=zh (aD hkl)
      have HADD:=zh (aNr E ce w2.heap.size n gs mb l[k] (l.take k) v rs S q wo (hE.keep hbw) hpk.1 hn6 hS (by rw[aS];omega) hsub hbo.size hq (λh2=>(hS.nodup_snoc hN hpk.1 hpk.2.1).2 (hq.1 h2).1) (λh0 ad' h1=>by
       obtain⟨ad2,e2,h3,_⟩:=hE.lies (by rw[hpk.1.1];exact h0);rw[e2]at h1
       injection h1 with h1
       rw[<-h1]
       exact aH h3 hb02.size))
      have HOK:Hid (q=true->∀j (h:j<l.length),j<k+1->l[j]∉kJ n (l.take j)/\∀b∈l.take j,cmp l[j] b=cmp b l[j]):=zh (λhq2 j h hj=>by
       by_cases he:j=k
       ·subst he;exact hq.1 hq2
       exact HST.o.ok j h (by omega))
      have HBAD:Hid (q=false->adE l b=11):=zh (λhq2=>HE11.o (λh=>by
       have:=hq.2 (h k hkl);rw[hq2]at this
       cases this))
      clear hpk hq hS hN hsub hE hc0;generalize l[k]=x at*
      cases q with
      |false=>
       have HB2:=zh (HBAD.o rfl);clear HBAD HOK
       go_wp2_with (go_at_call 43;refine HADD.o.mono ?_;rintro e w4 ⟨rfl,hb4,hf4,_,_⟩)
       go_ret2
       refine⟨hb02.trans (hbo.trans hb4 |>.mono hb02.size),.inl ⟨by rw[HB2.o];decide,by rw[HB2.o];rfl⟩⟩
      |true=>
       have HO2:=zh (HOK.o rfl);clear HBAD HOK
       go_wp2_with (go_at_call 43;refine HADD.o.mono ?_;rintro e w4 ⟨rfl,hb4,hf4,_,hyes⟩
                    have HYES:=zh hyes
                    clear hyes)
       go_roundw
       case rel=>
        obtain⟨v',rs',S',h1,_⟩:=HYES.o (by trivial);exact⟨k+1,by go_num,by omega,zh ⟨hbo.trans hb4,⟨v',rs',S',by rw[HTK.o];exact h1⟩,HO2.o⟩⟩
       case measure=>simp[intOf];omega
     obtain rfl:k=l.length:=by omega
     have HIND:Hid (aBx n l):=zh (λj hj=>HST.o.ok j hj hj);obtain⟨v,rs,S,hsub⟩:=HST.o.sub;rw[eE]at hsub;have HPP:Hid (∀p∈kJ n l,Perm n p):=zh (oY (λa ha=>(HPL.o a ha).1))
     have hP64:(kJ n l).length<=64:=by
      rw[qA];have:2^l.length<=2^6:=aP (by omega) hl;exact this
     have HIMG:Hid (aEu n l b=(kJ n l).map λp=>img n p b):=zh rfl;have HE8:Hid ((∃p∈kJ n l,¬lZ n p b)->adE l b=8):=zh (HE8.o HIND.o);have HE0:Hid ((∀p∈kJ n l,lZ n p b)->adE l b=0):=zh (HE0.o HIND.o);obtain⟨im,him⟩:=eqx (aEu n l b);rw[him]at HIMG HS;have HIM:=zh him;clear him;generalize kJ n l=P at*;have hrsE:=bK List.length hsub.eq;rw[aI]at hrsE;have HRE:=zh hrsE;have HEQ:=zh hsub.eq;have HRW:=zh hsub.rows;obtain⟨od,cap,hv,hSl0,_,_⟩:=hsub.que.sl;rw[aI]at hv;subst hv;have HSL:=zh hSl0;obtain⟨x0,x1,f0,f1⟩:=hsub.box.two;have hgsl:=hsub.box.lt
     have hrs64:rs.length<=64:=by omega
     have hmk:=uI rs.length (by omega) wo;have B0:=Blk.new wo 22 (madeCells #[.slice none 0 0] rs.length);have hal:=dX (bM wo.heap.size wo) (aA _) (.cells (madeCells #[.slice none 0 0] rs.length) 22);have x0':=gL hal x0;have H0:Hid (aLK wo n P b (wo.alloc (.cells (madeCells #[.slice none 0 0] rs.length) 22)) wo.heap.size 0 []):=zh ⟨hal,by rw[oJ]at B0 ⊢;rw[<-hrsE];simpa using B0,λr hr=>absurd hr (by simp),by simp,λj _ h=>absurd h (by omega),aA _⟩;have HMo:=zh (HM2.o.below hbo hmpl);clear hsub hSl0 B0 HST hrsE;generalize hW:wo.alloc (.cells (madeCells #[.slice none 0 0] rs.length) 22)=W at*;go_wp2;clear hmk hW x0 x1 x0' f0 f1 hal
     go_loopw [63] (λs63 wr=>∃(k:Nat) (qs:List lQ),s63=.int .i64 k/\k<=rs.length/\Hid (aLK wo n P b wr wo.heap.size k qs)) (λs63 _=>rs.length-(intOf s63).toNat)
     case atStart=>exact⟨0,[],rfl,aW _,H0⟩
     case round=>
      clear H0;obtain⟨wi,rfl⟩:∃wi:World,wi=wr:=⟨_,rfl⟩;obtain⟨k,qs,rfl,hk,HST⟩:=hrel;have hbi:=HST.o.below;have hbwi:=dW hbw hbi
      by_cases hkl:k<rs.length
      ·have hkP:k<P.length:=by rw[<-HRE.o];exact hkl
       obtain⟨od',hod',z2'⟩:=Sl.at1 (HSL.o.keep hbi) (show k<(rs.map (jU n)).length by simpa using hkl)
       injection hod' with hod'
       subst hod'
       have z2:wi.cell? (od.add k)=some (.slice (some ⟨(rs[k]).1,0,none⟩) n n):=by simpa[jU]using z2'
       have hr2:rs[k].2=P[k]:=by
        have h1:(rs.map Prod.snd)[k]?=some P[k]:=by rw[HEQ.o];exact aF hkP
        rw[cK,aF hkl]at h1;simpa using h1
       have hrb:=(HRW.o rs[k] (aB _)).keep hbi (HRW.o rs[k] (aB _)).lt;rw[hr2]at hrb;have hpk:=HPP.o P[k] (aB _)
       have q0:(0:Int)<=(k:Int):=by omega
       have q1:(k:Int)<(rs.length:Int):=by omega
       have q3:((k:Int)).toNat=k:=by omega
       have HSTAR:=zh (aCS (some ⟨(rs[k]).1,0,none⟩) B n cB n mp b.length P[k] b wi (lO hrb hpk.1 hn6) hpk (HB.o.keep hbwi) HDB.o hn6 hb HND.o (HMo.o.below hbi (aH hmpl hbo.size)));have HTK:Hid ((P.take (k+1)).map (λa=>img n a b)=(P.take k).map (λa=>img n a b)++[img n P[k] b]):=zh (by rw[aD hkP,bH];rfl)
       have HLN:Hid (qs.length=k):=zh (by
        have:=bK List.length HST.o.eq;rw[aI,aI,aS]at this
        omega)
       by_cases hact:lZ n P[k] b
       ·have HSTY:=zh (HSTAR.o.mono λ_ _ h=>h.yes hact);clear HSTAR
        have hq4:∀V,Below wi.heap.size wi V->Blk V wo.heap.size 22 (qs.map (jU b.length)++List.replicate (P.length-k) (Value.slice none 0 0)).toArray:=λV h=>HST.o.blk.keep h HST.o.blk.lt
        obtain⟨old,hold⟩:∃old,(qs.map (jU b.length)++List.replicate (P.length-k) (Value.slice none 0 0))[k]?=some old:=⟨_,aF (by
         have:=HLN.o
         simp;omega)⟩
        have HOLD:=zh hold;have HQ4:=zh hq4
        have HYES:Hid (∀j (h:j<P.length),j<k+1->lZ n P[j] b):=zh (λj h hj=>by
         by_cases he:j=k
         ·subst he;exact hact
         exact HST.o.acts j h (by omega))
        have hqlt:=HST.o.blk.lt;have HNE:Hid (wi.heap.size≠wo.heap.size):=zh (by omega);clear hq4 hold hact z2' hr2 hrb hpk;generalize P[k]=x at*;generalize rs[k].1=gk at*
        go_wp2_with (go_at_call 44;refine HSTY.o.mono ?_;rintro e w4 ⟨hb4,rfl,hB4⟩
                     have c0:=(HQ4.o w4 hb4).cell k;have f0:=(HQ4.o w4 hb4).frozen k;rw[eB,HOLD.o]at c0;have HB4:=zh hB4
                     clear hB4)
        go_roundw
        case rel=>
         have hq4:=HQ4.o w4 hb4;refine⟨k+1,qs++[(wi.heap.size,img n x b)],by go_num,by omega,zh ⟨hJ (dW hbi hb4) (aA _) _ _,?_,λr hr=>?_,?_,HYES.o,aA _⟩⟩
         ·have h1:=hq4.set k (.slice (some ⟨wi.heap.size,0,none⟩) b.length b.length);rw[fT]at h1;have h2:=xN (qs.map (jU b.length)) (P.length-k) (.slice none 0 0) (.slice (some ⟨wi.heap.size,0,none⟩) b.length b.length) (by omega);rw[aI,HLN.o]at h2;rw[h2]at h1;rw[bH,Nat.sub_add_eq];exact h1
         ·rcases aK.1 hr with h|h
          ·have h3:=HST.o.rows r h;have h4:=h3.keep hb4 h3.lt;exact h4.far (λe=>aCP h4 hq4 (by decide) e) _
          rw[aN.1 h];exact HB4.o.far HNE.o _
         rw[bH,HST.o.eq,HTK.o];rfl
        case measure=>simp[intOf];omega
       have HSTN:=zh (HSTAR.o.mono λ_ _ h=>h.no hact);clear HSTAR;have he:=zh (HE8.o ⟨_,aB hkP,hact⟩);clear hact z2' hr2 hrb hpk;generalize P[k]=x at*;generalize rs[k].1=gk at*
       go_wp2_with (go_at_call 44;refine HSTN.o.mono ?_;rintro e w4 ⟨hb4,rfl⟩)
       go_ret2
       exact⟨dW hbwi hb4,.inl ⟨by rw[he.o];decide,by rw[he.o];rfl⟩⟩
      obtain rfl:k=rs.length:=by omega
      have HER:Hid (adE l b=0):=zh (HE0.o (λp hp=>by
       obtain⟨j,hj,rfl⟩:=bI hp
       exact HST.o.acts j hj (by rw[HRE.o];exact hj)))
      have hBq:=HST.o.blk;rw[HRE.o,cP,fE,eA]at hBq
      have hLS:=nP hBq HST.o.rows (λr hr=>by
       have h1:r.2∈qs.map Prod.snd:=gW hr;rw[HST.o.eq]at h1;obtain⟨a,_,h2⟩:=aM.1 h1
       rw[<-h2,zN])
      rw[HST.o.eq,HRE.o,eE,<-HIMG.o]at hLS;have HLS:=zh hLS
      have himl:im.length=rs.length:=by rw[HIMG.o,aI,HRE.o]
      have HSG:=zh (HS.o HER.o)
      have HPI:Hid (∀p∈im,Perm b.length p):=zh (λp hp=>by
       rw[HIMG.o]at hp;obtain⟨a,ha,rfl⟩:=aM.1 hp;obtain⟨j,hj,rfl⟩:=bI ha;have hpj:=HPP.o P[j] (aB _)
       exact aAl HND.o (HST.o.acts j hj (by rw[HRE.o];exact hj)) (λx hx y hy h=>aEw hpj (HDB.o x hx).1 (HDB.o y hy).1 h))
      have HTi:=zh (HT.o.keep hbwi);have HSW:=zh hbwi;obtain⟨j1,hj1,hjw0,hjw1,hjw2⟩:=info_parts aIH;clear hBq hLS HE8 HE0 HMo HSL HRW HEQ HS;have H0:Hid (aEx wi wi.heap.size b.length im wi 0 none 0 []):=zh ⟨bM _ _,dR _ _ _ _,λc hc=>absurd hc (by simp),by simp[yR]⟩;have hwo:=hbi.size;have HIL:=zh himl;go_wp2
      go_loopw [18,84] (λs18 s84 wr=>∃(k:Nat) (A2:Option Addr) (c2:Nat) (cs:List CV),s84=.int .i64 k/\k<=rs.length/\s18=.slice A2 cs.length c2/\Hid (aEx wi wi.heap.size b.length im wr k A2 c2 cs)) (λ_ s84 _=>rs.length-(intOf s84).toNat)
      case atStart=>exact⟨0,none,0,[],rfl,aW _,rfl,H0⟩
      case round=>
       clear H0;obtain⟨wc,rfl⟩:∃wc:World,wc=wr:=⟨_,rfl⟩;obtain⟨k,A2,c2,cs,rfl,hk,rfl,HCS⟩:=hrel;have hbc:=HCS.o.below
       by_cases hkl:k<rs.length
       ·have q0:(0:Int)<=(k:Int):=by omega
        have q1:(k:Int)<(rs.length:Int):=by omega
        have q3:((k:Int)).toNat=k:=by omega
        have hsgk:=HSG.o k (by rw[HIL.o];exact hkl);have HSK:=zh hsgk
        have HAR:Hid (Calls Tryz.prog 45 #[.int .i64 k,.slice (some ⟨wo.heap.size,0,none⟩) rs.length rs.length,.int .i64 b.length] wc (aNw b.length k im wc)):=zh (by
         have:=aEq (some ⟨wo.heap.size,0,none⟩) rs.length k b.length im wc (HLS.o.keep hbc) HPI.o (by rw[HIL.o];exact hrs64) hb64 (by omega) hsgk (HTi.o.keep hbc)
         rwa [HIL.o]at this)
        have HCG:=zh (aEv im b.length k);have HTF:=zh (aIJ k im b.length);clear hsgk
        by_cases h0:0<(qE k im b.length b.length).length
        ·rw[aQ h0]at HCG;have H0:=zh h0
         have hcsl:cs.length<=k:=by
          have h1:=bK List.length HCS.o.eq;rw[aI]at h1
          have h2:(yR im b.length k).length<=k:=by
           unfold yR;have:=List.length_filter_le (λr:List (List Int)=>decide (0<r.length)) ((List.range k).map λc=>qE c im b.length b.length)
           rwa [aI,dS]at this
          omega
         clear h0
         go_upto_region 28 with(go_at_call 45;refine HAR.o.mono ?_;rintro e w5 ⟨A5,c5,ts,rfl,h5⟩)
         have htl:ts.length=(qE k im b.length b.length).length:=by rw[<-h5.eq,aI]
         have ht0:0<ts.length:=by rw[htl];exact H0.o
         have ht64:ts.length<=64:=by rw[htl];have:=HTF.o;omega
         have HNEW:=zh (aLQ A5 c5 b.length ts w5 (Sl.own h5.own) h5.rows (λr hr=>aII (by rw[<-h5.eq];exact gW hr)) (λr hr=>aLT HSK.o (by rw[<-h5.eq];exact gW hr)) ht0 hb0 ht64 hb64);have HE5:=zh h5.eq;have hb5:=h5.below;have d0:decide ((0:Int)<(ts.length:Int))=true:=dT (by omega);have d1:decide (0<ts.length)=true:=dT ht0;have HCW:=zh (HCS.o.keep hb5);clear htl h5
         go_upto_region 32 with(go_at_call 46;refine HNEW.o.mono ?_;rintro e w6 ⟨E,c6,rfl,hown6,hb6⟩)
         have hB6:=Blk.new w6 31 #[.int .i64 ts.length,.int .i64 b.length,.slice E (ts.length*b.length) c6];have hal6:=dX (bM w6.heap.size w6) (aA _) (.cells #[.int .i64 ts.length,.int .i64 b.length,.slice E (ts.length*b.length) c6] 31);have hown7:=pJ (kL hown6 hal6 (aA _)) (show wi.heap.size<=w5.heap.size from aR hbc.size hb5.size);have H7:=(HCW.o.keep hb6).keep hal6;have hbx:=dW (dW hb5 hb6) hal6;generalize hw7:w6.alloc (.cells #[.int .i64 ts.length,.int .i64 b.length,.slice E (ts.length*b.length) c6] 31)=w7 at*;obtain⟨b0,b1,b2,_⟩:=hB6.three;have hl7:=hB6.lt;have HO7:=zh hown7;have hcown:=H7.own;clear hw7 hown6 hb6 hal6 hB6 hown7
         go_wp2_with (at_builtin
                      refine wpList_append_own_at _ rfl _ _ 52 rfl wi.heap.size 58 j1 (.agg #[.int .i64 0,.int .i64 0,.slice none 0 0]) 3 40 Tryz.underlying52 hj1 hjw0 hjw1 hjw2 rfl (by decide) (.slice A2 cs.length c2) cs.length (cs.flatMap (CV.cells b.length)) rfl (hcown.alloc _) ⟨w7.heap.size,0,none⟩ 1 1 [.int .i64 ts.length,.int .i64 b.length,.slice E (ts.length*b.length) c6] rfl rfl (aGP (Blk.new _ _ _)) (by intro u hu;simp at hu;rcases hu with rfl|rfl|rfl<;>rfl) (by simp only[maxLen];omega) (by omega) (by have:=hbc.size;have:=hbx.size;simp;omega) ?_;intro v8 w8 hown8 hg8 _ hat8;obtain⟨A8,c8,hv8,_,_⟩:=Sl.of_own hown8
                      subst hv8)
         go_roundw
         case rel=>
          have hox:=hcown.alloc (.cells #[.int .i64 ts.length,.int .i64 b.length,.slice E (ts.length*b.length) c6] 58);have hal8:=dX (bM w7.heap.size w7) (aA _) (.cells #[.int .i64 ts.length,.int .i64 b.length,.slice E (ts.length*b.length) c6] 58);have hb8:=dW (dW hbc hbx) hal8;refine⟨k+1,A8,c8,cs++[⟨ts.map Prod.snd,E,c6⟩],by go_num,by omega,by simp,zh ⟨hb8.grown hg8 hb8.size (λq hq=>(hox.lt q hq).1),?_,λc hc=>?_,?_⟩⟩
          ·rw[aC,fZ,List.flatMap_singleton];unfold CV.cells;simp only[aI];exact hown8
          ·rcases aK.1 hc with h|h
           ·have h1:=kL (H7.rows c h) hal8 (aA _);exact h1.kept hg8 (tY h1 hox (by decide))
           rw[aN.1 h];simp only[aI];have h1:=kL HO7.o hal8 (aA _);exact h1.kept hg8 (tY h1 hox (by decide))
          rw[bH,HCS.o.eq,HCG.o];simp only[fH,List.map_nil,HE5.o]
         case measure=>simp[intOf];omega
        rw[aJ h0,eA]at HCG;have H0:Hid ((qE k im b.length b.length).length=0):=zh (by omega);clear h0
        go_upto_region 28 with(go_at_call 45;refine HAR.o.mono ?_;rintro e w5 ⟨A5,c5,ts,rfl,h5⟩)
        have htl:ts.length=0:=by rw[<-H0.o,<-h5.eq,aI]
        have d0:decide ((0:Int)<(ts.length:Int))=false:=dF (by omega);have d1:decide (0<ts.length)=false:=dF (by omega);have HCW:=zh (HCS.o.keep h5.below);clear htl h5;go_wp2;go_roundw
        case rel=>exact⟨k+1,A2,c2,cs,by go_num,by omega,rfl,zh ⟨HCW.o.below,HCW.o.own,HCW.o.rows,by rw[HCG.o];exact HCW.o.eq⟩⟩
        case measure=>simp[intOf];omega
       obtain rfl:k=rs.length:=by omega
       have dk:decide ((rs.length:Int)<(rs.length:Int))=false:=by simp
       have HFIN:Hid (aEx w w.heap.size b.length im wc im.length A2 c2 cs):=zh ⟨dW hbwi hbc,pJ HCS.o.own hbwi.size,λc hc=>pJ (HCS.o.rows c hc) hbwi.size,by rw[HIL.o];exact HCS.o.eq⟩;go_wp2
       go_ret2
       exact⟨dW hbwi hbc,.inr ⟨HER.o,A2,c2,cs,rfl,by rw[HIM.o];exact HFIN.o⟩⟩
   have HER:Hid (adE l b=10):=zh (by
    unfold adE
    rw[aJ (by rw[HZ.o];simp),aQ hnd])
   generalize adN l b=n at*
   have HPO:Hid (∀W,jV W B b->Calls Tryz.prog 41 #[.slice B b.length cB] W λe w'=>Below W.heap.size W w'/\e=.returned (.tuple #[.map none,.bool false])):=
     zh (λW h=>(rT B cB n b false W h HDB.o hn6 hb ⟨λh=>(by cases h),λh=>absurd h hnd⟩).mono (by
      rintro e w' ⟨h1,⟨_,h2⟩|⟨h2,_⟩⟩
      ·exact⟨h1,h2⟩
      cases h2))
   clear hnd;go_enter Tryz.func18,Tryz.ntmps18
   go_wp2_with (first
     |(go_at_call 40;refine HCK2.o.mono ?_;rintro e w1 ⟨rfl,hb1⟩)
     |(go_at_call 41;refine(HPO.o _ (HB.o.keep hb1)).mono ?_;rintro e w2 ⟨hb2,rfl⟩))
   go_ret2
   exact⟨dW hb1 hb2,.inl ⟨by rw[HER.o];decide,by rw[HER.o];rfl⟩⟩
  have HER:Hid (adE l b=chE l b):=zh (by
   unfold adE
   rw[aQ hz])
  have dz:decide (chE l b=0)=false:=dF hz;have dz2:(chE l b==0)=false:=aG.2 hz;unfold aIG at HCK;have HZ:=zh hz;clear hz;generalize chE l b=z at*;go_enter Tryz.func18,Tryz.ntmps18
  go_wp2_with (go_at_call 40;refine HCK.o.mono ?_;rintro e w1 ⟨hb1,n,rfl,_⟩)
  go_ret2
  exact⟨hb1,.inl ⟨by rw[HER.o];exact HZ.o,by rw[HER.o];rfl⟩⟩
end Go.Proofs.Tg.Bk
