/- Parts of the proof. -/
import Derived.Test.YtabdoikbodjidaaGreatDoorMBO39
import Derived.Test.YtabdoikbodjidaaGreatDoorMBO44
set_option maxHeartbeats 64000000
set_option maxRecDepth 100000
section
namespace Go.Av
open Go.Rq Go.Ps Go.Pm Go.Proofs.Tg Go.Proofs.Tg.Iw
theorem aPK {ss:List ByteArray}{L e:Nat}(hs:∀s∈ss,s.size<=6)(hL:L<=5)(he:e=156):BdE e (L*L) (fl (sqR ss L false) L):=by
 obtain⟨D,h0,h1,h2⟩:=aOp (N:=L*L) hs
 have hLL:L*L<=25:=cE hL hL
 obtain⟨c,hc⟩:∃c,c=150:=⟨_,rfl⟩
 have h3:D<=10^c:=by
  refine aR h1 ?_;rw[<-Nat.pow_mul];exact aP (by decide) (by omega)
 have hK:10^6*D<=10^(6+c):=by
  have:=bJ (10^6) h3;rw[<-eU]at this;exact this
 refine⟨D,10^6*D,h0,aEI h3 (by omega),aEI hK (by omega),λp hp=>?_⟩
 have hL0:0<L:=by rcases cC L with h|h;·subst h;omega
                  exact h
 have hd:=dV hp
 have hm:=bL p hL0
 have hpl:∀i t,i<L->t<L->i*L+t<L*L:=λi t hi ht=>by
  have:=aY L (show i+1<=L by omega);rw[eV]at this;omega
 unfold fl sqR
 rw[aJ (by simp)]
 split
 ·exact h2 _ (hpl _ _ hm hd)
 exact h2 _ (hpl _ _ hd hm)
theorem aOS {ss:List ByteArray}{L:Nat}:aDW (fl (sqR ss L false) L) L:=by
 intro i k hi hk
 have hL0:0<L:=by omega
 have e:∀i k,k<L->(i*L+k)/L=i/\(i*L+k)%L=k:=λi k hk=>⟨by rw[aT,eX hL0,cT hk,bW],by rw[aT,fG,cU hk]⟩
 unfold fl
 rw[(e i k hk).1,(e i k hk).2,(e k i hi).1,(e k i hi).2]
 unfold sqR
 rw[aJ (by simp)]
 by_cases h:k<i
 ·rw[aQ h,aJ (by omega)]
 by_cases h2:i<k
 ·rw[aJ h,aQ h2]
 have:i=k:=by omega
 subst this;rfl
end Go.Av
namespace Go.Proofs.Tg.Bk
open Go.RowKit Go.Gr Go.Sp Go.Ev Go.Pm Go.Bn Go.Rq Go.Ps
open Go.Proofs.Tg.Fi (vq mX)
open Go.Proofs.Tg.Rf (qT pW yL OV mL tH)
open Go.Proofs.Tg.Iw (yH aAY)
open Go.Av (sm mean fl BdE Inv)
theorem aLm (S:Option Addr)(cs L:Nat)(ss:List ByteArray)(w:World)(hS:Sl w S ss.length 1 (ss.map Value.string))(hs:∀s∈ss,s.size<=6)(hl:ss.length<=25)(hL0:0<L)(hL:L<=5):
    Calls Tryz.prog 9 #[.slice S ss.length cs,.int .i64 (L:Nat),.bool false] w (aMT L L (sqR ss L false) w):=
  aHK S cs L ss.length ss w hS (λs h=>by have:=hs s h;omega) rfl (by omega) hL0 (by omega)
theorem aPL {ss:List ByteArray}(hs:∀s∈ss,s.size<=6)(L p q:Nat):Sh (sqR ss L false p q):=by
 have h:∀k,Sh (svT ss k):=λk=>⟨bB (Go.Av.yC hs k).1 (by decide),bB (Go.Av.yC hs k).2 (by decide)⟩
 unfold sqR
 rw[aJ (by simp)]
 split
 ·exact h _
 exact h _
theorem aOT {a:Nat->Nat->Rat}(A:Option Addr)(cA L:Nat)(w:World)(hA:aMR w A L L a)(hq:∀p q,Sh (a p q))(hL0:0<L)(hL:L<=5):
    Calls Tryz.prog 8 #[.slice A L cA] w λe w'=>∃E c,e=.returned (.agg #[.int .i64 (L:Nat),.int .i64 (L:Nat),.slice E (L*L) c])/\Sl w' E (L*L) 1 (((List.range (L*L)).map (fl a L)).map vq)/\Below w.heap.size w w':=by
  obtain⟨ms,h1,h2⟩:=hA.rows;have hml:=h2.1
  have h3:=Go.Proofs.Tg.Rf.aFt A cA L ms w h1 (λr hr x hx=>by
   obtain⟨i,hi,rfl⟩:=bI hr;obtain⟨k,hk,rfl⟩:=bI hx;rw[(h2.2 i hi).2 k hk]
   exact hq _ _) (by omega) (by omega) hL0 (by omega)
  rw[hml]at h3;have hf:=aHl h2 hL0;rw[hml]at hf
  refine h3.mono λe w' h=>?_
  obtain⟨E,c,he,ho,hb⟩:=h;rw[hml]at he ho;rw[hf]at ho;exact⟨E,c,he,Sl.own ho,hb⟩
theorem rL.orbitals {w:World}{H Bs:Option Addr}{n:Nat}{S bs:List (List Int)}(h:rL w H Bs n S bs)(cH cB:Nat):
    Calls Tryz.prog 11 #[.slice H S.length cH,.slice Bs bs.length cB] w λe w'=>∃A c os,e=.returned (.tuple #[.slice A (List.length os) c,.int .i64 0])/\w'.ownsRow w.heap.size 44 1 (.slice A os.length c) os.length (os.map qT)/\pW w' w.heap.size os/\os.map OV.ps=(kT (Go.Av.jY.im n S bs) bs.length bs.length).2/\Below w.heap.size w w':=by
  have hac:rE S bs=0:=by
   unfold rE;rw[aQ ⟨h.isg,h.vld⟩,h.hd];exact h.zero
  have hhd:=h.hd;have h5:=h.few;have hsf:=h.sfew;have hs0:0<S.length:=fF.2 h.isg.2.1;subst hhd
  have h1:=aNj H Bs cH cB S bs w h.at1 (by omega) (λx hx=>by have:=(h.acts.perm x hx).1;have:=h.acts.n6;omega) h.at2 (λx hx=>by have:=h.acts.len x hx;have:=h.acts.n6;omega) (by omega) (λ_=>⟨λa ha=>by
   obtain⟨x,hx,rfl⟩:=aM.1 ha
   exact h.acts.iperm hx,aGA h.acts.n6 h.acts.grp h.acts.perm h.acts.acts h.acts.len h.acts.bnd,hs0⟩)
  refine h1.mono λe w' hr=>?_
  obtain⟨hb,hr⟩:=hr;obtain⟨_,A,c,os,a1,a2,a3,a4⟩:=hr.resolve_left (λh=>h.1 hac);exact⟨A,c,os,a1,a2,a3,a4,hb⟩
theorem rL.oall {w:World}{H Bs:Option Addr}{n:Nat}{S bs:List (List Int)}(h:rL w H Bs n S bs):aLe (Go.Av.jY.im n S bs) bs.length (kT (Go.Av.jY.im n S bs) bs.length bs.length).2/\(∀a∈Go.Av.jY.im n S bs,Perm bs.length a)/\tG (Go.Av.jY.im n S bs) bs.length:=by
 have hp:∀a∈Go.Av.jY.im n S bs,Perm bs.length a:=λa ha=>by
  obtain⟨x,hx,rfl⟩:=aM.1 ha;exact h.acts.iperm hx
 have hG:tG (Go.Av.jY.im n S bs) bs.length:=aGA h.acts.n6 h.acts.grp h.acts.perm h.acts.acts h.acts.len h.acts.bnd
 refine⟨aNd hp hG λi k hik hk=>?_,hp,hG⟩
 refine aM.2 ⟨img n (unit n) bs,aM.2 ⟨_,h.acts.grp.1,rfl⟩,?_⟩
 unfold prA
 rw[uD h.acts.len h.acts.bnd (show i<bs.length by omega),uD h.acts.len h.acts.bnd hk]
 simp only[dY]
 rw[dA hik,Nat.max_eq_right hik]
theorem rL.invariant {w:World}{H Bs E:Option Addr}{n e:Nat}{S bs:List (List Int)}(h:rL w H Bs n S bs)(f:Nat->Rat)(cH cB c:Nat)(q:Bool)(hf:Go.Av.BdE e (bs.length*bs.length) f)(he:e+2<=500)
    (hE:Sl w E (bs.length*bs.length) 1 (((List.range (bs.length*bs.length)).map f).map vq)) (hq:q=true↔Inv f (Go.Av.jY.im n S bs) bs.length (bs.length*bs.length)) (hT:Tab w):
    Calls Tryz.prog 12 #[.agg #[.int .i64 bs.length,.int .i64 bs.length,.slice E (bs.length*bs.length) c],.slice H S.length cH,.slice Bs bs.length cB] w λe w'=>e=.returned (.tuple #[.bool q,.int .i64 0])/\Below w.heap.size w w':=by
  have hhd:=h.hd
  have hwS:∀x∈S,x.length<=1000:=λx hx=>by
   have:=(h.acts.perm x hx).1;have:=h.acts.n6;omega
  have hwB:∀x∈bs,x.length<=1000:=λx hx=>by
   have:=h.acts.len x hx;have:=h.acts.n6;omega
  have h5:=h.few;have hsf:=h.sfew;subst hhd
  exact aCC H Bs E cH cB c S bs ((List.range (bs.length*bs.length)).map f) f q w h.at1 (by omega) hwS h.at2 hwB h.pos (by omega) h.isg h.vld h.zero h.acts (by simp) hE (λx hx=>by
   obtain⟨p,hp,rfl⟩:=aM.1 hx
   exact hf.one (by omega) (bD.1 hp)) (λp hp=>by simp) hq hT
end Go.Proofs.Tg.Bk
end
