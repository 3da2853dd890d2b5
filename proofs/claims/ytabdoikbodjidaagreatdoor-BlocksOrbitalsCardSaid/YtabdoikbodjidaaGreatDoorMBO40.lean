/- Parts of the proof. -/
import Derived.Test.YtabdoikbodjidaaGreatDoorMBO33
set_option maxHeartbeats 64000000
set_option maxRecDepth 100000
namespace Go.Proofs.Tg
open Go.RowKit Go.Gr Go.Bn Go.Rq
theorem aBY (r:kO):∀(rs:List kO) (k:Nat),k<rs.length->((((rs.flatMap kO.cells).set (k*4) (.bool (decide (r.q.num<0)))).set (k*4+1) (.slice r.N (dg r.q.num.natAbs).length r.cn)).set (k*4+2) (.bool false)).set (k*4+3) (.slice r.D (dg (dnz r.q.den)).length r.cd)=(rs.set k r).flatMap kO.cells
  |[],k,h=>absurd h (by simp)
  |x::rs,0,_=>by simp[kO.cells]
  |x::rs,k+1,h=>by
   have ih:=aBY r rs k (by simpa using h);rw[List.set_cons_succ,fB,fB,<-ih];unfold kO.cells;rw[show(k+1)*4=k*4+1+1+1+1 by omega];simp[show k*4+1+1+1+1+1=(k*4+1)+1+1+1+1 by omega,show k*4+1+1+1+1+2=(k*4+2)+1+1+1+1 by omega,show k*4+1+1+1+1+3=(k*4+3)+1+1+1+1 by omega]
theorem pX.set4 {base gA c k:Nat}{w:World}{rs:List kO}{r:kO}(h:pX base w (some ⟨gA,0,none⟩) c rs)(hk:k<rs.length)(hr:r.Ok w):
    pX base ((((w.setCell ⟨gA,k*4,none⟩ (.bool (decide (r.q.num<0)))).setCell ⟨gA,k*4+1,none⟩ (.slice r.N (dg r.q.num.natAbs).length r.cn)).setCell ⟨gA,k*4+2,none⟩ (.bool false)).setCell ⟨gA,k*4+3,none⟩ (.slice r.D (dg (dnz r.q.den)).length r.cd)) (some ⟨gA,0,none⟩) c (rs.set k r)/\w.grownBy ((((w.setCell ⟨gA,k*4,none⟩ (.bool (decide (r.q.num<0)))).setCell ⟨gA,k*4+1,none⟩ (.slice r.N (dg r.q.num.natAbs).length r.cn)).setCell ⟨gA,k*4+2,none⟩ (.bool false)).setCell ⟨gA,k*4+3,none⟩ (.slice r.D (dg (dnz r.q.den)).length r.cd)) (some gA):=by
  obtain⟨o1,g1⟩:=h.own.stored (k*4) (.bool (decide (r.q.num<0)));obtain⟨o2,g2⟩:=o1.stored (k*4+1) (.slice r.N (dg r.q.num.natAbs).length r.cn);obtain⟨o3,g3⟩:=o2.stored (k*4+2) (.bool false);obtain⟨o4,g4⟩:=o3.stored (k*4+3) (.slice r.D (dg (dnz r.q.den)).length r.cd);have hg:=((g1.trans g2).trans g3).trans g4;rw[aBY r rs k hk]at o4;refine⟨⟨by rw[gD];exact o4,λx hx=>?_⟩,hg⟩
  rcases gV hx with hx|rfl
  ·exact(h.ok x hx).grown h.own hg (by decide)
  exact hr.grown h.own hg (by decide)
def zq:kO:=⟨0,none,0,none,0⟩
theorem aKR:zq.cells=[.bool false,.slice none 0 0,.bool false,.slice none 0 0]:=by
 have h1:(dg (0:Rat).num.natAbs).length=0:=by
  rw[show(0:Rat).num.natAbs=0 from rfl,jS];rfl
 have h2:(dg (dnz (0:Rat).den)).length=0:=by
  rw[show(0:Rat).den=1 from rfl,lK,jS];rfl
 unfold kO.cells zq
 rw[h1,h2]
 rfl
theorem aPF (w:World):zq.Ok w:=by
 refine⟨?_,?_⟩
 ·exact ND.zero _
 show ND w none 0 (dnz 1)
 rw[lK];exact ND.zero _
theorem yJ (n:Nat):madeCells #[.bool false,.slice none 0 0,.bool false,.slice none 0 0] (n*4)=((List.replicate n zq).flatMap kO.cells).toArray:=by
 have h:∀n:Nat,(List.range (n*4)).map (λi=>(#[.bool false,.slice none 0 0,.bool false,.slice none 0 0]:Array Value)[i%4]!)=(List.replicate n zq).flatMap kO.cells:=by
  intro n
  induction n with
  |zero=>rfl
  |succ n ih=>
   rw[fX,fZ,<-ih,show(n+1)*4=n*4+1+1+1+1 by omega];simp only[bT,bH,cJ,fH,List.map_nil,fB,List.flatMap_nil,eA];rw[aKR,show n*4%4=0 by omega,show(n*4+1)%4=1 by omega,show(n*4+1+1)%4=2 by omega,show(n*4+1+1+1)%4=3 by omega]
   rfl
 apply Array.toList_inj.1
 rw[<-h]
 simp[madeCells]
theorem aHI (n:Nat)(hn:n<=1000000)(w:World):(Instr.makeSlice 62 (.int .i64 (n:Int)) (.int .i64 (n:Int))).run Tryz.prog w=.ok (.slice (some ⟨w.heap.size,0,none⟩) n n) (w.alloc (.cells (madeCells #[.bool false,.slice none 0 0,.bool false,.slice none 0 0] (n*4)) 69)):=by
 obtain⟨i0,hi,hz0,hz1,hz2⟩:=info_parts aLs
 have hr:=run_make (P:=Tryz.prog) w 62 69 i0 (.agg #[.bool false,.slice none 0 0,.bool false,.slice none 0 0]) Tryz.underlying62 hi hz0 .i64 .i64 n n (by omega) (by omega) (by rw[hz2];omega) (by omega)
 rw[hz1,dY]at hr
 exact hr
theorem aKS (n:Nat)(hn:n<=1000000)(w:World):pX w.heap.size (w.alloc (.cells (madeCells #[.bool false,.slice none 0 0,.bool false,.slice none 0 0] (n*4)) 69)) (some ⟨w.heap.size,0,none⟩) n (List.replicate n zq):=by
 refine⟨?_,λr hr=>?_⟩
 ·rw[bU]
  refine⟨?_,.inr ⟨w.heap.size,n,_,rfl,aA _,heap_alloc_new w _,aA _,by simp only[maxLen];omega,by simp[gF],?_⟩⟩
  ·have:=bK List.length (bK Array.toList (yJ n));simp[gF]at this;simpa using this.symm
  rw[yJ];have h:=bK List.length (bK Array.toList (yJ n));simp only[jG,gF]at h;simp only[];rw[h,eE]
 rw[fO hr];exact aPF _
structure pR where
  adr:Option Addr
  cap:Nat
  rs:List kO
def pR.cell (r:pR):Value:=.slice r.adr r.rs.length r.cap
def pR.qs (r:pR):List Rat:=r.rs.map kO.q
end Go.Proofs.Tg
namespace Go.Proofs.Tg.Fi
open Go.RowKit Go.Rq Go.Qn Go.Bn Go.Proofs.Tg
def qV (qs:List Rat)(n k:Nat):Array Value:=((qs.take k).map vq++List.replicate (n-k) (Value.string ⟨#[]⟩)).toArray
theorem aFw (qs:List Rat)(n:Nat):madeCells #[.string ⟨#[]⟩] n=qV qs n 0:=by
 apply Array.ext
 ·simp[qV,gF]
 intro i h1 h2
 simp[madeCells,qV,Nat.mod_one]
theorem aIa {qs:List Rat}{n:Nat}(h:qs.length=n):qV qs n n=(qs.map vq).toArray:=by
 subst h
 simp[qV]
theorem aIb {qs:List Rat}{n k:Nat}(h:qs.length=n)(hk:k<n):(qV qs n k).setIfInBounds k (.string (qtx (qs[k]'(by omega))))=qV qs n (k+1):=by
 unfold qV
 rw[aD (by omega),show n-k=(n-(k+1))+1 by omega,dO]
 have e:((qs.take k).map vq).length=k:=by simp;omega
 simp only[fT,bH]
 congr 1
 rw[cX _ _ (by omega),e,cP,dL]
 simp[vq]
theorem aLv {qs:List Rat}{n k:Nat}(h:qs.length=n)(hk:k<n):∃u,(qV qs n k)[k]?=some u:=by
 refine⟨_,jC ?_⟩
 simp[qV];omega
theorem aIc:(Tryz.prog.info? 9).map (λi=>(i.zero,i.size,i.bytes))=some (some (.string ⟨#[]⟩),1,16):=by kernel_rfl
theorem aId (n:Nat)(hn:n<=1000000)(w:World):(Instr.makeSlice 23 (.int .i64 (n:Int)) (.int .i64 (n:Int))).run Tryz.prog w=.ok (.slice (some ⟨w.heap.size,0,none⟩) n n) (w.alloc (.cells (madeCells #[.string ⟨#[]⟩] n) 9)):=by
 obtain⟨i0,hi,hz0,hz1,hz2⟩:=info_parts aIc
 have hr:=run_make (P:=Tryz.prog) w 23 9 i0 (.string ⟨#[]⟩) Tryz.underlying23 hi hz0 .i64 .i64 n n (by omega) (by omega) (by rw[hz2];omega) (by omega)
 rw[hz1,dI,dY]at hr
 exact hr
structure aBo (w:World)(A:Option Addr)(rs:List kO):Prop where
  sl:Sl w A rs.length 4 (rs.flatMap kO.cells)
  ok:∀r∈rs,r.Ok w
theorem aBo.keep {w w':World}{A:Option Addr}{rs:List kO}(h:aBo w A rs)(hb:Below w.heap.size w w'):aBo w' A rs:=⟨h.sl.keep hb,λr hr=>(h.ok r hr).keep hb⟩
theorem pX.qs {base:Nat}{w:World}{A:Option Addr}{c:Nat}{rs:List kO}(h:pX base w A c rs):aBo w A rs:=⟨Sl.own h.own,h.ok⟩
theorem zA {rs:List kO}{k j:Nat}(hk:k<rs.length){u:Value}(hu:rs[k].cells[j]?=some u):(rs.flatMap kO.cells)[k*4+j]?=some u:=by
 have hj:j<4:=(aX.1 hu).1
 induction rs generalizing k with
 |nil=>exact absurd hk (by simp)
 |cons r rs ih=>
  cases k with
  |zero=>
   rw[fB,bY (by rw[kO.cells_len];omega)];simpa using hu
  |succ k=>
   rw[fB,bC (by rw[kO.cells_len];omega),kO.cells_len]
   have:(k+1)*4+j-4=k*4+j:=by omega
   rw[this];exact ih (by simpa using hk) (by simpa using hu)
theorem aBo.at {w:World}{A:Option Addr}{rs:List kO}(h:aBo w A rs){k:Nat}(hk:k<rs.length):∃ad,A=some ad/\
    w.cell? (ad.add (k*4))=some (.bool (decide (rs[k].q.num<0)))/\w.cell? ⟨(ad.add (k*4)).block,(ad.add (k*4)).off+1,none⟩=some (.slice rs[k].N (dg rs[k].q.num.natAbs).length rs[k].cn)/\
    w.cell? ⟨(ad.add (k*4)).block,(ad.add (k*4)).off+2,none⟩=some (.bool false)/\w.cell? ⟨(ad.add (k*4)).block,(ad.add (k*4)).off+3,none⟩=some (.slice rs[k].D (dg (dnz rs[k].q.den)).length rs[k].cd):=by
  obtain⟨ad,e,hlt,ha⟩:=h.sl.lies (by omega)
  have off:∀j,(⟨(ad.add (k*4)).block,(ad.add (k*4)).off+(j+1),none⟩:Addr)=ad.add (k*4+(j+1)):=λj=>by
   rw[<-aGu];simp[Addr.add]
  refine⟨ad,e,ha _ _ (zA (j:=0) hk rfl),(bK w.cell? (off 0)).trans (ha _ _ (zA (j:=1) hk rfl)),(bK w.cell? (off 1)).trans (ha _ _ (zA (j:=2) hk rfl)),(bK w.cell? (off 2)).trans (ha _ _ (zA (j:=3) hk rfl))⟩
def aLw (qs:List Rat)(w:World)(e:Ending)(w':World):Prop:=∃g,e=.returned (.slice (some ⟨g,0,none⟩) qs.length qs.length)/\Blk w' g 9 (qs.map vq).toArray/\w.heap.size<=g/\Below w.heap.size w w'
theorem aGF (A:Option Addr)(c:Nat)(rs:List kO)(w:World)(h:aBo w A rs)(hs:∀r∈rs,Sh r.q)(hn:rs.length<=1000000):
    Calls Tryz.prog 24 #[.slice A rs.length c] w (aLw (rs.map kO.q) w):=by
  obtain⟨n,hn'⟩:=eqx (rs.length);have HT:=zh (λr (hr:r∈rs) V (hb:Below w.heap.size w V)=>aOb r.q r.val V ((h.ok r hr).keep hb).at (hs r hr));have HA:=zh h;rw[hn']at hn ⊢;have HN:=zh hn';have hmk:=aId n hn
  have hql:(rs.map kO.q).length=n:=by rw[aI,hn']
  unfold aLw;rw[hql];have HQL:=zh hql;have HFI:Hid ((qV (rs.map kO.q) n n)=((rs.map kO.q).map vq).toArray):=zh (aIa hql);obtain⟨W,hW⟩:=eqx (w.alloc (.cells (madeCells #[.string ⟨#[]⟩] n) 9))
  have HST:Hid (Blk W w.heap.size 9 (qV (rs.map kO.q) n 0)/\Below w.heap.size w W):=zh (by
   rw[<-hW,aFw (rs.map kO.q) n]
   exact⟨Blk.new _ _ _,bal⟩)
  have HWW:=zh hW;clear hs h hn' hql hW;go_enter Tryz.func24,Tryz.ntmps24;go_upto_region 2 with(fail);rw[HWW.o];go_wp2
  go_loopw [4] (λs4 wr=>∃k:Nat,s4=.int .i64 (k:Nat)/\k<=n/\Hid (Blk wr w.heap.size 9 (qV (rs.map kO.q) n k)/\Below w.heap.size w wr)) (λs4 _=>n-(intOf s4).toNat)
  case atStart=>exact⟨0,rfl,aW _,HST⟩
  case round=>
   clear HST;obtain⟨wo,rfl⟩:∃wo:World,wo=wr:=⟨_,rfl⟩;obtain⟨k,rfl,hk,HST⟩:=hrel
   by_cases hkn:k=n
   ·have e1:decide ((k:Int)<(n:Int))=false:=dF (by omega);have e1':decide (k<n)=false:=dF (by omega);have HK:=zh hkn;clear hkn;go_wp2;go_ret;have hB:=HST.o.1;rw[HK.o,HFI.o]at hB;exact⟨w.heap.size,rfl,hB,aA _,HST.o.2⟩
   have hkl:k<n:=by omega
   have e1:decide ((k:Int)<(n:Int))=true:=dT (by omega);have e1':decide (k<n)=true:=dT hkl
   have q0:(0:Int)<=(k:Int):=by omega
   have q1:(k:Int)<(n:Int):=by omega
   have hkr:k<rs.length:=by rw[HN.o];exact hkl
   obtain⟨ad,rfl,h0,h1,h2,h3⟩:=(HA.o.keep HST.o.2).at hkr;have HC:=zh (HT.o (rs[k]'hkr) (aB _) wo HST.o.2)
   have HSET:Hid ((qV (rs.map kO.q) n k).setIfInBounds k (.string (qtx (rs[k]'hkr).q))=qV (rs.map kO.q) n (k+1)):=zh (by
    have:=aIb HQL.o hkl
    simpa using this)
   unfold kO.val at HC;generalize rs[k]'hkr=r at*;generalize decide (r.q.num<0)=s1 at*;generalize (dg r.q.num.natAbs).length=n1 at*;generalize (dg (dnz r.q.den)).length=n2 at*;generalize qtx r.q=S at*;generalize r.N=rN at*;generalize r.D=rD at*;generalize r.cn=rcn at*;generalize r.cd=rcd at*;clear hkn;go_wp2_with (fail);refine HC.o.mono ?_;rintro e w2 ⟨rfl,hb2⟩;have hB2:=HST.o.1.keep hb2 HST.o.1.lt;obtain⟨u,hu⟩:=aLv HQL.o hkl
   have c0:w2.cell? ⟨w.heap.size,k,none⟩=some u:=by rw[hB2.cell k];exact hu
   have f0:=hB2.frozen k;have HB2:=zh hB2;clear hu hB2 h0 h1 h2 h3;go_wp2;go_roundw
   case rel=>
    refine⟨k+1,by go_num,by omega,zh ⟨?_,hJ (dW HST.o.2 hb2) (aA _) _ _⟩⟩;rw[<-HSET.o];exact HB2.o.set _ _
   case measure=>simp[intOf];omega
end Go.Proofs.Tg.Fi
namespace Go.Proofs.Tg
open Go.RowKit Go.Gr Go.Bn Go.Rq
def kO.Is (r:kO)(b:Bool)(N:Option Addr)(n c:Nat)(D:Option Addr)(m d:Nat):Prop:=r.cells=[.bool b,.slice N n c,.bool false,.slice D m d]
theorem kO.is (r:kO):r.Is (decide (r.q.num<0)) r.N (dg r.q.num.natAbs).length r.cn r.D (dg (dnz r.q.den)).length r.cd:=rfl
def mR (q:Rat)(w:World)(e:Ending)(w':World):Prop:=
  ∃(b:Bool) (N:Option Addr) (n c:Nat) (D:Option Addr) (m d:Nat),e=.returned (.agg #[.bool b,.slice N n c,.bool false,.slice D m d])/\Hid (∃r:kO,r.Is b N n c D m d/\r.q=q/\r.Ok w')/\Below w.heap.size w w'
theorem aOa.r {q:Rat}{w w':World}{e:Ending}(h:aOa q w e w'):mR q w e w':=by
 obtain⟨v,rfl,hQ,hb⟩:=h
 obtain⟨r,hr,rfl,hok⟩:=hQ.rval
 exact⟨_,_,_,_,_,_,_,rfl,zh ⟨r,r.is,hr,hok⟩,hb⟩
theorem pX.cells {base gA c k:Nat}{w:World}{rs:List kO}(h:pX base w (some ⟨gA,0,none⟩) c rs)(hk:k<rs.length){b:Bool}{N D:Option Addr}{n cn m d:Nat}(hI:rs[k].Is b N n cn D m d):
    w.cell? ⟨gA,k*4,none⟩=some (.bool b)/\w.cell? ⟨gA,k*4+1,none⟩=some (.slice N n cn)/\w.cell? ⟨gA,k*4+2,none⟩=some (.bool false)/\w.cell? ⟨gA,k*4+3,none⟩=some (.slice D m d)/\
    w.frozen? ⟨gA,k*4,none⟩=false/\w.frozen? ⟨gA,k*4+1,none⟩=false/\w.frozen? ⟨gA,k*4+2,none⟩=false/\w.frozen? ⟨gA,k*4+3,none⟩=false:=by
  have hl:∀j,j<4->k*4+j<rs.length*4:=λj hj=>by omega
  have h0:=h.own.cellAt (k*4) (hl 0 (by omega));have h1:=h.own.cellAt (k*4+1) (hl 1 (by omega));have h2:=h.own.cellAt (k*4+2) (hl 2 (by omega));have h3:=h.own.cellAt (k*4+3) (hl 3 (by omega));unfold kO.Is at hI;refine⟨h0.trans (Fi.zA (j:=0) hk (by rw[hI];rfl)),h1.trans (Fi.zA (j:=1) hk (by rw[hI];rfl)),h2.trans (Fi.zA (j:=2) hk (by rw[hI];rfl)),h3.trans (Fi.zA (j:=3) hk (by rw[hI];rfl)),h.own.frozenAt _,h.own.frozenAt _,h.own.frozenAt _,h.own.frozenAt _⟩
structure mN where
  g:Nat
  cap:Nat
  rs:List kO
def mN.cell (r:mN):Value:=.slice (some ⟨r.g,0,none⟩) r.rs.length r.cap
structure rG (base:Nat)(w:World)(X:Option Addr)(c:Nat)(xs:List mN):Prop where
  own:w.ownsRow base 62 1 (.slice X xs.length c) xs.length (xs.map mN.cell)
  ok:∀r∈xs,pX base w (some ⟨r.g,0,none⟩) r.cap r.rs
  ne:(xs.map mN.g).Nodup
theorem rG.keep {base:Nat}{w w':World}{X:Option Addr}{c:Nat}{xs:List mN}(h:rG base w X c xs)(hb:Below w.heap.size w w'):rG base w' X c xs:=
  ⟨kL h.own hb (aA _),λr hr=>(h.ok r hr).keep hb,h.ne⟩
theorem rG.at {base:Nat}{w:World}{X:Option Addr}{c:Nat}{xs:List mN}(h:rG base w X c xs){k:Nat}(hk:k<xs.length):∃ad,X=some ad/\w.cell? (ad.add k)=some (.slice (some ⟨xs[k].g,0,none⟩) xs[k].rs.length xs[k].cap):=by
 obtain⟨ad,e,_,ha⟩:=(Sl.own h.own).lies (by omega)
 exact⟨ad,e,ha k _ (by rw[cK,aF hk];rfl)⟩
theorem rG.cells {base:Nat}{w:World}{X:Option Addr}{c:Nat}{xs:List mN}(h:rG base w X c xs){i k:Nat}(hi:i<xs.length)(hk:k<xs[i].rs.length){b:Bool}{N D:Option Addr}{n cn m d:Nat}(hI:xs[i].rs[k].Is b N n cn D m d):
    w.cell? ⟨xs[i].g,k*4,none⟩=some (.bool b)/\w.cell? ⟨xs[i].g,k*4+1,none⟩=some (.slice N n cn)/\w.cell? ⟨xs[i].g,k*4+2,none⟩=some (.bool false)/\w.cell? ⟨xs[i].g,k*4+3,none⟩=some (.slice D m d)/\
    w.frozen? ⟨xs[i].g,k*4,none⟩=false/\w.frozen? ⟨xs[i].g,k*4+1,none⟩=false/\w.frozen? ⟨xs[i].g,k*4+2,none⟩=false/\w.frozen? ⟨xs[i].g,k*4+3,none⟩=false:=
  (h.ok _ (aB hi)).cells hk hI
def zL (xs:List mN)(i k:Nat)(r:kO):List mN:=xs.modify i λx=>⟨x.g,x.cap,x.rs.set k r⟩
theorem pI (xs:List mN)(i k:Nat)(r:kO):(zL xs i k r).length=xs.length:=by simp[zL]
theorem zW (xs:List mN)(i k:Nat)(r:kO){j:Nat}(hj:j<(zL xs i k r).length):(zL xs i k r)[j]=if i=j then⟨(xs[j]'(by rwa [pI]at hj)).g,(xs[j]'(by rwa [pI]at hj)).cap,(xs[j]'(by rwa [pI]at hj)).rs.set k r⟩else xs[j]'(by rwa [pI]at hj):=by
 simp only[zL,List.getElem_modify]
theorem aFf (xs:List mN)(i k:Nat)(r:kO):(zL xs i k r).map mN.cell=xs.map mN.cell:=by
 refine dJ (by simp[zL]) λj h1 h2=>?_
 rw[dP,dP,zW]
 split
 ·simp[mN.cell]
 rfl
theorem aOL (xs:List mN)(i k:Nat)(r:kO):(zL xs i k r).map mN.g=xs.map mN.g:=by
 refine dJ (by simp[zL]) λj h1 h2=>?_
 rw[dP,dP,zW]
 split<;>rfl
theorem rG.set4 {base:Nat}{w:World}{X:Option Addr}{c:Nat}{xs:List mN}{r:kO}(h:rG base w X c xs){i k:Nat}(hi:i<xs.length)(hk:k<xs[i].rs.length)(hr:r.Ok w){b:Bool}{N D:Option Addr}{n cn m d:Nat}(hI:r.Is b N n cn D m d):
    rG base ((((w.setCell ⟨xs[i].g,k*4,none⟩ (.bool b)).setCell ⟨xs[i].g,k*4+1,none⟩ (.slice N n cn)).setCell ⟨xs[i].g,k*4+2,none⟩ (.bool false)).setCell ⟨xs[i].g,k*4+3,none⟩ (.slice D m d)) X c (zL xs i k r)/\
    w.grownBy ((((w.setCell ⟨xs[i].g,k*4,none⟩ (.bool b)).setCell ⟨xs[i].g,k*4+1,none⟩ (.slice N n cn)).setCell ⟨xs[i].g,k*4+2,none⟩ (.bool false)).setCell ⟨xs[i].g,k*4+3,none⟩ (.slice D m d)) (some xs[i].g):=by
  have hm:=aB hi;have hrow:=h.ok _ hm;obtain⟨h4,hg⟩:=hrow.set4 hk hr;unfold kO.Is kO.cells at hI;simp only[List.cons.injEq,and_true]at hI;rw[hI.1,hI.2.1,hI.2.2.2]at h4 hg;refine⟨⟨?_,λx hx=>?_,by rw[aOL];exact h.ne⟩,hg⟩
  ·rw[aFf,pI];exact h.own.kept hg (tY h.own hrow.own (by decide))
  obtain⟨j,hj,rfl⟩:=List.mem_iff_getElem.1 hx
  have hj':j<xs.length:=by rwa [pI]at hj
  rw[zW]
  by_cases e:i=j
  ·subst e;rw[aQ rfl];exact h4
  rw[aJ e];refine(h.ok _ (aB hj')).apart hrow.own hg (.inr ?_)
  show some xs[j].g≠some xs[i].g
  intro e2
  injection e2 with e2
  have h1:=List.nodup_iff_pairwise_ne.1 h.ne
  rcases Nat.lt_or_gt_of_ne e with hlt|hlt
  ·have:=bO.1 h1 i j (by simpa using hi) (by simpa using hj') hlt;simp at this;exact this e2.symm
  have:=bO.1 h1 j i (by simpa using hj') (by simpa using hi) hlt;simp at this;exact this e2
def XIs (xs:List mN)(n m:Nat)(a:Nat->Nat->Rat):Prop:=xs.length=n/\∀i (hi:i<xs.length),xs[i].rs.length=m/\∀k (hk:k<xs[i].rs.length),xs[i].rs[k].q=a i k
theorem XIs.set {xs:List mN}{n m:Nat}{a a':Nat->Nat->Rat}(h:XIs xs n m a){i k:Nat}{r:kO}(ha:∀p q,p<n->q<m->a' p q=if p=i/\q=k then r.q else a p q):XIs (zL xs i k r) n m a':=by
 refine⟨by rw[pI];exact h.1,λp hp=>?_⟩
 have hp':p<xs.length:=by rwa [pI]at hp
 obtain⟨h1,h2⟩:=h.2 p hp'
 simp only[zW]
 by_cases e:i=p
 ·simp only[aQ e]
  refine⟨by rw[gD];exact h1,λq hq=>?_⟩
  have hq':q<xs[p].rs.length:=by rwa [gD]at hq
  rw[ha p q (by rw[<-h.1];exact hp') (by rw[<-h1];exact hq')]
  by_cases e2:k=q
  ·subst e2;subst e;simp
  have h3:¬(p=i/\q=k):=λh=>e2 h.2.symm
  have h4:(xs[p].rs.set k r)[q]'hq=xs[p].rs[q]:=List.getElem_set_ne e2 _;simp only[h3,if_false];rw[<-h2 q hq',<-h4]
 simp only[aJ e]
 refine⟨h1,λq hq=>?_⟩
 have h3:¬(p=i/\q=k):=λh=>e h.1.symm
 rw[ha p q (by rw[<-h.1];exact hp') (by rw[<-h1];exact hq)];simp only[h3,if_false];exact h2 q hq
theorem XIs.mono {xs:List mN}{n m:Nat}{a a':Nat->Nat->Rat}(h:XIs xs n m a)(ha:∀p q,p<n->q<m->a' p q=a p q):XIs xs n m a':=
  ⟨h.1,λp hp=>⟨(h.2 p hp).1,λq hq=>by rw[ha p q (by rw[<-h.1];exact hp) (by rw[<-(h.2 p hp).1];exact hq)];exact(h.2 p hp).2 q hq⟩⟩
theorem rG.hdr_ne {base g c:Nat}{w:World}{xs:List mN}(h:rG base w (some ⟨g,0,none⟩) c xs){i:Nat}(hi:i<xs.length):g≠xs[i].g:=by
 have h1:=h.ok _ (aB hi)
 rcases tY h.own h1.own (by decide)with e|e
 ·simp[Value.ownBlock]at e
 intro e2;exact e (by rw[e2];rfl)
theorem rG.row_ne {base g c:Nat}{w:World}{xs:List mN}(h:rG base w (some ⟨g,0,none⟩) c xs){i j:Nat}(hi:i<xs.length)(hj:j<xs.length)(hne:i≠j):xs[i].g≠xs[j].g:=by
 have h1:=List.nodup_iff_pairwise_ne.1 h.ne
 rcases Nat.lt_or_gt_of_ne hne with hlt|hlt
 ·have:=bO.1 h1 i j (by simpa using hi) (by simpa using hj) hlt
  simpa using this
 have:=bO.1 h1 j i (by simpa using hj) (by simpa using hi) hlt
 intro e;simp at this;exact this e.symm
theorem rG.row_base {base g c:Nat}{w:World}{xs:List mN}(h:rG base w (some ⟨g,0,none⟩) c xs){i:Nat}(hi:i<xs.length):base<=xs[i].g/\xs[i].g<w.heap.size:=(h.ok _ (aB hi)).own.lt _ rfl
theorem rG.hdr {base g c:Nat}{w:World}{xs:List mN}(h:rG base w (some ⟨g,0,none⟩) c xs){i:Nat}(hi:i<xs.length):w.cell? ⟨g,i,none⟩=some (.slice (some ⟨xs[i].g,0,none⟩) xs[i].rs.length xs[i].cap):=by
 obtain⟨ad,e,hc⟩:=h.at hi
 injection e with e
 subst e
 rw[kI,bN]at hc
 exact hc
theorem oK {V:World}{g k:Nat}{a b c d u:Value}{ad:Addr}(h:V.cell? ad=some u)(hne:ad.block≠g):((((V.setCell ⟨g,k*4,none⟩ a).setCell ⟨g,k*4+1,none⟩ b).setCell ⟨g,k*4+2,none⟩ c).setCell ⟨g,k*4+3,none⟩ d).cell? ad=some u:=by
 have e:∀j:Nat,(⟨g,j,none⟩:Addr)≠ad:=λj e=>hne (by rw[<-e])
 rw[bR _ _ _ _ (e _),bR _ _ _ _ (e _),bR _ _ _ _ (e _),bR _ _ _ _ (e _)]
 exact h
def RIs (ms:List pR)(n m:Nat)(a:Nat->Nat->Rat):Prop:=ms.length=n/\∀i (hi:i<ms.length),ms[i].rs.length=m/\∀k (hk:k<ms[i].rs.length),ms[i].rs[k].q=a i k
def aMR (w:World)(A:Option Addr)(n m:Nat)(a:Nat->Nat->Rat):Prop:=∃ms:List pR,Sl w A ms.length 1 (ms.map pR.cell)/\(∀r∈ms,Fi.aBo w r.adr r.rs)/\RIs ms n m a
theorem rG.mat {base c:Nat}{w:World}{X:Option Addr}{xs:List mN}{n m:Nat}{a:Nat->Nat->Rat}(h:rG base w X c xs)(hi:XIs xs n m a):aMR w X n m a:=by
 refine⟨xs.map λx=>⟨some ⟨x.g,0,none⟩,x.cap,x.rs⟩,?_,λr hr=>?_,?_⟩
 ·have h1:=Sl.own h.own
  have e:(xs.map λx=>(⟨some ⟨x.g,0,none⟩,x.cap,x.rs⟩:pR)).map pR.cell=xs.map mN.cell:=by rw[List.map_map];rfl
  rw[e,aI];exact h1
 ·obtain⟨x,hx,rfl⟩:=aM.1 hr
  exact Fi.pX.qs (h.ok x hx)
 refine⟨by rw[aI];exact hi.1,λi h1=>?_⟩
 have h2:i<xs.length:=by simpa using h1
 have h3:=hi.2 i h2;simp only[dP];exact h3
theorem uI (n:Nat)(hn:n<=1000000)(w:World):(Instr.makeSlice 33 (.int .i64 (n:Int)) (.int .i64 (n:Int))).run Tryz.prog w=.ok (.slice (some ⟨w.heap.size,0,none⟩) n n) (w.alloc (.cells (madeCells #[.slice none 0 0] n) 62)):=by
 obtain⟨i0,hi,hz0,hz1,hz2⟩:=info_parts aHZ
 have hr:=run_make (P:=Tryz.prog) w 33 62 i0 (.slice none 0 0) Tryz.underlying33 hi hz0 .i64 .i64 n n (by omega) (by omega) (by rw[hz2];omega) (by omega)
 rw[hz1,dI,dY]at hr
 exact hr
theorem aKT (n:Nat)(hn:n<=1000000)(w:World):(w.alloc (.cells (madeCells #[.slice none 0 0] n) 62)).ownsRow w.heap.size 62 1 (.slice (some ⟨w.heap.size,0,none⟩) n n) n (List.replicate n (.slice none 0 0)):=by
 have e:(madeCells #[.slice none 0 0] n).toList=List.replicate n (.slice none 0 0):=by
  apply dJ
  ·simp[gF]
  intro i h1 h2;simp[madeCells,Nat.mod_one]
 refine⟨by simp,.inr ⟨w.heap.size,n,_,rfl,aA _,heap_alloc_new w _,aA _,by simp only[maxLen];omega,by simp[gF],?_⟩⟩
 rw[e]
 simp
structure aMS (w:World)(g n m:Nat)(wr:World)(xs:List mN):Prop where
  own:wr.ownsRow w.heap.size 62 1 (.slice (some ⟨g,0,none⟩) n n) n (xs.map mN.cell++List.replicate (n-xs.length) (.slice none 0 0))
  ok:∀r∈xs,pX w.heap.size wr (some ⟨r.g,0,none⟩) r.cap r.rs/\r.rs=List.replicate m zq/\r.g<wr.heap.size
  nd:(xs.map mN.g).Nodup
  below:Below w.heap.size w wr
def aMT (n m:Nat)(a:Nat->Nat->Rat)(w:World)(e:Ending)(w':World):Prop:=
  ∃(g c:Nat) (xs:List mN),e=.returned (.slice (some ⟨g,0,none⟩) n c)/\rG w.heap.size w' (some ⟨g,0,none⟩) c xs/\XIs xs n m a/\Below w.heap.size w w'
theorem aMU {w wo:World}{g n m:Nat}{xs:List mN}(h:aMS w g n m wo xs)(hk:xs.length<n)(hm:m<=1000000):
    aMS w g n m ((wo.alloc (.cells (madeCells #[.bool false,.slice none 0 0,.bool false,.slice none 0 0] (m*4)) 69)).setCell ⟨g,xs.length,none⟩ (.slice (some ⟨wo.heap.size,0,none⟩) m m)) (xs++[⟨wo.heap.size,m,List.replicate m zq⟩]):=by
  have hb:=h.below;have h1:Below w.heap.size w (wo.alloc (.cells (madeCells #[.bool false,.slice none 0 0,.bool false,.slice none 0 0] (m*4)) 69)):=hb.alloc hb.size _;have hal:Below wo.heap.size wo (wo.alloc (.cells (madeCells #[.bool false,.slice none 0 0,.bool false,.slice none 0 0] (m*4)) 69)):=bal;have hQ:=aKS m hm wo;have hown:=kL h.own hal (aA _);have hglt:=hown.lt g rfl;obtain⟨o1,g1⟩:=hown.stored xs.length (.slice (some ⟨wo.heap.size,0,none⟩) m m)
  have hsz:(wo.alloc (.cells (madeCells #[.bool false,.slice none 0 0,.bool false,.slice none 0 0] (m*4)) 69)).heap.size=wo.heap.size+1:=by simp
  generalize hW1:wo.alloc (.cells (madeCells #[.bool false,.slice none 0 0,.bool false,.slice none 0 0] (m*4)) 69)=W1 at*;obtain⟨nr,hnr⟩:∃nr:mN,nr=⟨wo.heap.size,m,List.replicate m zq⟩:=⟨_,rfl⟩
  have hnc:nr.cell=.slice (some ⟨wo.heap.size,0,none⟩) m m:=by rw[hnr];simp[mN.cell]
  have hset:(xs.map mN.cell++List.replicate (n-xs.length) (Value.slice none 0 0)).set xs.length (Value.slice (some ⟨wo.heap.size,0,none⟩) m m)=(xs++[nr]).map mN.cell++List.replicate (n-(xs++[nr]).length) (Value.slice none 0 0):=by
   rw[cX _ _ (by simp),aI,cP,show n-xs.length=(n-(xs.length+1))+1 by omega,dO,dL,bH,aC];simp[hnc]
  rw[<-hnr];rw[hset]at o1;refine⟨o1,λr hr=>?_,?_,?_⟩
  ·rcases aK.1 hr with hr|hr
   ·obtain⟨a1,a2,a3⟩:=h.ok r hr;refine⟨?_,a2,?_⟩
    ·exact(a1.keep hal).other hown g1 (by decide) (by decide)
    have:=g1.size;omega
   rw[aN.1 hr,hnr];refine⟨?_,rfl,?_⟩
   ·have hQ2:pX wo.heap.size W1 (some ⟨wo.heap.size,0,none⟩) m (List.replicate m zq):=hQ;exact(hQ2.other hown g1 (by decide) (by decide)).mono hb.size
   have:=g1.size
   show wo.heap.size<_
   omega
  ·rw[bH,eL];refine⟨h.nd,by simp,λa ha b hb'=>?_⟩;simp at hb';subst hb';obtain⟨r,hr,rfl⟩:=aM.1 ha;have:=(h.ok r hr).2.2
   have h3:nr.g=wo.heap.size:=by rw[hnr]
   omega
  exact hJ h1 hglt.1 _ _
theorem aHJ (n m:Nat)(w:World)(hn:n<=1000)(hm:m<=1000):
    Calls Tryz.prog 25 #[.int .i64 (n:Nat),.int .i64 (m:Nat)] w (aMT n m (λ_ _=>0) w):=by
  have hmk:=uI n (by omega);have hmk2:=aHI m (by omega);obtain⟨W,hW⟩:=eqx (w.alloc (.cells (madeCells #[.slice none 0 0] n) 62));obtain⟨g,hg⟩:=eqx (w.heap.size)
  have HST:Hid (aMS w g n m W []):=zh (by
   rw[<-hW,<-hg]
   exact⟨by simpa using aKT n (by omega) w,λr hr=>absurd hr (by simp),by simp,bal⟩)
  have HWW:=zh hW;have HG:=zh hg;clear hW hg;go_enter Tryz.func25,Tryz.ntmps25;go_upto_region 2 with(fail);rw[HWW.o,HG.o];go_wp2
  go_loopw [6] (λs6 wr=>∃(k:Nat) (xs:List mN),s6=.int .i64 (k:Nat)/\k<=n/\Hid (xs.length=k)/\Hid (aMS w g n m wr xs)) (λs6 _=>n-(intOf s6).toNat)
  case atStart=>exact⟨0,[],rfl,aW _,zh rfl,HST⟩
  case round=>
   clear HST;obtain⟨wo,rfl⟩:∃wo:World,wo=wr:=⟨_,rfl⟩;obtain⟨k,xs,rfl,hk,HL,HS⟩:=hrel
   by_cases hkn:k=n
   ·have e1:decide ((k:Int)<(n:Int))=false:=dF (by omega);have e1':decide (k<n)=false:=dF (by omega);have HKN:=zh hkn;clear hkn;go_wp2;go_ret
    have hl:xs.length=n:=by rw[HL.o,HKN.o]
    have hown:=HS.o.own;rw[hl,cP,fE,eA]at hown;refine⟨g,n,xs,rfl,⟨by rw[hl];exact hown,λr hr=>(HS.o.ok r hr).1,HS.o.nd⟩,⟨hl,λi hi=>?_⟩,HS.o.below⟩;have h2:=(HS.o.ok _ (aB hi)).2.1;refine⟨by rw[h2,bU],λj hj=>?_⟩;simp only[h2,List.getElem_replicate]
    rfl
   have hkl:k<n:=by omega
   have e1:decide ((k:Int)<(n:Int))=true:=dT (by omega);have e1':decide (k<n)=true:=dT hkl
   have q0:(0:Int)<=(k:Int):=by omega
   have q1:(k:Int)<(n:Int):=by omega
   have HN:=zh (aMU HS.o (by rw[HL.o];exact hkl) (show m<=1000000 by omega));have hown:=kL HS.o.own ((bM wo.heap.size wo).alloc (aA _) (.cells (madeCells #[.bool false,.slice none 0 0,.bool false,.slice none 0 0] (m*4)) 69)) (aA _);have hf:=hown.frozenAt k;have hc:=hown.cellAt k (by omega)
   have hu:(xs.map mN.cell++List.replicate (n-xs.length) (.slice none 0 0))[k]?=some (.slice none 0 0):=by
    rw[bC (by simp[HL.o]),aI,HL.o,cP,show n-k=(n-k-1)+1 by omega,dO]
    rfl
   rw[hu]at hc;rw[HL.o]at HN;clear hkn hown hu;go_wp2;go_roundw
   case rel=>exact⟨k+1,_,by go_num,by omega,zh (by rw[aC,HL.o];rfl),HN⟩
   case measure=>simp[intOf];omega
structure aAZ (w:World)(g c n m:Nat)(a:Nat->Nat->Rat)(wr:World)(xs:List mN):Prop where
  own:rG w.heap.size wr (some ⟨g,0,none⟩) c xs
  is:XIs xs n m a
  below:Below w.heap.size w wr
theorem aAZ.put {w wr V:World}{g c n m:Nat}{a a':Nat->Nat->Rat}{xs:List mN}(h:aAZ w g c n m a wr xs)(hb:Below wr.heap.size wr V){i k:Nat}(hi:i<n)(hk:k<m){r:kO}(hr:r.Ok V){b:Bool}{N D:Option Addr}{l e l' d:Nat}(hI:r.Is b N l e D l' d)(ha:∀p q,p<n->q<m->a' p q=if p=i/\q=k then r.q else a p q):
    aAZ w g c n m a' ((((V.setCell ⟨(xs[i]'(by rw[h.is.1];exact hi)).g,k*4,none⟩ (.bool b)).setCell ⟨(xs[i]'(by rw[h.is.1];exact hi)).g,k*4+1,none⟩ (.slice N l e)).setCell ⟨(xs[i]'(by rw[h.is.1];exact hi)).g,k*4+2,none⟩ (.bool false)).setCell ⟨(xs[i]'(by rw[h.is.1];exact hi)).g,k*4+3,none⟩ (.slice D l' d)) (zL xs i k r):=by
  have hi':i<xs.length:=by rw[h.is.1];exact hi
  have hk':k<xs[i].rs.length:=by rw[(h.is.2 i hi').1];exact hk
  have hX:=h.own.keep hb;have hg:=(hX.row_base hi').1;refine⟨(hX.set4 hi' hk' hr hI).1,h.is.set ha,?_⟩;exact hJ (hJ (hJ (hJ (dW h.below hb) hg _ _) hg _ _) hg _ _) hg _ _
end Go.Proofs.Tg
namespace Go.Ps
def dot (m:Nat)(f g:Nat->Rat):Rat:=match m with
 |0=>0
 |m+1=>dot m f g+f m*g m
end Go.Ps
namespace Go.Proofs.Tg
open Go.RowKit Go.Gr Go.Bn Go.Qn
theorem aCo {n:Nat}(h:n<10^250):(dg n).length<=250:=
  mC (aH h (gX (by decide) _))
def aCp (l:List UInt8)(w:World)(e:Ending)(w':World):Prop:=
  Below w.heap.size w w'/\((pL l=false/\∃n A c,e=.returned (.tuple #[.agg #[.bool false,.slice A n c],.bool false]))∨
    (pL l=true/\∃A c,e=.returned (.tuple #[.agg #[.bool false,.slice A (dg (Qn.val l)).length c],.bool true])/\ND w' A c (Qn.val l)))
theorem aJk (q r:List UInt8):Qn.val (q++r)=Qn.val q*10^r.length+Qn.val r:=by
 refine Qn.mQ (P:=λr=>Qn.val (q++r)=Qn.val q*10^r.length+Qn.val r) ?_ ?_ r
 ·simp[Qn.val]
 intro r c ih
 rw[<-cJ,Qn.lJ,ih,Qn.lJ,aC,dC,bS,aZ]
 have e:10*(Qn.val q*10^r.length)=Qn.val q*(10^r.length*10):=by rw[aT,aV]
 omega
theorem aDf {q:List UInt8}(h:∀c∈q,isD c=true):(dg (Qn.val q)).length<=q.length:=
  mC (aH (Qn.kR q h) (gX (by decide) _))
structure FdM (w wr:World)(l:List UInt8)(M:Option Addr)(cm lm n i:Nat):Prop where
  len:(dg n).length=lm
  eq:n=Qn.val (l.take i)
  nd:ND wr M cm n
  dig:∀c∈l.take i,isD c=true
  b2:Blk wr w.heap.size 67 #[.bool false,.slice none 0 0]
  below:Below w.heap.size w wr
theorem aOe (s:ByteArray)(w:World)(h0:0<s.size)(hs:s.size<=64):
    Calls Tryz.prog 83 #[.string s] w (aCp s.data.toList w):=by
  have HL:=zh (mF s);have hbA:Below w.heap.size w (w.alloc (.cells #[.bool false,.slice none 0 0] 67)):=bal;have K2:=Blk.new w 67 #[.bool false,.slice none 0 0];have H0:Hid (FdM w (w.alloc (.cells #[.bool false,.slice none 0 0] 67)) s.data.toList none 0 0 0 0):=zh ⟨by rw[jS];rfl,rfl,ND.zero _,by simp,K2,hbA⟩
  have hne:s.toList.isEmpty=false:=by
   rw[Lib.toList_data]
   cases h:s.data.toList with
   |nil=>have h2:=HL.o;rw[h]at h2;simp at h2;omega
   |cons _ _=>rfl
  have hne':¬s.toList=[]:=by
   rw[Lib.toList_data];intro h;have h2:=HL.o;rw[h]at h2;simp at h2;omega
  clear K2 hbA;go_enter Tryz.func83,Tryz.ntmps83;go_upto_block 0 with(fail);generalize w.alloc (.cells #[.bool false,.slice none 0 0] 67)=w1 at*;go_wp2
  go_loopw [4,5] (λs4 s5 wr=>∃(n lm cm i:Nat) (M:Option Addr),s4=.slice M lm cm/\s5=.int .i64 (i:Nat)/\i<=s.size/\Hid (FdM w wr s.data.toList M cm lm n i)) (λ_ s5 _=>s.size-(intOf s5).toNat)
  case atStart=>exact⟨0,0,0,0,none,rfl,rfl,aW _,H0⟩
  case round=>
   clear H0;obtain⟨wo,rfl⟩:∃wo:World,wo=wr:=⟨_,rfl⟩;obtain⟨n,lm,cm,i,M,rfl,rfl,hi,HM⟩:=hrel
   have hlm:lm<=64:=by
    rw[<-HM.o.len,HM.o.eq];refine aR (aDf HM.o.dig) ?_;rw[aS];omega
   have HBW:=zh HM.o.below;have HB2:=zh HM.o.b2;have hglt:=HM.o.b2.lt;obtain⟨a0,a1,a2,a3⟩:=HM.o.b2.two
   by_cases his:i=s.size
   ·have d1:decide ((i:Int)<(s.size:Int))=false:=dF (by omega);have d2:decide (i<s.size)=false:=dF (by omega)
    have hok:Hid (pL s.data.toList=true):=zh (by
     rw[lV];have h:=HM.o.dig;rw[bF (by rw[HL.o];omega)]at h
     exact⟨h,λe=>by have:=HL.o;rw[e]at this;simp at this;omega⟩)
    have HN:Hid ((dg (Qn.val s.data.toList)).length=lm/\ND wo M cm (Qn.val s.data.toList)):=zh (by
     have e:n=Qn.val s.data.toList:=by rw[HM.o.eq,bF (by rw[HL.o];omega)]
     rw[<-e]
     exact⟨HM.o.len,HM.o.nd⟩)
    have HMK:=zh (λW=>qC false M lm cm W false rfl (by omega));clear his HM a0 a1 a2 a3
    go_wp2_with (go_at_call 84;refine(HMK.o _).mono ?_;rintro e w3 ⟨rfl,hb3⟩;have K3:=HB2.o.keep hb3 HB2.o.lt;obtain⟨j0,j1,j2,j3⟩:=K3.two)
    have hN3:=HN.o.2.keep hb3;refine aO (v:=.tuple #[.agg #[.bool false,.slice M lm cm],.bool true]) (by simp[results,Tryz.results83,go_sem,j0,j1]) rfl ⟨?_,.inr ⟨hok.o,M,cm,by rw[HN.o.1],?_⟩⟩
    ·exact hJ (hJ (dW HBW.o hb3) (aA _) _ _) (aA _) _ _
    exact(hN3.far K3 (by decide) _ _).far (K3.set _ _) (by decide) _ _
   have hil:i<s.size:=by omega
   have d1:decide ((i:Int)<(s.size:Int))=true:=dT (by omega);have d2:decide (i<s.size)=true:=dT hil;clear his;go_upto_block 2 with(fail)
   go_cut [5,6,7] (λs5 s6 s7 wx=>wx=wo/\∃m k x y:Nat,s5=.int .i64 (m:Nat)/\s6=.int .u32 (x:Nat)/\s7=.int .u32 (y:Nat)/\i<m/\m<=s.size/\x<1000000000/\0<y/\y<=1000000000/\Hid (m=i+k/\x=Qn.val ((s.data.toList.drop i).take k)/\y=10^k/\∀c∈(s.data.toList.drop i).take k,isD c=true))
   case first=>
    go_wp2
    go_loop [5,6,7,8] (λs5 s6 s7 s8=>∃m k x y:Nat,s5=.int .i64 (m:Nat)/\s6=.int .u32 (x:Nat)/\s7=.int .u32 (y:Nat)/\s8=.int .i64 (k:Nat)/\m<=s.size/\k<=9/\x<1000000000/\0<y/\y<=1000000000/\Hid (m=i+k/\x=Qn.val ((s.data.toList.drop i).take k)/\y=10^k/\x<10^k/\∀c∈(s.data.toList.drop i).take k,isD c=true)) (λ_ _ _ s8=>9-(intOf s8).toNat)
    case atStart=>exact⟨i,0,0,1,rfl,rfl,rfl,rfl,hi,by omega,by omega,by omega,by omega,zh ⟨rfl,rfl,rfl,by decide,by simp⟩⟩
    case round=>
     obtain⟨m,k,x,y,rfl,rfl,rfl,rfl,hm,hk,hx,hy0,hy,HV⟩:=hrel
     by_cases hk9:k<9
     rotate_left
     ·have h9:decide ((k:Int)<9)=false:=dF (by omega)
      have him:i<m:=by have:=HV.o.1;omega
      have HV2:Hid (m=i+k/\x=Qn.val ((s.data.toList.drop i).take k)/\y=10^k/\∀c∈(s.data.toList.drop i).take k,isD c=true):=zh ⟨HV.o.1,HV.o.2.1,HV.o.2.2.1,HV.o.2.2.2.2⟩;clear HV hk9;go_wp2;go_meet;exact⟨rfl,m,k,x,y,rfl,rfl,rfl,him,hm,hx,hy0,hy,HV2⟩
     have h9:decide ((k:Int)<9)=true:=dT (by omega)
     by_cases hms:m<s.size
     rotate_left
     ·have g0:decide ((m:Int)<(s.size:Int))=false:=dF (by omega);have g0':decide (m<s.size)=false:=dF hms
      have him:i<m:=by omega
      have HV2:Hid (m=i+k/\x=Qn.val ((s.data.toList.drop i).take k)/\y=10^k/\∀c∈(s.data.toList.drop i).take k,isD c=true):=zh ⟨HV.o.1,HV.o.2.1,HV.o.2.2.1,HV.o.2.2.2.2⟩;clear HV hms;go_wp2;go_meet;exact⟨rfl,m,k,x,y,rfl,rfl,rfl,him,hm,hx,hy0,hy,HV2⟩
     have g0:decide ((m:Int)<(s.size:Int))=true:=dT (by omega);have g0':decide (m<s.size)=true:=dT hms
     have hlt':m<s.data.toList.length:=by rw[HL.o];exact hms
     have hltd:k<(s.data.toList.drop i).length:=by rw[cZ];have:=HV.o.1;omega
     have hel:(s.data.toList.drop i)[k]=s[m]:=by
      rw[List.getElem_drop];have e:=HV.o.1;subst e
      rfl
     have HX:Hid (Qn.val ((s.data.toList.drop i).take (k+1))=10*Qn.val ((s.data.toList.drop i).take k)+(s[m].toNat-48)):=zh (by rw[aBr _ _ hltd,hel]);have HT:Hid ((s.data.toList.drop i).take (k+1)=(s.data.toList.drop i).take k++[s[m]]):=zh (by rw[aD hltd,hel]);have HMEM:Hid (s[m]∈s.data.toList):=zh (aB hlt')
     have hb8:10^k<=100000000:=by
      have:10^k<=10^8:=aP (by omega) (by omega);exact aR this (by decide)
     have hx8:x<100000000:=aH HV.o.2.2.2.1 hb8
     have hy8:y<=100000000:=by rw[HV.o.2.2.1];exact hb8
     clear hb8 hel
     by_cases hD:isD s[m]=true
     ·obtain⟨e1,e2⟩:=aAf hD;have e1':(48:Int)<=(s[m].toNat:Int):=e1;have e2':(s[m].toNat:Int)<=57:=e2;have HDD:=zh hD
      have g1:decide ((s[m].toNat:Int)<48)=false:=by simp;omega
      have g2:decide ((57:Int)<(s[m].toNat:Int))=false:=by simp;omega
      clear e1 e2 hD;go_wp2;go_round
      case rel=>
       have h1:=HX.o;have h2:=HV.o;rw[<-h2.2.1]at h1;refine⟨m+1,k+1,10*x+(s[m].toNat-48),y*10,by go_num,by go_num,by go_num,by go_num,by omega,by omega,by omega,by omega,by omega,zh ⟨by omega,h1.symm,by rw[h2.2.2.1,bS],?_,?_⟩⟩
       ·rw[bS];omega
       rw[HT.o];intro c hc
       rcases aK.1 hc with h|h
       ·exact h2.2.2.2.2 c h
       simp at h;subst h;exact HDD.o
      case measure=>simp[intOf];omega
     have hno:Hid (pL s.data.toList=false):=zh (by
      apply cV;rw[lV]
      exact λh=>hD (h.1 _ HMEM.o))
     by_cases hl:s[m].toNat<48
     ·have g1:decide ((s[m].toNat:Int)<48)=true:=by simp;omega
      clear hD;go_wp2;refine aO (v:=.tuple #[.agg #[.bool false,.slice none 0 0],.bool false]) (by simp[results,Tryz.results83,go_sem,a0,a1]) rfl ⟨?_,.inl ⟨hno.o,0,none,0,rfl⟩⟩;exact hJ (hJ HBW.o (aA _) _ _) (aA _) _ _
     have g1:decide ((s[m].toNat:Int)<48)=false:=by simp;omega
     have g2:decide ((57:Int)<(s[m].toNat:Int))=true:=by
      simp;rw[rO]at hD;omega
     clear hD hl;go_wp2;refine aO (v:=.tuple #[.agg #[.bool false,.slice none 0 0],.bool false]) (by simp[results,Tryz.results83,go_sem,a0,a1]) rfl ⟨?_,.inl ⟨hno.o,0,none,0,rfl⟩⟩;exact hJ (hJ HBW.o (aA _) _ _) (aA _) _ _
   case rest=>
    obtain⟨rfl,m,k,x,y,rfl,rfl,rfl,him,hm,hx,hy0,hy,HV⟩:=hcut
    have HDM:Hid (∀c∈s.data.toList.take m,isD c=true):=zh (by
     rw[HV.o.1,List.take_add];intro c hc
     rcases aK.1 hc with h|h
     ·exact HM.o.dig c h
     exact HV.o.2.2.2 c h)
    have HEQ:Hid (n*y+x=Qn.val (s.data.toList.take m)):=zh (by
     have hl:((s.data.toList.drop i).take k).length=k:=by
      rw[aS,cZ,HL.o];have:=HV.o.1;omega
     have e:=HV.o.1
     rw[e,List.take_add,aJk,hl,<-HM.o.eq,<-HV.o.2.1,<-HV.o.2.2.1])
    have hml:(dg (n*y+x)).length<=64:=by
     rw[HEQ.o];refine aR (aDf HDM.o) ?_;rw[aS];omega
    have hml1:(dg (n*y)).length<=64:=aR (jT (iV _ _)) hml;obtain⟨l1,hl1⟩:=eqx ((dg (n*y)).length);obtain⟨l2,hl2⟩:=eqx ((dg (n*y+x)).length);obtain⟨lx,hlx⟩:=eqx ((dg x).length)
    have hlx1:lx<=1:=by rw[<-hlx];exact mC (by rw[Nat.pow_one];simp only[B];omega)
    have hyB:y<4294967296:=by omega
    have hxB:x<4294967296:=by omega
    have hdy:dg y=[y]:=lD (by omega) hyB;have hbW:Below wc.heap.size wc (wc.alloc (.cells #[.int .u32 (y:Nat)] 168)):=bal
    have HMU:Hid (Calls Tryz.prog 129 #[.slice M lm cm,.slice (some ⟨wc.heap.size,0,none⟩) 1 1] (wc.alloc (.cells #[.int .u32 (y:Nat)] 168)) λe w'=>∃R cr,e=.returned (.slice R l1 cr)/\Hid (ND w' R cr (n*y))/\Hid (Below wc.heap.size wc w')):=zh (by
     have:=aJq M (some ⟨wc.heap.size,0,none⟩) cm 1 n y (wc.alloc (.cells #[.int .u32 (y:Nat)] 168)) (HM.o.nd.keep hbW).digs (by rw[hdy];exact aBe (Blk.new wc 168 #[.int .u32 (y:Nat)])) (by rw[HM.o.len];omega) (by rw[hdy];simp);rw[hdy,HM.o.len]at this;unfold yS at this;rw[hl1]at this
     exact this.mono λe w' ⟨R,cr,h1,h2,h3⟩=>⟨R,cr,h1,zh h2,zh (dW hbW h3)⟩)
    have HTR:Hid (∀V:World,Calls Tryz.prog 130 #[.slice (some ⟨V.heap.size,0,none⟩) 1 1] (V.alloc (.cells #[.int .u32 (x:Nat)] 168)) λe w'=>e=.returned (.slice (some ⟨V.heap.size,0,none⟩) lx 1)/\(V.alloc (.cells #[.int .u32 (x:Nat)] 168))=w'):=zh (λV=>by
     have:=uM (some ⟨V.heap.size,0,none⟩) 1 [x] (V.alloc (.cells #[.int .u32 (x:Nat)] 168)) (aBe (Blk.new V 168 #[.int .u32 (x:Nat)])) (by intro z hz;simp at hz;subst hz;exact hxB) (by simp) (by simp)
     have e:Go.Bn.val [x]=x:=by simp[Go.Bn.val]
     rw[e,hlx]at this
     exact this.mono λe w' h=>⟨h.1,h.2.1⟩)
    have HAD:Hid (∀(V:World) (R:Option Addr) (cr:Nat),ND V R cr (n*y)->Calls Tryz.prog 128 #[.slice R l1 cr,.slice (some ⟨V.heap.size,0,none⟩) lx 1] (V.alloc (.cells #[.int .u32 (x:Nat)] 168)) λe w'=>∃R2 cr2,e=.returned (.slice R2 l2 cr2)/\Hid (ND w' R2 cr2 (n*y+x))/\Hid (Below V.heap.size V w')):=zh (λV R cr hR=>by
     have hbV:Below V.heap.size V (V.alloc (.cells #[.int .u32 (x:Nat)] 168)):=bal
     have hdx:kN (V.alloc (.cells #[.int .u32 (x:Nat)] 168)) (some ⟨V.heap.size,0,none⟩) (dg x):=by
      have h1:=aBe (v:=x) (Blk.new V 168 #[.int .u32 (x:Nat)])
      by_cases h0:x=0
      ·rw[h0,jS];exact kN.nil _ _
      rw[lD h0 hxB];exact h1
     have:=aJl R (some ⟨V.heap.size,0,none⟩) cr 1 (n*y) x (V.alloc (.cells #[.int .u32 (x:Nat)] 168)) (hR.keep hbV).digs hdx (by omega) (by omega);unfold yS at this;rw[hl1,hlx,hl2]at this
     exact this.mono λe w' ⟨R2,cr2,h1,h2,h3⟩=>⟨R2,cr2,h1,zh h2,zh (dW hbV h3)⟩)
    have HL2:=zh hl2;have HV1:Hid (i<m):=zh him;clear hl1 hl2 hlx hdy hbW hml hml1 hyB hxB HV a0 a1 a2 a3
    go_wp2_with (first
      |(go_at_call 129;refine HMU.o.mono ?_;rintro e w2 ⟨R,cr,rfl,HR,HB3⟩;have HAD2:=zh (HAD.o w2 R cr HR.o);have HTR2:=zh (HTR.o w2))
      |(go_at_call 130;refine HTR2.o.mono ?_;rintro e w3 ⟨rfl,rfl⟩)
      |(go_at_call 128;refine HAD2.o.mono ?_;rintro e w4 ⟨R2,cr2,rfl,HR2,HB4⟩))
    have HBZ:=dW HB3.o HB4.o;go_roundw
    case rel=>exact⟨n*y+x,l2,cr2,m,R2,rfl,rfl,hm,zh ⟨HL2.o,HEQ.o,HR2.o,HDM.o,HB2.o.keep HBZ HB2.o.lt,dW HBW.o HBZ⟩⟩
    case measure=>simp[intOf];omega
theorem aFS (s:ByteArray)(w:World)(hs:s.size<=64):
    Calls Tryz.prog 83 #[.string s] w (aCp s.data.toList w):=by
  by_cases h0:s.size=0
  ·have e:s=ByteArray.empty:=by
    rw[<-oR s,bV (l:=s.data.toList) (by rw[mF];exact h0)];rfl
   subst e;refine(aKZ w).mono ?_;rintro e w' ⟨hb,⟨h1,h2⟩|⟨h1,_⟩⟩
   ·exact⟨hb,.inl ⟨h1,h2⟩⟩
   exact absurd h1 (by decide)
  exact aOe s w (by omega) hs
end Go.Proofs.Tg
