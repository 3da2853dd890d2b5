/- Parts of the proof. -/
import Derived.Test.YtabdoikbodjidaaGreatDoorMBO42
set_option maxHeartbeats 64000000
set_option maxRecDepth 100000
namespace Go.Pm
open Go.Gr Go.Mo
theorem aIz {S:List (List Int)}(h:IsG S):S.Nodup:=Asc.nodup h.2.2.2.1
theorem aEo:∀n∈[1,2,3,4],∀both∈[true,false],(∀a∈aMc n,lZ n a (oS n both n))/\(oS n both n).Nodup/\(∀m∈oS n both n,oU m=true)/\0<(oS n both n).length/\(oS n both n).length<=5:=by
 decide+kernel
theorem aGI {n:Nat}{S:List (List Int)}(both:Bool)(h1:1<=n)(h4:n<=4)(hI:IsG S)(hn:(S.headD []).length=n):Go.Av.jY n S (oS n both n)/\(∀m∈oS n both n,oU m=true)/\0<(oS n both n).length/\(oS n both n).length<=5/\Go.Proofs.Tg.Bk.rB n S (oS n both n)=0:=by
 obtain⟨c1,c2,c3,c4,c5⟩:=aEo n (by simp only[bA,eH,iC];omega) both (by cases both<;>simp)
 have hp:=hI.2.2.1
 have hgr:=hI.2.2.2.2
 rw[hn]at hp hgr
 have hac:∀a∈S,lZ n a (oS n both n):=λa ha=>c1 a (aDd (hp a ha))
 have hlen:∀m∈oS n both n,m.length=n:=λm hm=>Go.Proofs.Tg.Bk.aAn hm
 refine⟨⟨by omega,hgr,hp,aIz hI,hac,hlen,c2⟩,c3,c4,c5,?_⟩
 have hz:Go.Proofs.Tg.Bk.szE n (oS n both n)=0:=by
  unfold Go.Proofs.Tg.Bk.szE;rw[aJ (by rintro⟨m,hm,hne⟩;exact hne (hlen m hm)),aJ (by omega)]
 unfold Go.Proofs.Tg.Bk.rB
 rw[hz,aJ (by simp),aJ (by simp[c2]),aJ (by rintro⟨a,ha,hne⟩;exact hne (hac a ha))]
theorem aIA {n:Nat}{S:List (List Int)}(h4:n<=4)(hI:IsG S)(hn:(S.headD []).length=n):S.length<=24:=by
 have hp:=hI.2.2.1
 rw[hn]at hp
 have hc:=aED (aIz hI) hp
 have hle:(aMc n).length<=24:=by
  have:n=0∨n=1∨n=2∨n=3∨n=4:=by omega
  rcases this with rfl|rfl|rfl|rfl|rfl<;>decide
 omega
end Go.Pm
namespace Go.Proofs.Tg
open Go.RowKit Go.Gr
theorem aFu (z:Nat)(A:Option Addr)(c:Nat)(ss:List ByteArray)(q:Bool)(w:World)(hS:Sl w A ss.length 1 (ss.map Value.string))(hl:ss.length<=1000000)(hq:q=true↔∀x∈ss,x.size<=z):
    Calls Tryz.prog 14 #[.int .i64 (z:Nat),.slice A ss.length c] w λe w'=>e=.returned (.bool q)/\w=w':=by
  have HS:=zh hS;have HQ:=zh hq;clear hS hq;go_enter Tryz.func14,Tryz.ntmps14;go_wp2
  go_loopw [5] (λs5 wr=>∃k:Nat,s5=.int .i64 k/\k<=ss.length/\Hid (∀j (h:j<ss.length),j<k->ss[j].size<=z)/\w=wr) (λs5 _=>ss.length-(intOf s5).toNat)
  case atStart=>exact⟨0,rfl,aW _,zh (λj _ h=>absurd h (by omega)),rfl⟩
  case round=>
   obtain⟨k,rfl,hk,HN,rfl⟩:=hrel
   by_cases hkl:k<ss.length
   ·obtain⟨ad,rfl,hc⟩:=Sl.at1 HS.o (k:=k) hkl;rw[dP]at hc
    have q0:(0:Int)<=(k:Int):=by omega
    have q1:(k:Int)<(ss.length:Int):=by omega
    have q3:((k:Int)).toNat=k:=by omega
    by_cases h20:ss[k].size<=z
    ·have d1:decide ((z:Int)<(ss[k].size:Int))=false:=dF (by omega);have d2:decide (z<ss[k].size)=false:=dF (by omega)
     have HN2:Hid (∀j (h:j<ss.length),j<k+1->ss[j].size<=z):=zh (λj h hj=>by
      by_cases he:j=k
      ·subst he;exact h20
      exact HN.o j h (by omega))
     clear h20;generalize ss[k]=x at hc d1 d2;go_wp2;go_roundw
     case rel=>exact⟨k+1,by go_num,by omega,HN2,trivial⟩
     case measure=>simp[intOf];omega
    have d1:decide ((z:Int)<(ss[k].size:Int))=true:=dT (by omega);have d2:decide (z<ss[k].size)=true:=dT (by omega);obtain rfl:q=false:=cV (λh=>h20 (HQ.o.1 h _ (aB _)));clear h20;generalize ss[k]=x at hc d1 d2;go_wp2;go_ret;exact⟨rfl,rfl⟩
   obtain rfl:k=ss.length:=by omega
   obtain rfl:q=true:=HQ.o.2 (λx hx=>by
    obtain⟨j,hj,rfl⟩:=bI hx
    exact HN.o j hj hj)
   have dk:decide ((ss.length:Int)<(ss.length:Int))=false:=by simp
   go_wp2;go_ret;exact⟨rfl,rfl⟩
theorem aEh (A:Option Addr)(c:Nat)(ss:List ByteArray)(q:Bool)(w:World)(hS:Sl w A ss.length 1 (ss.map Value.string))(hl:ss.length<=1000000)(hq:q=true↔(ss.length<=25/\∀x∈ss,x.size<=6)):
    Calls Tryz.prog 5 #[.slice A ss.length c] w λe w'=>e=.returned (.bool q)/\w=w':=by
  obtain⟨b,hb⟩:∃b:Bool,b=true↔∀x∈ss,x.size<=6:=⟨decide (∀x∈ss,x.size<=6),gR⟩;have HK:=zh (aFu 6 A c ss b w hS hl hb);have HQ:=zh hq;have HB:=zh hb;obtain⟨len,hlen⟩:=eqx (ss.length);have HL:=zh hlen;rw[hlen]at HK hl ⊢;clear hq hb hS hlen
  by_cases h25:len<=25
  ·have d1:decide ((len:Int)<=25)=true:=dT (by omega);have d2:decide (len<=25)=true:=dT h25
   have hqb:q=b:=by
    cases b with
    |true=>exact HQ.o.2 ⟨by rw[HL.o];exact h25,HB.o.1 rfl⟩
    |false=>
     cases hq:q with
     |false=>rfl
     |true=>exact(HB.o.2 (HQ.o.1 hq).2).symm
   subst hqb;go_enter Tryz.func5,Tryz.ntmps5
   go_wp2_with (go_at_call 14;refine HK.o.mono ?_;rintro e w1 ⟨rfl,rfl⟩)
   go_ret;exact⟨rfl,rfl⟩
  have d1:decide ((len:Int)<=25)=false:=dF (by omega);have d2:decide (len<=25)=false:=dF h25;obtain rfl:q=false:=cV (λh=>h25 (by rw[<-HL.o];exact(HQ.o.1 h).1));go_enter Tryz.func5,Tryz.ntmps5;go_wp2;go_ret;exact⟨rfl,rfl⟩
end Go.Proofs.Tg
namespace Go.Proofs.Tg.Rf
open Go.RowKit Go.Gr Go.Bn Go.Rq Go.Proofs.Tg
open Go.Proofs.Tg.Fi (aBo vq aGF aLw)
structure yZ (w:World)(A:Option Addr)(L:Nat)(ms:List pR):Prop where
  sl:Sl w A ms.length 1 (ms.map pR.cell)
  ok:∀r∈ms,aBo w r.adr r.rs
  len:∀r∈ms,r.rs.length=L
theorem yZ.keep {w w':World}{A:Option Addr}{L:Nat}{ms:List pR}(h:yZ w A L ms)(hb:Below w.heap.size w w'):yZ w' A L ms:=⟨h.sl.keep hb,λr hr=>(h.ok r hr).keep hb,h.len⟩
def oH (ms:List pR)(k:Nat):List Value:=((ms.take k).flatMap pR.qs).map vq
theorem aEf {ms:List pR}{k:Nat}(h:k<ms.length):oH ms (k+1)=oH ms k++(ms[k].qs).map vq:=by
 unfold oH
 rw[aD h,fZ,bH]
 simp
def xE (ms:List pR)(L:Nat)(w:World)(e:Ending)(w':World):Prop:=
  ∃E c,e=.returned (.agg #[.int .i64 (ms.length:Nat),.int .i64 (L:Nat),.slice E (ms.length*L) c])/\w'.ownsRow w.heap.size 9 1 (.slice E (ms.length*L) c) (ms.length*L) (oH ms ms.length)/\Below w.heap.size w w'
structure aOX (w:World)(n L:Nat)(ms:List pR)(wr:World)(k q:Nat)(E:Option Addr)(c:Nat):Prop where
  own:wr.ownsRow w.heap.size 9 1 (.slice E q c) q (oH ms k)
  below:Below w.heap.size w wr
  b0:Blk wr w.heap.size 31 #[.int .i64 0,.int .i64 0,.slice none 0 0]
  b1:Blk wr (w.heap.size+1) 31 #[.int .i64 (n:Nat),.int .i64 (L:Nat),.slice E q c]
theorem aLq:(Tryz.prog.info? 9).map (λi=>(i.zero,i.size,i.bytes))=some (some (.string ⟨#[]⟩),1,16):=by kernel_rfl
theorem aHY {V:World}{base g sz n:Nat}{t t':TypeId}{v:Value}{xs:List Value}{cs:Array Value}(h:V.ownsRow base t' sz v n xs)(B:Blk V g t cs)(hne:t'≠t){a b c:Value}:(((V.setCell ⟨g,0,none⟩ a).setCell ⟨g,1,none⟩ b).setCell ⟨g,2,none⟩ c).ownsRow base t' sz v n xs:=
  pE (pE (pE h (kQ h B hne) a) (kQ h B hne) b) (kQ h B hne) c
theorem aFt (A:Option Addr)(cA L:Nat)(ms:List pR)(w:World)(hA:yZ w A L ms)(hS:∀r∈ms,∀x∈r.rs,Sh x.q)(h0:0<ms.length)(hn:ms.length<=1000)(hL0:0<L)(hL:L<=1000):
    Calls Tryz.prog 8 #[.slice A ms.length cA] w (xE ms L w):=by
  have hmL:ms.length*L<=1000000:=cE hn hL;obtain⟨ad,rfl,hc0⟩:=Sl.at1 hA.sl h0;have hl0:=hA.len ms[0] (aB _)
  have g0:w.cell? (ad.add 0)=some (.slice ms[0].adr L ms[0].cap):=by rw[hc0];simp[pR.cell,hl0]
  rw[show ad.add 0=ad by simp[Addr.add]]at g0;obtain⟨n,hn'⟩:=eqx (ms.length);have HA:=zh hA;have HS:=zh hS;have HPF:Hid (oH ms ms.length=oH ms n):=zh (by rw[hn']);have HRET:Hid (∀(E:Option Addr) c w',w'.ownsRow w.heap.size 9 1 (.slice E (n*L) c) (n*L) (oH ms n)->Below w.heap.size w w'->xE ms L w (.returned (.agg #[.int .i64 (n:Nat),.int .i64 (L:Nat),.slice E (n*L) c])) w'):=zh (λE c w' h1 h2=>⟨E,c,by rw[hn'],by rw[hn'];exact h1,h2⟩);rw[hn']at hmL h0 hn ⊢;have HN:=zh hn';obtain⟨j0,hj0,hjz0,hjz1,hjz2⟩:=info_parts aLq
  have i0:(0:Int)<(n:Int):=by omega
  have e0:((n:Int)==0)=false:=aG.2 (by omega);have e0':((n:Int)=0)=False:=bX (by omega);have e0n:(n=0)=False:=bX (by omega);have e0nb:(n==0)=false:=aG.2 (by omega);generalize ms[0].adr=a0 at*;generalize ms[0].cap=c0 at*;clear hA hS hc0 hl0 hn';go_enter Tryz.func8,Tryz.ntmps8;go_upto_region 1 with(fail);obtain⟨W0,hW0⟩:=eqx (w.alloc (.cells #[.int .i64 0,.int .i64 0,.slice none 0 0] 31))
  have B0:Blk W0 w.heap.size 31 #[.int .i64 0,.int .i64 0,.slice none 0 0]:=by rw[<-hW0];exact Blk.new _ _ _
  have hbW0:Below w.heap.size w W0:=by rw[<-hW0];exact bal
  have hsW0:W0.heap.size=w.heap.size+1:=by rw[<-hW0];simp
  rw[hW0];have g1:=gL hbW0 g0;clear hW0;go_upto_region 4 with(fail);go_wp2
  go_loopw [4] (λs4 wr=>∃(k q:Nat) (E:Option Addr) (c:Nat),s4=.int .i64 k/\k<=n/\Hid (q=k*L)/\q<=1000000/\Hid (aOX w n L ms wr k q E c)) (λs4 _=>n-(intOf s4).toNat)
  case atStart=>
   refine⟨0,0,none,0,rfl,aW _,zh (by simp),by omega,zh ⟨dR _ _ _ _,?_,?_,?_⟩⟩
   ·exact hbW0.alloc (by omega) _
   ·exact B0.alloc _
   have:=Blk.new W0 31 #[.int .i64 (n:Nat),.int .i64 (L:Nat),.slice none 0 0];rw[hsW0]at this;exact this
  case round=>
   obtain⟨wo,rfl⟩:∃wo:World,wo=wr:=⟨_,rfl⟩;obtain⟨k,q,E,c,rfl,hk,HQ,hq,HST⟩:=hrel;have hbo:=HST.o.below
   by_cases hkl:k<n
   ·have hkm:k<ms.length:=by rw[HN.o];exact hkl
    obtain⟨ad',had,hc0⟩:=Sl.at1 (HA.o.keep hbo).sl hkm
    injection had with had
    subst had;have hlk:=HA.o.len ms[k] (aB _)
    have g2:wo.cell? (ad.add k)=some (.slice ms[k].adr L ms[k].cap):=by rw[hc0];simp[pR.cell,hlk]
    have HTX:Hid (∀V,Below wo.heap.size wo V->Calls Tryz.prog 24 #[.slice ms[k].adr L ms[k].cap] V λe w'=>∃g,e=.returned (.slice (some ⟨g,0,none⟩) L L)/\Blk w' g 9 ((ms[k].qs).map vq).toArray/\wo.heap.size<=g/\Below wo.heap.size wo w'):=zh (λV h=>by
     have:=aGF ms[k].adr ms[k].cap ms[k].rs V ((HA.o.ok _ (aB _)).keep (dW hbo h)) (HS.o _ (aB _)) (by rw[hlk];omega);rw[hlk]at this;refine this.mono ?_;rintro e w' ⟨g,rfl,hB,hg,hb⟩;refine⟨g,?_,hB,aR h.size hg,dW h hb⟩
     rw[aI,hlk])
    have HQL:Hid ((ms[k].qs).length=L):=zh (by unfold pR.qs;rw[aI,hlk]);have HPS:=zh (aEf hkm);have HQ2:Hid (q+L=(k+1)*L):=zh (by rw[eV,<-HQ.o])
    have hq2:q+L<=1000000:=by
     have:(k+1)*L<=n*L:=cE (by omega) (aA L);rw[HQ2.o];omega
    clear hc0 hlk;generalize ms[k].adr=rA at*;generalize ms[k].cap=rC at*;generalize ms[k].qs=qs at*
    have p0:(0:Int)<=(k:Int):=by omega
    have p1:(k:Int)<(n:Int):=by omega
    have p3:((k:Int)).toNat=k:=by omega
    have ec1:decide ((k:Int)<(n:Int))=true:=dT (by omega);have ec2:decide (k<n)=true:=dT hkl;have hown:=HST.o.own;have z20:=HST.o.b1.three.2.2.1;have hl1:=HST.o.b1.lt;have hs1:=hbo.size
    have hob:some (ad.add k).block≠(Value.slice E q c).ownBlock:=by
     rw[kK];intro e;have h1:=(hown.lt ad.block e.symm).1;have h2:=bQ w _ g0;omega
    go_upto_region 7 with(fail);have BZ:Below wo.heap.size wo wo.drew:=brf.drew;refine dG (S:=(λw'=>w'.cell? (ad.add k)=some (.slice rA L rC))) (by kernel_rfl) (gL BZ g2) (λhHeld=>?_);generalize wo.drew=Z at*;refine gLd 0 22 (.pointer (some ⟨w.heap.size+1,2,none⟩)) rfl rfl hHeld ?_;simp only[mO];refine gLd 2 24 (.slice (some ad) n cA) rfl rfl hHeld ?_;simp only[mO];refine gLd 3 25 (.int .i64 (k:Nat)) rfl rfl hHeld ?_;simp only[mO];refine gLd 4 26 (.pointer (some (ad.add k))) rfl rfl hHeld ?_;simp only[mO];refine gLd 5 27 (.slice rA L rC) rfl rfl hHeld ?_;simp only[mO];refine gRd [1,6] ?_;refine fC rfl (λK hK=>?_) (fC rfl (λK hK=>?_) dM)
    ·have z2:=gL BZ z20;go_simp;refine hK.o _ _ (gL BZ g2) (λhHeld=>?_);clear hK K z2;have BZ1:=BZ;generalize Z=Z1 at*;(try simp only[jA]);refine gRd [6] ?_;refine fC rfl (λK hK=>?_) dM;go_simp;refine(HTX.o _ BZ1).mono ?_;rintro e Z2 ⟨g,rfl,hG,hgl,BZ2⟩;(try go_simp);refine hK.o _ _ (gL BZ2 g2) (λhHeld=>?_);clear hK K;(try simp only[jA]);refine gRd [7] ?_;refine fC rfl (λK hK=>?_) dM;have hown2:=kL hown BZ2 (aA _);have hsz2:=BZ2.size;have HNW:Hid (∀j u,(qs.map vq)[j]?=some u->Z2.cell? ((⟨g,0,none⟩:Addr).add j)=some u):=zh (λj u hu=>by rw[kI,bN,hG.cell j];simpa using hu);have HNL:Hid ((qs.map vq).length=L*1):=zh (by rw[aI,HQL.o,dI])
     refine step_append_lies _ (by rfl) _ _ 23 (by rfl) w.heap.size 9 j0 _ 1 16 Tryz.underlying23 hj0 hjz0 hjz1 hjz2 rfl (by decide) (.slice E q c) q (oH ms k) (by simp[Act.eval]) hown2 ⟨g,0,none⟩ L L (qs.map vq) (by simp[Act.eval]) HNL.o HNW.o (by intro u hu;obtain⟨x,_,rfl⟩:=aM.1 hu;rfl) (by omega) (by simp only[maxLen];omega) (by omega) (by omega) Z2.heap.size rfl ?_;intro g3 cap Z3 hown3 hg3 _ _;have r0:=hg3.cell (gL BZ2 g2) hob;have hB1:=(HST.o.b1.keep BZ2 hl1).grown hg3 (kQ hown2 (HST.o.b1.keep BZ2 hl1) (by decide));have hB0:=(HST.o.b0.keep BZ2 HST.o.b0.lt).grown hg3 (kQ hown2 (HST.o.b0.keep BZ2 HST.o.b0.lt) (by decide));have hb5:=dW hbo BZ2;have hb6:=hb5.grown hg3 hb5.size (λk hk=>(hown2.lt k hk).1);refine hK.o _ _ r0 (λhHeld=>?_);clear hK K HNW hG;(try simp only[jA])
     refine gLd 8 30 (.pointer (some ⟨w.heap.size+1,2,none⟩)) rfl rfl hHeld ?_;simp only[mO];refine gRd [9] ?_;refine fC rfl (λK hK=>?_) dM
     have HST3:Hid (aOX w n L ms (Z3.setCell ⟨w.heap.size+1,2,none⟩ (.slice (some ⟨g3,0,none⟩) (q+L) cap)) (k+1) (q+L) (some ⟨g3,0,none⟩) cap):=zh (by
      refine⟨?_,?_,?_,?_⟩
      ·rw[HPS.o];exact pE hown3 (kQ hown3 hB1 (by decide)) _
      ·exact hJ hb6 (by simp) _ _
      ·exact hB0.far (by simp) _
      exact hB1.set 2 _)
     have r9:(Z3.setCell ⟨w.heap.size+1,2,none⟩ (.slice (some ⟨g3,0,none⟩) (q+L) cap)).cell? (ad.add k)=some (.slice rA L rC):=by
      rw[bR _ _ _ _ (λe=>by
       have h1:=bK Addr.block e;rw[kK]at h1;have h2:=bQ w _ g0;simp only at h1
       omega)]
      exact r0
     obtain⟨c0,c1,c2,f0,f1,f2⟩:=hB1.three;go_simp;refine hK.o _ _ r9 (λhHeld=>?_);clear hK K;(try simp only[jA]);refine fD (by kernel_rfl) ?_ _;go_wp2;go_roundw
     case rel=>exact⟨k+1,q+L,some ⟨g3,0,none⟩,cap,by go_num,by omega,HQ2,hq2,HST3⟩
     case measure=>simp[intOf];omega
    go_simp;refine(HTX.o _ BZ).mono ?_;rintro e Z5 ⟨g,rfl,hG,hgl,BZ5⟩;(try go_simp);refine hK.o _ _ (gL BZ5 g2) (λhHeld=>?_);clear hK K;(try simp only[jA]);refine gRd [1] ?_;refine fC rfl (λK hK=>?_) dM;have z2:=gL BZ5 z20;go_simp;refine hK.o _ _ (gL BZ5 g2) (λhHeld=>?_);clear hK K z2;have BZ6:=BZ5;generalize Z5=Z6 at*;(try simp only[jA]);refine gRd [7] ?_;refine fC rfl (λK hK=>?_) dM;have hown2:=kL hown BZ6 (aA _);have hsz2:=BZ6.size;have HNW:Hid (∀j u,(qs.map vq)[j]?=some u->Z6.cell? ((⟨g,0,none⟩:Addr).add j)=some u):=zh (λj u hu=>by rw[kI,bN,hG.cell j];simpa using hu);have HNL:Hid ((qs.map vq).length=L*1):=zh (by rw[aI,HQL.o,dI])
    refine step_append_lies _ (by rfl) _ _ 23 (by rfl) w.heap.size 9 j0 _ 1 16 Tryz.underlying23 hj0 hjz0 hjz1 hjz2 rfl (by decide) (.slice E q c) q (oH ms k) (by simp[Act.eval]) hown2 ⟨g,0,none⟩ L L (qs.map vq) (by simp[Act.eval]) HNL.o HNW.o (by intro u hu;obtain⟨x,_,rfl⟩:=aM.1 hu;rfl) (by omega) (by simp only[maxLen];omega) (by omega) (by omega) Z6.heap.size rfl ?_;intro g3 cap Z7 hown3 hg3 _ _;have r0:=hg3.cell (gL BZ6 g2) hob;have hB1:=(HST.o.b1.keep BZ6 hl1).grown hg3 (kQ hown2 (HST.o.b1.keep BZ6 hl1) (by decide));have hB0:=(HST.o.b0.keep BZ6 HST.o.b0.lt).grown hg3 (kQ hown2 (HST.o.b0.keep BZ6 HST.o.b0.lt) (by decide));have hb5:=dW hbo BZ6;have hb6:=hb5.grown hg3 hb5.size (λk hk=>(hown2.lt k hk).1);refine hK.o _ _ r0 (λhHeld=>?_);clear hK K HNW hG;(try simp only[jA])
    refine gLd 8 30 (.pointer (some ⟨w.heap.size+1,2,none⟩)) rfl rfl hHeld ?_;simp only[mO];refine gRd [9] ?_;refine fC rfl (λK hK=>?_) dM
    have HST3:Hid (aOX w n L ms (Z7.setCell ⟨w.heap.size+1,2,none⟩ (.slice (some ⟨g3,0,none⟩) (q+L) cap)) (k+1) (q+L) (some ⟨g3,0,none⟩) cap):=zh (by
     refine⟨?_,?_,?_,?_⟩
     ·rw[HPS.o];exact pE hown3 (kQ hown3 hB1 (by decide)) _
     ·exact hJ hb6 (by simp) _ _
     ·exact hB0.far (by simp) _
     exact hB1.set 2 _)
    have r9:(Z7.setCell ⟨w.heap.size+1,2,none⟩ (.slice (some ⟨g3,0,none⟩) (q+L) cap)).cell? (ad.add k)=some (.slice rA L rC):=by
     rw[bR _ _ _ _ (λe=>by
      have h1:=bK Addr.block e;rw[kK]at h1;have h2:=bQ w _ g0;simp only at h1
      omega)]
     exact r0
    obtain⟨c0,c1,c2,f0,f1,f2⟩:=hB1.three;go_simp;refine hK.o _ _ r9 (λhHeld=>?_);clear hK K;(try simp only[jA]);refine fD (by kernel_rfl) ?_ _;go_wp2;go_roundw
    case rel=>exact⟨k+1,q+L,some ⟨g3,0,none⟩,cap,by go_num,by omega,HQ2,hq2,HST3⟩
    case measure=>simp[intOf];omega
   obtain rfl:k=n:=by omega
   have dk:decide ((k:Int)<(k:Int))=false:=by simp
   obtain⟨z0,z1,z2,_⟩:=HST.o.b1.three;obtain⟨y0,y1,y2,f0,f1,f2⟩:=HST.o.b0.three;have hown:=HST.o.own;rw[HQ.o]at hown;have HQ':=HQ.o;have hbk:=HST.o.below;have HO:=zh hown;have HB0:=zh HST.o.b0;subst HQ';clear HST HQ hown;go_wp2;have B':=((HB0.o.set 0 (.int .i64 (k:Nat))).set 1 (.int .i64 (L:Nat))).set 2 (.slice E (k*L) c);obtain⟨t0,t1,t2,_⟩:=B'.three;refine aO (v:=.agg #[.int .i64 (k:Nat),.int .i64 (L:Nat),.slice E (k*L) c]) (by simp[results,Tryz.results8,go_sem,t0,t1,t2]) rfl (HRET.o E c _ ?_ ?_)
   ·exact aHY HO.o HB0.o (by decide)
   exact hJ (hJ (hJ hbk (by omega) _ _) (by omega) _ _) (by omega) _ _
end Go.Proofs.Tg.Rf
namespace Go.Proofs.Tg
open Go.RowKit Go.Gr Go.Bn Go.Rq Go.Ps
open Go.Proofs.Tg.Fi (vq aBo)
open Go.Proofs.Tg.Rf (oH yZ xE)
theorem aHl {ms:List pR}{n L:Nat}{a:Nat->Nat->Rat}(h:RIs ms n L a)(hL:0<L):oH ms ms.length=((List.range (n*L)).map (Go.Av.fl a L)).map vq:=by
 obtain⟨hn,hr⟩:=h
 have key:∀k,k<=ms.length->(ms.take k).flatMap pR.qs=(List.range (k*L)).map (Go.Av.fl a L):=by
  intro k
  induction k with
  |zero=>intro _;simp
  |succ k ih=>
   intro hk;obtain⟨h1,h2⟩:=hr k hk;rw[aD hk,fZ,ih (by omega),eV,List.range_add,bH,List.flatMap_singleton,List.map_map]
   congr 1
   refine dJ (by simp[pR.qs,h1]) λj g1 g2=>?_
   have hj:j<L:=by simpa using g2
   have e1:(k*L+j)/L=k:=by rw[aT,eX hL,cT hj,bW]
   have e2:(k*L+j)%L=j:=by rw[aT,fG,cU hj]
   simp[pR.qs,Go.Av.fl,e1,e2,h2 j (by rw[h1];exact hj)]
 unfold oH
 rw[key _ (aA _),hn]
theorem aMR.rows {w:World}{A:Option Addr}{n L:Nat}{a:Nat->Nat->Rat}(h:aMR w A n L a):∃ms,yZ w A L ms/\RIs ms n L a:=by
 obtain⟨ms,h1,h2,h3⟩:=h
 refine⟨ms,⟨h1,h2,λr hr=>?_⟩,h3⟩
 obtain⟨i,hi,rfl⟩:=bI hr
 exact(h3.2 i hi).1
end Go.Proofs.Tg
namespace Go.Proofs.Tg.Bk
open Go.RowKit Go.Gr Go.Sp Go.Ev Go.Pm Go.Bn Go.Rq Go.Ps
open Go.Proofs.Tg.Fi (vq mX)
open Go.Proofs.Tg.Rf (oH yZ xE)
open Go.Proofs.Tg.Iw (yH aAY)
open Go.Av (sm mean fl)
theorem aHm (A:Option Addr)(c:Nat)(ss:List ByteArray)(q:Bool)(w:World)(hS:Sl w A ss.length 1 (ss.map Value.string))(hq:q=true↔(ss.length<=25/\∀x∈ss,x.size<=6)):
    Calls Tryz.prog 5 #[.slice A ss.length c] w λe w'=>e=.returned (.bool q)/\w=w':=by
  by_cases h25:ss.length<=25
  ·exact aEh A c ss q w hS (by omega) hq
  obtain rfl:q=false:=cV (λh=>h25 (hq.1 h).1);have d1:decide ((ss.length:Int)<=25)=false:=dF (by omega);have d2:decide (ss.length<=25)=false:=dF h25;clear hS hq;generalize ss.length=len at*;go_enter Tryz.func5,Tryz.ntmps5;go_wp2_with (fail);go_ret;exact⟨rfl,rfl⟩
structure rL (w:World)(H Bs:Option Addr)(n:Nat)(S bs:List (List Int)):Prop where
  at1:jV w H S
  at2:jV w Bs bs
  isg:IsG S
  hd:(S.headD []).length=n
  acts:Go.Av.jY n S bs
  vld:∀m∈bs,Go.Mo.oU m=true
  pos:0<bs.length
  few:bs.length<=5
  zero:rB n S bs=0
  sfew:S.length<=24
theorem rL.of {w w':World}{both:Bool}{e:Ending}(h:aFJ both w e w'):∃(G B:Option Addr) (cG cB n:Nat) (S bs:List (List Int)),e=.returned (.tuple #[.slice G S.length cG,.slice B bs.length cB])/\rL w' G B n S bs/\Below w.heap.size w w':=by
 obtain⟨G,B,cG,cB,n,S,bs,h1,h2,h3,h4,h5,h6,h7,rfl,h9⟩:=h
 obtain⟨c1,c2,c3,c4,c5⟩:=aGI both h4 h5 h6 h7
 exact⟨G,B,cG,cB,n,S,_,h1,⟨h2,h3,h6,h7,c1,c2,c3,c4,c5,aIA h5 h6 h7⟩,h9⟩
theorem rL.keep {w w':World}{H Bs:Option Addr}{n:Nat}{S bs:List (List Int)}(h:rL w H Bs n S bs)(hb:Below w.heap.size w w'):rL w' H Bs n S bs:=
  ⟨h.at1.keep hb,h.at2.keep hb,h.isg,h.hd,h.acts,h.vld,h.pos,h.few,h.zero,h.sfew⟩
theorem rL.average {w:World}{H Bs E:Option Addr}{n e:Nat}{S bs:List (List Int)}(h:rL w H Bs n S bs)(f:Nat->Rat)(cH cB c:Nat)(hf:Go.Av.BdE e (bs.length*bs.length) f)(he:e+2<=500)
    (hE:Sl w E (bs.length*bs.length) 1 (((List.range (bs.length*bs.length)).map f).map vq)) (ht:PT w) (hT:Tab w):
    Calls Tryz.prog 10 #[.agg #[.int .i64 bs.length,.int .i64 bs.length,.slice E (bs.length*bs.length) c],.slice H S.length cH,.slice Bs bs.length cB] w (aCn bs.length (bs.length*bs.length) ((List.range (bs.length*bs.length)).map (mean f (Go.Av.jY.im n S bs) bs.length)) w):=by
  have hhd:=h.hd;have hm:Go.Av.BdE (e+2) (bs.length*bs.length) (mean f (Go.Av.jY.im n S bs) bs.length):=hf.means h.acts (by have:=h.sfew;omega)
  have hwS:∀x∈S,x.length<=1000:=λx hx=>by
   have:=(h.acts.perm x hx).1;have:=h.acts.n6;omega
  have hwB:∀x∈bs,x.length<=1000:=λx hx=>by
   have:=h.acts.len x hx;have:=h.acts.n6;omega
  have h5:=h.few;have hsf:=h.sfew;subst hhd;refine aEB H Bs E cH cB c S bs ((List.range (bs.length*bs.length)).map f) f w h.at1 (by omega) hwS h.at2 hwB h.pos (by omega) h.isg h.vld h.zero h.acts (by simp) hE (λx hx=>?_) (λp hp=>by simp) (λk hk j=>?_) (λk hk=>hm.one (by omega) hk) ht hT
  ·obtain⟨p,hp,rfl⟩:=aM.1 hx;exact hf.one (by omega) (bD.1 hp)
  refine hf.sum (by omega) ?_ (λp hp=>?_)
  ·have h1:=Go.Av.aAp ((Go.Av.lB (Go.Av.jY.im (S.headD []).length S bs) bs.length k).take j)
   have h2:(Go.Av.lB (Go.Av.jY.im (S.headD []).length S bs) bs.length k).length=S.length:=by
    unfold Go.Av.lB Go.Av.jY.im;rw[aI,aI]
   rw[aS,h2]at h1;omega
  exact h.acts.orbit_lt hk (eS ((Go.Av.nH _ _).1 hp))
theorem aHn {w:World}{A B:Option Addr}{a b:List Int}{ca cb:Nat}(h1:kP w A a)(h2:kP w B b):jV (w.alloc (.cells #[.slice A a.length ca,.slice B b.length cb] 22)) (some ⟨w.heap.size,0,none⟩) [a,b]:=by
 have hal:=dX (bM w.heap.size w) (aA _) (.cells #[.slice A a.length ca,.slice B b.length cb] 22)
 refine⟨λi=>if i=0 then(A,ca)else(B,cb),?_,λi hi=>?_⟩
 ·have h0:Blk (w.alloc (.cells #[.slice A a.length ca,.slice B b.length cb] 22)) w.heap.size 22 [.slice A a.length ca,.slice B b.length cb].toArray:=Blk.new w 22 _
  exact vX (n:=2) h0 (by simp)
 have:i=0∨i=1:=by simp at hi;omega
 rcases this with rfl|rfl
 ·exact Sl.keep h1 hal
 exact Sl.keep h2 hal
end Go.Proofs.Tg.Bk
namespace Go.Proofs.Tg
open Go.RowKit Go.Gr Go.Bn Go.Qn
theorem aOh (p q:Bool)(N D:Option Addr)(cn cd n m:Nat)(w:World)(hN:ND w N cn n)(hD:ND w D cd (dnz m))(hn:n<1000000000)(hm:m<1000000000)(hm0:m≠0):
    Calls Tryz.prog 51 #[.agg #[.bool p,.slice N (dg n).length cn,.bool q,.slice D (dg (dnz m)).length cd]] w λe w'=>e=.returned (.string (bs (lN p n m)))/\Below w.heap.size w w':=by
  have d1:=hN.digs;have d2:=hD.digs;rw[aJi (aH hn (by decide))]at d1 ⊢;rw[aNx (aH hm (by decide))]at d2 ⊢;exact aDT p q N D cn cd n m w d1 d2 hn hm hm0
def aOi (l:List UInt8)(w:World)(e:Ending)(w':World):Prop:=
  Below w.heap.size w w'/\((rd l=none/\∃x A n c y B m d,e=.returned (.tuple #[.agg #[.bool x,.slice A n c,.bool y,.slice B m d],.bool false]))∨
    (∃b n m,rd l=some (b,n,m)/\n<10^8/\m<10^8/\m≠0/\∃N cn D cd,e=.returned (.tuple #[.agg #[.bool b,.slice N (dg n).length cn,.bool false,.slice D (dg (dnz m)).length cd],.bool true])/\ND w' N cn n/\ND w' D cd (dnz m)))
structure RSs (w:World)(g:Nat)(l:List UInt8)(sb:Bool)(n m:Nat)(N:Option Addr)(cn:Nat)(D:Option Addr)(cd:Nat)(wx:World):Prop where
  below:Below w.heap.size w wx
  b2:Blk wx w.heap.size 69 #[.bool false,.slice none 0 0,.bool false,.slice none 0 0]
  b10:Blk wx g 69 #[.bool sb,.slice N (dg n).length cn,.bool false,.slice D (dg (dnz m)).length cd]
  dn:ND wx N cn n
  dd:ND wx D cd (dnz m)
  ref:vP l=some (sb,n,m)
  bn:n<10^8
  bm:m<10^8
  m0:m≠0
theorem aMj (s:ByteArray)(w:World)(hs:s.size<=8):
    Calls Tryz.prog 52 #[.string s] w (aOi s.data.toList w):=by
  obtain⟨l,hl⟩:=eqx (s.data.toList);rw[hl];obtain⟨b,r,hc⟩:∃b r,cut l=(b,r):=⟨_,_,rfl⟩
  have hll:l.length=s.size:=by rw[<-hl];exact mF s
  have hrl:r.length<=8:=by
   have:=(rP hc).2;omega
  obtain⟨k0,hk0⟩:=eqx ((r.takeWhile oD).length)
  have hk0l:k0<=r.length:=by rw[<-hk0];exact aFk _ _
  have HK0:=zh hk0;have HC:=zh hc;have HLL:=zh hl
  have HB:Hid (b=decide (s.data.toList.head?=some 45)/\bs r=if b=true then s.extract 1 s.size else s):=zh (by
   have h1:=hc;unfold cut at h1;rw[hl]
   by_cases h:l.head?=some 45
   ·rw[aQ h]at h1
    injection h1 with e1 e2
    subst e1 e2;rw[dT h];exact⟨rfl,by rw[aQ rfl,tJ,hl];simp⟩
   rw[aJ h]at h1
   injection h1 with e1 e2
   subst e1 e2;rw[dF h]
   exact⟨rfl,by rw[aJ (by simp),<-hl,oR]⟩)
  clear hk0 hc hl;obtain⟨R,hR⟩:=eqx (bs r);rw[hR]at HB
  have hRs:R.size<=8:=by rw[<-hR,kA];exact hrl
  have hkR:k0<=R.size:=by rw[<-hR,kA];exact hk0l
  have HRR:=zh hR;have HRL:Hid (R.size=r.length):=zh (by rw[<-hR,kA]);clear hR hrl hk0l;obtain⟨W,hW⟩:=eqx (w.alloc (.cells #[.bool false,.slice none 0 0,.bool false,.slice none 0 0] 69))
  have B2:Blk W w.heap.size 69 #[.bool false,.slice none 0 0,.bool false,.slice none 0 0]:=by rw[<-hW];exact Blk.new _ _ _
  have hbW:Below w.heap.size w W:=by rw[<-hW];exact bal
  go_enter Tryz.func52,Tryz.ntmps52;go_upto_region 2 with(fail)
  try rw[hW]
  clear hW
  go_cut [5]from 13 (λs5 wx=>s5=.bool b/\W=wx)
  case first=>
   by_cases h0:0<s.size
   ·have hh:s.data.toList.head?=some s[0]:=by
     have hlen:=mF s
     cases h:s.data.toList with
     |nil=>rw[h]at hlen;simp at hlen;omega
     |cons x t=>
      simp only[List.head?_cons,gG];have:s[0]=s.data.toList[0]'(by rw[hlen];exact h0):=rfl;rw[this];simp[h]
    have hd0:decide ((0:Int)<(s.size:Int))=true:=by simp;omega
    have hd0':decide (0<s.size)=true:=by simp;omega
    by_cases h45:s[0]=45
    ·have hq:((s[0].toNat:Int)==45)=true:=by rw[h45];rfl
     have hb:b=true:=by rw[HB.o.1,hh,h45];rfl
     subst hb;clear hh h45;go_wp2;go_meet;exact⟨rfl,rfl⟩
    have hq:((s[0].toNat:Int)==45)=false:=by
     apply aG.2;intro e
     have e2:s[0].toNat=45:=by omega
     exact h45 (iT.1 (by rw[e2];rfl))
    have hb:b=false:=by rw[HB.o.1,hh];simp[h45]
    subst hb;clear hh h45;go_wp2;go_meet;exact⟨rfl,rfl⟩
   have hb:b=false:=by
    rw[HB.o.1];have hlen:=mF s;have:s.data.toList=[]:=bV (by omega);rw[this];rfl
   subst hb;have hd0:decide ((0:Int)<(s.size:Int))=false:=dF (by omega);have hd0':decide (0<s.size)=false:=dF h0;go_wp2;go_meet;exact⟨rfl,rfl⟩
  case rest=>
   obtain⟨rfl,rfl⟩:=hcut;go_upto_if 22 with(fail)
   go_cut [4]from 13 (λs4 wx=>s4=.string R/\W=wx)
   case first=>
    have HBR:=zh HB.o.2
    have hs1:b=true->1<=(s.size:Int):=by
     intro h;have h1:=HB.o.1;rw[h]at h1;have hlen:=mF s
     cases h2:s.data.toList with
     |nil=>rw[h2]at h1;simp at h1
     |cons x t=>rw[h2]at hlen;simp at hlen;omega
    cases b with
    |true=>
     have hs1:=hs1 rfl;go_wp2;go_meet;exact⟨by rw[HBR.o,aQ trivial],rfl⟩
    |false=>
     go_wp2;go_meet;exact⟨by rw[HBR.o,aJ (by simp)],rfl⟩
   case rest=>
    obtain⟨rfl,rfl⟩:=hcut;go_upto_block 0 with(fail)
    go_cut [6,7]from 13 (λs6 s7 wx=>s6=.int .i64 k0/\W=wx)
    case first=>
     go_wp2
     go_loop [6,7] (λs6 s7=>∃k:Nat,s6=.int .i64 R.size/\s7=.int .i64 k/\k<=R.size/\Hid (∀c∈r.take k,oD c=true)) (λ_ s7=>R.size-(intOf s7).toNat)
     case atStart=>exact⟨0,rfl,rfl,aW _,zh (by simp)⟩
     case round=>
      obtain⟨k,rfl,rfl,hk,HN⟩:=hrel
      by_cases hlt:k<R.size
      ·have hlr:k<r.length:=by rw[<-HRL.o];exact hlt
       have HX:Hid (R[k]=r[k]):=zh (by
        have h:=HRR.o;subst h
        rfl)
       have HT0:Hid (r.take (k+1)=r.take k++[r[k]]):=zh (aD hlr)
       by_cases h47:R[k]=47
       ·have hq:((R[k].toNat:Int)==47)=true:=by rw[h47];rfl
        obtain rfl:k=k0:=by
         have h1:=aPJ r k HN.o (.inr ⟨hlr,by rw[<-HX.o,h47];rfl⟩);rw[HK0.o]at h1;omega
        clear h47;go_wp2;go_meet;exact⟨rfl,rfl⟩
       have hq:((R[k].toNat:Int)==47)=false:=by
        apply aG.2;intro e
        have e2:R[k].toNat=47:=by omega
        exact h47 (iT.1 (by rw[e2];rfl))
       have HN2:Hid (∀c∈r.take (k+1),oD c=true):=zh (by
        rw[HT0.o];intro c hc
        rcases aK.1 hc with h|h
        ·exact HN.o c h
        simp only[bA,eH,iC]at h;rw[h,<-HX.o];unfold oD
        simp[h47])
       clear h47;go_wp2;go_round
       case rel=>exact⟨k+1,rfl,by go_num,by omega,HN2⟩
       case measure=>simp[intOf];omega
      have hkk:k0=R.size:=by
       have h1:=aPJ r k HN.o (.inl (by rw[<-HRL.o];omega));rw[HK0.o,<-HRL.o]at h1;omega
      obtain rfl:k=R.size:=by omega
      have dd:decide (R.size<R.size)=false:=by simp
      have HKK:=zh hkk;clear hkk;go_wp2;go_meet;exact⟨by rw[HKK.o],rfl⟩
    case rest=>
     obtain⟨rfl,rfl⟩:=hcut;obtain⟨ta,hta⟩:=eqx (r.takeWhile oD)
     have hex:R.extract 0 k0=bs ta:=by
      rw[<-HRR.o,aCQ,kG,<-hta];have:=eQ (p:=oD) (l:=r)
      have h2:r.take k0=r.takeWhile oD:=by
       rw[<-HK0.o];have h3:=List.take_left (l₁:=r.takeWhile oD) (l₂:=r.dropWhile oD);rw[this]at h3;exact h3
      simpa using bK bs h2
     have htl:ta.length<=8:=by rw[<-hta,HK0.o];omega
     have HFD1:Hid (∀V,Calls Tryz.prog 83 #[.string (R.extract 0 k0)] V (aCp ta V)):=zh (λV=>by
      rw[hex]
      exact aFS (bs ta) V (by rw[kA];omega))
     have q1:(k0:Int)<=(R.size:Int):=by omega
     have q2:(0:Int)<=(k0:Int):=by omega
     have q3:((k0:Int)).toNat=k0:=by omega
     have HTA:=zh hta;clear hta hex;go_wp2_with (fail);refine(HFD1.o _).mono ?_;rintro e w1 ⟨hb1,⟨hno,n,A,c,rfl⟩|⟨hok,ad,c,rfl,hD⟩⟩
     ·have C2:=B2.keep hb1 B2.lt;obtain⟨a0,a1,a2,a3,f0,f1,f2,f3⟩:=C2.four;have hlt2:=C2.lt
      have HRN:Hid (rd l=none):=zh (vQ (by
       unfold vP;rw[HC.o,HTA.o]
       simp[hno]))
      clear hno;go_wp2;refine aO (v:=.tuple #[.agg #[.bool false,.slice none 0 0,.bool false,.slice none 0 0],.bool false]) (by simp[results,Tryz.results52,go_sem,a0,a1,a2,a3,hlt2]) rfl ⟨?_,.inl ⟨HRN.o,false,none,0,0,false,none,0,0,rfl⟩⟩;have hsz:=(dW hbW hb1).size;exact(hJ (hJ (hJ (hJ (dW hbW hb1) (aA _) _ _) (aA _) _ _) (aA _) _ _) (aA _) _ _).alloc (by simp;omega) _
     have hxl:val ta<10^8:=aH (kR ta (lV.1 hok).1) (aP (by decide) htl);obtain⟨x,hx⟩:=eqx (val ta);rw[hx]at hxl hD;have hml:(dg x).length<=250:=aCo (aH hxl (aP (by decide) (by decide)));obtain⟨nx,hnx⟩:=eqx ((dg x).length);obtain⟨sb,hsb⟩:=eqx ((b&&decide (x≠0)))
     have HM:Hid (∀V,Calls Tryz.prog 84 #[.bool b,.slice ad nx c] V λe w'=>e=.returned (.agg #[.bool sb,.slice ad nx c])/\Below V.heap.size V w'):=zh (λV=>by
      have:=qC b ad (dg x).length c V sb (by rw[xV,hsb]) (by omega)
      rwa [hnx]at this)
     rw[hx,hnx];have HNX:=zh hnx;have HSB:=zh hsb;have HXV:=zh hx;have HOK:=zh hok;clear hnx hsb hx hok hml;go_upto_region 14 with(fail);obtain⟨V1,hV1⟩:=eqx (w1.alloc (.cells #[.bool false,.slice ad nx c] 67))
     have B8:Blk V1 w1.heap.size 67 #[.bool false,.slice ad nx c]:=by rw[<-hV1];exact Blk.new _ _ _
     have hbV1:Below w1.heap.size w1 V1:=by rw[<-hV1];exact bal
     obtain⟨p0,p1,_,_⟩:=B8.two
     try rw[hV1]
     clear hV1
     go_upto_region 15 with(go_at_call 84;refine(HM.o _).mono ?_;rintro e w3 ⟨rfl,hb3⟩)
     obtain⟨V3,hV3⟩:=eqx (w3.alloc (.cells #[.bool sb,.slice ad nx c,.bool false,.slice none 0 0] 69))
     have B10:Blk V3 w3.heap.size 69 #[.bool sb,.slice ad nx c,.bool false,.slice none 0 0]:=by rw[<-hV3];exact Blk.new _ _ _
     have hbV3:Below w3.heap.size w3 V3:=by rw[<-hV3];exact bal
     try rw[hV3]
     clear hV3;have hb13:=dW (dW hbV1 hb3) hbV3;have C2:=(B2.keep hb1 B2.lt).keep hb13 (B2.keep hb1 B2.lt).lt;have hD3:=hD.keep hb13;have hbw3:=dW (dW hbW hb1) hb13
     have hglt:w.heap.size<w3.heap.size:=by
      have h1:=B2.lt;have h2:=hb1.size;have h3:=hbV1.size;have h4:=hb3.size;omega
     clear hb13 hb1 hb3 hbV1 hbV3 hD B2 p0 p1 B8;go_upto_if 56 with(fail)
     go_cut [11,12]from 13 (λs11 s12 wx=>∃n m N cn D cd,RSs w w3.heap.size l sb n m N cn D cd wx)
     case first=>
      by_cases hke:k0<R.size
      ·obtain⟨t,hdw,ht⟩:=aOQ (r:=r) (by rw[HK0.o,<-HRL.o];exact hke)
       have hex2:R.extract (k0+1) R.size=bs t:=by rw[tJ,<-HRR.o,kG,ht,HK0.o]
       have htl2:t.length<=8:=by rw[ht,cZ,HK0.o,<-HRL.o];omega
       have HFD2:Hid (∀V,Calls Tryz.prog 83 #[.string (R.extract (k0+1) R.size)] V (aCp t V)):=zh (λV=>by
        rw[hex2]
        exact aFS (bs t) V (by rw[kA];omega))
       have HDW:=zh hdw;clear hdw ht hex2
       have q4:(k0:Int)+1<=(R.size:Int):=by omega
       have q5:((k0:Int)+1).toNat=k0+1:=by omega
       have q6:(0:Int)<=(k0:Int)+1:=by omega
       have q7:(k0:Int)<(R.size:Int):=by omega
       have q8:decide ((k0:Int)<(R.size:Int))=true:=dT q7;have q9:decide (k0<R.size)=true:=dT hke;go_wp2_with (fail);refine(HFD2.o _).mono ?_;rintro e w4 ⟨hb4,⟨hno,n2,A2,c2,rfl⟩|⟨hok2,ad2,c2,rfl,hD2⟩⟩
       ·have E2:=C2.keep hb4 C2.lt;obtain⟨a0,a1,a2,a3,f0,f1,f2,f3⟩:=E2.four;have hlt2:=E2.lt
        have HRN:Hid (rd l=none):=zh (vQ (by
         unfold vP;rw[HC.o,HTA.o,HDW.o]
         simp[hno,HOK.o]))
        clear hno;go_wp2;refine aO (v:=.tuple #[.agg #[.bool false,.slice none 0 0,.bool false,.slice none 0 0],.bool false]) (by simp[results,Tryz.results52,go_sem,a0,a1,a2,a3,hlt2]) rfl ⟨?_,.inl ⟨HRN.o,false,none,0,0,false,none,0,0,rfl⟩⟩;have hsz:=(dW hbw3 hb4).size;exact(hJ (hJ (hJ (hJ (dW hbw3 hb4) (aA _) _ _) (aA _) _ _) (aA _) _ _) (aA _) _ _).alloc (by simp;omega) _
       have hyl:val t<10^8:=aH (kR t (lV.1 hok2).1) (aP (by decide) htl2);obtain⟨y,hy⟩:=eqx (val t);rw[hy]at hyl hD2 ⊢;have HYV:=zh hy;have HOK2:=zh hok2;clear hy hok2;obtain⟨ny,hny⟩:=eqx ((dg y).length);rw[hny];have HNY:=zh hny;clear hny
       have hny1:ny<=250:=by rw[<-HNY.o];exact aCo (aH hyl (aP (by decide) (by decide)))
       have hnx1:nx<=250:=by rw[<-HNX.o];exact aCo (aH hxl (aP (by decide) (by decide)))
       go_upto_region 17 with(fail);obtain⟨V4,hV4⟩:=eqx (w4.alloc (.cells #[.bool false,.slice ad2 ny c2] 67))
       have B11:Blk V4 w4.heap.size 67 #[.bool false,.slice ad2 ny c2]:=by rw[<-hV4];exact Blk.new _ _ _
       have hbV4:Below w4.heap.size w4 V4:=by rw[<-hV4];exact bal
       try rw[hV4]
       clear hV4;have hb34:=dW hb4 hbV4;have E2:=C2.keep hb34 C2.lt;have E10:=B10.keep hb34 B10.lt;have hDx:=hD3.keep hb34;have hDy:=hD2.keep hbV4;have hbw4:=dW hbw3 hb34;clear hb4 hbV4 hb34 hD2;obtain⟨p0,p1,_,_⟩:=B11.two
       by_cases hy0:y=0
       ·obtain rfl:ny=0:=by rw[<-HNY.o,hy0,jS];rfl
        have HS:=zh (aDS false ad2 0 c2 V4 (by omega) 0 (by simp))
        have HRN:Hid (rd l=none):=zh (vQ (by
         unfold vP;rw[HC.o,HTA.o,HDW.o]
         simp[HOK.o,HYV.o,hy0]))
        clear hy0
        go_wp2_with (go_at_call 85;refine HS.o.mono ?_;rintro e w5 ⟨rfl,hb5⟩
                     have F2:=E2.keep hb5 E2.lt;have hlt2:=F2.lt
                     obtain⟨a0,a1,a2,a3,f0,f1,f2,f3⟩:=F2.four)
        refine aO (v:=.tuple #[.agg #[.bool false,.slice none 0 0,.bool false,.slice none 0 0],.bool false]) (by simp[results,Tryz.results52,go_sem,a0,a1,a2,a3]) rfl ⟨?_,.inl ⟨HRN.o,false,none,0,0,false,none,0,0,rfl⟩⟩;exact hJ (hJ (hJ (hJ (dW hbw4 hb5) (aA _) _ _) (aA _) _ _) (aA _) _ _) (aA _) _ _
       have hnyp:0<ny:=by rw[<-HNY.o];exact kB.2 hy0
       have HS:=zh (aDS false ad2 ny c2 V4 (by omega) 1 (by rw[aJ (by simp),aJ (by omega)]));obtain⟨gg,hgg⟩:=eqx (Nat.gcd x y)
       have HFR:Hid (∀V,Below V4.heap.size V4 V->Calls Tryz.prog 86 #[.agg #[.bool sb,.slice ad nx c],.agg #[.bool false,.slice ad2 ny c2]] V (aJg sb (x/gg) (y/gg) V)):=zh (λV h=>by
        have:=aJh sb ad ad2 c c2 x y V (hDx.keep h) (hDy.keep h) (by rw[HNX.o];omega) (aH hyl (by decide)) hy0 (λh2=>by
         have h3:=HSB.o;rw[h2]at h3;simp at h3
         exact h3.2)
        rw[HNX.o,HNY.o,hgg]at this
        exact this)
       have hg0:0<gg:=by rw[<-hgg];exact fI _ (by omega)
       have hgy:gg<=y:=by rw[<-hgg];exact iE _ (by omega)
       have HRF:Hid (vP l=some (sb,x/gg,y/gg)):=zh (by
        unfold vP;rw[HC.o,HTA.o,HDW.o];simp only[HOK.o,if_true,HOK2.o,HXV.o,HYV.o,hgg]
        rw[aQ ⟨trivial,hy0⟩,HSB.o])
       have hm0:y/gg≠0:=fM.1 (Nat.div_pos hgy hg0);have hml:y/gg<=y:=cF _ _;have hnl:x/gg<=x:=cF _ _;unfold aJg at HFR;generalize x/gg=qn at*;generalize y/gg=qm at*;clear hy0 hgg;obtain⟨r0,r1,r2,r3,s0,s1,s2,s3⟩:=E10.four
       go_wp2_with (first
         |(go_at_call 85;refine HS.o.mono ?_;rintro e w5 ⟨rfl,hb5⟩
           have F10:=E10.keep hb5 E10.lt;have F11:=B11.keep hb5 B11.lt;obtain⟨r0,r1,r2,r3,s0,s1,s2,s3⟩:=F10.four
           obtain⟨p0,p1,_,_⟩:=F11.two)
         |(go_at_call 86;refine(HFR.o _ hb5).mono ?_;rintro e w6 ⟨N,cn,D,cd,rfl,hN,hDD,hb6⟩
           have G10:=F10.keep hb6 F10.lt
           obtain⟨r0,r1,r2,r3,s0,s1,s2,s3⟩:=G10.four))
       go_meet;have hb56:=dW hb5 hb6;refine⟨qn,qm,N,cn,D,cd,?_,?_,?_,?_,?_,HRF.o,bB hnl hxl,bB hml hyl,hm0⟩
       ·exact hJ (hJ (hJ (hJ (dW hbw4 hb56) (by omega) _ _) (by omega) _ _) (by omega) _ _) (by omega) _ _
       ·exact((((E2.keep hb56 E2.lt).far (by simp;omega) _).far (by simp;omega) _).far (by simp;omega) _).far (by simp;omega) _
       ·exact(((G10.set 0 _).set 1 _).set 2 _).set 3 _
       ·exact((((hN.far G10 (by decide) _ _).far (G10.set _ _) (by decide) _ _).far ((G10.set _ _).set _ _) (by decide) _ _).far (((G10.set _ _).set _ _).set _ _) (by decide) _ _)
       exact((((hDD.far G10 (by decide) _ _).far (G10.set _ _) (by decide) _ _).far ((G10.set _ _).set _ _) (by decide) _ _).far (((G10.set _ _).set _ _).set _ _) (by decide) _ _)
      have q7:¬(k0:Int)<(R.size:Int):=by omega
      have q8:decide ((k0:Int)<(R.size:Int))=false:=dF q7;have q9:decide (k0<R.size)=false:=dF hke
      have HRF:Hid (vP l=some (sb,x,1)):=zh (by
       have hdn:r.dropWhile oD=[]:=by
        have e:=bK List.length (eQ (p:=oD) (l:=r));rw[aC,HK0.o,<-HRL.o]at e;exact bV (by omega)
       unfold vP;rw[HC.o,HTA.o,hdn];simp only[HOK.o,if_true,HXV.o]
       rw[HSB.o])
      go_wp2;go_meet;exact⟨x,1,ad,c,none,0,hbw3,C2,by rw[HNX.o,lK,jS];exact B10,hD3,ND.zero _,HRF.o,hxl,Nat.one_lt_pow (by decide) (by decide),by omega⟩
     case rest=>
      obtain⟨n,m,N,cn,D,cd,hst⟩:=hcut;obtain⟨hbx,X2,X10,dn,dd,href,bn,bm,m0⟩:=hst;have HT:Hid (∀V,Below wc.heap.size wc V->Calls Tryz.prog 51 #[.agg #[.bool sb,.slice N (dg n).length cn,.bool false,.slice D (dg (dnz m)).length cd]] V λe w'=>e=.returned (.string (bs (lN sb n m)))/\Below wc.heap.size wc w'):=zh (λV h=>(aOh sb false N D cn cd n m V (dn.keep h) (dd.keep h) (aH bn (by decide)) (aH bm (by decide)) m0).mono λe w' ⟨h1,h2⟩=>⟨h1,dW h h2⟩);have HDN:=zh dn;have HDD:=zh dd;have HX2:=zh X2;have HX10:=zh X10;have HREF:=zh href;have hbe:Below wc.heap.size wc wc.drew:=brf.drew
      have HTS:Hid (bs (lN sb n m)=s↔lN sb n m=l):=zh (by
       rw[<-HLL.o]
       constructor
       ·intro h;rw[<-h,kG]
       intro h;rw[h,oR])
      obtain⟨ST,hST⟩:=eqx (bs (lN sb n m));rw[hST]at HT HTS;obtain⟨nn,hnn⟩:=eqx ((dg n).length);obtain⟨nm,hnm⟩:=eqx ((dg (dnz m)).length);rw[hnn,hnm]at HT X10 HX10;have HNN:=zh hnn;have HNM:=zh hnm;obtain⟨a0,a1,a2,a3,f0,f1,f2,f3⟩:=X2.four;obtain⟨r0,r1,r2,r3,_,_,_,_⟩:=X10.four;clear hST hnn hnm dn dd href X2 X10 C2 B10 hD3
      by_cases hts:ST=s
      ·have HEQ:=zh (HTS.o.1 hts);subst hts;go_wp2
       go_region_with (go_at_call 51;refine(HT.o _ (by assumption)).mono ?_;rintro e w' ⟨rfl,hbe⟩;have Y2:=HX2.o.keep hbe HX2.o.lt;have Y10:=HX10.o.keep hbe HX10.o.lt;obtain⟨a0,a1,a2,a3,f0,f1,f2,f3⟩:=Y2.four;obtain⟨r0,r1,r2,r3,_,_,_,_⟩:=Y10.four)
       all_goals
         go_wp2;have dn':=HDN.o.keep hbe;have dd':=HDD.o.keep hbe;refine aO (v:=.tuple #[.agg #[.bool sb,.slice N nn cn,.bool false,.slice D nm cd],.bool true]) (by simp[results,Tryz.results52,go_sem,a0,a1,a2,a3]) rfl ⟨?_,.inr ⟨sb,n,m,aFj.2 ⟨HREF.o,HEQ.o⟩,bn,bm,m0,N,cn,D,cd,by rw[HNN.o,HNM.o],?_,?_⟩⟩
         ·exact hJ (hJ (hJ (hJ (dW hbx hbe) (aA _) _ _) (aA _) _ _) (aA _) _ _) (aA _) _ _
         ·exact((((dn'.far Y2 (by decide) _ _).far (Y2.set _ _) (by decide) _ _).far ((Y2.set _ _).set _ _) (by decide) _ _).far (((Y2.set _ _).set _ _).set _ _) (by decide) _ _)
         exact((((dd'.far Y2 (by decide) _ _).far (Y2.set _ _) (by decide) _ _).far ((Y2.set _ _).set _ _) (by decide) _ _).far (((Y2.set _ _).set _ _).set _ _) (by decide) _ _)
      have HNE:Hid (rd l=none):=zh (aCG HREF.o (λh=>hts (HTS.o.2 h)))
      have hn1:¬ST.toList=s.toList:=by
       rw[Lib.toList_data,Lib.toList_data];intro h;exact hts (by rw[<-oR ST,<-oR s,h])
      have hn2:(ST.toList==s.toList)=false:=aG.2 hn1;go_wp2
      go_region_with (go_at_call 51;refine(HT.o _ (by assumption)).mono ?_;rintro e w' ⟨rfl,hbe⟩;have Y2:=HX2.o.keep hbe HX2.o.lt;have Y10:=HX10.o.keep hbe HX10.o.lt;obtain⟨a0,a1,a2,a3,f0,f1,f2,f3⟩:=Y2.four;obtain⟨r0,r1,r2,r3,_,_,_,_⟩:=Y10.four)
      all_goals
        go_wp2;refine aO (v:=.tuple #[.agg #[.bool sb,.slice N nn cn,.bool false,.slice D nm cd],.bool false]) (by simp[results,Tryz.results52,go_sem,a0,a1,a2,a3]) rfl ⟨?_,.inl ⟨HNE.o,sb,N,nn,cn,false,D,nm,cd,rfl⟩⟩;exact hJ (hJ (hJ (hJ (dW hbx hbe) (aA _) _ _) (aA _) _ _) (aA _) _ _) (aA _) _ _
end Go.Proofs.Tg
