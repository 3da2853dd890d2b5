/- Parts of the proof. -/
import Derived.Test.YtabdoikbodjidaaGreatDoorMBO38
set_option maxHeartbeats 64000000
set_option maxRecDepth 100000
section
namespace Go.Pm
end Go.Pm
namespace Go.Proofs.Tg.Rf
open Go.RowKit Go.Gr Go.Sp Go.Ev Go.Pm Go.Mo
open Go.Proofs.Tg.Bk (oJ)
theorem aHW:(Tryz.prog.info? 4).map (λi=>(i.zero,i.size,i.bytes))=some (some (.bool false),1,1):=by kernel_rfl
theorem aFs (n:Nat)(hn:n<=1000000)(w:World):(Instr.makeSlice 43 (.int .i64 (n:Int)) (.int .i64 (n:Int))).run Tryz.prog w=.ok (.slice (some ⟨w.heap.size,0,none⟩) n n) (w.alloc (.cells (madeCells #[.bool false] n) 4)):=by
 obtain⟨i0,hi,hz0,hz1,hz2⟩:=info_parts aHW
 have hr:=run_make (P:=Tryz.prog) w 43 4 i0 (.bool false) Tryz.underlying43 hi hz0 .i64 .i64 n n (by omega) (by omega) (by rw[hz2];omega) (by omega)
 rw[hz1,dI,dY]at hr
 exact hr
structure OV where
  adr:Option Addr
  cap:Nat
  ps:List (Nat×Nat)
def mL (p:Nat×Nat):List Value:=[.int .i64 p.1,.int .i64 p.2]
def qT (o:OV):Value:=.slice o.adr o.ps.length o.cap
def pW (w:World)(base:Nat)(os:List OV):Prop:=∀o∈os,w.ownsRow base 45 2 (qT o) o.ps.length (o.ps.flatMap mL)
theorem pW.keep {w w':World}{base:Nat}{os:List OV}(h:pW w base os)(hb:Below w.heap.size w w'):pW w' base os:=λo ho=>kL (h o ho) hb (aA _)
theorem aCd:(Tryz.prog.info? 45).map (λi=>(i.zero,i.size,i.bytes))=some (some (.agg #[.int .i64 0,.int .i64 0]),2,16):=by kernel_rfl
theorem aEc:(Tryz.prog.info? 44).map (λi=>(i.zero,i.size,i.bytes))=some (some (.slice none 0 0),1,24):=by kernel_rfl
def yL (g l:List (List Int))(w:World)(e:Ending)(w':World):Prop:=Below w.heap.size w w'/\
  ((rE g l≠0/\e=.returned (.tuple #[.slice none 0 0,.int .i64 (rE g l)]))∨
   (rE g l=0/\∃A c os,e=.returned (.tuple #[.slice A (List.length os) c,.int .i64 0])/\w'.ownsRow w.heap.size 44 1 (.slice A os.length c) os.length (os.map qT)/\pW w' w.heap.size os/\os.map OV.ps=(kT (g.map λa=>img (g.headD []).length a l) l.length l.length).2))
end Go.Proofs.Tg.Rf
end
section
namespace Go.Proofs.Tg.Rf
open Go.RowKit Go.Gr Go.Sp Go.Ev Go.Pm Go.Mo
section
variable {P : Program}
end
theorem aBh {w:World}{g:Nat}{t:TypeId}{cs:List Value}(h:Blk w g t cs.toArray):∀j u,cs[j]?=some u->w.cell? ((⟨g,0,none⟩:Addr).add j)=some u:=by
 intro j u hu
 rw[kI,bN,h.cell]
 simpa using hu
theorem aEd (im:List (List Int))(L:Nat)(st:List (Nat×Nat)×List (List (Nat×Nat)))(p:Nat×Nat):(kZ im L st p).2.length<=st.2.length+1:=by
 unfold kZ
 split<;>simp
theorem uE (im:List (List Int))(L i:Nat)(st:List (Nat×Nat)×List (List (Nat×Nat))):∀n,((List.range n).foldl (λst j=>kZ im L st (i,i+j)) st).2.length<=st.2.length+n
  |0=>by simp
  |n+1=>by
   rw[bT,eR];have h:=uE im L i st n;have h2:=aEd im L ((List.range n).foldl (λst j=>kZ im L st (i,i+j)) st) (i,i+n);simp only[List.foldl_cons,List.foldl_nil];omega
theorem aBi (im:List (List Int))(L:Nat):∀i,(kT im L i).2.length<=i*L
  |0=>by simp[kT]
  |i+1=>by
   have h:=uE im L i (kT im L i) (L-i);have h2:=aBi im L i;have h3:(kT im L (i+1)).2.length=((List.range (L-i)).foldl (λst j=>kZ im L st (i,i+j)) (kT im L i)).2.length:=rfl;rw[h3,eV];omega
theorem aCe (im:List (List Int))(L i k:Nat)(hi:i<=L)(hk:k<=L):(sM im L i k).2.length<=L*L+L:=by
 have h:=uE im L i (kT im L i) (k-i)
 have h2:=aBi im L i
 have h3:i*L<=L*L:=aY L hi
 unfold sM
 omega
end Go.Proofs.Tg.Rf
end
namespace Go.Proofs.Tg.Bk
open Go.RowKit Go.Gr Go.Sp Go.Ev Go.Pm Go.Sort Go.Shelf
open Go.Proofs.Tg.Rf (mL)
theorem aPM:SWO (ltOf yY) where
  irrefl x:=by
   unfold ltOf;exact dF (λh=>uW x ((pN x x).1 h))
  trans x y z h1 h2:=by
   unfold ltOf at*;exact dT ((pN x z).2 (uX ((pN x y).1 (dQ h1)) ((pN y z).1 (dQ h2))))
  ntrans x y z h1 h2:=by
   unfold ltOf at*;refine dF (λh=>?_);have h3:=(pN x z).1 h
   have n1:¬ltP x y:=λh=>iA h1 ((pN x y).2 h)
   have n2:¬ltP y z:=λh=>iA h2 ((pN y z).2 h)
   rcases aCK x y with h4|h4|h4
   ·exact n1 h4
   ·subst h4;exact n2 h3
   rcases aCK y z with h5|h5|h5
   ·exact n2 h5
   ·subst h5;exact n1 h3
   exact uW _ (uX h3 (uX h5 h4))
theorem aEe (ps:List (Nat×Nat)):∀t,t<ps.length*2->(ps.flatMap mL)[t]?=some ((mL ps[t/2]!)[t%2]!):=by
 induction ps with
 |nil=>intro t ht;simp at ht
 |cons p ps ih=>
  intro t ht;rw[fB];have hl:(mL p).length=2:=rfl
  by_cases h2:t<2
  ·rw[bY (by omega)]
   have:t=0∨t=1:=by omega
   rcases this with rfl|rfl<;>rfl
  rw[bC (by omega),hl,ih (t-2) (by rw[bP]at ht;omega)]
  have e1:t/2=(t-2)/2+1:=by omega
  have e2:t%2=(t-2)%2:=by omega
  rw[e1,e2]
  congr 1
theorem aBj (ps:List (Nat×Nat)):(flatK mL 2 ps.toArray).toList=ps.flatMap mL:=by
 refine List.ext_getElem? λt=>?_
 have hlen:(ps.flatMap mL).length=ps.length*2:=by
  clear t
  induction ps with
  |nil=>rfl
  |cons p ps ih=>rw[fB,aC,ih];simp[mL];omega
 by_cases ht:t<ps.length*2
 ·rw[aEe ps t ht]
  unfold flatK;simp[ht]
 rw[eI (by simp;omega),eI (by omega)]
theorem aHX (A:Option Addr)(n c base:Nat)(ps:List (Nat×Nat))(w:World)(hown:w.ownsRow base 45 2 (.slice A n c) n (ps.flatMap mL))(hl:ps.length=n)(h0:0<n)(hn:n<=1000000)(hnd:ps.Nodup):
    Calls Tryz.prog 33 #[.slice A n c,.func (.func 34) #[] #[]] w λe w'=>e=.returned (.tuple #[])/\∃qs:List (Nat×Nat),qs.Pairwise ltP/\(∀p,p∈qs↔p∈ps)/\qs.length=n/\w'.ownsRow base 45 2 (.slice A n c) n (qs.flatMap mL)/\w.grownBy w' (Value.slice A n c).ownBlock:=by
  rcases hown.2 with⟨_,hz⟩|⟨g,cap,cur,hv,hbase,hb,h1,h2,h3,h4⟩
  ·omega
  injection hv with hv1 hv2 hv3
  subst hv1 hv3;have hg:g<w.heap.size:=(cR.1 hb).1;have hF:=aBj ps
  have hFs:(flatK mL 2 ps.toArray).size=n*2:=by rw[size_flatK];simp[hl]
  have hH:HoldsK mL 2 w g 0 ps.toArray:=by
   intro j hj;rw[hFs]at hj;refine⟨?_,by simp[World.frozen?,hb]⟩
   have e1:(cur.toList.take (n*2))[j]?=(flatK mL 2 ps.toArray).toList[j]?:=by rw[h4,hF]
   rw[gJ hj,gK,gK]at e1;simp only[World.cell?,hb,bN];simp only[Option.isSome_none,Bool.false_eq_true,if_false];rw[e1,jC (by rw[hFs];exact hj),getElem!_pos _ j (by rw[hFs];exact hj)]
   rfl
  have hcl:CmpLays Tryz.prog 34 #[] mL 2 yY g 0 ps.toArray.size w:=λm os dk _ x y=>by
   refine(aEb x y _).mono ?_;rintro e w' ⟨rfl,q,rfl⟩;refine⟨rfl,q,#[.cells #[.int .i64 x.1,.int .i64 x.2] 45,.cells #[.int .i64 y.1,.int .i64 y.2] 45],?_⟩;rw[alloc_eq_grow,alloc_eq_grow,grow_grow]
   rfl
  have eg:∀args w,(callFunc 34 args).run Tryz.prog w=.ok (.enter 34 args) w:=enters_of Tryz.func34 (by kernel_rfl) rfl;have hcon:=AnyQ.slices_SortFunc aNi 2 Tryz.isAgg45 Tryz.sizeOf45 mL (λ_=>rfl) (λx v hv=>by simp[mL]at hv;rcases hv with rfl|rfl<;>rfl) yY aPM 34 #[] g 0 c ps.toArray w eg hcl hH hg (by simp;omega)
  have hsz:ps.toArray.size=n:=by simpa using hl
  rw[hsz]at hcon;change Calls Tryz.prog 33 _ _ _ at hcon;refine hcon.mono ?_;rintro e w' ⟨rfl,d',m,os,hp,hs,rfl⟩;obtain⟨p1,_,p3⟩:=hp
  have hds:d'.size=n:=by rw[p1,hsz]
  have hper:d'.toList.Perm ps:=by
   have e1:(d'.extract 0 n).toList=d'.toList:=by rw[Array.toList_extract,List.extract_eq_take_drop];simp only[gS,gQ];exact bF (by rw[jG,hds];exact aA _)
   have e2:(ps.toArray.extract 0 n).toList=ps:=by rw[Array.toList_extract,List.extract_eq_take_drop];simp only[gS,gQ];exact bF (by rw[hl];exact aA _)
   rw[e1,e2]at p3;exact p3
  have hnd':d'.toList.Nodup:=hper.nodup_iff.2 hnd
  have hpw:d'.toList.Pairwise ltP:=by
   refine bO.2 (λi j hi hj hij=>?_)
   have hin:i<n:=by rw[<-hds];simpa using hi
   have hjn:j<n:=by rw[<-hds];simpa using hj
   have h5:=hs i j (aW _) hij hjn;unfold ltOf at h5
   have h6:¬ltP d'[j]! d'[i]!:=λh=>iA h5 ((pN _ _).2 h)
   rw[getElem!_pos _ i (by omega),getElem!_pos _ j (by omega)]at h6;have hne:d'.toList[i]≠d'.toList[j]:=bO.1 hnd' i j hi hj hij
   rcases aCK d'.toList[i] d'.toList[j]with h7|h7|h7
   ·exact h7
   ·exact absurd h7 hne
   exact absurd h7 (by simpa using h6)
  have hF2:(flatK mL 2 d').toList=d'.toList.flatMap mL:=by
   have:=aBj d'.toList;simpa using this
  have hF2s:(flatK mL 2 d').size=n*2:=by rw[size_flatK,hds]
  have hbl:(sortWorldK mL 2 w g 0 m d' os).heap[g]?=some (.cells (putCells id 0 (flatK mL 2 d') cur) 45 (0,0)):=by
   unfold sortWorldK;rw[heap_grow_old _ _ (by simpa[putRowK]using hg)];simp[putRowK,putRow,mapBlock,Sort.ahead,gM,hb,onCells]
  refine⟨rfl,d'.toList,hpw,λp=>hper.mem_iff,by simpa using hds,⟨?_,.inr ⟨g,c,_,rfl,hbase,hbl,h1,h2,by simp[putCells,h3],?_⟩⟩,?_⟩
  ·rw[<-hF2];simpa using hF2s
  ·rw[<-hF2]
   refine List.ext_getElem? λj=>?_
   by_cases hj:j<n*2
   ·rw[gJ hj,gK,gK]
    have hjc:j<cur.size:=by have:n*2<=c*2:=aY 2 h1;omega
    simp[putCells,hF2s,hj,hjc]
   rw[List.getElem?_take_eq_none (by omega),eI (by rw[jG,hF2s];omega)]
  refine⟨rfl,rfl,rfl,by simp[sortWorldK,putRowK],λk hk hne=>?_⟩;unfold sortWorldK;rw[heap_grow_old _ _ (by simpa[putRowK]using hk)]
  have:g≠k:=λe=>hne (by rw[e];rfl)
  simp[putRowK,putRow,mapBlock,Sort.ahead,gM,this]
end Go.Proofs.Tg.Bk
namespace Go.Proofs.Tg.Bk
open Go.RowKit Go.Gr Go.Sp Go.Ev Go.Pm Go.Mo
open Go.Proofs.Tg.Rf (mL OV qT pW yL aCd aEc aBh aCe)
structure yM (w:World)(L mb:Nat)(sn:Nat×Nat->Prop)(out:List (List (Nat×Nat)))(wr:World)(A:Option Addr)(c:Nat)(os:List OV)(S:List (Nat×Nat))(cnt:Nat):Prop where
  below:Below w.heap.size w wr
  set:qS wr mb cnt S
  mem:∀p,p∈S↔sn p
  own:wr.ownsRow w.heap.size 44 1 (.slice A os.length c) os.length (os.map qT)
  rows:pW wr w.heap.size os
  eq:os.map OV.ps=out
  low:w.heap.size<=mb
theorem yM.keep {w wr wz:World}{L mb c cnt:Nat}{sn:Nat×Nat->Prop}{out:List (List (Nat×Nat))}{A:Option Addr}{os:List OV}{S:List (Nat×Nat)}(h:yM w L mb sn out wr A c os S cnt)(hb:Below wr.heap.size wr wz):yM w L mb sn out wz A c os S cnt:=
  ⟨dW h.below hb,h.set.below hb h.set.lt,h.mem,kL h.own hb (aA _),h.rows.keep hb,h.eq,h.low⟩
theorem aBk {w w':World}{b sz n mb:Nat}{t:TypeId}{v:Value}{xs:List Value}(h:w.ownsRow b t sz v n xs)(hm:qU w mb)(hg:w.grownBy w' (some mb)):w'.ownsRow b t sz v n xs:=by
 refine h.kept hg ?_
 cases hv:v.ownBlock with
 |none=>exact .inl rfl
 |some q=>exact .inr (λe=>xM h hm (hv.trans e))
theorem yM.put {w wr wz:World}{L mb c cnt:Nat}{sn sn':Nat×Nat->Prop}{out:List (List (Nat×Nat))}{A:Option Addr}{os:List OV}{S:List (Nat×Nat)}{p:Nat×Nat}(h:yM w L mb sn out wr A c os S cnt)(hs:qS wz mb (cnt+1) (p::S))(hg:wr.grownBy wz (some mb))(he:∀q,sn' q↔q=p∨sn q):yM w L mb sn' out wz A c os (p::S) (cnt+1):=
  ⟨zB h.below h.set.mapB hg h.low,hs,λq=>by rw[bA,he,h.mem],aBk h.own h.set.mapB hg,λo ho=>aBk (h.rows o ho) h.set.mapB hg,h.eq,h.low⟩
theorem yM.grown {w wr wz:World}{L mb c cnt gi n:Nat}{sn:Nat×Nat->Prop}{out:List (List (Nat×Nat))}{A:Option Addr}{os:List OV}{S:List (Nat×Nat)}{v:Value}{xs:List Value}(h:yM w L mb sn out wr A c os S cnt)(ho:wr.ownsRow gi 45 2 v n xs)(hlt:∀o∈os,∀g,(qT o).ownBlock=some g->g<gi)(hlow:w.heap.size<=gi)(hg:wr.grownBy wz v.ownBlock):yM w L mb sn out wz A c os S cnt:=by
 refine⟨h.below.grown hg h.below.size (λq hq=>aR hlow (ho.lt q hq).1),h.set.grown hg (λe=>xM ho h.set.mapB e.symm),h.mem,h.own.kept hg (tY h.own ho (by decide)),λu hu=>?_,h.eq,h.low⟩
 refine(h.rows u hu).kept hg ?_
 cases hb2:(qT u).ownBlock with
 |none=>exact .inl rfl
 |some q=>
  refine .inr (λe=>?_);have h4:=hlt u hu q hb2;have h5:=(ho.lt q e.symm).1;omega
structure aLn (w:World)(L mb gi:Nat)(sn:Nat×Nat->Prop)(out:List (List (Nat×Nat)))(pre:List (Nat×Nat))(wr:World)(A:Option Addr)(c:Nat)(os:List OV)(S:List (Nat×Nat))(cnt:Nat)(A3:Option Addr)(c3 n3:Nat):Prop where
  rp:yM w L mb (λp=>sn p∨p∈kD pre) out wr A c os S cnt
  own:wr.ownsRow gi 45 2 (.slice A3 n3 c3) n3 ((kD pre).flatMap mL)
  len:n3=(kD pre).length
  lt:∀o∈os,∀g,(qT o).ownBlock=some g->g<gi
  lowg:w.heap.size<=gi
  cntl:n3<=pre.length
  mono:gi<=wr.heap.size
theorem aLn.keep {w wr wz:World}{L mb gi c cnt c3 n3:Nat}{sn:Nat×Nat->Prop}{out:List (List (Nat×Nat))}{pre:List (Nat×Nat)}{A A3:Option Addr}{os:List OV}{S:List (Nat×Nat)}(h:aLn w L mb gi sn out pre wr A c os S cnt A3 c3 n3)(hb:Below wr.heap.size wr wz):aLn w L mb gi sn out pre wz A c os S cnt A3 c3 n3:=
  ⟨h.rp.keep hb,kL h.own hb (aA _),h.len,h.lt,h.lowg,h.cntl,aR h.mono hb.size⟩
theorem aNj (G B:Option Addr)(cG cB:Nat)(g l:List (List Int))(w:World)(hG:jV w G g)(hgl:g.length<=720)(hgg:∀x∈g,x.length<=1000)(hB:jV w B l)(hll:∀x∈l,x.length<=1000)(hl:l.length<=64)
    (him:rE g l=0->(∀a∈g.map (λa=>img (g.headD []).length a l),Perm l.length a)/\tG (g.map (λa=>img (g.headD []).length a l)) l.length/\0<g.length):
    Calls Tryz.prog 11 #[.slice G g.length cG,.slice B l.length cB] w (yL g l w):=by
  have HACN:=zh (aAh G B cG cB g l w hG (by omega) hgg hB hll (by omega));have HIM:=zh him;clear hG hgg hB hll him
  by_cases hz:rE g l=0
  ·have HZ:=zh hz;obtain⟨hp,hgood,hg0⟩:=HIM.o hz;have HP:=zh hp;have HGD:=zh hgood
   have HAC:Hid (Calls Tryz.prog 15 #[.slice G g.length cG,.slice B l.length cB] w λe w'=>Below w.heap.size w w'/\∃q,e=.returned (.tuple #[.slice (some ⟨q,0,none⟩) g.length g.length,.int .i64 0])/\jV w' (some ⟨q,0,none⟩) (g.map λa=>img (g.headD []).length a l)):=zh (HACN.o.mono λe w' h=>by
    obtain⟨hb,h⟩:=h;obtain⟨_,q,h1,h2⟩:=h.resolve_left (λh=>h.1 hz)
    exact⟨hb,q,h1,h2⟩)
   unfold yL;have him:(g.map λa=>img (g.headD []).length a l).length=g.length:=aI ..;generalize (g.map λa=>img (g.headD []).length a l)=im at*;have HIL:=zh him;clear hz HACN HIM him hp hgood;generalize l.length=L at*;generalize hgL:g.length=M at*;clear hgL;have hLL:L*L<=4096:=cE hl hl;obtain⟨N,hN⟩:=eqx (L*L);rw[hN]at hLL;have HNE:=zh hN;clear hN;obtain⟨j0,hj0,hjz0,hjz1,hjz2⟩:=info_parts aEc;obtain⟨k0,hk0,hkz0,hkz1,hkz2⟩:=info_parts aCd;have hmm:=@run_makeMap Tryz.prog;go_enter Tryz.func11,Tryz.ntmps11
   go_wp2_with (go_at_call 15;refine HAC.o.mono ?_;rintro e w1 ⟨hb1,ga,rfl,hA⟩)
   have HA:=zh hA;have H0:Hid (yM w1 L w1.heap.size (λp=>p∈(kT im L 0).1) (kT im L 0).2 (w1.alloc (.map #[] 0)) none 0 [] [] 0):=zh ⟨bal,qS.made w1,λp=>by simp[kT],dR _ _ _ _,λo ho=>absurd ho (by simp),rfl,aA _⟩;generalize w1.alloc (.map #[] 0)=W at*;clear hA hmm
   go_loopw [8,28] (λs8 s28 wr=>∃(i:Nat) (A2:Option Addr) (c2:Nat) (os:List OV) (S:List (Nat×Nat)) (cnt:Nat),s28=.int .i64 i/\i<=L/\s8=.slice A2 os.length c2/\Hid (cnt<=720*os.length)/\Hid (yM w1 L w1.heap.size (λp=>p∈(kT im L i).1) (kT im L i).2 wr A2 c2 os S cnt)) (λ_ s28 _=>L-(intOf s28).toNat)
   case atStart=>exact⟨0,none,0,[],[],0,rfl,aW _,rfl,zh (by simp),H0⟩
   case round=>
    clear H0;obtain⟨wo,rfl⟩:∃wo:World,wo=wr:=⟨_,rfl⟩;obtain⟨i,A2,c2,os,S,cnt,rfl,hi,rfl,HCN,HST⟩:=hrel
    by_cases hiL:i<L
    ·have i0:(0:Int)<=(i:Int):=by omega
     have i1:(i:Int)<(L:Int):=by omega
     have i3:((i:Int)).toNat=i:=by omega
     go_wp2
     go_loopw [8,11] (λs8 s11 wr=>∃(k:Nat) (A2:Option Addr) (c2:Nat) (os:List OV) (S:List (Nat×Nat)) (cnt:Nat),s11=.int .i64 k/\i<=k/\k<=L/\s8=.slice A2 os.length c2/\Hid (cnt<=720*os.length)/\Hid (yM w1 L w1.heap.size (λp=>p∈(sM im L i k).1) (sM im L i k).2 wr A2 c2 os S cnt)) (λ_ s11 _=>L-(intOf s11).toNat)
     case atStart=>exact⟨i,A2,c2,os,S,cnt,rfl,aA _,hi,rfl,HCN,zh (by rw[aDZ];exact HST.o)⟩
     case round=>
      clear HST HCN;obtain⟨wk,rfl⟩:∃wk:World,wk=wr:=⟨_,rfl⟩;obtain⟨k,A2,c2,os,S,cnt,rfl,hik,hk,rfl,HCN,HST⟩:=hrel;have hbk:=HST.o.below
      by_cases hkL:k<L
      ·have q0:(0:Int)<=(k:Int):=by omega
       have q1:(k:Int)<(L:Int):=by omega
       have q3:((k:Int)).toNat=k:=by omega
       have HSU:=zh (aFp im L hik);have HSN:=zh (aFq im L hi hk)
       have hosl:os.length<=4160:=by
        have h1:=bK List.length HST.o.eq;rw[aI]at h1;have h2:=aCe im L i k hi hk;rw[HNE.o]at h2;omega
       obtain⟨st,hst⟩:=eqx (sM im L i k);rw[hst]at HST HSU HSN;clear hst;have hdom:aEa (i,k):=⟨by show i<=1000;omega,by show k<=1000;omega⟩
       by_cases hin:(i,k)∈st.1
       ·have hlook:(Instr.lookup 79 (.map (some w1.heap.size)) (.agg #[.int .i64 i,.int .i64 k]) false).run Tryz.prog wk=.ok (.bool true) wk:=HST.o.set.look hdom (dT ((HST.o.mem _).2 hin));have HNX:Hid (kZ im L st (i,k)=st):=zh (by unfold kZ;rw[aQ hin]);clear hin;go_wp2;go_roundw
        case rel=>exact⟨k+1,A2,c2,os,S,cnt,by go_num,by omega,by omega,rfl,HCN,zh (by rw[HSU.o,HNX.o];exact HST.o)⟩
        case measure=>(simp[intOf];omega)
       have hlook:(Instr.lookup 79 (.map (some w1.heap.size)) (.agg #[.int .i64 i,.int .i64 k]) false).run Tryz.prog wk=.ok (.bool false) wk:=HST.o.set.look hdom (dF (λh=>hin ((HST.o.mem _).1 h)));have HNX:Hid (kZ im L st (i,k)=(st.1++lX im (i,k),st.2++[rQ im L (i,k)])):=zh (by unfold kZ;rw[aJ hin]);have HFR:=zh (aNI HGD.o HSN.o hik hkL hin);obtain⟨sn,hsn⟩:∃sn:Nat×Nat->Prop,∀p,sn p↔p∈st.1:=⟨λp=>p∈st.1,λp=>Iff.rfl⟩;have HSE:=zh hsn
       have H1:Hid (aLn w1 L w1.heap.size wk.heap.size sn st.2 ((lX im (i,k)).take 0) wk A2 c2 os S cnt none 0 0):=zh ⟨⟨hbk,HST.o.set,λp=>by rw[HST.o.mem,hsn];simp[kD],HST.o.own,HST.o.rows,HST.o.eq,aA _⟩,by simpa[kD]using dR _ _ _ _,by simp[kD],λo ho g hg=>((HST.o.rows o ho).lt g hg).2,hbk.size,by simp,aA _⟩;clear hin hsn;go_wp2;clear hlook
       go_loopw [12,45] (λs12 s45 wr=>∃(j:Nat) (A3:Option Addr) (c3 n3:Nat) (S:List (Nat×Nat)) (cn:Nat),s45=.int .i64 j/\j<=M/\s12=.slice A3 n3 c3/\Hid (cn<=cnt+j)/\Hid (aLn w1 L w1.heap.size wk.heap.size sn st.2 ((lX im (i,k)).take j) wr A2 c2 os S cn A3 c3 n3)) (λ_ s45 _=>M-(intOf s45).toNat)
       case atStart=>exact⟨0,none,0,0,S,cnt,rfl,aW _,rfl,zh (by omega),H1⟩
       case round=>
        clear H1;obtain⟨wj,rfl⟩:∃wj:World,wj=wr:=⟨_,rfl⟩;obtain⟨j,A3,c3,n3,S,cn,rfl,hj,rfl,hcn,HIS⟩:=hrel;have hbj:=HIS.o.rp.below
        by_cases hjM:j<M
        ·have hjm:j<im.length:=by rw[HIL.o];exact hjM
         obtain⟨ad,E,ce,had,hc0,hE⟩:=HA.o.at hjm
         injection had with had
         subst had;have hpj:=HP.o im[j] (aB _);rw[hpj.1]at hc0;have hc:=gL hbj hc0;rw[kI,bN]at hc
         have hia:i<im[j].length:=by rw[hpj.1];exact hiL
         have hka:k<im[j].length:=by rw[hpj.1];exact hkL
         obtain⟨ee,rfl,d1⟩:=kP.at (hE.keep hbj) hia;obtain⟨ee',hee,d2⟩:=kP.at (hE.keep hbj) hka
         injection hee with hee
         subst hee;obtain⟨a,ha⟩:∃a:Nat,im[j][i]=(a:Int):=⟨(im[j][i]).toNat,by have:=hpj.2.1 im[j][i] (aB _);omega⟩;obtain⟨b,hb⟩:∃b:Nat,im[j][k]=(b:Int):=⟨(im[j][k]).toNat,by have:=hpj.2.1 im[j][k] (aB _);omega⟩
         have haL:a<L:=by have:=hpj.2.1 im[j][i] (aB _);omega
         have hbL:b<L:=by have:=hpj.2.1 im[j][k] (aB _);omega
         rw[ha]at d1;rw[hb]at d2
         have HTK:Hid ((lX im (i,k)).take (j+1)=(lX im (i,k)).take j++[(min a b,max a b)]):=zh (by
          rw[aD (by unfold lX;rw[aI];exact hjm)];unfold lX;rw[dP];unfold prA
          simp[hia,hka,ha,hb])
         have HMEM:Hid ((min a b,max a b)∈lX im (i,k)):=zh (aM.2 ⟨im[j],aB _,by unfold prA;simp[hia,hka,ha,hb]⟩);obtain⟨mn,hmn⟩:=eqx (min a b);obtain⟨mx,hmx⟩:=eqx (max a b);rw[hmn,hmx]at HTK HMEM
         have d1a:=λo=>oG d1 o
         have d2a:=λo=>oG d2 o
         have hdm:aEa (mn,mx):=⟨by show mn<=1000;omega,by show mx<=1000;omega⟩
         have e1:min (a:Int) (b:Int)=(mn:Int):=by omega
         have e2:max (a:Int) (b:Int)=(mx:Int):=by omega
         have r0:(0:Int)<=(j:Int):=by omega
         have r1:(j:Int)<(M:Int):=by omega
         have r3:((j:Int)).toNat=j:=by omega
         have HPRE:Hid (((lX im (i,k)).take j).length<=720):=zh (by rw[aS];omega);have HPJ:Hid (((lX im (i,k)).take j).length=j):=zh (by rw[aS];unfold lX;rw[aI];omega);generalize (lX im (i,k)).take j=pre at*;clear hc0 hE hpj ha hb hmn hmx hia hka;go_upto_region 17 with(fail)
         go_region
         have hdr:Below wj.heap.size wj (wj.alloc (.cells #[.int .i64 (mn:Int),.int .i64 (mx:Int)] 45)).drew:=(dX (bM wj.heap.size wj) (aA _) _).drew;have B5:Blk (wj.alloc (.cells #[.int .i64 (mn:Int),.int .i64 (mx:Int)] 45)).drew wj.heap.size 45 #[.int .i64 (mn:Int),.int .i64 (mx:Int)]:=(Blk.new wj 45 _).drew;have H5:=HIS.o.keep hdr;have hb5:=hdr.size;generalize (wj.alloc (.cells #[.int .i64 (mn:Int),.int .i64 (mx:Int)] 45)).drew=W5 at*;generalize wj.heap.size=gp at*;obtain⟨c5,c6,f5,f6⟩:=B5.two;have HNW:=zh (oW pre (mn,mx));have HFX:=zh (HFR.o _ HMEM.o);have H5h:=zh H5
         have hmS:(mn,mx)∈S↔(mn,mx)∈kD pre:=by
          rw[H5.rp.mem];exact⟨λh=>h.resolve_left (λh2=>HFX.o ((HSE.o _).1 h2)),.inr⟩
         have hpl:=HIS.o.cntl
         have hn3:n3<=720:=by
          have:pre.length<=720:=HPRE.o;omega
         by_cases hnw:(mn,mx)∈kD pre
         ·have hlook:(Instr.lookup 79 (.map (some w1.heap.size)) (.agg #[.int .i64 mn,.int .i64 mx]) false).run Tryz.prog W5=.ok (.bool true) W5:=H5.rp.set.look hdm (dT (hmS.2 hnw));rw[aQ hnw]at HNW;clear H5 hmS hnw d1 d2 d1a d2a e1 e2 hdr;go_wp2;go_roundw
          case rel=>
           refine⟨j+1,A3,c3,n3,S,cn,by go_num,by omega,rfl,zh (by have:=hcn.o;omega),zh ?_⟩;rw[HTK.o];have H:=H5h.o;exact⟨⟨H.rp.below,H.rp.set,λq=>by rw[H.rp.mem,HNW.o],H.rp.own,H.rp.rows,H.rp.eq,H.rp.low⟩,by rw[HNW.o];exact H.own,by rw[HNW.o];exact H.len,H.lt,H.lowg,by rw[aC];have:=H.cntl;omega,H.mono⟩
          case measure=>(simp[intOf];omega)
         have hlook:(Instr.lookup 79 (.map (some w1.heap.size)) (.agg #[.int .i64 mn,.int .i64 mx]) false).run Tryz.prog W5=.ok (.bool false) W5:=H5.rp.set.look hdm (dF (λh=>hnw (hmS.1 h)));rw[aJ hnw]at HNW
         have hcn9:cn<=1000000000:=by
          have:=HCN.o;have:=hcn.o;omega
         obtain⟨W6,hrun6,hP6,hg6⟩:=H5.rp.set.put hcn9 hdm (λh=>hnw (hmS.1 h));have hrun:(Instr.mapUpdate 79 (.map (some w1.heap.size)) (.agg #[.int .i64 mn,.int .i64 mx]) (.bool true)).run Tryz.prog W5=.ok () W6:=hrun6;have hmb:=H5.rp.set.mapB
         have hrp6:=H5.rp.put (sn':=λp=>sn p∨p∈kD pre++[(mn,mx)]) hP6 hg6 (λq=>by
          rw[aK,aN]
          constructor
          ·rintro(h|h|h)
           ·exact .inr (.inl h)
           ·exact .inr (.inr h)
           exact .inl h
          rintro(h|h|h)
          ·exact .inr (.inr h)
          ·exact .inl h
          exact .inr (.inl h))
         have hown6:=aBk H5.own hmb hg6;have B6:=B5.turn hmb hg6;have HRP6:=zh hrp6;have hb6:=hrp6.below;obtain⟨x5,x6,y5,y6⟩:=B6.two;have hgl6:=hg6.size;have HLT:=zh H5.lt;have hkl6:wk.heap.size<=W6.heap.size:=aR H5.mono hgl6;clear H5 hmS hnw d1 d2 d1a d2a e1 e2 hdr hrun6 hP6 hrp6 B6 B5 hg6 hmb
         go_wp2_with (at_builtin
                      refine wpList_append_own_at _ rfl _ _ 44 rfl wk.heap.size 45 k0 (.agg #[.int .i64 0,.int .i64 0]) 2 16 Tryz.underlying44 hk0 hkz0 hkz1 hkz2 rfl (by decide) (.slice A3 n3 c3) n3 ((kD pre).flatMap mL) rfl (hown6.alloc _) ⟨W6.heap.size,0,none⟩ 1 1 [.int .i64 (mn:Int),.int .i64 (mx:Int)] rfl rfl (aBh (Blk.new _ _ _)) (by intro u hu;simp at hu;rcases hu with rfl|rfl<;>rfl) (by simp only[maxLen];omega) (by omega) (by simp;omega) ?_;intro v8 w8 hown8 hg8 _ hat8;obtain⟨A8,c8,hv8,_,_⟩:=Sl.of_own hown8
                      subst hv8)
         go_roundw
         case rel=>
          have hal8:=dX (bM W6.heap.size W6) (aA _) (.cells #[.int .i64 (mn:Int),.int .i64 (mx:Int)] 45);have hox:=hown6.alloc (.cells #[.int .i64 (mn:Int),.int .i64 (mx:Int)] 45);have hrp8:=(HRP6.o.keep hal8).grown hox HLT.o H5h.o.lowg hg8;refine⟨j+1,A8,c8,n3+1,(mn,mx)::S,cn+1,by go_num,by omega,rfl,zh (by have:=hcn.o;omega),zh ?_⟩;rw[HTK.o];refine⟨?_,?_,?_,HLT.o,H5h.o.lowg,by rw[aC];simp;omega,aR hkl6 (aR hal8.size hg8.size)⟩
          ·rw[HNW.o];exact hrp8
          ·rw[HNW.o,fZ,List.flatMap_singleton];exact hown8
          rw[HNW.o,aC,<-H5h.o.len];rfl
         case measure=>(simp[intOf];omega)
        obtain rfl:j=M:=by omega
        have dj:decide ((j:Int)<(j:Int))=false:=by simp
        have hpre:(lX im (i,k)).take j=lX im (i,k):=bF (by unfold lX;rw[aI,HIL.o];exact aA _);rw[hpre]at HIS
        have hpl:(lX im (i,k)).length=j:=by unfold lX;rw[aI,HIL.o]
        have hn0:0<n3:=by
         rw[HIS.o.len];have hm:(lX im (i,k))[0]'(by omega)∈kD (lX im (i,k)):=(nH _ _).2 (aB _);exact List.length_pos_of_mem hm
        have hn720:n3<=720:=by have:=HIS.o.cntl;omega
        have HSRT:=zh (aHX A3 n3 c3 wk.heap.size (kD (lX im (i,k))) wj HIS.o.own HIS.o.len.symm hn0 (by omega) (sP _));have HOM:Hid (∀q,q∈rQ im L (i,k)↔q∈lX im (i,k)):=zh (λq=>pA HP.o hiL hkL q);clear hpre hpl
        go_upto_region 23 with(go_at_call 33;refine HSRT.o.mono ?_;rintro e w9 ⟨rfl,qs,hq1,hq2,hq3,hq4,hg9⟩)
        have hqs:qs=rQ im L (i,k):=aGz hq1 (aCa _ _ _) (λp=>by rw[hq2,HOM.o,nH]);have hrp9:=HIS.o.rp.grown HIS.o.own HIS.o.lt HIS.o.lowg hg9;rw[hqs]at hq3 hq4;have HQ3:=zh hq3;have HQ4:=zh hq4;have HR9:=zh hrp9;have hcown:=hrp9.own;have hbx:=hrp9.below;have hlowi:=HIS.o.lowg;clear hq1 hq2 hq3 hq4 hqs hrp9 hg9 HSRT
        go_wp2_with (at_builtin
                     refine wpList_append_own_at _ rfl _ _ 38 rfl w1.heap.size 44 j0 (.slice none 0 0) 1 24 Tryz.underlying38 hj0 hjz0 hjz1 hjz2 rfl (by decide) (.slice A2 os.length c2) os.length (os.map qT) rfl (hcown.alloc _) ⟨w9.heap.size,0,none⟩ 1 1 [.slice A3 n3 c3] rfl rfl (cell_one_new _ _ _) (by simp[Value.oneCell']) (by simp only[maxLen];omega) (by omega) (by have:=hbx.size;simp;omega) ?_;intro v10 w10 hown10 hg10 _ _;obtain⟨A10,c10,hv10,_,_⟩:=Sl.of_own hown10
                     subst hv10)
        go_roundw
        case rel=>
         have H9:=HR9.o;have hal:=dX (bM w9.heap.size w9) (aA _) (.cells #[.slice A3 n3 c3] 44);have hox:=hcown.alloc (.cells #[.slice A3 n3 c3] 44);have hb10:=dW hbx hal;have hset:=H9.set.below hal H9.set.lt;refine⟨k+1,A10,c10,os++[⟨A3,c3,rQ im L (i,k)⟩],S,cn,by go_num,by omega,by omega,by simp,zh (by have:=hcn.o;have:=HCN.o;rw[aC,dC];omega),zh ?_⟩;rw[HSU.o,HNX.o];refine⟨hb10.grown hg10 hb10.size (λq hq=>(hox.lt q hq).1),hset.grown hg10 (λe=>xM hox hset.mapB e.symm),λq=>?_,?_,λo ho=>?_,?_,aA _⟩
         ·rw[H9.mem,HSE.o,nH,aK]
         ·rw[aC,bH,List.map_singleton];unfold qT;simp only;rw[HQ3.o];exact hown10
         ·rcases aK.1 ho with h|h
          ·have h3:=(H9.rows o h).alloc (.cells #[.slice A3 n3 c3] 44);exact h3.kept hg10 (tY h3 hox (by decide))
          rw[aN.1 h];have h3:=pJ (HQ4.o.alloc (.cells #[.slice A3 n3 c3] 44)) hlowi;unfold qT;simp only;rw[HQ3.o];exact h3.kept hg10 (tY h3 hox (by decide))
         rw[bH,H9.eq];rfl
        case measure=>(simp[intOf];omega)
      obtain rfl:k=L:=by omega
      have dk:decide ((k:Int)<(k:Int))=false:=by simp
      go_wp2;go_roundw
      case rel=>exact⟨i+1,A2,c2,os,S,cnt,by go_num,by omega,rfl,HCN,zh (by rw[<-aHU];exact HST.o)⟩
      case measure=>(simp[intOf];omega)
    obtain rfl:i=L:=by omega
    have di:decide ((i:Int)<(i:Int))=false:=by simp
    have HF:=zh HST.o;go_wp2
    go_ret2
    exact⟨dW hb1 HF.o.below,.inr ⟨HZ.o,A2,c2,os,rfl,pJ HF.o.own hb1.size,λo ho=>pJ (HF.o.rows o ho) hb1.size,HF.o.eq⟩⟩
  have HZ:=zh hz;have HAC:Hid (Calls Tryz.prog 15 #[.slice G g.length cG,.slice B l.length cB] w λe w'=>Below w.heap.size w w'/\e=.returned (.tuple #[.slice none 0 0,.int .i64 (rE g l)])):=zh (HACN.o.mono λe w' h=>⟨h.1,(h.2.resolve_right (λh=>hz h.1)).2⟩);unfold yL;have dz:decide (rE g l=0)=false:=dF hz;have dz2:(rE g l==0)=false:=aG.2 hz;clear hz HACN HIM;generalize rE g l=z at*;go_enter Tryz.func11,Tryz.ntmps11
  go_wp2_with (go_at_call 15;refine HAC.o.mono ?_;rintro e w1 ⟨hb1,rfl⟩)
  go_ret2
  exact⟨hb1,.inl ⟨HZ.o,rfl⟩⟩
end Go.Proofs.Tg.Bk
namespace Go.Proofs.Tg.Rf
open Go.RowKit Go.Gr Go.Sp Go.Ev Go.Pm Go.Mo
theorem tH {w:World}{base n c:Nat}{A:Option Addr}{ps:List (Nat×Nat)}(h:w.ownsRow base 45 2 (.slice A n c) n (ps.flatMap mL)){j:Nat}(hj:j<n)(hl:ps.length=n):
    ∃g,A=some ⟨g,0,none⟩/\w.cell? ⟨g,j*2,none⟩=some (.int .i64 (ps[j]'(by omega)).1)/\w.cell? ⟨g,j*2+1,none⟩=some (.int .i64 (ps[j]'(by omega)).2):=by
  rcases h.2 with⟨_,h0⟩|⟨g,cap,cur,hv,_⟩
  ·omega
  injection hv with hv1 hv2 hv3
  subst hv1;have hc:=h.cells (g:=g) rfl
  have hat:∀(l:List (Nat×Nat)) (j:Nat) (h:j<l.length),(l.flatMap mL)[j*2]?=some (.int .i64 l[j].1)/\(l.flatMap mL)[j*2+1]?=some (.int .i64 l[j].2):=by
   intro l
   induction l with
   |nil=>intro j h;simp at h
   |cons p l ih=>
    intro j h;rw[fB]
    cases j with
    |zero=>exact⟨rfl,rfl⟩
    |succ j=>
     obtain⟨h1,h2⟩:=ih j (by simpa using h);have hl2:(mL p).length=2:=rfl;rw[bC (by rw[hl2];omega),bC (by rw[hl2];omega),hl2];rw[show(j+1)*2-2=j*2 by omega,show(j+1)*2+1-2=j*2+1 by omega];exact⟨h1,h2⟩
  obtain⟨h1,h2⟩:=hat ps j (by omega);have h3:=hc _ _ h1;have h4:=hc _ _ h2;rw[kI,bN]at h3 h4;exact⟨g,rfl,h3,h4⟩
theorem aLo {w:World}{b sz n:Nat}{t:TypeId}{v:Value}{xs:List Value}(h:w.ownsRow b t sz v n xs):n<=maxLen:=by
 rcases h.2 with⟨_,h0⟩|⟨g,cap,cur,_,_,_,h1,h2,_⟩
 ·rw[h0];exact aW _
 omega
end Go.Proofs.Tg.Rf
