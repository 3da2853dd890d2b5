/- Parts of the proof. -/
import Derived.Test.YtabdoikbodjidaaGreatDoorMBO35
set_option maxHeartbeats 64000000
set_option maxRecDepth 100000
section
namespace Go.Pm
open Go.Mo Go.Gr
theorem aNN:IsG [[0,1],[1,0]]:=by
 refine⟨by decide,by decide,?_,?_,?_⟩
 ·intro a ha
  simp only[bA,eH,iC]at ha
  rcases ha with rfl|rfl
  ·exact⟨by decide,by decide,by decide⟩
  exact⟨by decide,by decide,by decide⟩
 ·unfold Asc
  decide
 unfold Grp
 decide
theorem aNO:rE [[0,1],[1,0]] [[0,0],[0,1],[1,0]]=0:=by
 unfold rE
 rw[aQ ⟨aNN,by decide⟩]
 decide
theorem aNP:([[0,1],[1,0]].map λa=>img ([[0,1],[1,0]].headD ([]:List Int)).length a [[0,0],[0,1],[1,0]])=[[0,1,2],[0,2,1]]:=by decide
theorem aFI:aEu (Go.Proofs.Tg.Bk.adN [[1,0]] [[0,0],[0,1],[1,0]]) [[1,0]] [[0,0],[0,1],[1,0]]=[[0,1,2],[0,2,1]]:=by decide
theorem aNQ:yR [[0,1,2],[0,2,1]] 3 2=[[[1,0,0],[0,1,1]],[[0,1,-1]]]:=by decide+kernel
theorem aPS:Go.Proofs.Tg.Bk.adE [[1,0]] [[0,0],[0,1],[1,0]]=0:=by
 unfold Go.Proofs.Tg.Bk.adE
 have h1:Go.Proofs.Tg.Bk.chE [[1,0]] [[0,0],[0,1],[1,0]]=0:=by decide
 have h2:aBx (Go.Proofs.Tg.Bk.adN [[1,0]] [[0,0],[0,1],[1,0]]) [[1,0]]:=by
  intro j hj
  have:j=0:=by simpa using hj
  subst this
  show([1,0]:List Int)∉kJ 2 []/\∀b∈([]:List (List Int)),cmp [1,0] b=cmp b [1,0]
  exact⟨by decide,λb hb=>by cases hb⟩
 rw[aJ (λh=>h h1),aJ (λh=>h (by decide)),aJ (λh=>h h2),aJ (by decide)]
theorem aPn:∀c,c<2->aLL c [[0,1,2],[0,2,1]] 3:=by
 intro c hc i hi r hr x hx
 have h:∀c:Fin 2,∀i:Fin 3,∀r∈tK c.val [[0,1,2],[0,2,1]] 3 i.val,∀x∈r,x=0∨x=1∨x=-1:=by decide+kernel
 exact h ⟨c,hc⟩ ⟨i,hi⟩ r hr x hx
end Go.Pm
namespace Go.Proofs.Tg.Bk
open Go.RowKit Go.Gr Go.Sp Go.Ev Go.Pm Go.Mo
def al (w:World)(os:List Obj):World:=os.foldl World.alloc w
theorem sA (w:World)(os:List Obj):Below w.heap.size w (al w os):=by
 induction os generalizing w with
 |nil=>exact bM _ _
 |cons o os ih=>
  have:al w (o::os)=al (w.alloc o) os:=rfl;rw[this];exact dW (bal) (ih _)
theorem pQ (w:World)(os:List Obj)(i:Nat){t:TypeId}{cs:Array Value}(h:os[i]?=some (.cells cs t)):Blk (al w os) (w.heap.size+i) t cs:=by
 induction os generalizing w i with
 |nil=>simp at h
 |cons o os ih=>
  have e:al w (o::os)=al (w.alloc o) os:=rfl;rw[e]
  cases i with
  |zero=>
   have:o=.cells cs t:=by simpa using h
   subst this;exact(Blk.new w t cs).keep (sA _ _) (by simp)
  |succ i=>
   have:=ih (w.alloc o) i (by simpa using h)
   have e2:(w.alloc o).heap.size+i=w.heap.size+(i+1):=by simp;omega
   rwa [e2]at this
theorem vX {w:World}{g:Nat}{t:TypeId}{xs:List Value}{n:Nat}(h:Blk w g t xs.toArray)(hl:xs.length=n):Sl w (some ⟨g,0,none⟩) n 1 xs:=
  ⟨by omega,λ_=>⟨_,rfl,h.lt,λj u hu=>by rw[kI,bN,h.cell j,eB];exact hu⟩⟩
theorem aBy {W:World}{g0 g1 g n:Nat}{a b:List Int}(b0:Blk W g0 3 (a.map vi).toArray)(b1:Blk W g1 3 (b.map vi).toArray)(ha:a.length=n)(hb:b.length=n)(h:Blk W g 22 #[.slice (some ⟨g0,0,none⟩) n n,.slice (some ⟨g1,0,none⟩) n n]):jV W (some ⟨g,0,none⟩) [a,b]:=by
 have h:=nP (L:=n) (rs:=[(g0,a),(g1,b)]) h (λr hr=>by
  simp only[bA,eH,iC]at hr
  rcases hr with rfl|rfl
  ·exact b0
  ·exact b1) (λr hr=>by
  simp only[bA,eH,iC]at hr
  rcases hr with rfl|rfl
  ·exact ha
  exact hb)
 exact h
theorem aIK (w:World):Calls Tryz.prog 16 #[] w λe w'=>∃A,e=.returned (.slice A 2 2)/\jV w' A [[0,1],[1,0]]/\Below w.heap.size w w':=by
 go_enter Tryz.func16,Tryz.ntmps16
 go_wp2
 go_ret
 let os:List Obj:=[.cells #[.int .i64 0,.int .i64 1] 3,.cells #[.int .i64 1,.int .i64 0] 3,.cells #[.slice (some ⟨w.heap.size,0,none⟩) 2 2,.slice (some ⟨w.heap.size+1,0,none⟩) 2 2] 22]
 exact⟨_,rfl,aBy (W:=al w os) (n:=2) (pQ w os 0 rfl) (pQ w os 1 rfl) rfl rfl (pQ w os 2 rfl),sA w os⟩
theorem aCX {W:World}{g0 g1 g2 g n:Nat}{a b c:List Int}(b0:Blk W g0 3 (a.map vi).toArray)(b1:Blk W g1 3 (b.map vi).toArray)(b2:Blk W g2 3 (c.map vi).toArray)(ha:a.length=n)(hb:b.length=n)(hc:c.length=n)(h:Blk W g 22 #[.slice (some ⟨g0,0,none⟩) n n,.slice (some ⟨g1,0,none⟩) n n,.slice (some ⟨g2,0,none⟩) n n]):jV W (some ⟨g,0,none⟩) [a,b,c]:=by
 have h:=nP (L:=n) (rs:=[(g0,a),(g1,b),(g2,c)]) h (λr hr=>by
  simp only[bA,eH,iC]at hr
  rcases hr with rfl|rfl|rfl
  ·exact b0
  ·exact b1
  ·exact b2) (λr hr=>by
  simp only[bA,eH,iC]at hr
  rcases hr with rfl|rfl|rfl
  ·exact ha
  ·exact hb
  exact hc)
 exact h
theorem aBz (w:World):Calls Tryz.prog 17 #[] w λe w'=>∃A,e=.returned (.slice A 3 3)/\jV w' A [[0,0],[0,1],[1,0]]/\Below w.heap.size w w':=by
 go_enter Tryz.func17,Tryz.ntmps17
 go_wp2
 go_ret
 let os:List Obj:=[.cells #[.int .i64 0,.int .i64 0] 3,.cells #[.int .i64 0,.int .i64 1] 3,.cells #[.int .i64 1,.int .i64 0] 3,.cells #[.slice (some ⟨w.heap.size,0,none⟩) 2 2,.slice (some ⟨w.heap.size+1,0,none⟩) 2 2,.slice (some ⟨w.heap.size+1+1,0,none⟩) 2 2] 22]
 exact⟨_,rfl,aCX (W:=al w os) (n:=2) (pQ w os 0 rfl) (pQ w os 1 rfl) (pQ w os 2 rfl) rfl rfl rfl (pQ w os 3 rfl),sA w os⟩
abbrev aGQ (w:World)(A:Option Addr)(xs:List ByteArray):Prop:=Sl w A xs.length 1 (xs.map Value.string)
theorem vY (A B:Option Addr)(c d:Nat)(xs:List ByteArray)(w:World)(hA:aGQ w A xs)(hB:aGQ w B xs)(hn:xs.length<=100000):
    Calls Tryz.prog 20 #[.slice A xs.length c,.slice B xs.length d] w λe w'=>e=.returned (.bool true)/\Below w.heap.size w w':=by
  have HA:=zh hA;have HB:=zh hB;clear hA hB;go_enter Tryz.func20,Tryz.ntmps20;go_wp2
  go_loopw [5] (λs5 wr=>∃(k m:Nat),s5=.int .i64 k/\k<=xs.length/\wr=w.drewN m) (λs5 _=>xs.length-(intOf s5).toNat)
  case atStart=>exact⟨0,0,rfl,aW _,rfl⟩
  case round=>
   obtain⟨wo,rfl⟩:∃wo:World,wo=wr:=⟨_,rfl⟩;obtain⟨k,m,rfl,hk,hw⟩:=hrel
   have hbw:Below w.heap.size w wo:=by rw[hw];exact jX brf _
   have HW:=zh hw;clear hw
   by_cases hkl:k<xs.length
   ·obtain⟨ad,rfl,hc0⟩:=Sl.at1 (HA.o.keep hbw) hkl;obtain⟨bd,rfl,hd0⟩:=Sl.at1 (HB.o.keep hbw) hkl
    have hc:wo.cell? (ad.add k)=some (.string xs[k]):=by simpa using hc0
    have hd:wo.cell? (bd.add k)=some (.string xs[k]):=by simpa using hd0
    have q0:(0:Int)<=(k:Int):=by omega
    have q1:(k:Int)<(xs.length:Int):=by omega
    have q3:((k:Int)).toNat=k:=by omega
    clear hc0 hd0;generalize xs[k]=s at*;go_wp2
    go_quiet (fail)
    go_wp2;go_roundw
    case rel=>exact⟨k+1,m+nq,by go_num,by omega,by rw[HW.o,World.drewN_drewN]⟩
    case measure=>simp[intOf];omega
   obtain rfl:k=xs.length:=by omega
   have dk:decide ((xs.length:Int)<(xs.length:Int))=false:=by simp
   go_wp2;go_ret;exact⟨rfl,hbw⟩
end Go.Proofs.Tg.Bk
end
namespace Go.Proofs.Tg.Bk
open Go.RowKit Go.Gr Go.Sp Go.Ev Go.Maps Go.WideShapes Go.Pm Go.Mo
open Go.Proofs.Tg.Gp (lQ jU lF kS nG)
open Go.Proofs.Tg.Fi (vq mX aBI)
open Go.Proofs.Tg.Iw (yH aNH aAW)
open Go.Rq (Pd qtx)
open Go.Av (avR mean lB plA sm)
theorem aGW:(Tryz.prog.info? 3).map (λi=>(i.zero,i.size,i.bytes))=some (some (.int .i64 0),1,8):=by kernel_rfl
theorem aBB (N:Nat):madeCells #[.string ⟨#[]⟩] N=(List.replicate N (Value.string ⟨#[]⟩)).toArray:=by
 rw[oJ]
 try simp
theorem aGX {w w':World}{b sz n mb:Nat}{t:TypeId}{v:Value}{xs:List Value}(h:w.ownsRow b t sz v n xs)(hm:qU w mb)(hg:w.grownBy w' (some mb)):w'.ownsRow b t sz v n xs:=by
 refine h.kept hg ?_
 cases hv:v.ownBlock with
 |none=>exact .inl rfl
 |some q=>exact .inr (λe=>xM h hm (hv.trans e))
structure sR (w1:World)(L N:Nat)(row:List Value)(wr:World):Prop where
  below:Below w1.heap.size w1 wr
  row:Blk wr w1.heap.size 9 row.toArray
  mat:Blk wr (w1.heap.size+1) 31 #[.int .i64 L,.int .i64 L,.slice (some ⟨w1.heap.size,0,none⟩) N N]
theorem sR.keep {w1 wr wz:World}{L N:Nat}{row:List Value}(h:sR w1 L N row wr)(hb:Below wr.heap.size wr wz):sR w1 L N row wz:=
  ⟨dW h.below hb,h.row.keep hb h.row.lt,h.mat.keep hb h.mat.lt⟩
theorem sR.turn {w1 wr wz:World}{L N mb:Nat}{row:List Value}(h:sR w1 L N row wr)(hm:qU wr mb)(hg:wr.grownBy wz (some mb))(hB:w1.heap.size<=mb):sR w1 L N row wz:=
  ⟨zB h.below hm hg hB,h.row.turn hm hg,h.mat.turn hm hg⟩
theorem sR.grown {w1 wr wz:World}{L N gi n:Nat}{row:List Value}{v:Value}{xs:List Value}(h:sR w1 L N row wr)(ho:wr.ownsRow gi 3 1 v n xs)(hlow:w1.heap.size<=gi)(hg:wr.grownBy wz v.ownBlock):sR w1 L N row wz:=
  ⟨h.below.grown hg h.below.size (λq hq=>aR hlow (ho.lt q hq).1),h.row.grown hg (kQ ho h.row (by decide)),h.mat.grown hg (kQ ho h.mat (by decide))⟩
theorem sR.put {w1 wr:World}{L N:Nat}{row:List Value}(h:sR w1 L N row wr)(i:Nat)(u:Value):sR w1 L N (row.set i u) (wr.setCell ⟨w1.heap.size,i,none⟩ u):=by
 refine⟨hJ h.below (aA _) _ _,?_,h.mat.far (by simp) _⟩
 have:=h.row.set i u
 rw[fT]at this
 exact this
structure aGY (w1:World)(L N gi:Nat)(row:List Value)(pre:List Nat)(wr:World)(A3:Option Addr)(c3 n3:Nat)(S:List Nat)(cn:Nat):Prop where
  st:sR w1 L N row wr
  set:rF wr gi cn S
  mem:∀p,p∈S↔p∈Go.Av.kD pre
  own:wr.ownsRow gi 3 1 (.slice A3 n3 c3) n3 ((Go.Av.kD pre).map vn)
  len:n3=(Go.Av.kD pre).length
  lowg:w1.heap.size<=gi
theorem aGY.keep {w1 wr wz:World}{L N gi c3 n3 cn:Nat}{row:List Value}{pre S:List Nat}{A3:Option Addr}(h:aGY w1 L N gi row pre wr A3 c3 n3 S cn)(hb:Below wr.heap.size wr wz):aGY w1 L N gi row pre wz A3 c3 n3 S cn:=
  ⟨h.st.keep hb,h.set.below hb h.set.lt,h.mem,kL h.own hb (aA _),h.len,h.lowg⟩
def aCn (L N:Nat)(xs:List Rat)(w:World)(e:Ending)(w':World):Prop:=∃q,e=.returned (.tuple #[.agg #[.int .i64 L,.int .i64 L,.slice (some ⟨q,0,none⟩) N N],.int .i64 0])/\Sl w' (some ⟨q,0,none⟩) N 1 (xs.map vq)/\Below w.heap.size w w'
theorem aEB (G B E:Option Addr)(cG cB c:Nat)(g l:List (List Int))(qs:List Rat)(f:Nat->Rat)(w:World)(hG:jV w G g)(hgl:g.length<=1000)(hgg:∀x∈g,x.length<=1000)(hB:jV w B l)(hll:∀x∈l,x.length<=1000)(hl0:0<l.length)(hl:l.length<=64)
    (hI:IsG g) (hv:∀m∈l,oU m=true) (hz:rB (g.headD []).length g l=0) (hA:Go.Av.jY (g.headD []).length g l) (hqs:qs.length=l.length*l.length) (hE:Sl w E (l.length*l.length) 1 (qs.map vq)) (hs:∀x∈qs,Pd 500 x)
    (hf:∀p (h:p<qs.length),qs[p]=f p) (hsum:∀k,k<l.length*l.length->∀j,Pd 500 (sm f (Go.Av.kD ((lB (Go.Av.jY.im (g.headD []).length g l) l.length k).take j)))) (hmean:∀k,k<l.length*l.length->Pd 500 (mean f (Go.Av.jY.im (g.headD []).length g l) l.length k)) (ht:PT w) (hT:Tab w):
    Calls Tryz.prog 10 #[.agg #[.int .i64 l.length,.int .i64 l.length,.slice E (l.length*l.length) c],.slice G g.length cG,.slice B l.length cB] w (aCn l.length (l.length*l.length) ((List.range (l.length*l.length)).map (mean f (Go.Av.jY.im (g.headD []).length g l) l.length)) w):=by
  have HAO:Hid (∀V,Below w.heap.size w V->Calls Tryz.prog 29 #[.agg #[.int .i64 l.length,.int .i64 l.length,.slice E (l.length*l.length) c],.slice G g.length cG,.slice B l.length cB] V (aAo (g.headD []).length g l V)):=zh (λV h=>aDa G B E cG cB c g l qs V (hG.keep h) hgl hgg (hB.keep h) hll hl0 hl hI hv hz hqs (hE.keep h) hs (hT.below h hT.1));have HNX:Hid (∀k,k<l.length*l.length->avR f (Go.Av.jY.im (g.headD []).length g l) l.length (l.length*l.length) k (Go.Av.kD (lB (Go.Av.jY.im (g.headD []).length g l) l.length k))=avR f (Go.Av.jY.im (g.headD []).length g l) l.length (l.length*l.length) (k+1) []):=zh (λk hk=>Go.Av.aIW hA f hk)
  have HSK:Hid (∀k,k<l.length*l.length->Go.Av.done (Go.Av.jY.im (g.headD []).length g l) l.length k k=true->avR f (Go.Av.jY.im (g.headD []).length g l) l.length (l.length*l.length) (k+1) []=avR f (Go.Av.jY.im (g.headD []).length g l) l.length (l.length*l.length) k []):=zh (λk hk=>Go.Av.aIX hA f hk);have HALL:=zh (Go.Av.aLZ hA f)
  have HIP:Hid (∀a∈Go.Av.jY.im (g.headD []).length g l,Go.Pm.Perm l.length a):=zh (λa ha=>by
   obtain⟨x,hx,rfl⟩:=aM.1 ha
   exact hA.iperm hx)
  have HSELF:Hid (∀p,p<l.length*l.length->p∈lB (Go.Av.jY.im (g.headD []).length g l) l.length p):=zh (λp hp=>hA.self hp);have HOLT:Hid (∀k p,k<l.length*l.length->p∈lB (Go.Av.jY.im (g.headD []).length g l) l.length k->p<l.length*l.length):=zh (λk p hk hp=>hA.orbit_lt hk hp);have HIL:Hid ((Go.Av.jY.im (g.headD []).length g l).length=g.length):=zh (aI ..);have HADD:Hid (∀p q V,Below w.heap.size w V->Pd 500 p->Pd 500 q->Pd 500 (p+q)->Calls Tryz.prog 30 #[.string (qtx p),.string (qtx q)] V (mX (p+q) V)):=zh (λp q V h h1 h2 h3=>yH p q V h1 h2 h3 (ht.keep h) (hT.below h hT.1));have HFI:Hid (∀(n:Int) V,Below w.heap.size w V->n.natAbs<9000000000000000000->Calls Tryz.prog 32 #[.int .i64 n] V (mX (n:Rat) V)):=zh (λn V h h1=>aBI n V h1 (ht.keep h))
  have HDV:Hid (∀(p:Rat) (n:Nat) V,Below w.heap.size w V->0<n->n<=1000->Pd 500 p->Pd 500 (p/(n:Rat))->Calls Tryz.prog 31 #[.string (qtx p),.string (qtx (((n:Nat):Int):Rat))] V (aAW (p/(n:Rat)) V)):=zh (λp n V h h0 h1 h2 h3=>by
   obtain⟨a1,a2⟩:=h2.words (k:=27) (by decide);obtain⟨c1,c2⟩:=h3.words (k:=27) (by decide);have hb:(Go.Bw.dg n).length<=1:=Go.Rq.aCF (i:=3) h1 (by decide);have hb1:(Go.Bw.dg 1).length<=1:=Go.Rq.aCF (i:=0) (by decide) (by decide);have e:(((n:Nat):Int):Rat)=(n:Rat):=rfl;rw[e];refine aNH p (n:Rat) ?_ V (by omega) (by omega) ?_ ?_ (by omega) (by omega) (ht.keep h) (hT.below h hT.1)
   ·show(0:Int)<((n:Nat):Int)
    omega
   ·show(Go.Bw.dg (((n:Nat):Int)).natAbs).length<28
    rw[aU];omega
   show(Go.Bw.dg 1).length<28
   omega)
  have HE:=zh (λV (h:Below w.heap.size w V)=>hE.keep h);have HF:=zh hf;have HS:=zh hs;have HSU:=zh hsum;have HME:=zh hmean;have HQL:=zh hqs;have HIMD:Hid (g.map (λa=>img (g.headD []).length a l)=Go.Av.jY.im (g.headD []).length g l):=zh rfl;have hLL:l.length*l.length<=4096:=cE hl hl;unfold aAo at HAO;rw[HIMD.o]at HAO;clear HIMD hG hgg hB hll hI hv hz hA hE hs hf hsum hmean hqs ht hT;generalize (Go.Av.jY.im (g.headD []).length g l)=im at*;generalize l.length=L at*;generalize hgL:g.length=M at*;clear hgL;generalize hN:L*L=N at*;have HNE:=zh hN
  have wN:IntKind.i64.wrap ((L:Int)*(L:Int))=(N:Int):=by
   rw[<-iS,hN];exact IntWalk.i64_in (N:Int) (by omega)
  obtain⟨j0,hj0,hjz0,hjz1,hjz2⟩:=info_parts aGW;have hmk:=aBv N (by omega);have hmm:=@run_makeMap Tryz.prog;obtain⟨W,hW⟩:=eqx ((w.alloc (.cells #[.int .i64 L,.int .i64 L,.slice E N c] 31)).alloc (.cells #[.int .i64 0,.int .i64 0,.slice none 0 0] 31))
  have B0:Blk W w.heap.size 31 #[.int .i64 L,.int .i64 L,.slice E N c]:=by rw[<-hW];exact(Blk.new _ _ _).alloc _
  have B1:Blk W (w.heap.size+1) 31 #[.int .i64 0,.int .i64 0,.slice none 0 0]:=by
   rw[<-hW];have:=Blk.new (w.alloc (.cells #[.int .i64 L,.int .i64 L,.slice E N c] 31)) 31 #[.int .i64 0,.int .i64 0,.slice none 0 0];simpa using this
  have hb0:Below w.heap.size w W:=by rw[<-hW];exact(bal).alloc (by simp) _
  obtain⟨a0,a1,a2,_,_,_⟩:=B0.three;have HW:=zh hW;clear hW hN;go_enter Tryz.func10,Tryz.ntmps10;go_upto_region 1 with(fail);rw[HW.o];clear HW
  go_upto_region 5 with(go_at_call 29;refine(HAO.o _ hb0).mono ?_;rintro e w1 ⟨ga,rfl,hIM,hb1⟩)
  have hbw1:=dW hb0 hb1;have HIM:=zh hIM;have HB1:=zh (B1.keep hb1 B1.lt);have c2:=gL hb1 a2;clear HAO hIM a0 a1 a2 B0 B1 hb0 hb1;obtain⟨W2,hW2⟩:=eqx ((w1.alloc (.cells (madeCells #[.string ⟨#[]⟩] N) 9)).alloc (.cells #[.int .i64 L,.int .i64 L,.slice (some ⟨w1.heap.size,0,none⟩) N N] 31))
  have H0:Hid (sR w1 L N (avR f im L N 0 []) W2):=zh ⟨by rw[<-hW2];exact(bal).alloc (by simp) _,by
   rw[<-hW2,Go.Av.aIV];have:=(Blk.new w1 9 (madeCells #[.string ⟨#[]⟩] N)).alloc (.cells #[.int .i64 L,.int .i64 L,.slice (some ⟨w1.heap.size,0,none⟩) N N] 31);rw[aBB]at this;rw[aBB]
   exact this,by
   rw[<-hW2];have:=Blk.new (w1.alloc (.cells (madeCells #[.string ⟨#[]⟩] N) 9)) 31 #[.int .i64 L,.int .i64 L,.slice (some ⟨w1.heap.size,0,none⟩) N N]
   simpa using this⟩
  have HW2:=zh hW2;clear hW2;go_upto_region 6 with(fail);rw[HW2.o];clear HW2 hmk;go_wp2
  go_loopw [46] (λs46 wr=>∃k:Nat,s46=.int .i64 k/\k<=N/\Hid (sR w1 L N (avR f im L N k []) wr)) (λs46 _=>N-(intOf s46).toNat)
  case atStart=>exact⟨0,rfl,aW _,H0⟩
  case round=>
   clear H0;obtain⟨wk,rfl⟩:∃wk:World,wk=wr:=⟨_,rfl⟩;obtain⟨k,rfl,hk,HST⟩:=hrel;have hbk:=HST.o.below
   by_cases hkN:k<N
   ·have k0:(0:Int)<=(k:Int):=by omega
    have k1:(k:Int)<(N:Int):=by omega
    have k3:((k:Int)).toNat=k:=by omega
    have rc:=HST.o.row.cell k;rw[eB,Go.Av.aNU f im L N k hkN]at rc;obtain⟨m0,m1,m2,_,_,_⟩:=HST.o.mat.three
    by_cases hd:Go.Av.done im L k k=true
    ·rw[aQ hd]at rc;have HK:=zh (HSK.o k hkN hd);have hne:=Go.Rq.aIU (mean f im L k);unfold vq at rc;generalize qtx (mean f im L k)=t at*;go_wp2;exact⟨⟨k+1,by go_num,by omega,zh (by rw[HK.o];exact HST.o)⟩,by simp[intOf];omega⟩
    rw[aJ hd]at rc;have H1:Hid (aGY w1 L N wk.heap.size (avR f im L N k []) ((lB im L k).take 0) (wk.alloc (.map #[] 0)) none 0 0 [] 0):=zh ⟨HST.o.keep (bal),rF.made wk,λp=>by simp[Go.Av.kD],by simpa[Go.Av.kD]using dR _ _ _ _,by simp[Go.Av.kD],hbk.size⟩;have HTX0:Hid (sm f (Go.Av.kD ((lB im L k).take 0))=0):=zh (by simp[Go.Av.kD,sm]);obtain⟨gi,hgi⟩:=eqx (wk.heap.size);have HGI:=zh hgi;rw[hgi]at H1;clear hd;go_upto_region 13 with(fail);go_wp2
    go_loopw [14,15,58] (λs14 s15 s58 wr=>∃(j:Nat) (A3:Option Addr) (c3 n3:Nat) (S:List Nat) (cn:Nat),s58=.int .i64 j/\j<=M/\s14=.slice A3 n3 c3/\s15=.string (qtx (sm f (Go.Av.kD ((lB im L k).take j))))/\Hid (cn<=j)/\Hid (aGY w1 L N gi (avR f im L N k []) ((lB im L k).take j) wr A3 c3 n3 S cn)) (λ_ _ s58 _=>M-(intOf s58).toNat)
    case atStart=>exact⟨0,none,0,0,[],0,rfl,aW _,rfl,by rw[HTX0.o,Go.Rq.aIT],zh (by omega),H1⟩
    case round=>
     clear H1 HTX0 rc m0 m1 m2;obtain⟨wj,rfl⟩:∃wj:World,wj=wr:=⟨_,rfl⟩;obtain⟨j,A3,c3,n3,S,cn,rfl,hj,rfl,rfl,hcn,HIS⟩:=hrel;have hbj:=HIS.o.st.below
     by_cases hjM:j<M
     ·have hjm:j<im.length:=by rw[HIL.o];exact hjM
      obtain⟨ad,E2,ce,had,hc0,hE2⟩:=HIM.o.at hjm
      injection had with had
      subst had;have hpj:=HIP.o im[j] (aB _);have hL0:0<L:=hl0;have hx:k/L<L:=dV (by rw[HNE.o];exact hkN);have hy:k%L<L:=bL k hL0;obtain⟨x,hxx⟩:=eqx (k/L);obtain⟨y,hyy⟩:=eqx (k%L)
      have tq:((k:Nat):Int).tdiv (L:Int)=(x:Int):=by rw[<-hxx];rfl
      have tr:((k:Nat):Int).tmod (L:Int)=(y:Int):=by rw[<-hyy];rfl
      have wx:IntKind.i64.wrap (x:Int)=(x:Int):=IntWalk.i64_in _ (by omega);have wy:IntKind.i64.wrap (y:Int)=(y:Int):=IntWalk.i64_in _ (by omega);rw[hxx]at hx;rw[hyy]at hy;rw[hpj.1]at hc0;have hc:=gL hbj hc0;rw[kI,bN]at hc
      have hia:x<im[j].length:=by rw[hpj.1];exact hx
      have hka:y<im[j].length:=by rw[hpj.1];exact hy
      obtain⟨ee,rfl,d1⟩:=kP.at (hE2.keep hbj) hia;obtain⟨ee',hee,d2⟩:=kP.at (hE2.keep hbj) hka
      injection hee with hee
      subst hee;obtain⟨a,ha⟩:∃a:Nat,im[j][x]=(a:Int):=⟨(im[j][x]).toNat,by have:=hpj.2.1 im[j][x] (aB _);omega⟩;obtain⟨b,hb⟩:∃b:Nat,im[j][y]=(b:Int):=⟨(im[j][y]).toNat,by have:=hpj.2.1 im[j][y] (aB _);omega⟩
      have haL:a<L:=by have:=hpj.2.1 im[j][x] (aB _);omega
      have hbL:b<L:=by have:=hpj.2.1 im[j][y] (aB _);omega
      rw[ha]at d1;rw[hb]at d2;obtain⟨p,hp⟩:=eqx (a*L+b);obtain⟨aL,haL2⟩:=eqx (a*L)
      have hpN:p<N:=by
       have h1:=aY L (show a+1<=L by omega);rw[eV,HNE.o]at h1;omega
      have HTK:Hid ((lB im L k).take (j+1)=(lB im L k).take j++[p]):=zh (by
       rw[aD (by unfold lB;rw[aI];exact hjm)];unfold lB;rw[dP];unfold plA
       simp[hxx,hyy,hia,hka,ha,hb,hp])
      have wm:IntKind.i64.wrap ((a:Int)*(L:Int))=(aL:Int):=by
       rw[<-iS,haL2];exact IntWalk.i64_in _ (by omega)
      have wa:IntKind.i64.wrap ((aL:Int)+(b:Int))=(p:Int):=by
       rw[<-iR,<-haL2,hp];exact IntWalk.i64_in _ (by omega)
      have hLz:((L:Int)==0)=false:=aG.2 (by omega);have hLz':((L:Int)=0)=False:=bX (by omega);have hLn:(L=0)=False:=bX (by omega)
      have r0:(0:Int)<=(j:Int):=by omega
      have r1:(j:Int)<(M:Int):=by omega
      have r3:((j:Int)).toNat=j:=by omega
      have x0:(0:Int)<=(x:Int):=by omega
      have x1:(x:Int)<(L:Int):=by omega
      have x3:((x:Int)).toNat=x:=by omega
      have y0:(0:Int)<=(y:Int):=by omega
      have y1:(y:Int)<(L:Int):=by omega
      have y3:((y:Int)).toNat=y:=by omega
      have p0:(0:Int)<=(p:Int):=by omega
      have p1:(p:Int)<(N:Int):=by omega
      have p3:((p:Int)).toNat=p:=by omega
      have HPRE:Hid ((Go.Av.kD ((lB im L k).take j)).length<=1000):=zh (by
       have:=Go.Av.aAp ((lB im L k).take j);rw[aS]at this
       omega)
      have HSM:=zh (HSU.o k hkN);clear hc0 hE2 hpj ha hb hia hka haL2 hp hxx hyy;go_upto_region 16 with(fail)
      go_region
      have hdr:Below wj.heap.size wj wj.drew:=(bM wj.heap.size wj).drew;have H5:=HIS.o.keep hdr;generalize wj.drew=W5 at*;have HNW:=zh (Go.Av.oW ((lB im L k).take j) p);have hmS:p∈S↔p∈Go.Av.kD ((lB im L k).take j):=H5.mem p;have hb5:=H5.st.below
      have hdm:aHH p:=by show p<=1000000;omega
      have hgp:=H5.set.lt
      by_cases hnw:p∈Go.Av.kD ((lB im L k).take j)
      ·have hlook:(Instr.lookup 74 (.map (some gi)) (.int .i64 p) false).run Tryz.prog W5=.ok (.bool true) W5:=H5.set.look hdm (dT (hmS.2 hnw));rw[aQ hnw]at HNW;have H5h:=zh H5;have HST1:Hid (Go.Av.kD ((lB im L k).take j)=Go.Av.kD ((lB im L k).take (j+1))):=zh (by rw[HTK.o,HNW.o]);clear H5 hmS hnw d1 d2 hdr;go_wp2;go_roundw
       case rel=>
        have H:=H5h.o;refine⟨j+1,A3,c3,n3,S,cn,by go_num,by omega,rfl,by rw[HST1.o],zh (by have:=hcn.o;omega),zh ?_⟩;exact⟨H.st,H.set,λq=>by rw[H.mem,HST1.o],by rw[<-HST1.o];exact H.own,by rw[<-HST1.o];exact H.len,H.lowg⟩
       case measure=>(simp[intOf];omega)
      have hlook:(Instr.lookup 74 (.map (some gi)) (.int .i64 p) false).run Tryz.prog W5=.ok (.bool false) W5:=H5.set.look hdm (dF (λh=>hnw (hmS.1 h)));rw[aJ hnw]at HNW
      have hcn9:cn<=1000000000:=by have:=hcn.o;omega
      obtain⟨W6,hrun6,hP6,hg6⟩:=H5.set.put hcn9 hdm (λh=>hnw (hmS.1 h));have hrun:(Instr.mapUpdate 74 (.map (some gi)) (.int .i64 p) (.bool true)).run Tryz.prog W5=.ok () W6:=hrun6;have hmb:=H5.set.mapB;have HS6:=zh (H5.st.turn hmb hg6 H5.lowg);have hown6:=aGX H5.own hmb hg6;have HP6:=zh hP6;have HLW:=zh H5.lowg;have hgi6:=hP6.lt
      have hlen5:n3<=1000:=by rw[H5.len];exact HPRE.o
      have hb6:=HS6.o.below;have HN1:Hid (Go.Av.kD ((lB im L k).take (j+1))=Go.Av.kD ((lB im L k).take j)++[p]):=zh (by rw[HTK.o,HNW.o]);have HMS:Hid (∀q,q∈S↔q∈Go.Av.kD ((lB im L k).take j)):=zh H5.mem;have HLN:Hid (n3=(Go.Av.kD ((lB im L k).take j)).length):=zh H5.len;have hs1:=HSM.o j;have hs2:=HSM.o (j+1)
      have hsn:sm f (Go.Av.kD ((lB im L k).take (j+1)))=sm f (Go.Av.kD ((lB im L k).take j))+f p:=by rw[HN1.o,Go.Av.aLW]
      have HSN:=zh hsn
      have hpq:p<qs.length:=by rw[HQL.o];exact hpN
      have hfp:=HF.o p hpq;have hsp:=HS.o qs[p] (aB _);rw[hfp]at hsp;rw[hsn]at hs2;have HAD2:=zh (λV (h:Below w.heap.size w V)=>HADD.o _ _ V h hs1 hsp hs2);obtain⟨ead,hEe,hce0⟩:=Sl.at1 (HE.o w brf) (k:=p) hpN
      have hce:w.cell? (ead.add p)=some (.string (qtx (f p))):=by
       rw[hce0,dP,hfp];rfl
      clear H5 hmS hnw d1 d2 hdr hrun6 hP6 hg6 hs1 hs2 hsn hsp hfp hce0;obtain⟨xs,hxs⟩:=eqx ((Go.Av.kD ((lB im L k).take j)).map vn);rw[hxs]at hown6;have HXS:=zh hxs;clear hxs;unfold mX at HAD2;obtain⟨tx1,htx1⟩:=eqx (qtx (sm f (Go.Av.kD ((lB im L k).take j))));obtain⟨tx2,htx2⟩:=eqx (qtx (sm f (Go.Av.kD ((lB im L k).take j))+f p));obtain⟨tx3,htx3⟩:=eqx (qtx (f p));rw[htx1,htx2,htx3]at HAD2;rw[htx1];rw[htx3]at hce;have HTX2:=zh htx2;subst hEe;clear htx1 htx2 htx3
      go_upto_region 20 with(at_builtin;refine wpList_append_own_at _ rfl _ _ 22 rfl gi 3 j0 (.int .i64 0) 1 8 Tryz.underlying22 hj0 hjz0 hjz1 hjz2 rfl (by decide) (.slice A3 n3 c3) n3 xs rfl (hown6.alloc _) ⟨W6.heap.size,0,none⟩ 1 1 [.int .i64 (p:Int)] rfl rfl (cell_one_new _ _ _) (by simp[Value.oneCell']) (by simp only[maxLen];omega) (by omega) (by simp;omega) ?_;intro v8 w8 hown8 hg8 _ _;obtain⟨A8,c8,hv8,_,_⟩:=Sl.of_own hown8;subst hv8)
      have hal8:=dX (bM W6.heap.size W6) (aA _) (.cells #[.int .i64 (p:Int)] 3);have hox:=hown6.alloc (.cells #[.int .i64 (p:Int)] 3);have hst8:=(HS6.o.keep hal8).grown hox HLW.o hg8;have hset8:=(HP6.o.below hal8 HP6.o.lt).grown hg8 (λe=>xM hox (HP6.o.below hal8 HP6.o.lt).mapB e.symm);have hb8:=hst8.below;have hbw8:=dW hbw1 hb8;have g2:=gL hb8 c2;have gce:=gL hbw8 hce;have HST8:=zh hst8;have HSET8:=zh hset8;have HOWN8:=zh hown8;clear hst8 hset8 hown8 hg8 hox hal8 hown6
      go_wp2_with (go_at_call 30;refine(HAD2.o _ hbw8).mono ?_;rintro e w9 ⟨rfl,hb9⟩)
      go_roundw
      case rel=>
       refine⟨j+1,A8,c8,n3+1,p::S,cn+1,by go_num,by omega,by simp,by rw[HSN.o,HTX2.o],zh (by have:=hcn.o;omega),zh ?_⟩;refine aGY.keep ?_ hb9;refine⟨HST8.o,HSET8.o,λq=>?_,?_,?_,HLW.o⟩
       ·rw[HN1.o,bA,aK,aN,HMS.o];exact⟨λh=>h.elim .inr .inl,λh=>h.elim .inr .inl⟩
       ·rw[HN1.o,bH,HXS.o];exact HOWN8.o
       rw[HN1.o,aC,<-HLN.o];rfl
      case measure=>(simp[intOf];omega)
     obtain rfl:j=M:=by omega
     have dj:decide ((j:Int)<(j:Int))=false:=by simp
     have hpl:(lB im L k).length=j:=by unfold lB;rw[aI,HIL.o]
     have htk:(lB im L k).take j=lB im L k:=bF (by omega);have hsm:=HSU.o k hkN j;rw[htk]at HIS hsm ⊢
     have hn0:0<n3:=by
      rw[HIS.o.len];exact List.length_pos_of_mem ((Go.Av.nH _ _).2 (HSELF.o k hkN))
     have hn1:n3<=1000:=by
      rw[HIS.o.len];have:=Go.Av.aAp (lB im L k);omega
     have hme:=HME.o k hkN
     have hmq:mean f im L k=sm f (Go.Av.kD (lB im L k))/(n3:Rat):=by
      rw[HIS.o.len];rfl
     have HDVM:=zh (λV (h:Below w.heap.size w V)=>HDV.o (sm f (Go.Av.kD (lB im L k))) n3 V h hn0 hn1 hsm (by rw[<-hmq];exact hme));have HFIM:=zh (λV (h:Below w.heap.size w V)=>HFI.o (n3:Nat) V h (by omega));rw[<-hmq]at HDVM;have HNXK:=zh (HNX.o k hkN);have HPLT:Hid (∀q∈Go.Av.kD (lB im L k),q<N):=zh (λq hq=>HOLT.o k q hkN ((Go.Av.nH _ _).1 hq));have HST1:Hid (sR w1 L N (avR f im L N k ((Go.Av.kD (lB im L k)).take 0)) wj):=zh HIS.o.st;have HOW1:=zh HIS.o.own;have HLEN:=zh HIS.o.len;have HLW:=zh HIS.o.lowg
     have HPUT:Hid (∀t (h:t<(Go.Av.kD (lB im L k)).length),(avR f im L N k ((Go.Av.kD (lB im L k)).take t)).set (Go.Av.kD (lB im L k))[t] (vq (mean f im L k))=avR f im L N k ((Go.Av.kD (lB im L k)).take (t+1))):=zh (λt h=>by
      rw[Go.Av.aLY,aD h])
     unfold mX at HFIM;unfold aAW at HDVM;unfold vq at HPUT;generalize qtx (sm f (Go.Av.kD (lB im L k)))=tx1 at*;generalize qtx (((n3:Nat):Int):Rat)=tx2 at*;generalize qtx (mean f im L k)=tx3 at*;generalize Go.Av.kD (lB im L k)=nl at*;clear hpl htk hsm hme hmq HIS;have hbwj:=dW hbw1 hbj
     go_upto_region 23 with(first
       |(go_at_call 32;refine(HFIM.o _ hbwj).mono ?_;rintro e w5 ⟨rfl,hb5⟩)
       |(go_at_call 31;refine(HDVM.o _ (dW hbwj hb5)).mono ?_;rintro e w6 ⟨rfl,hb6⟩))
     have hb56:=dW hb5 hb6;have HST2:Hid (sR w1 L N (avR f im L N k (nl.take 0)) w6):=zh (HST1.o.keep hb56);have HOW2:Hid (w6.ownsRow gi 3 1 (.slice A3 n3 c3) n3 (nl.map vn)):=zh (kL HOW1.o hb56 (aA _));clear HST1 HOW1 hb5 hb6 hb56 HDVM HFIM;go_wp2
     go_loopw [105] (λs105 wr=>∃t:Nat,s105=.int .i64 t/\t<=n3/\Hid (sR w1 L N (avR f im L N k (nl.take t)) wr)/\Hid (wr.ownsRow gi 3 1 (.slice A3 n3 c3) n3 (nl.map vn))) (λs105 _=>n3-(intOf s105).toNat)
     case atStart=>exact⟨0,rfl,aW _,HST2,HOW2⟩
     case round=>
      clear HST2 HOW2;obtain⟨wt,rfl⟩:∃wt:World,wt=wr:=⟨_,rfl⟩;obtain⟨t,rfl,ht,HSX,HOX⟩:=hrel
      by_cases htn:t<n3
      ·have htl:t<nl.length:=by rw[<-HLEN.o];exact htn
       obtain⟨od,hod,hoc⟩:=Sl.at1 (Sl.own HOX.o) htn;rw[dP]at hoc;unfold vn at hoc;have hpN:=HPLT.o nl[t] (aB _);have HPT:=zh (HPUT.o t htl);obtain⟨p,hp⟩:=eqx (nl[t]);rw[hp]at hoc hpN HPT;obtain⟨u,hu⟩:∃u,(avR f im L N k (nl.take t))[p]?=some u:=⟨_,aF (by rw[Go.Av.aLX];exact hpN)⟩;have rc:=HSX.o.row.cell p;have rf:=HSX.o.row.frozen p;rw[eB,hu]at rc;obtain⟨m0,m1,m2,_,_,_⟩:=HSX.o.mat.three
       have t0:(0:Int)<=(t:Int):=by omega
       have t1:(t:Int)<(n3:Int):=by omega
       have t3:((t:Int)).toNat=t:=by omega
       have p0:(0:Int)<=(p:Int):=by omega
       have p1:(p:Int)<(N:Int):=by omega
       have p3:((p:Int)).toNat=p:=by omega
       have HNE3:Hid (some w1.heap.size≠(Value.slice A3 n3 c3).ownBlock):=zh (kQ HOX.o HSX.o.row (by decide));subst hod;clear hp hu;go_wp2;go_roundw
       case rel=>
        refine⟨t+1,by go_num,by omega,zh ?_,zh (pE HOX.o HNE3.o _)⟩;rw[<-HPT.o];exact HSX.o.put p (.string tx3)
       case measure=>(simp[intOf];omega)
      obtain rfl:t=n3:=by omega
      have dt:decide ((t:Int)<(t:Int))=false:=by simp
      have htt:nl.take t=nl:=bF (by rw[<-HLEN.o];exact aA _);have HSZ:Hid (sR w1 L N (avR f im L N (k+1) []) wt):=zh (by rw[<-HNXK.o,<-htt];exact HSX.o);clear htt;go_wp2;go_roundw
      case rel=>exact⟨k+1,by go_num,by omega,HSZ⟩
      case measure=>(simp[intOf];omega)
   obtain rfl:k=N:=by omega
   have dk:decide ((k:Int)<(k:Int))=false:=by simp
   have HR:=zh HST.o.row;rw[HALL.o]at HR;obtain⟨m0,m1,m2,_,_,_⟩:=HST.o.mat.three;have B1:=HB1.o.keep hbk HB1.o.lt;obtain⟨x0,x1,x2,f0,f1,f2⟩:=B1.three;have hlt1:w.heap.size+1<w1.heap.size:=HB1.o.lt;have hbwk:=dW hbw1 hbk;go_wp2;have B2:=((B1.set 0 (.int .i64 (L:Int))).set 1 (.int .i64 (L:Int))).set 2 (.slice (some ⟨w1.heap.size,0,none⟩) k k);obtain⟨g0,g1,g2,_,_,_⟩:=Blk.three (a:=.int .i64 (L:Int)) (b:=.int .i64 (L:Int)) (c:=.slice (some ⟨w1.heap.size,0,none⟩) k k) B2;refine aO (v:=.tuple #[.agg #[.int .i64 L,.int .i64 L,.slice (some ⟨w1.heap.size,0,none⟩) k k],.int .i64 0]) (by simp[results,Tryz.results10,go_sem,g0,g1,g2]) rfl ⟨w1.heap.size,rfl,?_,?_⟩
   ·have hne:w1.heap.size≠w.heap.size+1:=by omega
    exact vX (((HR.o.far hne _).far hne _).far hne _) (by simp)
   exact hJ (hJ (hJ hbwk (by omega) _ _) (by omega) _ _) (by omega) _ _
end Go.Proofs.Tg.Bk
section
namespace Go.Rq
theorem aAQ {p q:Rat}(h:(qtx p).toList=(qtx q).toList):p=q:=by
 unfold qtx at h
 rw[Go.Proofs.Tg.jW,Go.Proofs.Tg.jW]at h
 refine aNk ?_
 unfold qtx
 rw[h]
end Go.Rq
namespace Go.Av
def aMA (f:Nat->Rat)(L N:Nat)(a:List Int):Prop:=∀p,p<N->f (plA L a p)=f p
def Inv (f:Nat->Rat)(im:List (List Int))(L N:Nat):Prop:=∀a∈im,aMA f L N a
end Go.Av
namespace Go.Proofs.Tg.Bk
open Go.RowKit Go.Gr Go.Sp Go.Ev Go.Maps Go.WideShapes Go.Pm Go.Mo
open Go.Proofs.Tg.Gp (lQ jU lF kS nG)
open Go.Proofs.Tg.Fi (vq)
open Go.Rq (Pd qtx)
open Go.Av (plA Inv aMA)
theorem aCC (G B E:Option Addr)(cG cB c:Nat)(g l:List (List Int))(qs:List Rat)(f:Nat->Rat)(q:Bool)(w:World)(hG:jV w G g)(hgl:g.length<=1000)(hgg:∀x∈g,x.length<=1000)(hB:jV w B l)(hll:∀x∈l,x.length<=1000)(hl0:0<l.length)(hl:l.length<=64)
    (hI:IsG g) (hv:∀m∈l,oU m=true) (hz:rB (g.headD []).length g l=0) (hA:Go.Av.jY (g.headD []).length g l) (hqs:qs.length=l.length*l.length) (hE:Sl w E (l.length*l.length) 1 (qs.map vq)) (hs:∀x∈qs,Pd 500 x)
    (hf:∀p (h:p<qs.length),qs[p]=f p) (hq:q=true↔Inv f (Go.Av.jY.im (g.headD []).length g l) l.length (l.length*l.length)) (hT:Tab w):
    Calls Tryz.prog 12 #[.agg #[.int .i64 l.length,.int .i64 l.length,.slice E (l.length*l.length) c],.slice G g.length cG,.slice B l.length cB] w λe w'=>e=.returned (.tuple #[.bool q,.int .i64 0])/\Below w.heap.size w w':=by
  have HAO:Hid (∀V,Below w.heap.size w V->Calls Tryz.prog 29 #[.agg #[.int .i64 l.length,.int .i64 l.length,.slice E (l.length*l.length) c],.slice G g.length cG,.slice B l.length cB] V (aAo (g.headD []).length g l V)):=zh (λV h=>aDa G B E cG cB c g l qs V (hG.keep h) hgl hgg (hB.keep h) hll hl0 hl hI hv hz hqs (hE.keep h) hs (hT.below h hT.1))
  have HIP:Hid (∀a∈Go.Av.jY.im (g.headD []).length g l,Go.Pm.Perm l.length a):=zh (λa ha=>by
   obtain⟨x,hx,rfl⟩:=aM.1 ha
   exact hA.iperm hx)
  have HIL:Hid ((Go.Av.jY.im (g.headD []).length g l).length=g.length):=zh (aI ..);have HE:=zh hE;have HF:=zh hf;have HQL:=zh hqs;have HQ:=zh hq;have HIMD:Hid (g.map (λa=>img (g.headD []).length a l)=Go.Av.jY.im (g.headD []).length g l):=zh rfl;have hLL:l.length*l.length<=4096:=cE hl hl;unfold aAo at HAO;rw[HIMD.o]at HAO;clear HIMD hG hgg hB hll hI hv hz hA hE hs hf hqs hT hq;generalize (Go.Av.jY.im (g.headD []).length g l)=im at*;generalize l.length=L at*;generalize hgL:g.length=M at*;clear hgL;generalize hN:L*L=N at*;have HNE:=zh hN;obtain⟨W,hW⟩:=eqx (w.alloc (.cells #[.int .i64 L,.int .i64 L,.slice E N c] 31))
  have B0:Blk W w.heap.size 31 #[.int .i64 L,.int .i64 L,.slice E N c]:=by rw[<-hW];exact Blk.new _ _ _
  have hb0:Below w.heap.size w W:=by rw[<-hW];exact bal
  obtain⟨a0,a1,a2,_,_,_⟩:=B0.three;have HW:=zh hW;clear hW hN;go_enter Tryz.func12,Tryz.ntmps12;go_upto_region 1 with(fail);rw[HW.o];clear HW
  go_upto_region 5 with(go_at_call 29;refine(HAO.o _ hb0).mono ?_;rintro e w1 ⟨ga,rfl,hIM,hb1⟩)
  have hbw1:=dW hb0 hb1;have HIM:=zh hIM;have c2:=gL hb1 a2;have HE1:=zh (HE.o.keep hbw1);clear HAO hIM a0 a1 a2 B0 hb0 hb1 HE;go_wp2
  go_loopw [29] (λs29 wr=>∃j:Nat,s29=.int .i64 j/\j<=M/\Hid (∀a∈im.take j,aMA f L N a)/\Below w1.heap.size w1 wr) (λs29 _=>M-(intOf s29).toNat)
  case atStart=>exact⟨0,rfl,aW _,zh (by simp),bM _ _⟩
  case round=>
   obtain⟨wj,rfl⟩:∃wj:World,wj=wr:=⟨_,rfl⟩;obtain⟨j,rfl,hj,HJ,hbj⟩:=hrel
   by_cases hjM:j<M
   ·have hjm:j<im.length:=by rw[HIL.o];exact hjM
    obtain⟨ad,E2,ce,had,hc0,hE2⟩:=HIM.o.at hjm
    injection had with had
    subst had;have hpj:=HIP.o im[j] (aB _);rw[hpj.1]at hc0;have hc:=gL hbj hc0;rw[kI,bN]at hc;have HTK:Hid (im.take (j+1)=im.take j++[im[j]]):=zh (aD hjm);have HPJ:=zh hpj;have HE2:=zh (hE2.keep hbj);have HMEM:Hid (im[j]∈im):=zh (aB _)
    have r0:(0:Int)<=(j:Int):=by omega
    have r1:(j:Int)<(M:Int):=by omega
    have r3:((j:Int)).toNat=j:=by omega
    clear hc0 hE2 hpj;generalize im[j]=a at*;have c2:=gL hbj c2;have HE3:=zh (HE1.o.keep hbj);go_wp2
    go_loopw [34] (λs34 wr=>∃i:Nat,s34=.int .i64 i/\i<=L/\Hid (∀p,p<i*L->f (plA L a p)=f p)/\Below wj.heap.size wj wr) (λs34 _=>L-(intOf s34).toNat)
    case atStart=>exact⟨0,rfl,aW _,zh (λp hp=>by omega),bM _ _⟩
    case round=>
     obtain⟨wi,rfl⟩:∃wi:World,wi=wr:=⟨_,rfl⟩;obtain⟨i,rfl,hi,HI,hbi⟩:=hrel
     by_cases hiL:i<L
     ·have i0:(0:Int)<=(i:Int):=by omega
      have i1:(i:Int)<(L:Int):=by omega
      have i3:((i:Int)).toNat=i:=by omega
      have HI0:Hid (∀p,p<i*L+0->f (plA L a p)=f p):=HI;clear HI;go_wp2
      go_loopw [38] (λs38 wr=>∃k:Nat,s38=.int .i64 k/\k<=L/\Hid (∀p,p<i*L+k->f (plA L a p)=f p)/\Below wj.heap.size wj wr) (λs38 _=>L-(intOf s38).toNat)
      case atStart=>exact⟨0,rfl,aW _,HI0,hbi⟩
      case round=>
       clear hbi HI0;obtain⟨wk,rfl⟩:∃wk:World,wk=wr:=⟨_,rfl⟩;obtain⟨k,rfl,hk,HK,hbk⟩:=hrel
       by_cases hkL:k<L
       ·have k0:(0:Int)<=(k:Int):=by omega
        have k1:(k:Int)<(L:Int):=by omega
        have k3:((k:Int)).toNat=k:=by omega
        have hia:i<a.length:=by rw[HPJ.o.1];exact hiL
        have hka:k<a.length:=by rw[HPJ.o.1];exact hkL
        obtain⟨ee,rfl,d1⟩:=kP.at (HE2.o.keep hbk) hia;obtain⟨ee',hee,d2⟩:=kP.at (HE2.o.keep hbk) hka
        injection hee with hee
        subst hee;obtain⟨x,hx⟩:∃x:Nat,a[i]=(x:Int):=⟨(a[i]).toNat,by have:=HPJ.o.2.1 a[i] (aB _);omega⟩;obtain⟨y,hy⟩:∃y:Nat,a[k]=(y:Int):=⟨(a[k]).toNat,by have:=HPJ.o.2.1 a[k] (aB _);omega⟩
        have hxL:x<L:=by have:=HPJ.o.2.1 a[i] (aB _);omega
        have hyL:y<L:=by have:=HPJ.o.2.1 a[k] (aB _);omega
        rw[hx]at d1;rw[hy]at d2;obtain⟨iL,hiL2⟩:=eqx (i*L);obtain⟨xL,hxL2⟩:=eqx (x*L);obtain⟨p,hp⟩:=eqx (iL+k);obtain⟨r,hr⟩:=eqx (xL+y)
        have hpN:p<N:=by
         have h1:=aY L (show i+1<=L by omega);rw[eV,HNE.o]at h1;omega
        have hrN:r<N:=by
         have h1:=aY L (show x+1<=L by omega);rw[eV,HNE.o]at h1;omega
        have HPL:Hid (plA L a p=r):=zh (by
         have hL0:0<L:=by omega
         have e1:p/L=i:=by rw[<-hp,<-hiL2,aT,eX hL0,cT hkL,bW]
         have e2:p%L=k:=by rw[<-hp,<-hiL2,aT,fG,cU hkL]
         unfold plA;rw[e1,e2]
         simp[hia,hka,hx,hy,hxL2,hr])
        have wm:IntKind.i64.wrap ((i:Int)*(L:Int))=(iL:Int):=by
         rw[<-iS,hiL2];exact IntWalk.i64_in _ (by omega)
        have wa:IntKind.i64.wrap ((iL:Int)+(k:Int))=(p:Int):=by
         rw[<-iR,hp];exact IntWalk.i64_in _ (by omega)
        have wn:IntKind.i64.wrap ((x:Int)*(L:Int))=(xL:Int):=by
         rw[<-iS,hxL2];exact IntWalk.i64_in _ (by omega)
        have wb:IntKind.i64.wrap ((xL:Int)+(y:Int))=(r:Int):=by
         rw[<-iR,hr];exact IntWalk.i64_in _ (by omega)
        have p0:(0:Int)<=(p:Int):=by omega
        have p1:(p:Int)<(N:Int):=by omega
        have p3:((p:Int)).toNat=p:=by omega
        have q0:(0:Int)<=(r:Int):=by omega
        have q1:(r:Int)<(N:Int):=by omega
        have q3:((r:Int)).toNat=r:=by omega
        have hpq:p<qs.length:=by rw[HQL.o];exact hpN
        have hrq:r<qs.length:=by rw[HQL.o];exact hrN
        obtain⟨ead,hEe,s1⟩:=Sl.at1 (HE3.o.keep hbk) hpN;obtain⟨ead',hEe',s2⟩:=Sl.at1 (HE3.o.keep hbk) hrN;rw[dP,HF.o p hpq]at s1;rw[dP,HF.o r hrq]at s2;rw[hEe]at hEe'
        injection hEe' with hEe'
        subst hEe';unfold vq at s1 s2;have g2:=gL hbk c2
        have HK1:Hid (f r=f p->∀z,z<i*L+(k+1)->f (plA L a z)=f z):=zh (λh z hz=>by
         by_cases e:z=p
         ·rw[e,HPL.o,h]
         exact HK.o z (by omega))
        have HNO:Hid (f r≠f p->¬Inv f im L N):=zh (λh h2=>h (by have:=h2 a HMEM.o p hpN;rwa [HPL.o]at this));subst hEe;have hdr:Below wk.heap.size wk wk.drew:=brf.drew;have hbd:=dW hbk hdr;clear hx hy hiL2 hxL2 hp hr hia hka hpq hrq
        by_cases hfe:f r=f p
        ·rw[hfe]at s2;have HK2:=zh (HK1.o hfe);clear hfe HK1 HNO;generalize qtx (f p)=t at*
         have hne:(t.toList !=t.toList)=false:=by simp
         go_upto_region 14 with(fail)
         go_region
         generalize wk.drew=W5 at*;go_wp2;go_roundw
         case rel=>exact⟨k+1,by go_num,by omega,HK2,hbd⟩
         case measure=>(simp[intOf];omega)
        have hne:(qtx (f p)).toList≠(qtx (f r)).toList:=λh=>hfe (Go.Rq.aAQ h).symm
        have hneb:((qtx (f p)).toList !=(qtx (f r)).toList)=true:=bne_iff_ne.2 hne;have hneb2:((qtx (f p)).toList==(qtx (f r)).toList)=false:=aG.2 hne;have hneb3:decide ((qtx (f p)).toList=(qtx (f r)).toList)=false:=dF hne;obtain rfl:q=false:=cV (λh=>HNO.o hfe (HQ.o.1 h));clear hfe HK1 HNO hne;generalize qtx (f p)=t1 at*;generalize qtx (f r)=t2 at*;go_upto_region 14 with(fail)
        go_region
        generalize wk.drew=W5 at*;go_wp2
        go_ret2
        exact⟨rfl,dW (dW hbw1 hbj) hbd⟩
       obtain rfl:k=L:=by omega
       have dk:decide ((k:Int)<(k:Int))=false:=by simp
       have HKE:Hid (∀p,p<(i+1)*k->f (plA k a p)=f p):=zh (by rw[eV];exact HK.o);go_wp2;go_roundw
       case rel=>exact⟨i+1,by go_num,by omega,HKE,hbk⟩
       case measure=>(simp[intOf];omega)
     obtain rfl:i=L:=by omega
     have di:decide ((i:Int)<(i:Int))=false:=by simp
     have HIA:Hid (aMA f i N a):=zh (by rw[HNE.o]at HI;exact HI.o);have hbx:=dW hbj hbi;go_wp2;go_roundw
     case rel=>
      refine⟨j+1,by go_num,by omega,zh (λz hz=>?_),hbx⟩;rw[HTK.o]at hz
      rcases aK.1 hz with h|h
      ·exact HJ.o z h
      rw[aN.1 h];exact HIA.o
     case measure=>(simp[intOf];omega)
   obtain rfl:j=M:=by omega
   have dj:decide ((j:Int)<(j:Int))=false:=by simp
   obtain rfl:q=true:=HQ.o.2 (λz hz=>HJ.o z (by rw[bF (by rw[HIL.o];exact aA _)];exact hz));have hbx:=dW hbw1 hbj;go_wp2
   go_ret2
   exact⟨rfl,hbx⟩
end Go.Proofs.Tg.Bk
end
