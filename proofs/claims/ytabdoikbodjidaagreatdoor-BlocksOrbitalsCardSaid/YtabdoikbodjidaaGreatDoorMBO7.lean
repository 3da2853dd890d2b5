/- Parts of the proof. -/
import Derived.Test.YtabdoikbodjidaaGreatDoorMBO6
set_option maxHeartbeats 64000000
set_option maxRecDepth 100000
namespace Go.Pm
theorem mQ {α:Type}{P:List α->Prop}(h0:P [])(h1:∀l a,P l->P (l++[a]))(l:List α):P l:=by
 have:∀l:List α,P l.reverse:=λl=>by
  induction l with
  |nil=>exact h0
  |cons a l ih=>rw[List.reverse_cons];exact h1 _ _ ih
 have:=this l.reverse
 rwa [List.reverse_reverse]at this
def kJ (n:Nat)(l:List (List Int)):List (List Int):=l.foldl (λout a=>out++out.map (cmp a)) [unit n]
theorem oX (n:Nat):kJ n []=[unit n]:=rfl
theorem nC (n:Nat)(l:List (List Int))(a:List Int):kJ n (l++[a])=kJ n l++(kJ n l).map (cmp a):=by simp[kJ]
theorem qA (n:Nat)(l:List (List Int)):(kJ n l).length=2^l.length:=by
 induction l using mQ with
 |h0=>rfl
 |h1 l a ih=>rw[nC,aC,aI,ih,aC,dC,bS];omega
theorem aAr (n:Nat)(l:List (List Int)):(kJ n l)[0]?=some (unit n):=by
 induction l using mQ with
 |h0=>rfl
 |h1 l a ih=>rw[nC,bY (by rw[qA];exact eK (by omega)),ih]
theorem aIY (n:Nat)(l:List (List Int))(hl:∀a∈l,Perm n a):∀t (h:t<l.length),(kJ n l)[2^t]?=some l[t]:=by
 induction l using mQ with
 |h0=>intro t h;simp at h
 |h1 l a ih=>
  intro t h;rw[aC,dC]at h;rw[nC]
  by_cases ht:t<l.length
  ·rw[bY (by rw[qA];exact Nat.pow_lt_pow_right (by omega) ht),ih (λa ha=>hl a (bZ _ ha)) t ht,eY ht]
  obtain rfl:t=l.length:=by omega
  rw[bC (by rw[qA];omega),qA,cP,cK,aAr];simp only[gZ,gG];rw[oB (hl a (by simp)).1];simp
structure Sub (n:Nat)(l:List (List Int)):Prop where
  perm:∀a∈l,Perm n a
  inv:∀a∈l,cmp a a=unit n
  com:∀a∈l,∀b∈l,cmp a b=cmp b a
theorem Sub.nil (n:Nat):Sub n []:=⟨λ_ h=>by simp at h,λ_ h=>by simp at h,λ_ h=>by simp at h⟩
theorem Sub.snoc {n:Nat}{l:List (List Int)}{a:List Int}(h:Sub n l)(ha:Perm n a)(hi:cmp a a=unit n)(hc:∀b∈l,cmp a b=cmp b a):Sub n (l++[a]):=by
 refine⟨λx hx=>?_,λx hx=>?_,λx hx y hy=>?_⟩
 ·rcases aK.1 hx with hx|hx
  ·exact h.perm x hx
  rw[aN.1 hx];exact ha
 ·rcases aK.1 hx with hx|hx
  ·exact h.inv x hx
  rw[aN.1 hx];exact hi
 rcases aK.1 hx with hx|hx
 ·rcases aK.1 hy with hy|hy
  ·exact h.com x hx y hy
  rw[aN.1 hy];exact(hc x hx).symm
 rw[aN.1 hx]
 rcases aK.1 hy with hy|hy
 ·exact hc y hy
 rw[aN.1 hy]
theorem Sub.init {n:Nat}{l:List (List Int)}{a:List Int}(h:Sub n (l++[a])):Sub n l:=
  ⟨λx hx=>h.perm x (bZ _ hx),λx hx=>h.inv x (bZ _ hx),λx hx y hy=>h.com x (bZ _ hx) y (bZ _ hy)⟩
theorem oY {n:Nat}{l:List (List Int)}(hl:∀a∈l,Perm n a):∀p∈kJ n l,Perm n p:=by
 induction l using mQ with
 |h0=>intro p hp;rw[oX,aN]at hp;rw[hp];exact nM n
 |h1 l a ih=>
  intro p hp;have ih:=ih (λa ha=>hl a (bZ _ ha));rw[nC]at hp
  rcases aK.1 hp with hp|hp
  ·exact ih p hp
  obtain⟨q,hq,rfl⟩:=aM.1 hp;exact mE (hl a (by simp)) (ih q hq)
theorem xT {n:Nat}{l:List (List Int)}(hl:∀a∈l,Perm n a){x:List Int}(hx:Perm n x)(hc:∀a∈l,cmp x a=cmp a x):∀p∈kJ n l,cmp x p=cmp p x:=by
 induction l using mQ with
 |h0=>intro p hp;rw[oX,aN]at hp;rw[hp,oM hx,oB hx.1]
 |h1 l a ih=>
  intro p hp
  have hl':∀a∈l,Perm n a:=λa ha=>hl a (bZ _ ha)
  have ih:=ih hl' (λa ha=>hc a (bZ _ ha));have ha:=hl a (by simp);rw[nC]at hp
  rcases aK.1 hp with hp|hp
  ·exact ih p hp
  obtain⟨q,hq,rfl⟩:=aM.1 hp;have hq':=oY hl' q hq;rw[<-lS ha.1 hq',hc a (by simp),lS hx.1 hq',ih q hq,<-lS hq'.1 hx]
theorem Sub.mul {n:Nat}{l:List (List Int)}(h:Sub n l):∀p∈kJ n l,∀q∈kJ n l,cmp p q∈kJ n l:=by
 induction l using mQ with
 |h0=>
  intro p hp q hq;rw[oX,aN]at hp hq;rw[hp,hq,oM (nM n),oX];simp
 |h1 l a ih=>
  have ih:=ih h.init;have ha:=h.perm a (by simp);have hi:=h.inv a (by simp);have hP:=oY h.init.perm;have hC:=xT h.init.perm ha (λb hb=>h.com a (by simp) b (bZ _ hb));intro p hp q hq;rw[nC]at hp hq ⊢
  rcases aK.1 hp with hp|hp
  ·rcases aK.1 hq with hq|hq
   ·exact bZ _ (ih p hp q hq)
   obtain⟨r,hr,rfl⟩:=aM.1 hq;refine eF _ (aM.2 ⟨cmp p r,ih p hp r hr,?_⟩);rw[<-lS (hP p hp).1 (hP r hr),hC p hp,lS ha.1 (hP r hr)]
  obtain⟨s,hs,rfl⟩:=aM.1 hp
  rcases aK.1 hq with hq|hq
  ·refine eF _ (aM.2 ⟨cmp s q,ih s hs q hq,?_⟩);rw[lS (hP s hs).1 (hP q hq)]
  obtain⟨r,hr,rfl⟩:=aM.1 hq;refine bZ _ ?_
  have e:cmp (cmp a s) (cmp a r)=cmp s r:=by
   rw[hC s hs,lS ha.1 (mE ha (hP r hr)),<-lS (b:=a) ha.1 (hP r hr),hi,oM (hP r hr)]
  rw[e];exact ih s hs r hr
theorem Sub.unit_mem (n:Nat)(l:List (List Int)):unit n∈kJ n l:=List.mem_of_getElem? (aAr n l)
theorem Sub.nodup_snoc {n:Nat}{l:List (List Int)}{a:List Int}(h:Sub n l)(hn:(kJ n l).Nodup)(ha:Perm n a)(_hi:cmp a a=unit n):(kJ n (l++[a])).Nodup↔a∉kJ n l:=by
 have hP:=oY h.perm
 rw[nC]
 constructor
 ·intro hnd hm
  have:=(eL.1 hnd).2.2 a hm a (aM.2 ⟨unit n,Sub.unit_mem n l,oB ha.1⟩);exact this rfl
 intro hm
 refine eL.2 ⟨hn,dU.2 (hn.imp_of_mem λ{x y} hx hy hne e=>hne (zO ha (hP x hx) (hP y hy) e)),λx hx y hy e=>?_⟩;subst e;obtain⟨q,hq,he⟩:=aM.1 hy
 --a q=x:a=x q
 apply hm
 have h1:cmp (cmp a q) q=cmp x q:=by rw[he]
 have hqq:cmp q q=unit n:=by
  have hself:∀(l:List (List Int)),Sub n l->∀p∈kJ n l,cmp p p=unit n:=λl=>by
   induction l using mQ with
   |h0=>intro _ p hp;rw[oX,aN]at hp;rw[hp,oM (nM n)]
   |h1 l b ih=>
    intro h p hp;have hb:=h.perm b (by simp);rw[nC]at hp
    rcases aK.1 hp with hp|hp
    ·exact ih h.init p hp
    obtain⟨r,hr,rfl⟩:=aM.1 hp;have hr':=oY h.init.perm r hr;have hC:=xT h.init.perm hb (λc hc=>h.com b (by simp) c (bZ _ hc)) r hr;rw[lS hr'.1 (mE hb hr'),hC,<-lS (b:=r) hr'.1 hb,ih h.init r hr,oM hb,h.inv b (by simp)]
  exact hself l h q hq
 rw[lS (hP q hq).1 (hP q hq),hqq,oB ha.1]at h1;rw[h1];exact h.mul x hx q hq
def words (n:Nat):Nat->List (List Int)
  |0=>[[]]
  |k+1=>(words n k).flatMap λl=>(List.range n).map λx:Nat=>(x:Int)::l
theorem aBD (n:Nat):∀(l:List Int),(∀x∈l,0<=x/\x<n)->l∈words n l.length
  |[],_=>aN.2 rfl
  |x::l,h=>by
   have h1:=h x (by simp);refine List.mem_flatMap.2 ⟨l,aBD n l (λy hy=>h y (fP _ hy)),aM.2 ⟨x.toNat,bD.2 (by omega),?_⟩⟩;rw[show(x.toNat:Int)=x by omega]
def aMc (n:Nat):List (List Int):=(words n n).filter λa=>decide a.Nodup
theorem aDd {n:Nat}{a:List Int}(h:Perm n a):a∈aMc n:=by
 refine cM.2 ⟨?_,dT h.2.2⟩
 have:=aBD n a h.2.1
 rwa [h.1]at this
theorem aED {n:Nat}{S:List (List Int)}(hS:S.Nodup)(hp:∀a∈S,Perm n a):S.length<=(aMc n).length:=hS.length_le_of_subset λa ha=>aDd (hp a ha)
def aPT (n:Nat)(out:List (List Int))(a:List Int):Prop:=a≠unit n/\cmp a a=unit n/\a∉kJ n out/\∀b∈out,cmp a b=cmp b a
instance (n:Nat)(out:List (List Int))(a:List Int):Decidable (aPT n out a):=inferInstanceAs (Decidable (_/\_/\_/\_))
end Go.Pm
namespace Go.Pm
open Go.Gr
theorem Bfs.popr {n:Nat}{gs S Q:List (List Int)}{a:List Int}(h:Bfs n gs S (Q++[a])):Mid n gs S Q a 0:=
  ⟨h.nodup,h.gen,h.one,h.wait a (by simp),λx hx=>h.wait x (bZ _ hx),λx hx=>by
   rcases h.done x hx with h1|h1
   ·rcases aK.1 h1 with h1|h1
    ·exact .inl h1
    exact .inr (.inl (aN.1 h1))
   exact .inr (.inr h1),λg hg=>by simp at hg⟩
theorem Mid.congr {n:Nat}{gs S S' Q:List (List Int)}{a:List Int}{j:Nat}(h:Mid n gs S Q a j)(hn:S'.Nodup)(hs:∀x,x∈S'↔x∈S):Mid n gs S' Q a j:=
  ⟨hn,λx hx=>h.gen x ((hs x).1 hx),(hs _).2 h.one,(hs _).2 h.cur,λx hx=>(hs x).2 (h.wait x hx),λx hx=>by
   rcases h.done x ((hs x).1 hx)with h1|h1|h1
   ·exact .inl h1
   ·exact .inr (.inl h1)
   exact .inr (.inr λg hg=>(hs _).2 (h1 g hg)),λg hg=>(hs _).2 (h.part g hg)⟩
theorem Mid.place {n:Nat}{gs S Q:List (List Int)}{a:List Int}{j m:Nat}(h:Mid n gs S Q a j)(hj:j<gs.length)(hA:Asc S)(hm:At S (cmp gs[j] a) m)(hn:cmp gs[j] a∉S):
    Asc (S.take m++cmp gs[j] a::S.drop m)/\Mid n gs (S.take m++cmp gs[j] a::S.drop m) (Q++[cmp gs[j] a]) a (j+1):=by
  have h1:=hm.insert hA hn;exact⟨h1,(h.new hj hn).congr h1.nodup λx=>by rw[aMa,bA]⟩
theorem Mid.few {n:Nat}{gs S Q:List (List Int)}{a:List Int}{j:Nat}(h:Mid n gs S Q a j)(hn:n<=6)(hg:∀g∈gs,Perm n g):S.length<=46656:=aAs hn h.nodup λx hx=>(h.gen x hx).perm hg
theorem Bfs.few {n:Nat}{gs S Q:List (List Int)}(h:Bfs n gs S Q)(hn:n<=6)(hg:∀g∈gs,Perm n g):S.length<=46656:=aAs hn h.nodup λx hx=>(h.gen x hx).perm hg
theorem aGZ:Perm 0 []:=⟨rfl,⟨λx hx=>absurd hx (by simp),List.nodup_nil⟩⟩
theorem aIZ {i k:Nat}{out:List Int}(h:Perm i out)(hk:k<=i):Perm (i+1) (out.take k++(i:Int)::out.drop k):=by
 have hm:∀x,x∈out.take k++(i:Int)::out.drop k↔x=(i:Int)∨x∈out:=λx=>by
  rw[aK,bA]
  have e:x∈out↔x∈out.take k∨x∈out.drop k:=by rw[<-aK,cY]
  rw[e]
  constructor
  ·rintro(h|h|h)
   ·exact .inr (.inl h)
   ·exact .inl h
   exact .inr (.inr h)
  rintro(h|h|h)
  ·exact .inr (.inl h)
  ·exact .inl h
  exact .inr (.inr h)
 refine⟨?_,λx hx=>?_,?_⟩
 ·rw[aC,bP,aS,cZ,h.1];omega
 ·rcases(hm x).1 hx with rfl|hx
  ·omega
  have:=h.2.1 x hx;omega
 have hp:(out.take k++(i:Int)::out.drop k).Perm ((i:Int)::out):=by
  refine List.perm_middle.trans (List.Perm.cons _ ?_);rw[cY]
 refine hp.nodup_iff.2 (fK.2 ⟨λhi=>?_,h.2.2⟩);have:=h.2.1 _ hi;omega
end Go.Pm
namespace Go.Proofs.Tg.Gp
open Go.RowKit Go.Gr Go.Sp Go.Ev Go.Pm
theorem kS:(Tryz.prog.info? 22).map (λi=>(i.zero,i.size,i.bytes))=some (some (.slice none 0 0),1,24):=by kernel_rfl
abbrev lQ:=Nat×List Int
def jU (n:Nat)(r:lQ):Value:=.slice (some ⟨r.1,0,none⟩) n n
def lF (w:World)(rs:List lQ):Prop:=∀r∈rs,Blk w r.1 3 (kU r.2)
theorem lF.keep {w w':World}{rs:List lQ}(h:lF w rs)(hb:Below w.heap.size w w'):lF w' rs:=λr hr=>(h r hr).keep hb (h r hr).lt
theorem lF.turn {w w':World}{rs:List lQ}{mb:Nat}(h:lF w rs)(hm:qU w mb)(hg:w.grownBy w' (some mb)):lF w' rs:=λr hr=>(h r hr).turn hm hg
theorem lF.grown {w w':World}{rs:List lQ}{base:Nat}{v:Value}{xs:List Value}(h:lF w rs)(hq:Que w base 22 v xs)(hg:w.grownBy w' v.ownBlock):lF w' rs:=λr hr=>(h r hr).grown hg (hq.ne (h r hr) (by decide))
theorem lF.snoc {w:World}{rs:List lQ}{g:Nat}{l:List Int}(h:lF w rs)(hB:Blk w g 3 (kU l)):lF w (rs++[(g,l)]):=by
 intro r hr
 rcases aK.1 hr with hr|hr
 ·exact h r hr
 rw[aN.1 hr];exact hB
theorem Que.turn {w w':World}{base:Nat}{e:TypeId}{v:Value}{xs:List Value}{mb:Nat}(h:Que w base e v xs)(hm:qU w mb)(hg:w.grownBy w' (some mb)):Que w' base e v xs:=by
 obtain⟨g,o,cap,cur,h1,h2,h3,h4⟩:=h
 refine⟨g,o,cap,cur,h1,h2,(hg.block g (cR.1 h3).1 (λe=>?_)).trans h3,h4⟩
 injection e with e
 subst e
 obtain⟨es,ck,hh⟩:=hm
 rw[hh]at h3
 cases h3
structure aPO (w:World)(n:Nat)(gs:List (List Int))(wr:World)(mb:Nat)(S:List (List Int))(rs:List lQ)(v:Value):Prop where
  below:Below w.heap.size w wr
  bfs:Bfs n gs S (rs.map Prod.snd)
  set:mB wr mb S.length n S
  low:w.heap.size<=mb
  que:Que wr w.heap.size 22 v (rs.map (jU n))
  rows:lF wr rs
structure aGG (w:World)(n:Nat)(gs:List (List Int))(wr:World)(mb:Nat)(S:List (List Int))(rs:List lQ)(v:Value)(ga:Nat)(a:List Int)(j:Nat):Prop where
  below:Below w.heap.size w wr
  mid:Mid n gs S (rs.map Prod.snd) a j
  set:mB wr mb S.length n S
  low:w.heap.size<=mb
  que:Que wr w.heap.size 22 v (rs.map (jU n))
  rows:lF wr rs
  cur:Blk wr ga 3 (kU a)
theorem aBp (G:Option Addr)(cG n:Nat)(gs:List (List Int))(w:World)(hG:jV w G gs)(hp:∀g∈gs,Perm n g)(hn:n<=6)(hl:gs.length<=1000000):
    Calls Tryz.prog 70 #[.int .i64 n,.slice G gs.length cG] w λe w'=>∃mb S,e=.returned (.map (some mb))/\sB n gs S/\mB w' mb S.length n S/\w.heap.size<=mb/\Below w.heap.size w w':=by
  have HG:=zh hG;have HP:=zh hp;have HID:=zh (λV=>xG n V hn)
  have HKY:Hid (∀V g a,Blk V g 3 (kU a)->a.length=n->Calls Tryz.prog 71 #[.slice (some ⟨g,0,none⟩) n n] V λe w'=>e=.returned (rZ a)/\Below V.heap.size V w'):=zh (λV g a h ha=>by
   have:=pB (some ⟨g,0,none⟩) n a V (lO h ha hn) (by omega);rw[ha]at this
   exact this)
  clear hG hp;obtain⟨j0,hj0,hjz0,hjz1,hjz2⟩:=info_parts kS;have hmm:=@run_makeMap Tryz.prog;go_enter Tryz.func70,Tryz.ntmps70
  go_upto_region 2 with(go_at_call 120;refine(HID.o _).mono ?_;rintro e w1 ⟨rfl,hG1,hb1⟩)
  have hM:=mB.made w1 n;have hal:=dX (bM w1.heap.size w1) (aA _) (.map #[] 0);have hG1x:=hG1.keep hal hG1.lt;have hb1x:=dW hb1 hal;have hlow:=hb1.size;have HUL:Hid ((unit n).length=n):=zh (mV n);have hUD:=qY hn (nM n);have HBF:=zh (Bfs.start n gs);generalize unit n=u at*
  go_wp2_with (go_at_call 71;refine(HKY.o _ _ _ hG1x HUL.o).mono ?_;rintro e w2 ⟨rfl,hb2⟩
               have hM2:=hM.below hb2 hM.lt;have hm2:=hM2.mapB
               obtain⟨w3,hrun,hS3,hg3⟩:=hM2.put hn (by omega) hUD (by simp))
  have hm2l:=hM.lt;have hb3:=zB (dW hb1x hb2) hm2 hg3 hlow;have hG3:=(hG1x.keep hb2 hG1x.lt).turn hm2 hg3;have hS4:=hS3;have hal3:=dX (bM w3.heap.size w3) (aA _) (.cells #[.slice (some ⟨w.heap.size,0,none⟩) n n] 22);have hGq:=hG3.alloc (.cells #[.slice (some ⟨w.heap.size,0,none⟩) n n] 22);have hSq:=hS4.below hal3 hS4.lt;have hbq:=hb3.alloc hb3.size (.cells #[.slice (some ⟨w.heap.size,0,none⟩) n n] 22);have hQq:Que (w3.alloc (.cells #[.slice (some ⟨w.heap.size,0,none⟩) n n] 22)) w.heap.size 22 (.slice (some ⟨w3.heap.size,0,none⟩) 1 1) ([(w.heap.size,u)].map (jU n)):=Que.of_blk (xs:=[jU n (w.heap.size,u)]) (Blk.new _ _ _) hb3.size (by simp[maxLen]);clear hM hM2 hm2 hS3 hg3 hrun hal hG1 hG1x hb1x hb2 hb3 hG3 hS4 hal3 hUD hb1 HID
  generalize w3.alloc (.cells #[.slice (some ⟨w.heap.size,0,none⟩) n n] 22)=W at*;generalize w3.heap.size=gq at*;generalize w1.heap.size=mb at*;clear hmm
  go_loopg [7] 46656 (λm s7 wr=>∃(S:List (List Int)) (rs:List lQ),Hid (aPO w n gs wr mb S rs s7)/\46656-S.length+rs.length<=m/\rs.length<=S.length)
  case atStart=>exact⟨[u],[(w.heap.size,u)],zh ⟨hbq,HBF.o,hSq,hlow,hQq,λr hr=>by rw[aN.1 hr];exact hGq⟩,by simp,by simp⟩
  case round=>
   clear hbq hSq hQq hGq;obtain⟨wo,rfl⟩:∃wo:World,wo=wr:=⟨_,rfl⟩;obtain⟨S,rs,HST,hm,hrs⟩:=hrel;have hSl:=HST.o.bfs.few hn HP.o
   cases rs with
   |nil=>
    obtain⟨g,o,cap,cur,rfl,_⟩:=HST.o.que;go_wp2;go_ret;exact⟨mb,S,rfl,HST.o.bfs.fin,HST.o.set,hlow,HST.o.below⟩
   |cons r rs=>
    obtain⟨gr,a⟩:=r;obtain⟨g,o,cap,rfl,hc,hcap⟩:=HST.o.que.head;have hqt:=HST.o.que.tail;rw[aI]at hqt;have HMI:=zh (HST.o.bfs.pop);have hra:=HST.o.rows (gr,a) (by simp);have HMD:Hid (aGG w n gs wo mb S rs (.slice (some ⟨g,o+1,none⟩) rs.length (cap-1)) gr a 0):=zh ⟨HST.o.below,HMI.o,HST.o.set,hlow,hqt,λr hr=>HST.o.rows r (fP _ hr),hra⟩;rw[bP]at hm hrs
    have HR0:Hid (cap=1->rs=[]/\aGG w n gs wo mb S rs (.slice (some ⟨g,o,none⟩) 0 0) gr a 0):=zh (λh1=>by
     obtain⟨g',o',cap',cur,e1,e2,e3,e4,e5,e6,e7⟩:=HST.o.que
     injection e1 with e1 _ ec
     injection e1 with e1
     injection e1 with eg eo
     subst eg eo ec;simp at e4;have hr0:rs=[]:=bV (by omega);subst hr0
     exact⟨rfl,HST.o.below,HMI.o,HST.o.set,hlow,⟨g,o,0,cur,rfl,e2,e3,aW _,by simp[maxLen],by omega,λj u hu=>by simp at hu⟩,λr hr=>by simp at hr,hra⟩)
    clear hqt HMI hra;have hcell:(jU n (gr,a))=.slice (some ⟨gr,0,none⟩) n n:=rfl;rw[hcell]at hc;clear hcell;go_upto_region 6 with(fail)
    go_cut [7] (λs7 wx=>Hid (aGG w n gs wx mb S rs s7 gr a 0))
    case first=>
     by_cases hc1:cap=1
     ·obtain⟨h1,h2⟩:=HR0.o hc1;subst hc1;subst h1;go_wp2;go_meet;exact zh h2
     have hcf:(cap=1)=False:=bX hc1;go_wp2;go_meet;exact HMD
    case rest=>
     have HMD:=hcut;obtain⟨wx,rfl⟩:∃wx:World,wx=wc:=⟨_,rfl⟩;clear hcut HR0 HST hc hcap;go_wp2
     go_loopw [30,7] (λs30 s7 wr=>∃(j:Nat) (S':List (List Int)) (rs':List lQ),s30=.int .i64 j/\j<=gs.length/\Hid (aGG w n gs wr mb S' rs' s7 gr a j)/\46656-S'.length+rs'.length<gk/\rs'.length+1<=S'.length) (λs30 _ _=>gs.length-(intOf s30).toNat)
     case atStart=>exact⟨0,S,rs,rfl,aW _,HMD,by omega,hrs⟩
     case round=>
      clear HMD;obtain⟨wi,rfl⟩:∃wi:World,wi=wr:=⟨_,rfl⟩;obtain⟨j,S2,rs2,rfl,hj,HMD,hm2,hrs2⟩:=hrel;have hbi:=HMD.o.below;have hS2:=HMD.o.mid.few hn HP.o;obtain⟨gq2,o2,cap2,cur2,rfl,hq2⟩:=HMD.o.que;rw[aI]at*
      by_cases hjl:j<gs.length
      ·obtain⟨ad,E,ce,rfl,hcg,hE⟩:=(HG.o.keep hbi).at hjl;have hpg:=HP.o gs[j] (aB _);have hpa:Perm n a:=(HMD.o.mid.gen a HMD.o.mid.cur).perm HP.o
       have q0:(0:Int)<=(j:Int):=by omega
       have q1:(j:Int)<(gs.length:Int):=by omega
       have q3:((j:Int)).toNat=j:=by omega
       rw[hpg.1]at hcg;have hia:=lO HMD.o.cur hpa.1 hn;have HCP:=zh (zC E (some ⟨gr,0,none⟩) ce n n gs[j] a wi hE hia hpg hpa hn);have hpc:=mE hpg hpa;have hdc:=qY hn hpc;clear hE hia
       by_cases hin:cmp gs[j] a∈S2
       ·have HO:=zh (HMD.o.mid.old hjl hin);have hdec:decide (cmp gs[j] a∈S2)=true:=dT hin;clear hin;generalize cmp gs[j] a=b at*
        go_wp2_with (first
          |(go_at_call 121;refine HCP.o.mono ?_;rintro e w4 ⟨rfl,hG4,hb4⟩)
          |(go_at_call 71;refine(HKY.o _ _ _ hG4 hpc.1).mono ?_;rintro e w5 ⟨rfl,hb5⟩
            have hb45:=dW hb4 hb5
            have hlook:=(HMD.o.set.below hb45 HMD.o.set.lt).look hdc hdec))
        go_roundw
        case rel=>exact⟨j+1,S2,rs2,by go_num,by omega,zh ⟨dW hbi hb45,HO.o,HMD.o.set.below hb45 HMD.o.set.lt,hlow,HMD.o.que.below hb45,HMD.o.rows.keep hb45,HMD.o.cur.keep hb45 HMD.o.cur.lt⟩,hm2,hrs2⟩
        case measure=>simp[intOf];omega
       have HO:=zh (HMD.o.mid.new hjl hin);have hdec:decide (cmp gs[j] a∈S2)=false:=dF hin;have HNI:=zh hin;clear hin;generalize cmp gs[j] a=b at*
       have hqlen:rs2.length<=46656:=by omega
       go_wp2_with (first
         |(go_at_call 121;refine HCP.o.mono ?_;rintro e w4 ⟨rfl,hG4,hb4⟩)
         |(go_at_call 71
           first
             |(have hb45':=hb45
               refine(HKY.o _ _ _ (hG4.keep hb5 hG4.lt) hpc.1).mono ?_;rintro e w6 ⟨rfl,hb6⟩;clear hlook;have hb46:=dW hb45 hb6;have hM6:=HMD.o.set.below hb46 HMD.o.set.lt;have hm6:=hM6.mapB
               obtain⟨w7,hrun,hS7,hg7⟩:=hM6.put hn (by omega) hdc HNI.o)
             |(refine(HKY.o _ _ _ hG4 hpc.1).mono ?_;rintro e w5 ⟨rfl,hb5⟩
               have hb45:=dW hb4 hb5
               have hlook:=(HMD.o.set.below hb45 HMD.o.set.lt).look hdc hdec))
         |(at_builtin
           have hG7:=((hG4.keep hb5 hG4.lt).keep hb6 (hG4.keep hb5 hG4.lt).lt).turn hm6 hg7;have hQ7:=Que.turn (HMD.o.que.below hb46) hm6 hg7;have hR7:=(HMD.o.rows.keep hb46).turn hm6 hg7;have hC7:=(HMD.o.cur.keep hb46 HMD.o.cur.lt).turn hm6 hg7;have hb7:=zB (dW hbi hb46) hm6 hg7 hlow;have hal7:=dX (bM w7.heap.size w7) (aA _) (.cells #[.slice (some ⟨wi.heap.size,0,none⟩) n n] 22);refine oQ _ rfl _ _ 27 rfl w.heap.size 22 j0 (.slice none 0 0) 24 Tryz.underlying27 hj0 hjz0 hjz1 hjz2 rfl _ (rs2.map (jU n)) rfl (hQ7.below hal7) ⟨w7.heap.size,0,none⟩ 1 (.slice (some ⟨wi.heap.size,0,none⟩) n n) rfl ((Blk.new w7 22 #[.slice (some ⟨wi.heap.size,0,none⟩) n n]).cell 0) (by simp[Value.oneCell']) (by simp[maxLen];omega) (by simp;omega) (by have:=hb7.size;simp;omega) ?_
           intro v8 w8 hQ8 hg8 _ _))
       go_roundw
       case rel=>
        have hSx:=hS7.below hal7 hS7.lt;have hfew:=HO.o.few hn HP.o;rw[bP]at hfew;refine⟨j+1,b::S2,rs2++[(wi.heap.size,b)],by go_num,by omega,zh ⟨?_,?_,?_,hlow,?_,?_,?_⟩,by simp;omega,by simp;omega⟩
        ·exact(hb7.alloc hb7.size _).grown hg8 (by have:=hb7.size;simp;omega) (λq hq=>by
          obtain⟨g9,e9,h9,_⟩:=hQ7.blk;have h10:=e9.symm.trans hq
          injection h10 with h10
          omega)
        ·rw[bH];exact HO.o
        ·refine hSx.grown hg8 (λe=>?_);obtain⟨es,ck,hh⟩:=hSx.mapB;obtain⟨g9,o9,cap9,cur9,e9,_,h9,_⟩:=hQ7.below hal7;rw[e9]at e
         injection e with e
         subst e;rw[h9]at hh
         cases hh
        ·rw[bH];exact hQ8
        ·exact((hR7.keep hal7).grown (hQ7.below hal7) hg8).snoc ((hG7.alloc _).grown hg8 ((hQ7.below hal7).ne (hG7.alloc _) (by decide)))
        exact(hC7.alloc _).grown hg8 ((hQ7.below hal7).ne (hC7.alloc _) (by decide))
       case measure=>simp[intOf];omega
      obtain rfl:j=gs.length:=by omega
      have HF:=zh (HMD.o.mid.fin);have HFS:Hid (aPO w n gs wi mb S2 rs2 (.slice (some ⟨gq2,o2,none⟩) rs2.length cap2)):=zh ⟨HMD.o.below,HF.o,HMD.o.set,hlow,HMD.o.que,HMD.o.rows⟩
      have dk:decide ((gs.length:Int)<(gs.length:Int))=false:=by simp
      go_wp2
      go_roundg (46656-S2.length+rs2.length)
      case measure=>omega
      case rel=>exact⟨S2,rs2,HFS,by omega,by omega⟩
end Go.Proofs.Tg.Gp
section
namespace Go.Proofs.Tg
open Go.RowKit Go.Gr
theorem Que.sl {w:World}{base:Nat}{e:TypeId}{v:Value}{xs:List Value}(h:Que w base e v xs):∃ad c,v=.slice (some ad) xs.length c/\Sl w (some ad) xs.length 1 xs/\base<=ad.block/\ad.spot=none:=by
 obtain⟨g,o,cap,cur,h1,h2,h3,h4,h5,h6,h7⟩:=h
 refine⟨⟨g,o,none⟩,cap,h1,⟨by simp,λ_=>⟨_,rfl,(cR.1 h3).1,λj u hu=>?_⟩⟩,h2,rfl⟩
 rw[kI,cell_of_row w g _ cur e _ h3]
 exact h7 j u hu
theorem aLp {ad:Addr}(h:ad.spot=none)(k:Nat):ad.add k=⟨ad.block,ad.off+k,none⟩:=by
 obtain⟨b,o,s⟩:=ad
 simp only at h
 subst h
 exact kI _ _ _
theorem Que.far {w:World}{base:Nat}{e:TypeId}{v:Value}{xs:List Value}(h:Que w base e v xs){p:Addr}(hp:some p.block≠v.ownBlock)(u:Value):Que (w.setCell p u) base e v xs:=by
 obtain⟨g,o,cap,cur,rfl,h2,h3,h4⟩:=h
 exact⟨g,o,cap,cur,rfl,h2,(eZ _ _ _ _ (λe=>hp (by rw[<-e];rfl))).trans h3,h4⟩
section
variable {P : Program}
end
end Go.Proofs.Tg
namespace Go.Proofs.Tg.Gp
open Go.RowKit Go.Gr Go.Pm
theorem nP {w:World}{n:Nat}{A:Option Addr}{rs:List lQ}(hS:Sl w A rs.length 1 (rs.map (jU n)))(hR:lF w rs)(hn:n<=6)(hl:∀r∈rs,r.2.length=n):jV w A (rs.map Prod.snd):=by
 refine⟨λi=>(some ⟨(rs.getD i (0,[])).1,0,none⟩,n),?_,λi hi=>?_⟩
 ·have e:(List.range (rs.map Prod.snd).length).map (λi=>Value.slice (some ⟨(rs.getD i (0,[])).1,0,none⟩) ((rs.map Prod.snd).getD i []).length n)=rs.map (jU n):=by
   refine dJ (by simp) λi h1 h2=>?_
   have hi:i<rs.length:=by simpa using h2
   simp[hi,jU,hl rs[i] (aB _)]
  rw[e,aI];exact hS
 have hi':i<rs.length:=by simpa using hi
 have e1:rs.getD i (0,[])=rs[i]:=by simp[hi']
 have e2:(rs.map Prod.snd).getD i []=rs[i].2:=by simp[hi']
 simp only[e1,e2];exact lO (hR rs[i] (aB _)) (hl rs[i] (aB _)) hn
end Go.Proofs.Tg.Gp
end
namespace Go.Proofs.Tg.Bk
open Go.RowKit Go.Gr Go.Sp Go.Ev Go.Pm
open Go.Proofs.Tg.Gp (lQ jU lF lO mU kS)
structure tL (wr:World)(base n:Nat)(P:List (List Int))(gs mb:Nat)(v:Value)(rs:List lQ)(S:List (List Int)):Prop where
  box:Blk wr gs 95 #[v,.map (some mb)]
  que:Que wr base 22 v (rs.map (jU n))
  rows:lF wr rs
  eq:rs.map Prod.snd=P
  set:mB wr mb S.length n S
  mem:∀x,x∈S↔x∈P
  slen:S.length<=rs.length
  lows:base<=gs
  lowm:base<=mb
theorem tL.keep {wr wz:World}{base n gs mb:Nat}{P S:List (List Int)}{v:Value}{rs:List lQ}(h:tL wr base n P gs mb v rs S)(hb:Below wr.heap.size wr wz):tL wz base n P gs mb v rs S:=
  ⟨h.box.keep hb h.box.lt,h.que.below hb,h.rows.keep hb,h.eq,h.set.below hb h.set.lt,h.mem,h.slen,h.lows,h.lowm⟩
theorem aEl (n:Nat)(w:World)(hn:n<=6):
    Calls Tryz.prog 42 #[.int .i64 n] w λe w'=>∃gs mb v rs S,e=.returned (.pointer (some ⟨gs,0,none⟩))/\tL w' w.heap.size n (kJ n []) gs mb v rs S/\Below w.heap.size w w':=by
  have HSL:Hid ((unit n).length=n):=zh (mV n);have HSA:Hid (∀k (h:k<(unit n).length),(unit n)[k]=(k:Int)):=zh (λk h=>by simp[unit]);have HUD:=zh (qY hn (nM n))
  have hmk:=λW=>nB n n (aA _) (by omega) W
  rw[oX];generalize unit n=s at*;go_enter Tryz.func42,Tryz.ntmps42;go_wp2;clear hmk
  go_loopw [9] (λi wr=>∃k:Nat,k<=n/\i=.int .i64 k/\Blk wr w.heap.size 3 (kU (s.take k++List.replicate (n-k) 0))/\Below w.heap.size w wr) (λi _=>n-(intOf i).toNat)
  case atStart=>
   refine⟨0,aW _,rfl,?_,bal⟩;have e:kU (s.take 0++List.replicate (n-0) 0)=madeCells #[.int .i64 0] n:=(mD n).symm;rw[e];exact Blk.new w 3 _
  case round=>
   obtain⟨wo,rfl⟩:∃wo:World,wo=wr:=⟨_,rfl⟩;obtain⟨k,hk,rfl,B0,hbw⟩:=hrel
   by_cases hlt:k<n
   ·have hl2:(s.take k++List.replicate (n-k) 0).length=n:=by
     have:=HSL.o;rw[aC,aS,bU];omega
    have HST:Hid ((s.take k++List.replicate (n-k) 0).set k (k:Int)=s.take (k+1)++List.replicate (n-(k+1)) 0):=zh (qW _ k _ _ HSL.o hlt (HSA.o k (by rw[HSL.o];exact hlt)));have c0:=B0.cell k;have f0:=B0.frozen k;rw[nW _ (by rw[hl2];exact hlt)]at c0;generalize (s.take k++List.replicate (n-k) 0)[k]'(by rw[hl2];exact hlt)=old at c0;have HB0:=zh B0
    have q0:(0:Int)<=(k:Int):=by omega
    have q1:(k:Int)<(n:Int):=by omega
    have q3:((k:Int)).toNat=k:=by omega
    clear B0 hl2;go_wp2;go_roundw
    case rel=>
     refine⟨k+1,by omega,by go_num,?_,hJ hbw (aA _) _ _⟩;have:=HB0.o.set k (.int .i64 (k:Int));rw[nL,HST.o]at this;exact this
    case measure=>simp[intOf];omega
   obtain rfl:k=n:=by omega
   rw[mU HSL.o]at B0
   have dk:decide ((k:Int)<(k:Int))=false:=by simp
   have hmm:=@run_makeMap Tryz.prog
   --the slice of the one product,then the map
   have hal1:=dX (bM wo.heap.size wo) (aA _) (.cells #[.slice (some ⟨w.heap.size,0,none⟩) k k] 22);have hQ1:=Que.of_blk (base:=w.heap.size) (xs:=[jU k (w.heap.size,s)]) (Blk.new wo 22 #[.slice (some ⟨w.heap.size,0,none⟩) k k]) hbw.size (by simp[maxLen]);have hG1:=B0.keep hal1 B0.lt;have hb1:=dW hbw hal1;have hM:=mB.made (wo.alloc (.cells #[.slice (some ⟨w.heap.size,0,none⟩) k k] 22)) k;have hal2:=dX (bM (wo.alloc (.cells #[.slice (some ⟨w.heap.size,0,none⟩) k k] 22)).heap.size (wo.alloc (.cells #[.slice (some ⟨w.heap.size,0,none⟩) k k] 22))) (aA _) (.map #[] 0);have hQ2:=hQ1.below hal2;have hG2:=hG1.keep hal2 hG1.lt;have hb2:=dW hb1 hal2
   have HKY:Hid (∀V,Blk V w.heap.size 3 (kU s)->Calls Tryz.prog 75 #[.slice (some ⟨w.heap.size,0,none⟩) k k] V λe w'=>e=.returned (rZ s)/\Below V.heap.size V w'):=zh (λV h=>by
    have:=pB (some ⟨w.heap.size,0,none⟩) k s V (lO h HSL.o hn) (by have:=HSL.o;omega);rw[HSL.o]at this
    exact this)
   have hlow:=hb1.size
   have hmE:(wo.alloc (.cells #[.slice (some ⟨w.heap.size,0,none⟩) k k] 22)).heap.size=wo.heap.size+1:=by simp
   rw[hmE]at hM hlow;clear hal1 hal2 hQ1 hG1 hb1 hmE
   go_wp2_with (go_at_call 75;refine(HKY.o _ hG2).mono ?_;rintro e w3 ⟨rfl,hb3⟩
                have hM3:=hM.below hb3 hM.lt;have hm3:=hM3.mapB
                obtain⟨w4,hrun,hS4,hg4⟩:=hM3.put hn (by omega) HUD.o (by simp))
   have hb4:=zB (dW hb2 hb3) hm3 hg4 hlow;have hG4:=(hG2.keep hb3 hG2.lt).turn hm3 hg4;have hQ4:=Gp.Que.turn (hQ2.below hb3) hm3 hg4;go_ret;have hal5:=dX (bM w4.heap.size w4) (aA _) (.cells #[.slice (some ⟨wo.heap.size,0,none⟩) 1 1,.map (some (wo.heap.size+1))] 95)
   exact⟨w4.heap.size,wo.heap.size+1,.slice (some ⟨wo.heap.size,0,none⟩) 1 1,[(w.heap.size,s)],[s],rfl,
     ⟨Blk.new _ _ _,hQ4.below hal5,λr hr=>by rw[aN.1 hr];exact hG4.keep hal5 hG4.lt,rfl,hS4.below hal5 hS4.lt,λx=>Iff.rfl,aA _,hb4.size,hlow⟩,hb4.alloc hb4.size _⟩
end Go.Proofs.Tg.Bk
namespace Go.Proofs.Tg.Bk
open Go.RowKit Go.Gr Go.Sp Go.Ev Go.Pm
open Go.Proofs.Tg.Gp (lQ jU lF lO kS zD pZ)
theorem aLB {w:World}{mb cnt n:Nat}{S:List (List Int)}{p:Addr}(h:mB w mb cnt n S)(hne:mb≠p.block)(u:Value):mB (w.setCell p u) mb cnt n S:=by
 obtain⟨D,⟨es,clock,hh,r⟩,h2⟩:=h
 exact⟨D,⟨es,clock,(eZ _ _ _ _ hne).trans hh,r⟩,h2⟩
theorem aPe {w:World}{mb g:Nat}{t:TypeId}{cs:Array Value}(hm:qU w mb)(hB:Blk w g t cs):mb≠g:=λe=>by
 obtain⟨es,ck,hh⟩:=hm
 rw[e]at hh
 unfold Blk at hB
 rw[hB]at hh
 cases hh
theorem aNq {w:World}{mb base:Nat}{e:TypeId}{v:Value}{xs:List Value}(hm:qU w mb)(hq:Que w base e v xs):some mb≠v.ownBlock:=λe1=>by
 obtain⟨es,ck,hh⟩:=hm
 obtain⟨g,o,cap,cur,rfl,_,h3,_⟩:=hq
 injection e1 with e1
 subst e1
 rw[h3]at hh
 cases hh
theorem aCP {w:World}{g g':Nat}{t t':TypeId}{a b:Array Value}(h:Blk w g t a)(h':Blk w g' t' b)(hne:t≠t'):g≠g':=λe=>by
 rw[e]at h
 unfold Blk at h h'
 rw[h']at h
 injection h with h
 injection h with _ h2
 exact hne h2.symm
structure aIl (w w':World)(gs mb:Nat)(v:Value):Prop where
  size:w.heap.size<=w'.heap.size
  same:∀k,k<w.heap.size->k≠gs->k≠mb->some k≠v.ownBlock->w'.heap[k]?=w.heap[k]?
theorem aIl.of_below {w w':World}(h:Below w.heap.size w w')(gs mb:Nat)(v:Value):aIl w w' gs mb v:=⟨h.size,λk hk _ _ _=>h.block k hk⟩
structure aPf (w:World)(base n:Nat)(P:List (List Int))(a:List Int)(gs mb:Nat)(v0:Value)(ad0:Addr)(rs0:List lQ)(wr:World)(j:Nat)(v:Value)(rs:List lQ)(S:List (List Int)):Prop where
  at':tL wr base n (P++(P.take j).map λp=>cmp p a) gs mb v rs S
  below:Below base w wr
  foot:aIl w wr gs mb v0
  loc:v.ownBlock=v0.ownBlock∨∃g,v.ownBlock=some g/\w.heap.size<=g
  old:Sl wr (some ad0) rs0.length 1 (rs0.map (jU n))
  addr:(∃m c,v=.slice (some ad0) m c)∨∃g,v.ownBlock=some g/\w.heap.size<=g
  olds:lF wr rs0
def tV (base n gs mb:Nat)(a:List Int)(l:List (List Int))(v:Value)(rs:List lQ)(S:List (List Int))(q:Bool)(w:World)(e:Ending)(w':World):Prop:=e=.returned (.bool q)/\Below base w w'/\aIl w w' gs mb v/\
  (q=false->tL w' base n (kJ n l) gs mb v rs S)/\(q=true->∃v' rs' S',tL w' base n (kJ n (l++[a])) gs mb v' rs' S'/\(v'.ownBlock=v.ownBlock∨∃g,v'.ownBlock=some g/\w.heap.size<=g))
theorem tV.no {base n gs mb:Nat}{a:List Int}{l:List (List Int)}{v:Value}{rs:List lQ}{S:List (List Int)}{w w':World}(h:tL w base n (kJ n l) gs mb v rs S)(hb:Below w.heap.size w w')(hs:base<=w.heap.size):tV base n gs mb a l v rs S false w (.returned (.bool false)) w':=
  ⟨rfl,hb.mono hs,aIl.of_below hb _ _ _,λ_=>h.keep hb,λh=>absurd h (by simp)⟩
theorem aNr (A:Option Addr)(c base n gs mb:Nat)(a:List Int)(l:List (List Int))(v:Value)(rs:List lQ)(S:List (List Int))(q:Bool)(w:World)(hA:kP w A a)(ha:Perm n a)(hn:n<=6)(hS:Sub n l)(hl:l.length<=6)(hat:tL w base n (kJ n l) gs mb v rs S)(hb:base<=w.heap.size)
    (hq:q=true↔a∉kJ n l/\∀b∈l,cmp a b=cmp b a) (hnd:q=true->(kJ n (l++[a])).Nodup) (hAb:0<n->∀ad,A=some ad->ad.block<base):
    Calls Tryz.prog 43 #[.pointer (some ⟨gs,0,none⟩),.slice A n c] w (tV base n gs mb a l v rs S q w):=by
  have HQ:=zh hq;have HAT:=zh hat;have HA:=zh hA;have HPA:=zh ha;have HSU:=zh hS;have HAB:=zh hAb;have HND:=zh hnd;have HPL:Hid ((kJ n l).length=2^l.length):=zh (qA n l);have HPA2:Hid (∀t (h:t<l.length),(kJ n l)[2^t]?=some l[t]):=zh (aIY n l hS.perm);have HPP:=zh (oY hS.perm);have HAD:=zh (qY hn ha);obtain⟨j0,hj0,hjz0,hjz1,hjz2⟩:=info_parts kS
  have hpw:(kJ n l).length<=64:=by
   rw[HPL.o];have:2^l.length<=2^6:=aP (by omega) hl;exact this
  have hgsl:=hat.box.lt;have hmbl:=hat.set.lt
  have HKY:Hid (∀V,Below w.heap.size w V->Calls Tryz.prog 75 #[.slice A n c] V λe w'=>e=.returned (rZ a)/\Below V.heap.size V w'):=zh (λV h=>by
   have:=pB A c a V (hA.keep h) (by rw[ha.1];exact hn);rw[ha.1]at this
   exact this)
  obtain⟨od,cap,hv,hSl0,hod,hspot⟩:=hat.que.sl;rw[aI]at hv;subst hv;have HSL0:=zh hSl0
  have hcapl:rs.length<=cap:=by
   obtain⟨g',o',cap',cur,e1,_,_,e4,_⟩:=hat.que
   injection e1 with _ _ e5
   rw[e5];simpa using e4
  have hrsE:=bK List.length hat.eq;rw[aI]at hrsE;have HRE:=zh hrsE;have HRW:=zh hat.rows;have HEQ:=zh hat.eq;have HMEM:=zh hat.mem
  have hrsl:rs.length<=64:=by omega
  clear hSl0 hrsE;obtain⟨x0,x1,f0,f1⟩:=hat.box.two;obtain⟨qk,hqk⟩:=eqx (decide (a∈S):Bool);have hbe:Below w.heap.size w w.drew:=brf.drew;have hset:=hat.set;clear hq hat hA ha hS hAb hnd;go_enter Tryz.func43,Tryz.ntmps43;go_upto_region 1 with(fail)
  go_region_held3 (λw'=>w'.cell? ⟨gs,1,none⟩=some (.map (some mb)))
    (first|exact gL hbe x1)
    (first
      |(go_at_call 75;with_reducible refine bE (HKY.o _ (by assumption)) ?_;rintro e w2 ⟨rfl,hb2⟩
        have hbe:=dW hbe hb2
        have hlook:=(hset.below hbe hmbl).look HAD.o hqk))
  all_goals
    clear HKY hb2 hset
    cases qk with
    |true=>
     obtain rfl:q=false:=cV (λh=>(HQ.o.1 h).1 ((HMEM.o a).1 (dQ hqk)));clear hqk;go_wp2;go_ret;exact tV.no HAT.o hbe hb
    |false=>
     have HNI:Hid (a∉kJ n l):=zh (λh=>iA hqk ((HMEM.o a).2 h));clear hqk hlook;go_wp2
     go_loopw [5] (λs5 wr=>∃(t N:Nat),s5=.int .i64 N/\Hid (N=2^t)/\t<=l.length/\N<=64/\Hid (∀j (h:j<l.length),j<t->cmp a l[j]=cmp l[j] a)/\Below w.heap.size w wr) (λs5 _=>65-(intOf s5).toNat)
     case atStart=>exact⟨0,1,rfl,zh rfl,aW _,by omega,zh (λj _ h=>absurd h (by omega)),hbe⟩
     case round=>
      clear hbe;obtain⟨wo,rfl⟩:∃wo:World,wo=wr:=⟨_,rfl⟩;obtain⟨t,N,rfl,HN,ht,hN64,HC,hbo⟩:=hrel;have y0:=gL hbo x0
      by_cases htl:t<l.length
      ·have hNl:N<rs.length:=by
        rw[HRE.o,HPL.o,HN.o];exact Nat.pow_lt_pow_right (by omega) htl
       have q0:(0:Int)<=(N:Int):=by omega
       have q1:(N:Int)<(rs.length:Int):=by omega
       have q3:((N:Int)).toNat=N:=by omega
       obtain⟨od',hod',z2'⟩:=Sl.at1 (HSL0.o.keep hbo) (show N<(rs.map (jU n)).length by simpa using hNl)
       injection hod' with hod'
       subst hod'
       have z2:wo.cell? (od.add N)=some (.slice (some ⟨(rs[N]).1,0,none⟩) n n):=by simpa[jU]using z2'
       clear z2'
       have hr2:rs[N].2=l[t]:=by
        have h1:(rs.map Prod.snd)[N]?=some l[t]:=by rw[HEQ.o,HN.o];exact HPA2.o t htl
        rw[cK,aF hNl]at h1;simpa using h1
       have hrb:=(HRW.o rs[N] (aB _)).keep hbo (HRW.o rs[N] (aB _)).lt;rw[hr2]at hrb;have hpt:=HSU.o.perm l[t] (aB _);obtain⟨qc,hqc⟩:=eqx (decide (cmp a l[t]=cmp l[t] a):Bool);have HCM:=zh (zD A (some ⟨(rs[N]).1,0,none⟩) c n n a l[t] qc wo (HA.o.keep hbo) (lO hrb hpt.1 hn) HPA.o hpt hn hqc);have HQC:=zh hqc;clear hr2 hrb hpt hqc;generalize rs[N].1=gN at*
       cases qc with
       |false=>
        obtain rfl:q=false:=cV (λh=>iA HQC.o ((HQ.o.1 h).2 _ (aB _)))
        go_wp2_with (go_at_call 76;refine HCM.o.mono ?_;rintro e w4 ⟨rfl,hb4⟩)
        go_ret;exact tV.no HAT.o (dW hbo hb4) hb
       |true=>
        have HC2:Hid (∀j (h:j<l.length),j<t+1->cmp a l[j]=cmp l[j] a):=zh (λj h hj=>by
         by_cases he:j=t
         ·subst he;exact dQ HQC.o
         exact HC.o j h (by omega))
        have HN2:Hid (2*N=2^(t+1)):=zh (by rw[HN.o,bS];omega)
        have h2N:2*N<=64:=by
         rw[HN2.o];have:2^(t+1)<=2^6:=aP (by omega) (by omega);exact this
        have hN1:1<=N:=by rw[HN.o];exact eK (by omega)
        go_upto_region 5 with(go_at_call 76;refine HCM.o.mono ?_;rintro e w4 ⟨rfl,hb4⟩)
        clear HQC;go_wp2;go_roundw
        case rel=>exact⟨t+1,2*N,by go_num,HN2,by omega,h2N,HC2,dW hbo hb4⟩
        case measure=>simp[intOf];omega
      obtain rfl:t=l.length:=by omega
      obtain rfl:q=true:=HQ.o.2 ⟨HNI.o,λb hb=>by
       obtain⟨j,hj,rfl⟩:=bI hb
       exact HC.o j hj hj⟩
      have HCP:Hid (∀p∈kJ n l,cmp a p=cmp p a):=zh (xT HSU.o.perm HPA.o (λb hb=>(HQ.o.1 rfl).2 b hb))
      have HX:Hid (kJ n (l++[a])=kJ n l++(kJ n l).map λp=>cmp p a):=zh (by
       rw[nC]
       congr 1
       exact dK λp hp=>HCP.o p hp)
      have hxn:(kJ n l++(kJ n l).map λp=>cmp p a).Nodup:=by rw[<-HX.o];exact HND.o rfl
      have hNr:N=rs.length:=by rw[HRE.o,HPL.o,HN.o]
      have d1:decide ((N:Int)<(rs.length:Int))=false:=dF (by omega);have d2:decide (N<rs.length)=false:=dF (by omega)
      have hr1:1<=rs.length:=by
       rw[HRE.o,HPL.o];exact eK (by omega)
      have hrf:(rs.length=0)=False:=bX (by omega);clear HC HCP HN hNr HQ HND HNI;obtain⟨P,hPE⟩:=eqx (kJ n l);rw[hPE]at hxn
      have HNEW:Hid (∀j (h:j<P.length),cmp P[j] a∉P++(P.take j).map λp=>cmp p a):=zh (λj h hm=>by
       have h1:(P++(P.take (j+1)).map λp=>cmp p a).Nodup:=List.Nodup.sublist (List.Sublist.append_left (List.Sublist.map _ (List.take_sublist _ _)) _) hxn;rw[aD h,bH,<-cJ]at h1
       exact(eL.1 h1).2.2 _ hm _ (by simp) rfl)
      have HPP2:Hid (∀p∈P,Perm n p):=zh (by rw[<-hPE];exact HPP.o);have HX2:Hid (kJ n (l++[a])=P++P.map λp=>cmp p a):=zh (by rw[HX.o,hPE]);have HRE2:Hid (rs.length=P.length):=zh (by rw[HRE.o,hPE]);have HEQ2:Hid (rs.map Prod.snd=P):=zh (by rw[HEQ.o,hPE]);have HAT2:Hid (tL w base n P gs mb (.slice (some od) rs.length cap) rs S):=zh (by rw[<-hPE];exact HAT.o);have hbb:=hbo.mono hb;have hbo2:=hbo;clear hxn hPE HX HPP HRE HEQ HAT HPL HPA2 HSU HMEM hbo;go_upto_region 8 with(fail)
      go_quiet (fail)
      have hbq:Below w.heap.size w (wo.drewN nq):=dW hbo2 (jX brf _);have y0:=gL (jX (bM wo.heap.size wo) nq) y0;generalize wo.drewN nq=wd at*;clear hbo2 hbb
      have H0:Hid (aPf w base n P a gs mb (.slice (some od) rs.length cap) od rs wd 0 (.slice (some od) rs.length cap) rs S):=zh
        ⟨by simpa using HAT2.o.keep hbq,hbq.mono hb,aIl.of_below hbq _ _ _,.inl rfl,(by have:=HSL0.o.keep hbq;rwa [aI]at this),.inl ⟨_,_,rfl⟩,HRW.o.keep hbq⟩
      clear y0 hbq d1 d2;go_wp2
      go_loopw [51] (λs51 wr=>∃(j:Nat) (v2:Value) (rs2:List lQ) (S2:List (List Int)),s51=.int .i64 j/\j<=rs.length/\Hid (aPf w base n P a gs mb (.slice (some od) rs.length cap) od rs wr j v2 rs2 S2)) (λs51 _=>rs.length-(intOf s51).toNat)
      case atStart=>exact⟨0,_,rs,S,rfl,aW _,H0⟩
      case round=>
       clear H0;obtain⟨wi,rfl⟩:∃wi:World,wi=wr:=⟨_,rfl⟩;obtain⟨j,v2,rs2,S2,rfl,hj,HST⟩:=hrel
       by_cases hjl:j<rs.length
       ·have hjP:j<P.length:=by rw[<-HRE2.o];exact hjl
        have hbi:=HST.o.below
        have q0:(0:Int)<=(j:Int):=by omega
        have q1:(j:Int)<(rs.length:Int):=by omega
        have q3:((j:Int)).toNat=j:=by omega
        obtain⟨od',hod',z2'⟩:=Sl.at1 (xs:=rs.map (jU n)) (by simpa using HST.o.old) (show j<(rs.map (jU n)).length by simpa using hjl)
        injection hod' with hod'
        subst hod'
        have z2:wi.cell? (od.add j)=some (.slice (some ⟨(rs[j]).1,0,none⟩) n n):=by simpa[jU]using z2'
        clear z2'
        have hr2:rs[j].2=P[j]:=by
         have h1:(rs.map Prod.snd)[j]?=some P[j]:=by rw[HEQ2.o];exact aF hjP
         rw[cK,aF hjl]at h1;simpa using h1
        have hrb:=HST.o.olds rs[j] (aB _);rw[hr2]at hrb;have hpj:=HPP2.o P[j] (aB _);have hbs:base<=wi.heap.size:=aR hb hbi.size
        have hAi:kP wi A a:=by
         refine⟨HA.o.len,λhp=>?_⟩;obtain⟨ad,e1,e2,e3⟩:=HA.o.lies hp;exact⟨ad,e1,aH (HAB.o (by have:=HPA.o.1;omega) ad e1) hbs,λk u hu=>(hbi.cell (by rw[kK];exact HAB.o (by have:=HPA.o.1;omega) ad e1)).trans (e3 k u hu)⟩
        have HCO:=zh (pZ (some ⟨(rs[j]).1,0,none⟩) A n c n P[j] a wi (lO hrb hpj.1 hn) hAi hpj HPA.o hn);have HZL:Hid ((cmp P[j] a).length=n):=zh (mE hpj HPA.o).1;have HZD:=zh (qY hn (mE hpj HPA.o));have HZN:=zh (HNEW.o j hjP);have HZT:Hid ((P.take (j+1)).map (λp=>cmp p a)=(P.take j).map (λp=>cmp p a)++[cmp P[j] a]):=zh (by rw[aD hjP,bH];rfl)
        have HKZ:Hid (∀V,Blk V wi.heap.size 3 (kU (cmp P[j] a))->Calls Tryz.prog 75 #[.slice (some ⟨wi.heap.size,0,none⟩) n n] V λe w'=>e=.returned (rZ (cmp P[j] a))/\Below V.heap.size V w'):=zh (λV h=>by
         have:=pB (some ⟨wi.heap.size,0,none⟩) n (cmp P[j] a) V (lO h HZL.o hn) (by rw[HZL.o];exact hn);rw[HZL.o]at this
         exact this)
        obtain⟨od2,cap2,hv2,hSl2,hod2,_⟩:=HST.o.at'.que.sl;rw[aI]at hv2;subst hv2
        have hrs2:rs2.length<=200:=by
         have:=bK List.length HST.o.at'.eq;rw[aI,aC,aI,aS]at this;have:=HRE2.o;omega
        obtain⟨b0,b1,_,_⟩:=HST.o.at'.box.two;clear hr2 hrb hpj hAi hSl2;generalize cmp P[j] a=z at*;generalize rs[j].1=gj at*
        go_upto_region 13 with(first
          |(go_at_call 77;refine HCO.o.mono ?_;rintro e w4 ⟨rfl,hG4,hb4⟩
            have A4:=HST.o.at'.keep hb4;have b0':=gL hb4 b0
            obtain⟨b0,b1,g0,g1⟩:=A4.box.two)
          |(at_builtin
            have hal4:=dX (bM w4.heap.size w4) (aA _) (.cells #[.slice (some ⟨wi.heap.size,0,none⟩) n n] 22);have A5:=A4.keep hal4;have hG5:=hG4.keep hal4 hG4.lt;have hb5:=dW hb4 hal4;refine oQ _ rfl _ _ 27 rfl base 22 j0 (.slice none 0 0) 24 Tryz.underlying27 hj0 hjz0 hjz1 hjz2 rfl _ (rs2.map (jU n)) rfl A5.que ⟨w4.heap.size,0,none⟩ 1 (.slice (some ⟨wi.heap.size,0,none⟩) n n) rfl ((Blk.new w4 22 #[.slice (some ⟨wi.heap.size,0,none⟩) n n]).cell 0) (by simp[Value.oneCell']) (by simp[maxLen];omega) (by simp;omega) (aR hbs hb5.size) ?_;intro v8 w8 hQ8 hg8 hloc8 hkeep8;obtain⟨od8,cap8,hv8,_,_,_⟩:=hQ8.sl;subst hv8;have hne5:=A5.que.ne A5.box (by decide);have B8:=A5.box.grown hg8 hne5
            obtain⟨b0,b1,g0,g1⟩:=B8.two))
        obtain⟨V8,hV8⟩:=eqx (Value.slice (some od8) (rs2.length+1) cap8:Value)
        have hlV:(Value.slice (some od8) (rs2.map (jU n)++[Value.slice (some ⟨wi.heap.size,0,none⟩) n n]).length cap8)=V8:=by rw[<-hV8];simp
        rw[hlV]at hQ8 hloc8 hkeep8;have hgs8:some gs≠V8.ownBlock:=hQ8.ne B8 (by decide);have hm5:=A5.set.mapB;have hmg:=aPe hm5 A5.box;have hmq:=aNq hm5 A5.que;have R8:=(A5.rows.grown A5.que hg8).snoc (hG5.grown hg8 (A5.que.ne hG5 (by decide)));have S8:=A5.set.grown hg8 hmq;have OL8:=lF.grown (HST.o.olds.keep hb5) A5.que hg8
        have hst8:∀k u,(rs.map (jU n))[k]?=some u->w8.cell? (od.add k)=some u:=by
         intro k u hu
         have hkr:k<rs.length:=by
          have:=(aX.1 hu).1;simpa using this
         have hO5:=HST.o.old.keep hb5;obtain⟨od',e1,_,h3⟩:=hO5.lies (by omega)
         injection e1 with e1
         subst e1;have h4:=h3 k u hu
         rcases HST.o.addr with⟨m2,c2,e2⟩|⟨g2,e2,h2⟩
         ·injection e2 with e2
          injection e2 with e2
          subst e2
          have hle:rs.length<=rs2.length:=by
           have h1:=bK List.length HST.o.at'.eq;rw[aI,aC]at h1;have:=HRE2.o;omega
          rw[aLp hspot]at h4 ⊢;rw[(hkeep8 od2 _ _ rfl).2 (od2.off+k) (by simp;omega)];exact h4
         refine hg8.cell h4 (λe3=>?_);rw[kK]at e3;have e4:=e3.trans e2
         injection e4 with e4
         have:=(HSL0.o.lies (by simp;omega));obtain⟨od',e5,h5,_⟩:=this
         injection e5 with e5
         subst e5;omega
        obtain⟨w9,hw9⟩:=eqx (w8.setCell ⟨gs,0,none⟩ V8)
        have B9:Blk w9 gs 95 #[V8,.map (some mb)]:=by rw[<-hw9];simpa using B8.set 0 V8
        have Q9:Que w9 base 22 V8 (rs2.map (jU n)++[.slice (some ⟨wi.heap.size,0,none⟩) n n]):=by rw[<-hw9];exact hQ8.far hgs8 _
        have R9:lF w9 (rs2++[(wi.heap.size,z)]):=λr hr=>by rw[<-hw9];exact(R8 r hr).far (aCP (R8 r hr) B8 (by decide)) _
        have OL9:lF w9 rs:=λr hr=>by rw[<-hw9];exact(OL8 r hr).far (aCP (OL8 r hr) B8 (by decide)) _
        have S9:mB w9 mb S2.length n S2:=by rw[<-hw9];exact aLB S8 hmg _
        have hodg:gs≠od.block:=λe1=>by
         have:=HAT2.o.que.ne HAT2.o.box (by decide);exact this (by rw[e1];rfl)
        have O9:Sl w9 (some od) rs.length 1 (rs.map (jU n)):=by
         refine⟨by simp,λ_=>⟨od,rfl,?_,λk u hu=>?_⟩⟩
         ·have h1:=bQ _ _ (hst8 0 _ (aF (by simp;omega)));rw[kK]at h1;rw[<-hw9];simpa[World.setCell]using h1
         rw[<-hw9,bR _ _ _ _ (λe1=>hodg (by have:=bK Addr.block e1;rw[kK]at this;exact this))];exact hst8 k u hu
        have hb8:Below base w w8:=(hbi.trans (hb5.mono hbs)).grown hg8 (aR hb (aR hbi.size hb5.size)) (λq hq=>by
         obtain⟨_,e1,h1,_⟩:=A5.que.blk;have e2:=e1.symm.trans hq
         injection e2 with e2
         omega)
        have hb9:Below base w w9:=by rw[<-hw9];exact hJ hb8 HAT2.o.lows _ _
        have hF9:∀k,k<w.heap.size->k≠gs->k≠mb->some k≠(Value.slice (some od) rs.length cap).ownBlock->w9.heap[k]?=w.heap[k]?:=by
         intro k hk hkg hkm hkv
         have h1:w9.heap[k]?=w8.heap[k]?:=by rw[<-hw9];exact eZ _ _ _ _ hkg
         have hk5:k<wi.heap.size:=aH hk hbi.size
         have h2:w8.heap[k]?=_:=hg8.block k (aH hk5 hb5.size) (λe1=>by
          rcases HST.o.loc with e2|⟨g2,e2,h2⟩
          ·exact hkv (e1.trans e2)
          have e3:=e1.trans e2
          injection e3 with e3
          omega)
         rw[h1,h2,hb5.block k hk5];exact HST.o.foot.same k hk hkg hkm hkv
        have hsz9:w9.heap.size=w8.heap.size:=by rw[<-hw9];simp[World.setCell]
        have hLOC:V8.ownBlock=(Value.slice (some od) rs.length cap).ownBlock∨∃g,V8.ownBlock=some g/\w.heap.size<=g:=by
         rcases hloc8 with e1|e1
         ·rw[e1];exact HST.o.loc
         exact .inr ⟨_,e1,aR hbi.size hb5.size⟩
        have hADR:(∃m c,V8=.slice (some od) m c)∨∃g,V8.ownBlock=some g/\w.heap.size<=g:=by
         rcases(hkeep8 od2 _ _ rfl).1 with⟨m2,c2,e1⟩|e1
         ·rcases HST.o.addr with⟨m3,c3,e2⟩|⟨g2,e2,h2⟩
          ·injection e2 with e2
           injection e2 with e2
           subst e2;exact .inl ⟨m2,c2,e1⟩
          refine .inr ⟨g2,?_,h2⟩;rw[e1];exact e2
         exact .inr ⟨_,e1,aR hbi.size hb5.size⟩
        have HFIN:Hid (∀wx wy S3,Below w9.heap.size w9 wx->qU wx mb->mB wy mb S3.length n S3->(∀x,x∈S3↔x=z∨x∈S2)->S3.length<=S2.length+1->wx.grownBy wy (some mb)->aPf w base n P a gs mb (.slice (some od) rs.length cap) od rs wy (j+1) V8 (rs2++[(wi.heap.size,z)]) S3):=zh (λwx wy S3 hx hmx hS3 hmem hsl hg=>
         have hb10:=hb9.trans (hx.mono (by rw[hsz9];exact aR hbs (aR hb5.size hg8.size)));have hbF:=zB hb10 hmx hg HAT2.o.lowm
         ⟨⟨(B9.keep hx B9.lt).turn hmx hg,by rw[bH];exact Gp.Que.turn (Q9.below hx) hmx hg,(R9.keep hx).turn hmx hg,by rw[bH,HST.o.at'.eq,HZT.o,cJ];rfl,hS3,λx=>by
          rw[hmem,HST.o.at'.mem,HZT.o];simp only[aK,aN]
          constructor
          ·rintro(h|h|h)
           ·exact .inr (.inr h)
           ·exact .inl h
           exact .inr (.inl h)
          ·rintro(h|h|h)
           ·exact .inr (.inl h)
           ·exact .inr (.inr h)
           exact .inl h,(by have:=HST.o.at'.slen;rw[aC,dC];omega),HAT2.o.lows,HAT2.o.lowm⟩,hbF,⟨hbF.size,λk hk h1 h2 h3=>by
          have hk9:k<w9.heap.size:=aH hk hb9.size;rw[hg.block k (aH hk9 hx.size) (λe=>h2 (by injection e)),hx.block k hk9]
          exact hF9 k hk h1 h2 h3⟩,hLOC,(O9.keep hx).turn hmx hg,hADR,(OL9.keep hx).turn hmx hg⟩)
        have hZ9:=R9 (wi.heap.size,z) (by simp);have HKZ9:Hid (∀V,Below w9.heap.size w9 V->Calls Tryz.prog 75 #[.slice (some ⟨wi.heap.size,0,none⟩) n n] V λe w'=>e=.returned (rZ z)/\Below V.heap.size V w'):=zh (λV h=>HKZ.o V (hZ9.keep h hZ9.lt));have HZNS:Hid (z∉S2):=zh (λh=>HZN.o ((HST.o.at'.mem z).1 h))
        have hS2l:S2.length<=1000000000:=by
         have:=HST.o.at'.slen;omega
        clear HCO HKZ hst8 R8 S8 OL8 hb8 hF9 hLOC hADR O9 OL9 R9 Q9 hQ8 hloc8 hkeep8 hgs8 hm5 hmg hmq B8 g0 g1 b0' hb9 hodg hg8 A4 A5 hG4 hG5 hlV b0 b1 z2;rw[hV8,hw9];clear hw9 hV8;obtain⟨x9,y9,_,_⟩:=B9.two;have hbe:Below w9.heap.size w9 w9.drew:=brf.drew;have hmb9:=S9.lt
        go_region_held3 (λw'=>w'.cell? ⟨gs,1,none⟩=some (.map (some mb)))
          (first|exact r0|exact gL hbe y9)
          (first
            |(go_at_call 75;with_reducible refine bE (HKZ9.o _ (by assumption)) ?_;rintro e w10 ⟨rfl,hb10⟩
              have hbe:=dW hbe hb10;have hM10:=S9.below hbe hmb9;have hm10:=hM10.mapB;obtain⟨w11,hrun,hS11,hg11⟩:=hM10.put hn hS2l HZD.o HZNS.o
              have r0:=aCg hm10 hg11 (gL hbe y9)))
        all_goals
          go_wp2_with (fail);go_roundw
          case rel=>exact⟨j+1,V8,rs2++[(wi.heap.size,z)],z::S2,by go_num,by omega,zh (HFIN.o w10 w11 (z::S2) hbe hm10 hS11 (λx=>bA) (aA _) hg11)⟩
          case measure=>simp[intOf];omega
       obtain rfl:j=rs.length:=by omega
       have he:=HST.o
       have dk:decide ((rs.length:Int)<(rs.length:Int))=false:=by simp
       have hF:tL wi base n (P++P.map λp=>cmp p a) gs mb v2 rs2 S2:=by
        have:=HST.o.at'
        rwa [HRE2.o,eE]at this
       clear he;go_wp2;go_ret;exact⟨rfl,HST.o.below,HST.o.foot,λh=>absurd h (by simp),λ_=>⟨v2,rs2,S2,(by rw[HX2.o];exact hF),HST.o.loc⟩⟩
end Go.Proofs.Tg.Bk
