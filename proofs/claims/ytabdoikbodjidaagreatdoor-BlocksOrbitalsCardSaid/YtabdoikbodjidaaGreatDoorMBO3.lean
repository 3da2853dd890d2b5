/- Parts of the proof. -/
import Derived.Deep.DeepHandedRow
import Derived.Deep.Matrix
import Derived.Lib.AppendIntMem
import Derived.OpenShut
import Derived.Shelf.Strconv.Itoa4
import Derived.Test.YtabdoikbodjidaaGreatDoorCards
import Derived.Test.YtabdoikbodjidaaGreatDoorMBO2
import Derived.Test.YtabdoikbodjidaaGreatDoorTie
set_option maxHeartbeats 64000000
set_option maxRecDepth 100000
namespace Go.Proofs.Tg
open Go.RowKit Go.Gr Go.Qn
theorem aGx (b:Bool)(A:Option Addr)(c v:Nat)(w:World)(hA:kN w A (mg v))(hv:v<1000000000):
    Calls Tryz.prog 82 #[.agg #[.bool b,.slice A (mg v).length c]] w λe w'=>e=.returned (.string (bs (Lib.decDigits v)))/\Below w.heap.size w w':=by
  by_cases h0:v=0
  ·subst h0;rw[pK];exact aFl b A c w
  rw[aCH h0]at hA ⊢;exact aFm b A c v w hA hv h0
theorem aFn {m:Nat}(h1:m≠1):dl m=mg m:=by unfold dl;rw[aJ h1]
theorem aOP:dl 1=[]:=rfl
theorem pD (k:Nat):∀n,n<10^(k+1)->(Lib.decDigits n).length<=k+1:=by
 induction k with
 |zero=>
  intro n hn;rw[Lib.decDigits,jP (by simpa using hn)];simp
 |succ k ih=>
  intro n hn
  by_cases h:n<10
  ·rw[Lib.decDigits,jP h];simp
  rw[Lib.decDigits,dif_neg h,aC];have:=ih (n/10) (by rw[bS]at hn;omega);simp;omega
theorem vR (a b:List UInt8):bs (a++b)=bs a++bs b:=by
 rw[<-oR (bs a++bs b)]
 congr 1
theorem aDT (p q:Bool)(N D:Option Addr)(cn cd n m:Nat)(w:World)(hN:kN w N (mg n))(hD:kN w D (dl m))(hn:n<1000000000)(hm:m<1000000000)(hm0:m≠0):
    Calls Tryz.prog 51 #[.agg #[.bool p,.slice N (mg n).length cn,.bool q,.slice D (dl m).length cd]] w λe w'=>e=.returned (.string (bs (lN p n m)))/\Below w.heap.size w w':=by
  have H1:Hid (∀W,Below w.heap.size w W->Calls Tryz.prog 82 #[.agg #[.bool p,.slice N (mg n).length cn]] W λe w'=>e=.returned (.string (bs (Lib.decDigits n)))/\Below W.heap.size W w'):=zh (λW h=>aGx p N cn n W (hN.keep h) hn);obtain⟨nn,hnn⟩:=eqx ((mg n).length);rw[hnn]at H1 ⊢
  have HT:Hid (bs (lN p n m)=(if p=true then⟨#[45]⟩++bs (Lib.decDigits n)else bs (Lib.decDigits n))++(if m=1 then ByteArray.empty else⟨#[47]⟩++bs (Lib.decDigits m))):=zh (by
   unfold lN;rw[vR,vR]
   have e1:bs (if p=true then[45]else[])++(bs (Lib.decDigits n)++bs (if m=1 then[]else 47::Lib.decDigits m))=(if p=true then⟨#[45]⟩++bs (Lib.decDigits n)else bs (Lib.decDigits n))++bs (if m=1 then[]else 47::Lib.decDigits m):=by
    rw[<-vR,<-vR,<-cJ,vR]
    congr 1
    cases p with
    |true=>rw[aQ rfl,aQ rfl,vR];rfl
    |false=>simp
   rw[e1]
   congr 1
   by_cases h:m=1
   ·rw[aQ h,aQ h];rfl
   rw[aJ h,aJ h,show(47::Lib.decDigits m)=[47]++Lib.decDigits m from rfl,vR];rfl)
  have l1:(bs (Lib.decDigits n)).size<=9:=by rw[kA];exact pD 8 n hn
  have l2:(bs (Lib.decDigits m)).size<=9:=by rw[kA];exact pD 8 m hm
  obtain⟨SN,hSN⟩:=eqx (bs (Lib.decDigits n));obtain⟨SM,hSM⟩:=eqx (bs (Lib.decDigits m));obtain⟨ST,hST⟩:=eqx (bs (lN p n m));rw[hST]at HT ⊢;rw[hSN]at H1 HT l1;rw[hSM]at HT l2;have HSM:=zh hSM;clear hSN hSM hST;have BA:=Blk.new w 69 #[.bool p,.slice N nn cn,.bool q,.slice D (dl m).length cd];have hbA:Below w.heap.size w (w.alloc (.cells #[.bool p,.slice N nn cn,.bool q,.slice D (dl m).length cd] 69)):=bal;clear hnn
  by_cases h1:m=1
  ·subst h1;rw[aOP]at BA hbA ⊢;simp only[List.length_nil]at BA hbA ⊢;rw[aQ rfl]at HT
   cases p with
   |false=>
    go_enter Tryz.func51,Tryz.ntmps51
    go_wp2_with (go_at_call 82;refine(H1.o _ hbA).mono ?_;rintro e w2 ⟨rfl,hb2⟩
                 have B2:=BA.keep hb2 BA.lt
                 obtain⟨a0,a1,a2,a3,_,_,_,_⟩:=B2.four)
    go_ret;refine⟨?_,dW hbA hb2⟩;rw[HT.o,aJ (by simp)];simp
   |true=>
    go_enter Tryz.func51,Tryz.ntmps51
    go_wp2_with (go_at_call 82;refine(H1.o _ hbA).mono ?_;rintro e w2 ⟨rfl,hb2⟩
                 have B2:=BA.keep hb2 BA.lt
                 obtain⟨a0,a1,a2,a3,_,_,_,_⟩:=B2.four)
    go_ret;refine⟨?_,dW hbA hb2⟩;rw[HT.o,aQ trivial];simp
  have H2:Hid (∀W,Below w.heap.size w W->Calls Tryz.prog 82 #[.agg #[.bool q,.slice D 1 cd]] W λe w'=>e=.returned (.string SM)/\Below W.heap.size W w'):=zh (λW h=>by
   rw[aFn h1]at hD;have:=aGx q D cd m W (hD.keep h) hm;rw[aCH hm0,HSM.o]at this
   exact this)
  have hdl:(dl m).length=1:=by rw[aFn h1,aCH hm0];rfl
  rw[hdl]at BA hbA ⊢;rw[aJ h1]at HT;clear hdl hD
  cases p with
  |false=>
   go_enter Tryz.func51,Tryz.ntmps51;go_wp2_with (fail);refine(H1.o _ hbA).mono ?_;rintro e w2 ⟨rfl,hb2⟩;have B2:=BA.keep hb2 BA.lt;obtain⟨a0,a1,a2,a3,_,_,_,_⟩:=B2.four;have hbz:=dW hbA hb2;go_wp2_with (fail);refine(H2.o _ hbz).mono ?_;rintro e w3 ⟨rfl,hb3⟩;go_wp2_with (fail);go_ret;refine⟨?_,dW hbz hb3⟩;rw[HT.o,aJ (by simp)]
   rfl
  |true=>
   go_enter Tryz.func51,Tryz.ntmps51;go_wp2_with (fail);refine(H1.o _ hbA).mono ?_;rintro e w2 ⟨rfl,hb2⟩;have B2:=BA.keep hb2 BA.lt;obtain⟨a0,a1,a2,a3,_,_,_,_⟩:=B2.four;have hbz:=dW hbA hb2;go_wp2_with (fail);refine(H2.o _ hbz).mono ?_;rintro e w3 ⟨rfl,hb3⟩;go_wp2_with (fail);go_ret;refine⟨?_,dW hbz hb3⟩;rw[HT.o,aQ trivial]
   rfl
end Go.Proofs.Tg
namespace Go.Rq
open Go.Qn Go.Proofs.Tg
def qtx (q:Rat):ByteArray:=bs (lN (decide (q.num<0)) q.num.natAbs q.den)
theorem aBm (q:Rat):xA (decide (q.num<0)) q.num.natAbs q.den:=by
 refine⟨q.den_pos,q.reduced,λh=>dF ?_⟩
 omega
theorem sgq (q:Rat):(if decide (q.num<0)=true then -(q.num.natAbs:Int)else(q.num.natAbs:Int))=q.num:=by
 by_cases h:q.num<0
 ·rw[dT h,aQ rfl];omega
 rw[dF h,aJ (by decide)];omega
theorem aNk {p q:Rat}(h:qtx p=qtx q):p=q:=by
 have h1:lN (decide (p.num<0)) p.num.natAbs p.den=lN (decide (q.num<0)) q.num.natAbs q.den:=by
  have:=bK (λb=>b.data.toList) h;simpa[qtx,kG]using this
 have h2:=xB (aBm p)
 rw[h1,xB (aBm q)]at h2
 injection h2 with h2
 injection h2 with h3 h4
 injection h4 with h4 h5
 refine Rat.ext ?_ h5.symm
 rw[<-sgq p,<-sgq q,h3,h4]
def Sh (q:Rat):Prop:=q.num.natAbs<1000000000/\q.den<1000000000
theorem aLr {b:Bool}{n d:Nat}(hn:n<1000000000)(hd:d<1000000000):(lN b n d).length<=20:=by
 unfold lN
 have h1:=pD 8 n hn
 have h2:=pD 8 d hd
 by_cases h:d=1
 ·rw[aQ h]
  cases b<;>simp<;>omega
 rw[aJ h]
 cases b<;>simp<;>omega
theorem aEg {n:Nat}(hn:n<1000000000):(Lib.decDigits n).length<=9:=pD 8 n hn
def Bd (D K:Nat)(q:Rat):Prop:=∃k:Int,q=mkRat k D/\k.natAbs<=K
theorem Bd.num {D K:Nat}{q:Rat}(h:Bd D K q):q.num.natAbs<=K:=by
 obtain⟨k,rfl,hk⟩:=h
 rw[Rat.num_mkRat]
 split
 ·simp
 have h1:(k/((D.gcd k.natAbs:Nat):Int)).natAbs<=k.natAbs:=by
  rcases cC (D.gcd k.natAbs)with h0|h0
  ·rw[h0];simp
  rw[Int.natAbs_ediv_of_dvd (Int.ofNat_dvd_left.2 (jE _ _))];simp only[aU];exact cF _ _
 omega
theorem Bd.den {D K:Nat}{q:Rat}(h:Bd D K q)(hD:0<D):q.den∣D:=by
 obtain⟨k,rfl,hk⟩:=h
 rw[Rat.den_mkRat,aJ (by omega)]
 exact Nat.div_dvd_of_dvd (jJ _ _)
theorem Bd.denle {D K:Nat}{q:Rat}(h:Bd D K q)(hD:0<D):q.den<=D:=Nat.le_of_dvd hD (h.den hD)
theorem Bd.mono {D K K':Nat}{q:Rat}(h:Bd D K q)(hK:K<=K'):Bd D K' q:=by
 obtain⟨k,e,hk⟩:=h
 exact⟨k,e,by omega⟩
theorem Bd.zero (D:Nat):Bd D 0 0:=⟨0,by simp,by simp⟩
theorem Bd.self (q:Rat):Bd q.den q.num.natAbs q:=⟨q.num,(Rat.mkRat_self q).symm,aA _⟩
theorem Bd.add {D K L:Nat}{p q:Rat}(h:Bd D K p)(g:Bd D L q)(hD:0<D):Bd D (K+L) (p+q):=by
 obtain⟨k,rfl,hk⟩:=h
 obtain⟨l,rfl,hl⟩:=g
 refine⟨k+l,?_,by omega⟩
 rw[Rat.mkRat_add_mkRat _ _ (by omega) (by omega),<-Int.add_mul,Rat.mkRat_mul_right (by omega)]
theorem Bd.mul {D E K L:Nat}{p q:Rat}(h:Bd D K p)(g:Bd E L q):Bd (D*E) (K*L) (p*q):=by
 obtain⟨k,rfl,hk⟩:=h
 obtain⟨l,rfl,hl⟩:=g
 refine⟨k*l,Rat.mkRat_mul_mkRat _ _ _ _,?_⟩
 rw[fA]
 exact cE hk hl
theorem Bd.scale {D K:Nat}{q:Rat}(h:Bd D K q){E:Nat}(hE:0<E):Bd (D*E) (K*E) q:=by
 obtain⟨k,rfl,hk⟩:=h
 refine⟨k*E,(Rat.mkRat_mul_right (by omega)).symm,?_⟩
 rw[fA,aU]
 exact aY _ hk
theorem Bd.over {D E K:Nat}{q:Rat}(h:Bd D K q)(hDE:D∣E)(hE:0<E):Bd E (K*(E/D)) q:=by
 obtain⟨c,rfl⟩:=hDE
 have hD:0<D:=Nat.pos_of_mul_pos_right hE
 have hc:0<c:=Nat.pos_of_mul_pos_left hE
 rw[jK _ hD]
 exact h.scale hc
theorem aOY (z:Int)(m:Nat)(h:m≠0):(mkRat z m).num.natAbs=z.natAbs/Nat.gcd z.natAbs m/\(mkRat z m).den=m/Nat.gcd z.natAbs m/\((mkRat z m).num<0↔z<0):=by
 have hg:0<Nat.gcd z.natAbs m:=fI _ (by omega)
 rw[Rat.num_mkRat,Rat.den_mkRat,aJ h,aJ h,fN m]
 have hd:((Nat.gcd z.natAbs m:Nat):Int)∣z:=Int.ofNat_dvd_left.2 (jJ _ _)
 refine⟨by rw[Int.natAbs_ediv_of_dvd hd,aU],rfl,?_⟩
 obtain⟨c,hc⟩:=hd
 have hgI:(0:Int)<((Nat.gcd z.natAbs m:Nat):Int):=by omega
 generalize hG:((Nat.gcd z.natAbs m:Nat):Int)=G at*
 rw[hc,Int.mul_ediv_cancel_left _ (by omega)]
 constructor
 ·intro h1;exact Int.mul_neg_of_pos_of_neg hgI h1
 intro h1
 rcases Int.lt_or_le c 0 with h2|h2
 ·exact h2
 have:=Int.mul_nonneg (Int.le_of_lt hgI) h2;omega
end Go.Rq
section
namespace Go.Proofs.Tg.Fi
open Go.Shelf
def aAB:Go.Shelf.Ren:=⟨λ|173=>63|246=>106|283=>152|284=>153|285=>154|286=>155|129=>116|317=>182|318=>183|319=>184|320=>185|337=>201|338=>198|n=>n,λ|2=>2|3=>3|9=>9|4=>4|171=>201|0=>0|53=>170|37=>150|5=>5|173=>203|212=>234|51=>168|20=>20|213=>235|46=>127|232=>257|233=>253|n=>n,λ|17=>0|18=>4|19=>1|n=>n⟩
theorem xW:Go.Proofs.LaysM.n173 Tryz.prog aAB:={
  mixed:=by kernel_rfl
  f129:=Tryz.func116.trans (bK some (by kernel_rfl))
  f173:=Tryz.func63.trans (bK some (by kernel_rfl))
  f246:=Tryz.func106.trans (bK some (by kernel_rfl))
  f283:=Tryz.func152.trans (bK some (by kernel_rfl))
  f284:=Tryz.func153.trans (bK some (by kernel_rfl))
  f285:=Tryz.func154.trans (bK some (by kernel_rfl))
  f286:=Tryz.func155.trans (bK some (by kernel_rfl))
  f317:=Tryz.func182.trans (bK some (by kernel_rfl))
  f318:=Tryz.func183.trans (bK some (by kernel_rfl))
  f319:=Tryz.func184.trans (bK some (by kernel_rfl))
  f320:=Tryz.func185.trans (bK some (by kernel_rfl))
  f337:=Tryz.func201.trans (bK some (by kernel_rfl))
  f338:=Tryz.func198.trans (bK some (by kernel_rfl))
  t0:=Tryz.underlying0
  a0:=Tryz.isAgg0
  z0:=Tryz.sizeOf0
  v0:=Tryz.zeroValue0
  t2:=Tryz.underlying2
  a2:=Tryz.isAgg2
  z2:=Tryz.sizeOf2
  v2:=Tryz.zeroValue2
  t3:=Tryz.underlying3
  a3:=Tryz.isAgg3
  z3:=Tryz.sizeOf3
  v3:=Tryz.zeroValue3
  t4:=Tryz.underlying4
  a4:=Tryz.isAgg4
  z4:=Tryz.sizeOf4
  v4:=Tryz.zeroValue4
  t5:=Tryz.underlying5
  a5:=Tryz.isAgg5
  z5:=Tryz.sizeOf5
  v5:=Tryz.zeroValue5
  t9:=Tryz.underlying9
  a9:=Tryz.isAgg9
  z9:=Tryz.sizeOf9
  v9:=Tryz.zeroValue9
  t20:=Tryz.underlying20
  a20:=Tryz.isAgg20
  z20:=Tryz.sizeOf20
  v20:=Tryz.zeroValue20
  t37:=Tryz.underlying150
  a37:=Tryz.isAgg150
  z37:=Tryz.sizeOf150
  v37:=Tryz.zeroValue150
  t46:=Tryz.underlying127
  a46:=Tryz.isAgg127
  z46:=Tryz.sizeOf127
  v46:=Tryz.zeroValue127
  t51:=Tryz.underlying168
  a51:=Tryz.isAgg168
  z51:=Tryz.sizeOf168
  v51:=Tryz.zeroValue168
  t53:=Tryz.underlying170
  a53:=Tryz.isAgg170
  z53:=Tryz.sizeOf170
  v53:=Tryz.zeroValue170
  t171:=Tryz.underlying201
  a171:=Tryz.isAgg201
  z171:=Tryz.sizeOf201
  v171:=Tryz.zeroValue201
  t173:=Tryz.underlying203
  a173:=Tryz.isAgg203
  z173:=Tryz.sizeOf203
  v173:=Tryz.zeroValue203
  t212:=Tryz.underlying234
  a212:=Tryz.isAgg234
  z212:=Tryz.sizeOf234
  v212:=Tryz.zeroValue234
  t213:=Tryz.underlying235
  a213:=Tryz.isAgg235
  z213:=Tryz.sizeOf235
  t232:=Tryz.underlying257
  a232:=Tryz.isAgg257
  z232:=Tryz.sizeOf257
  v232:=Tryz.zeroValue257
  t233:=Tryz.underlying253
  a233:=Tryz.isAgg253
  z233:=Tryz.sizeOf253
  v233:=Tryz.zeroValue253
  g17:=by kernel_rfl
  g18:=by kernel_rfl
  g19:=by kernel_rfl
  i0:=by kernel_rfl
  i2:=by kernel_rfl
  i3:=by kernel_rfl
  i4:=by kernel_rfl
  i5:=by kernel_rfl
  i9:=by kernel_rfl
  i20:=by kernel_rfl
  i37:=by kernel_rfl
  i46:=by kernel_rfl
  i51:=by kernel_rfl
  i53:=by kernel_rfl
  i171:=by kernel_rfl
  i173:=by kernel_rfl
  i212:=by kernel_rfl
  i232:=by kernel_rfl
  i233:=by kernel_rfl
  m17:=by kernel_rfl
  m18:=by kernel_rfl
  m19:=by kernel_rfl}
open Go.RowKit Go.Rq Go.Qn
def PT (w:World):Prop:=Lib.TabIs Tryz.prog w "internal/strconv.uint64pow10" .u64 Lib.pow10Tab
theorem PT.keep {w w':World}(h:PT w)(hb:Below w.heap.size w w'):PT w':=Lib.tabBelow_of_tabIs h w' hb
theorem qI (n:Int)(h0:-9223372036854775808<=n)(h1:n<=9223372036854775807)(w:World)(ht:PT w):
    Calls Tryz.prog 63 #[.int .i64 n,.int .i64 10] w λe w'=>e=.returned (.string (bs (Lib.itoa n)))/\Below w.heap.size w w':=by
  refine bE (Any.strconv_FormatInt_10 xW n h0 h1 w ht) ?_;rintro e w' ⟨rfl,k,os,rfl⟩;exact⟨rfl,Lib.below_grow _ w (aA _) k os⟩
theorem xX (n:Int):Lib.itoa n=lN (decide (n<0)) n.natAbs 1:=by
 unfold Lib.itoa lN
 by_cases h:n<0
 ·rw[aQ h,dT h];simp
 rw[aJ h,dF h]
 have:n.toNat=n.natAbs:=by omega
 simp[this]
end Go.Proofs.Tg.Fi
end
namespace Go.Proofs.Tg.Bk
open Go.RowKit Go.Gr Go.Qn
def tx (x:Int):ByteArray:=if x=0 then⟨#[48]⟩else if x=1 then⟨#[49]⟩else⟨#[45,49]⟩
def PT (w:World):Prop:=Fi.PT w
theorem PT.keep {w w':World}(h:PT w)(hb:Below w.heap.size w w'):PT w':=Fi.PT.keep h hb
theorem aLM {x:Int}(hx:x=0∨x=1∨x=-1):bs (Lib.itoa x)=tx x:=by
 rcases hx with rfl|rfl|rfl<;>decide+kernel
theorem aLN (x:Int)(hx:x=0∨x=1∨x=-1)(w:World)(hT:PT w):Calls Tryz.prog 63 #[.int .i64 x,.int .i64 10] w λe w'=>e=.returned (.string (tx x))/\Below w.heap.size w w':=by
 rw[<-aLM hx]
 exact Fi.qI x (by omega) (by omega) w hT
theorem aCU (x:Int)(hx:x=0∨x=1∨x=-1)(w:World)(hT:PT w):Calls Tryz.prog 32 #[.int .i64 x] w λe w'=>e=.returned (.string (tx x))/\Below w.heap.size w w':=by
 have H:=zh (aLN x hx w hT)
 clear hx hT
 generalize tx x=s at*
 go_enter Tryz.func32,Tryz.ntmps32
 go_wp2_with (go_at_call 63;refine H.o.mono ?_;rintro e w1 ⟨rfl,hb1⟩)
 go_ret
 exact⟨rfl,hb1⟩
end Go.Proofs.Tg.Bk
section
namespace Go.Proofs.YtabdoikbodjidaaGreatDoor.Fr
open Go.ChangeShapes Go.WideShapes Go.ChangeAt Go.RowKit Go.Deep Go.Proofs.Tg Go.Gr
section
variable {H : Type} {enc : TypeId × Value -> H} {W W' : World}
theorem vC (hl:laidOutB Tryz.prog=true)(hb:Below W.heap.size W W'):∀(ts:List TypeId) (vs:List Value) (ds:List (DataW H)) (ps:List MemPlace),
    (∀t∈ts,Tryz.prog.readableRec t=true/\t<Tryz.prog.types.size)->DataW.TrodAll enc Tryz.prog W 0 (λ_=>true) true ts vs ds ps->(∀x∈ps,x.block<W.heap.size)->
    DataW.TrodAll enc Tryz.prog W' 0 (λb=>decide (b<W.heap.size)) true ts vs ds ps
  |[],[],[],ps,_,h,_=>h
  |t::ts,v::vs,d::ds,ps,ht,⟨p,q,h1,h2,e⟩,hp=>by
   subst e;exact⟨p,q,Below.trod hl (ht t (by simp)).1 (ht t (by simp)).2 h1 hb (λx hx=>hp x (by simp[hx])),vC hl hb ts vs ds q (λt h=>ht t (by simp[h])) h2 (λx hx=>hp x (by simp[hx])),rfl⟩
theorem aPV {a b:Bool}(h:a=true)(k:b=true):(a&&b)=true:=by rw[h,k];rfl
theorem uP:laidOutB Tryz.prog=true:=by kernel_rfl
theorem aJw {f:Func}{s:ChangeSpec}{args:Array Value}{ds gs:List (DataW H)}{before:List MemPlace}
    (hW:DataW.Whole enc Tryz.prog f.params.toList s.vars false W args.toList ds gs before) (hv:s.vars=[]) (hf:f.resultTypes=#[4])
    (hr:(s.fn H (ds++gs)).results=[.lit (.bool true)]) (ha:(s.fn H (ds++gs)).args=ds) (hg:(s.fn H (ds++gs)).vars=[])
    (hp:∀t∈f.params.toList,Tryz.prog.readableRec t=true/\t<Tryz.prog.types.size) (hb:Below W.heap.size W W'):
    s.post enc Tryz.prog f false true false false W args (.bool true) W':=by
  have hlt:=hW.lt;have hW2:=hW;obtain⟨p,q,hA,hV,hps,hz,hn⟩:=hW2;rw[hv]at hV;obtain⟨rfl,rfl⟩:=trodVars_none hV;rw[eA]at hps;subst hps;refine⟨ds,[],before,[],before,[],hW,?_,?_,?_,World.keptBut_mono (λx hx=>⟨hx,.inr (.inl hx)⟩) (hb.frame (·∈before)),λh=>by cases h⟩
  ·rw[hr,hf];exact trodAll_cons_mk (shut_bool Tryz.underlying4 _) trodAll_mk0
  ·rw[ha];exact vC uP hb _ _ _ _ hp hA hlt
  rw[hv,hg];rfl
theorem aPW:Tryz.prog.globalNamed "internal/strconv.uint64pow10" =some 0:=by kernel_rfl
theorem aJx:(Tryz.prog.globals[0]?).map (·.type)=some 234:=by kernel_rfl
theorem aJy:Tryz.prog.cellsOf 234=20:=by kernel_rfl
theorem aJz:Tryz.prog.cellsOf 170=1:=by kernel_rfl
theorem aJA:Tryz.prog.cellsOf 3=1:=by kernel_rfl
theorem aJB:(Rows.laid_internal_strconv_uint64pow10:DataW Unit)=Lib.tabData .u64 Lib.pow10Tab:=by kernel_rfl
def aHj:List Int:=Lib.deBruijn64tab.map λx:Nat=>(x:Int)
def aOl:List Int:=Lib.deBruijn32tab.map λx:Nat=>(x:Int)
theorem aOm (h:laidMetH Tryz.prog [("math/bits.deBruijn32tab",Rows.laid_math_bits_deBruijn32tab),("math/bits.deBruijn64tab",Rows.laid_math_bits_deBruijn64tab),("internal/strconv.uint64pow10",Rows.laid_internal_strconv_uint64pow10)] W):Bk.PT W:=by
 have h2:=h.filter (fun x=>x.1== "internal/strconv.uint64pow10")
 have e:([("math/bits.deBruijn32tab",Rows.laid_math_bits_deBruijn32tab),("math/bits.deBruijn64tab",Rows.laid_math_bits_deBruijn64tab),("internal/strconv.uint64pow10",Rows.laid_internal_strconv_uint64pow10)]:List (String×DataW Unit)).filter (fun x=>x.1== "internal/strconv.uint64pow10")=[("internal/strconv.uint64pow10",Rows.laid_internal_strconv_uint64pow10)]:=by rfl
 rw[e,aJB]at h2
 exact Lib.tabIs_of_head (rest:=[]) aPW aJx Tryz.underlying234 Tryz.underlying170 aJz aJy h2
theorem aBJ {v:Value}{d:DataW H}{ps:List MemPlace}{b0:Nat}(hval:Value.okWide Tryz.prog W .any b0 22 v)(h:DataW.Trod enc Tryz.prog W 0 (λ_=>true) true 22 v d ps):
    ∃A xs c,v=.slice A xs.length c/\kP W A xs:=by
  obtain⟨V,len,cap,rfl⟩:=okWide_slice Tryz.underlying22 hval;obtain⟨fuel,h⟩:=h
  have hcs:(Value.slice V len cap).cells.toList=[.slice V len cap]:=by simp[Value.cells]
  rw[hcs]at h
  rcases open_ints Tryz.underlying22 Tryz.underlying3 aJA h with⟨h1,_⟩|⟨a,l,c,zs,h1,_,hl,hm,hz,_,hx,_⟩
  ·injection h1 with h1
   injection h1 with e1 e2 e3
   subst e1 e2 e3;exact⟨none,[],0,rfl,Sl.nil _ _ _⟩
  injection h1 with h1
  injection h1 with e1 e2 e3
  subst e1 e2 e3;simp only[if_true]at hz
  have hlen:(zs.take len).length=len:=by rw[aS];omega
  refine⟨some a,zs.take len,cap,by rw[hlen],by simp,λhn=>⟨a,rfl,?_,?_⟩⟩
  ·rw[hlen]at hn;exact bQ W _ (hx 0 (by omega))
  intro j u hu
  have hj:j<len:=by
   have:=(aX.1 hu).1;rw[aI,hlen]at this;exact this
  have e:u=.int .i64 (zs.getD j 0):=by
   rw[cK,fU,aQ hj]at hu;simp only[aF (show j<zs.length by omega),gZ]at hu
   injection hu with hu
   rw[<-hu];simp[vi,show j<zs.length by omega]
  rw[e];exact hx j (by omega)
end
def aOn (k:IntKind)(zs:List Int):Obj->Obj
  |.cells _ t frozen=>.cells (zs.map λz=>Value.int k z).toArray t frozen
  |o=>o
noncomputable def yA (os:Os):World:=
  {World.holding Tryz.prog os ⟨#[],#[],[]⟩with heap:=(((World.holding Tryz.prog os ⟨#[],#[],[]⟩).heap.modify 0 (aOn .u64 Lib.pow10Tab)).modify 4 (aOn .u8 aOl)).modify 1 (aOn .u8 aHj)}
theorem own:ownKnob Tryz.prog.godebug=none:=by kernel_rfl
section
variable {W : World}
theorem aPt:Tryz.prog.globalNamed "math/bits.deBruijn64tab" =some 1:=by kernel_rfl
theorem aJC:(Tryz.prog.globals[(1:Nat)]?).map (·.type)=some 253:=by kernel_rfl
theorem aJD:Tryz.prog.cellsOf 253=64:=by kernel_rfl
theorem aMn:Tryz.prog.cellsOf 5=1:=by kernel_rfl
theorem aJE:(Rows.laid_math_bits_deBruijn64tab:DataW Unit)=Lib.tabData .u8 aHj:=by kernel_rfl
theorem aJF:aHj.length=64:=by decide+kernel
theorem aHk (j:Nat):aHj.getD j 0=((Lib.deBruijn64tab.getD j 0:Nat):Int):=by
 unfold aHj
 rw[aE,cK,aE]
 cases Lib.deBruijn64tab[j]?<;>rfl
theorem aOo (h:laidMetH Tryz.prog [("math/bits.deBruijn32tab",Rows.laid_math_bits_deBruijn32tab),("math/bits.deBruijn64tab",Rows.laid_math_bits_deBruijn64tab),("internal/strconv.uint64pow10",Rows.laid_internal_strconv_uint64pow10)] W):Tab W:=by
 have h2:=h.filter (fun x=>x.1== "math/bits.deBruijn64tab")
 have e:([("math/bits.deBruijn32tab",Rows.laid_math_bits_deBruijn32tab),("math/bits.deBruijn64tab",Rows.laid_math_bits_deBruijn64tab),("internal/strconv.uint64pow10",Rows.laid_internal_strconv_uint64pow10)]:List (String×DataW Unit)).filter (fun x=>x.1== "math/bits.deBruijn64tab")=[("math/bits.deBruijn64tab",Rows.laid_math_bits_deBruijn64tab)]:=by rfl
 rw[e,aJE]at h2
 have h1:Lib.TabIs Tryz.prog W "math/bits.deBruijn64tab" .u8 aHj:=Lib.tabIs_of_head (rest:=[]) aPt aJC Tryz.underlying253 Tryz.underlying5 aMn aJD h2
 have hc:∀j,j<64->W.cell? ⟨1,j,none⟩=some (.int .u8 (Lib.deBruijn64tab.getD j 0)):=λj hj=>by
  rw[h1.cell aPt j (by rw[aJF];exact hj),aHk]
 exact⟨bQ W _ (hc 0 (by decide)),hc⟩
end
section
variable {H : Type} {enc : TypeId × Value -> H} {W : World}
theorem aJG:Tryz.prog.cellsOf 9=1:=by kernel_rfl
theorem aJH {fuel:Nat}{v:Value}{x:DataW H×List MemPlace}(h:DataW.trod enc Tryz.prog W 0 (λ_=>true) true fuel 23 [v]=some x):
    ∃(A:Option Addr) (ss:List ByteArray) (c:Nat),v=.slice A ss.length c/\Sl W A ss.length 1 (ss.map Value.string)/\ss.length<=c/\ss.length<9223372036854775808:=by
  rcases open_strings Tryz.underlying23 Tryz.underlying9 aJG h with⟨h1,_⟩|⟨a,l,c,zs,h1,_,hl,hm,hz,_,hx,_⟩
  ·injection h1 with h1
   exact⟨none,[],0,h1,Sl.nil _ _ _,by simp,by simp⟩
  injection h1 with h1
  simp only[if_true]at hz
  have hlen:(zs.take l).length=l:=by rw[aS];omega
  refine⟨some a,zs.take l,c,by rw[hlen,h1],⟨by simp,λhn=>⟨a,rfl,?_,?_⟩⟩,by omega,by rw[hlen];simp only[maxLen]at hm;omega⟩
  ·rw[hlen]at hn;exact bQ W _ (hx 0 (by omega))
  intro j u hu
  have hj:j<l:=by
   have:=(aX.1 hu).1;rw[aI,hlen]at this;exact this
  have e:u=.string (zs.getD j ByteArray.empty):=by
   rw[cK,fU,aQ hj]at hu;simp only[aF (show j<zs.length by omega),gZ]at hu
   injection hu with hu
   rw[<-hu];simp[show j<zs.length by omega]
  rw[e];exact hx j (by omega)
theorem aEH {v:Value}{d:DataW H}{ps:List MemPlace}{b0:Nat}(hval:Value.okWide Tryz.prog W .any b0 23 v)(h:DataW.Trod enc Tryz.prog W 0 (λ_=>true) true 23 v d ps):
    ∃A ss c,v=.slice A (List.length ss) c/\Sl W A (List.length ss) 1 (ss.map Value.string):=by
  obtain⟨V,len,cap,rfl⟩:=okWide_slice Tryz.underlying23 hval;obtain⟨fuel,h⟩:=h
  have hcs:(Value.slice V len cap).cells.toList=[.slice V len cap]:=by simp[Value.cells]
  rw[hcs]at h;obtain⟨A,ss,c,e,hS,_,_⟩:=aJH h;exact⟨A,ss,c,e,hS⟩
end
end Go.Proofs.YtabdoikbodjidaaGreatDoor.Fr
end
namespace Go.Proofs.Tg
theorem tI {P:Program}{md:Region.Mode}{ops:Array Oper}{Q:Exit->Act->World->Prop}{S:World->Prop}{fuel:Nat}{listed:Array Bool}{a:Act}{w:World}{i:Nat}{o:Oper}(ho:ops[i]?=some o)
    (h:∀K':Act->World->Prop,Shut (∀a w,S w->(S w->wpAnyH P md ops Q S fuel (listed.setIfInBounds i true) a w)->K' a w)->if Region.wanted o (yielded ops a.tmps)=true then Oper.wp P o a w K' Q else K' (a.put o.dst undef) w):AllReadyH P md ops Q S fuel listed a w [i]:=fC ho h dM
theorem kW {P:Program}{md:Region.Mode}{ops:Array Oper}{Q:Exit->Act->World->Prop}{S:World->Prop}(i:Nat)(t:Tmp)(v:Value){oi:Oper}{fuel:Nat}{listed:Array Bool}{a:Act}{w:World}(hi:ops[i]?=some oi)(hd:oi.dst=some t)
    (hs:Region.noSelect ops=true) (hf:(Region.free md ops listed i&&(Region.ready md ops listed).contains i)=true)
    (hw:Region.wanted oi (yielded ops a.tmps)=true) (hS:S w) (hy:∀w,S w->(execOp a.eval oi).run P w=.ok (.value v) w) (h:wpAnyH P md ops Q S fuel (listed.setIfInBounds i true) (a.put (some t) v) w) (hQ:∀c a w,Q (.panic c) (a.put (some t) v) w->Q (.panic c) a w:=by exact λ_ _ _ h=>h):wpAnyH P md ops Q S (fuel+1) listed a w:=by
  have h2:=Bool.and_eq_true_iff.1 hf;rw[<-hd]at h hQ;exact wpAnyH_take hi hs h2.1 h2.2 hQ (.inl ⟨hw,hy⟩) hS h
theorem mO:(∀(a:Act) (t:Tmp) (v:Value),a.put (some t) v={a with tmps:=a.tmps.setIfInBounds t v})/\(∀(l:List Value) (i:Nat) (v:Value),l.toArray.setIfInBounds i v=(l.set i v).toArray)/\(∀(x v:Value) (l:List Value),(x::l).set 0 v=v::l)/\(∀(x v:Value) (l:List Value) (i:Nat),(x::l).set (i+1) v=x::l.set i v):=
  ⟨λ_ _ _=>rfl,λ_ _ _=>by simp,λ_ _ _=>rfl,λ_ _ _ _=>rfl⟩
structure OpN (i:Nat):Prop where
  t:True
theorem aNl {P:Program}{md:Region.Mode}{ops:Array Oper}{Q:Exit->Act->World->Prop}{S:World->Prop}{fuel:Nat}{listed:Array Bool}{a:Act}{w:World}{i:Nat}{o:Oper}{rs:List Nat}(ho:ops[i]?=some o)
    (h:∀K':Act->World->Prop,Shut (∀a w,S w->(S w->wpAnyH P md ops Q S fuel (listed.setIfInBounds i true) a w)->K' a w)->OpN i->if Region.wanted o (yielded ops a.tmps)=true then Oper.wp P o a w K' Q else K' (a.put o.dst undef) w) (hr:AllReadyH P md ops Q S fuel listed a w rs):AllReadyH P md ops Q S fuel listed a w (i::rs):=fC ho (λK hK=>h K hK ⟨trivial⟩) hr
theorem gLd {P:Program}{md:Region.Mode}{ops:Array Oper}{Q:Exit->Act->World->Prop}{S:World->Prop}(i:Nat)(t:Tmp)(v:Value){oi:Oper}{fuel:Nat}{listed:Array Bool}{a:Act}{w:World}(hi:ops[i]?=some oi)(hd:oi.dst=some t)(hS:S w)(h:wpAnyH P md ops Q S fuel (listed.setIfInBounds i true) (a.put (some t) v) w)
    (hs:Region.noSelect ops=true:=by kernel_rfl) (hf:(Region.free md ops listed i&&(Region.ready md ops listed).contains i)=true:=by decide+kernel) (hw:Region.wanted oi (yielded ops a.tmps)=true:=by rfl)
    (hy:∀w,S w->(execOp a.eval oi).run P w=.ok (.value v) w:=by(intro w hSw;(try dsimp only at hSw);go_simp;all_goals(try with_reducible rfl))) (hQ:∀c a w,Q (.panic c) (a.put (some t) v) w->Q (.panic c) a w:=by exact λ_ _ _ h=>h):wpAnyH P md ops Q S (fuel+1) listed a w:=kW i t v hi hd hs hf hw hS hy h hQ
theorem gCs {P:Program}{md:Region.Mode}{ops:Array Oper}{Q:Exit->Act->World->Prop}{S:World->Prop}{fuel:Nat}{listed:Array Bool}{a:Act}{w:World}{i:Nat}{o:Oper}{rs:List Nat}(ho:ops[i]?=some o)
    (h:∀K':Act->World->Prop,Shut (∀a w,S w->(S w->wpAnyH P md ops Q S fuel (listed.setIfInBounds i true) a w)->K' a w)->OpN i->if Region.wanted o (yielded ops a.tmps)=true then Oper.wp P o a w K' Q else K' (a.put o.dst undef) w) (hr:AllReadyH P md ops Q S fuel listed a w rs):AllReadyH P md ops Q S fuel listed a w (i::rs):=aNl ho h hr
theorem gRd {P:Program}{md:Region.Mode}{ops:Array Oper}{Q:Exit->Act->World->Prop}{S:World->Prop}(rs:List Nat){fuel:Nat}{listed:Array Bool}{a:Act}{w:World}(h:AllReadyH P md ops Q S fuel listed a w rs)(hr:Region.ready md ops listed=rs:=by decide+kernel)(hne:rs≠[]:=by simp):wpAnyH P md ops Q S (fuel+1) listed a w:=iO hr hne h
theorem gSk {P:Program}{md:Region.Mode}{ops:Array Oper}{Q:Exit->Act->World->Prop}{S:World->Prop}(i:Nat)(t:Tmp){oi:Oper}{fuel:Nat}{listed:Array Bool}{a:Act}{w:World}(hi:ops[i]?=some oi)(hd:oi.dst=some t)(hS:S w)(h:wpAnyH P md ops Q S fuel (listed.setIfInBounds i true) (a.put (some t) undef) w)
    (hs:Region.noSelect ops=true:=by kernel_rfl) (hf:Region.free md ops listed i=true:=by decide+kernel) (hr:(Region.ready md ops listed).contains i=true:=by decide+kernel) (hw:Region.wanted oi (yielded ops a.tmps)=false:=by rfl)
    (hQ:∀c a w,Q (.panic c) (a.put (some t) undef) w->Q (.panic c) a w:=by exact λ_ _ _ h=>h):wpAnyH P md ops Q S (fuel+1) listed a w:=by
  rw[<-hd]at h hQ;exact wpAnyH_take hi hs hf hr hQ (.inr ⟨hw,rfl⟩) hS h
end Go.Proofs.Tg
namespace Go.Gr
def lI:List Int->List Int->Int
  |[],[]=>0
  |[],_::_=>-1
  |_::_,[]=>1
  |a::l,b::m=>if a<b then -1 else if b<a then 1 else lI l m
theorem yD:∀x y,lI x y<0->¬lI y x<0
  |[],[],h=>by simp[lI]at h
  |[],_::_,_=>by simp[lI]
  |_::_,[],h=>by simp[lI]at h
  |a::l,b::m,h=>by
   unfold lI at h ⊢
   by_cases h1:a<b
   ·rw[aJ (by omega),aQ h1];omega
   rw[aJ h1]at h
   by_cases h2:b<a
   ·rw[aQ h2]at h;omega
   rw[aJ h2]at h;rw[aJ h2,aJ h1];exact yD l m h
theorem aAD:∀x y z,¬lI y x<0->¬lI z y<0->¬lI z x<0
  |[],_,[],_,_=>by simp[lI]
  |[],_,_::_,_,_=>by simp[lI]
  |a::l,[],z,h,_=>by simp[lI]at h
  |a::l,b::m,[],_,h=>by simp[lI]at h
  |a::l,b::m,c::n,h1,h2=>by
   unfold lI at h1 h2 ⊢
   by_cases p1:b<a
   ·rw[aQ p1]at h1;omega
   rw[aJ p1]at h1
   by_cases q1:c<b
   ·rw[aQ q1]at h2;omega
   rw[aJ q1]at h2;rw[aJ (by omega)]
   by_cases r1:a<c
   ·rw[aQ r1];omega
   rw[aJ r1];rw[aJ (by omega)]at h1 h2;exact aAD l m n h1 h2
end Go.Gr
namespace Go.Pm
def Perm (n:Nat)(a:List Int):Prop:=a.length=n/\(∀x∈a,0<=x/\x<n)/\a.Nodup
instance (n:Nat)(a:List Int):Decidable (Perm n a):=inferInstanceAs (Decidable (_/\_/\_))
def unit (n:Nat):List Int:=(List.range n).map λi:Nat=>(i:Int)
def cmp (a b:List Int):List Int:=b.map λx=>a.getD x.toNat 0
theorem mV (n:Nat):(unit n).length=n:=by simp[unit]
theorem oE (a b:List Int):(cmp a b).length=b.length:=by simp[cmp]
theorem aAq {n i:Nat}(h:i<n):(unit n).getD i 0=(i:Int):=by simp[unit,h]
theorem nM (n:Nat):Perm n (unit n):=by
 refine⟨mV n,λx hx=>?_,?_⟩
 ·obtain⟨i,hi,rfl⟩:=aM.1 hx
  have:=bD.1 hi;exact⟨Int.natCast_nonneg _,by exact_mod_cast this⟩
 refine List.Pairwise.map _ (λa b (h:a<b)=>?_) (List.pairwise_lt_range)
 intro e
 have:a=b:=by exact_mod_cast e
 omega
theorem oL (a b:List Int){i:Nat}(h:i<b.length):(cmp a b).getD i 0=a.getD (b.getD i 0).toNat 0:=by simp[cmp,h]
theorem kM {n:Nat}{a:List Int}(h:Perm n a){i:Nat}(hi:i<n):0<=a.getD i 0/\a.getD i 0<n:=by
 have hl:i<a.length:=by rw[h.1];exact hi
 rw[show a.getD i 0=a[i] by simp[hl]]
 exact h.2.1 _ (aB _)
theorem vZ {n:Nat}{a:List Int}(h:Perm n a){i j:Nat}(hi:i<n)(hj:j<n)(he:a.getD i 0=a.getD j 0):i=j:=by
 have h1:i<a.length:=by rw[h.1];exact hi
 have h2:j<a.length:=by rw[h.1];exact hj
 rw[show a.getD i 0=a[i] by simp[h1],show a.getD j 0=a[j] by simp[h2]]at he
 apply cW
 intro hne
 rcases Nat.lt_or_gt_of_ne hne with hlt|hlt
 ·exact bO.1 h.2.2 i j h1 h2 hlt he
 exact bO.1 h.2.2 j i h2 h1 hlt he.symm
theorem pC {a b:List Int}(hl:a.length=b.length)(h:∀i,i<a.length->a.getD i 0=b.getD i 0):a=b:=by
 refine dJ hl λi h1 h2=>?_
 have:=h i h1
 simpa[h1,h2]using this
theorem mE {n:Nat}{a b:List Int}(ha:Perm n a)(hb:Perm n b):Perm n (cmp a b):=by
 refine⟨by rw[oE,hb.1],λx hx=>?_,?_⟩
 ·obtain⟨y,hy,rfl⟩:=aM.1 hx
  have:=hb.2.1 y hy;exact kM ha (by omega)
 refine dU.2 (hb.2.2.imp_of_mem λ{x y} hx hy hne he=>?_)
 have h1:=hb.2.1 x hx;have h2:=hb.2.1 y hy;have:=vZ ha (by omega) (by omega) he;omega
theorem oM {n:Nat}{b:List Int}(hb:Perm n b):cmp (unit n) b=b:=by
 refine pC (by rw[oE]) λi hi=>?_
 rw[oE,hb.1]at hi
 rw[oL _ _ (by rw[hb.1];exact hi)]
 have:=kM hb hi
 rw[aAq (by omega)]
 omega
theorem oB {n:Nat}{a:List Int}(ha:a.length=n):cmp a (unit n)=a:=by
 refine pC (by rw[oE,mV,ha]) λi hi=>?_
 rw[oE,mV]at hi
 rw[oL _ _ (by rw[mV];exact hi),aAq hi]
 rfl
theorem lS {n:Nat}{a b c:List Int}(hb:b.length=n)(hc:Perm n c):cmp (cmp a b) c=cmp a (cmp b c):=by
 refine pC (by rw[oE,oE,oE]) λi hi=>?_
 rw[oE,hc.1]at hi
 have h1:=kM hc hi
 rw[oL _ _ (by rw[hc.1];exact hi),oL _ _ (by omega),oL a _ (by rw[oE,hc.1];exact hi),oL _ _ (by rw[hc.1];exact hi)]
theorem zO {n:Nat}{a b c:List Int}(ha:Perm n a)(hb:Perm n b)(hc:Perm n c)(h:cmp a b=cmp a c):b=c:=by
 refine pC (by rw[hb.1,hc.1]) λi hi=>?_
 rw[hb.1]at hi
 have h1:(cmp a b).getD i 0=(cmp a c).getD i 0:=by rw[h]
 rw[oL _ _ (by rw[hb.1];exact hi),oL _ _ (by rw[hc.1];exact hi)]at h1
 have h2:=kM hb hi
 have h3:=kM hc hi
 have:=vZ ha (by omega) (by omega) h1
 omega
end Go.Pm
