/- Parts of the proof. -/
import Derived.Test.YtabdoikbodjidaaGreatDoorMBO46
set_option maxHeartbeats 64000000
set_option maxRecDepth 100000
namespace Go.Proofs.Tg.Bk
open Go.RowKit Go.Gr Go.Sp Go.Ev Go.Pm Go.Bn Go.Rq Go.Ps
open Go.Proofs.Tg.Fi (vq mX)
open Go.Proofs.Tg.Rf (qT pW yL OV mL tH)
open Go.Proofs.Tg.Iw (yH aAY)
open Go.Av (sm mean fl BdE Inv)
structure aCI (w0:World)(L N:Nat)(os:List (List (Nat×Nat)))(i k:Nat)(wr:World):Prop where
  below:Below w0.heap.size w0 wr
  seen:Blk wr w0.heap.size 4 (uB L N (oP os i k)).toArray
theorem aCI.keep {w0 wr wz:World}{L N i k:Nat}{os:List (List (Nat×Nat))}(h:aCI w0 L N os i k wr)(hb:Below wr.heap.size wr wz):aCI w0 L N os i k wz:=⟨dW h.below hb,h.seen.keep hb h.seen.lt⟩
structure aOU (w4 W:World)(g6 L N e c:Nat)(E:Option Addr)(f:Nat->Rat):Prop where
  below:Below w4.heap.size w4 W
  mat:Blk W g6 31 #[.int .i64 L,.int .i64 L,.slice E N c]
  sl:Sl W E N 1 (((List.range N).map f).map vq)
  bd:BdE e N f
  sy:aDW f L
  he:e+2<=500
theorem aDY (N:Nat):madeCells #[.bool false] N=(List.replicate N (Value.bool false)).toArray:=by
 rw[oJ]
 try simp
theorem aCJ (z:Int)(A B S:Option Addr)(ca cb cs:Nat)(a b:List Int)(both:Bool)(ss:List ByteArray)(av:Bool)(w:World)(hA:kP w A a)(hB:kP w B b)(hS:Sl w S ss.length 1 (ss.map Value.string))(ht:PT w)(hT:Tab w):
    Calls Tryz.prog 3 #[.int .i64 z,.slice A a.length ca,.slice B b.length cb,.bool both,.slice S ss.length cs,.bool av] w λe w'=>e=.returned (.bool true)/\Below w.heap.size w w':=by
  have hal:=dX (bM w.heap.size w) (aA _) (.cells #[.slice A a.length ca,.slice B b.length cb] 22);have HAB:=zh (aHn (ca:=ca) (cb:=cb) hA hB);have HA:=zh hA;have HB:=zh hB;have HS:=zh hS;have HT:=zh ht;have HTT:=zh hT;have HAW:=zh (λV (h:Below w.heap.size w V)=>aCY V (ht.keep h));obtain⟨q1,hq1⟩:∃q:Bool,q=true↔∀x∈[a,b],x.length<=20:=⟨decide _,gR⟩;obtain⟨q2,hq2⟩:∃q:Bool,q=true↔(ss.length<=25/\∀x∈ss,x.size<=6):=⟨decide _,gR⟩;have HF:=zh (aIn (some ⟨w.heap.size,0,none⟩) 2 [a,b] q1 _ HAB.o (by simp) hq1);have HSH:=zh (λV (h:Below w.heap.size w V)=>aHm S cs ss q2 V (hS.keep h) hq2);have HQ1:=zh hq1;have HQ2:=zh hq2;clear hA hB hS ht hT hq1 hq2 HAB
  cases q1 with
  |false=>
   go_enter Tryz.func3,Tryz.ntmps3
   go_wp2_with (first
     |(go_at_call 4;refine HF.o.mono ?_;rintro e w2 ⟨rfl,rfl⟩)
     |(go_at_call 6;refine(HAW.o _ hal).mono ?_;rintro e w3 ⟨rfl,hb3⟩))
   go_ret;exact⟨rfl,dW hal hb3⟩
  |true=>
   cases q2 with
   |false=>
    go_enter Tryz.func3,Tryz.ntmps3
    go_wp2_with (first
      |(go_at_call 4;refine HF.o.mono ?_;rintro e w2 ⟨rfl,rfl⟩)
      |(go_at_call 5;refine(HSH.o _ hal).mono ?_;rintro e w3 ⟨rfl,rfl⟩)
      |(go_at_call 6;refine(HAW.o _ hal).mono ?_;rintro e w3 ⟨rfl,hb3⟩))
    go_ret;exact⟨rfl,dW hal hb3⟩
   |true=>
    obtain⟨s25,s6⟩:=HQ2.o.1 rfl;have h20:=HQ1.o.1 rfl;have ha20:=h20 a (by simp);have hb20:=h20 b (by simp);have HMD:=zh (λV (h:Below w.heap.size w V)=>(aIP A B ca cb z a b both V (HA.o.keep h) (HB.o.keep h) (by omega) (by omega)).mono λe w'=>rL.of);have H6:=zh s6;clear h20 s6;go_enter Tryz.func3,Tryz.ntmps3
    go_upto_region 4 with(first
      |(go_at_call 4;refine HF.o.mono ?_;rintro e w2 ⟨rfl,rfl⟩)
      |(go_at_call 5;refine(HSH.o _ hal).mono ?_;rintro e w3 ⟨rfl,rfl⟩)
      |(go_at_call 7;refine(HMD.o _ hal).mono ?_;rintro e w4 ⟨H,Bs,cH,cB,n,G,bs,rfl,hgb,hb4⟩))
    have hb04:=dW hal hb4;have hpos:=hgb.pos;have hfew:=hgb.few;have hsf:=hgb.sfew;have HG:=zh hgb;obtain⟨L,hL⟩:=eqx (bs.length);obtain⟨e0,he0⟩:∃e,e=156:=⟨_,rfl⟩;have HBD:Hid (BdE e0 (L*L) (fl (sqR ss L false) L)):=zh (Go.Av.aPK H6.o (by omega) he0);have HSY:Hid (aDW (fl (sqR ss L false) L) L):=zh Go.Av.aOS;have HQ:Hid (∀p q,Sh (sqR ss L false p q)):=zh (λp q=>aPL H6.o L p q);have HSQ:=zh (λV (h:Below w.heap.size w V)=>aLm S cs L ss V (HS.o.keep h) H6.o s25 (by omega) (by omega));have HPK:=zh (λA cA V h=>aOT (a:=sqR ss L false) A cA L V h HQ.o (by omega) (by omega));have HE0:Hid (e0+4<=500):=zh (by omega);have hLL:L*L<=25:=cE (show L<=5 by omega) (show L<=5 by omega);rw[hL]at hpos hfew ⊢;generalize (sqR ss L false)=M at*;have HL:=zh hL
    clear hgb hL he0 HMD HF HSH HA HB HQ1 HQ2
    go_upto_region 5 with(first
      |(go_at_call 9;refine(HSQ.o _ hb04).mono ?_;rintro e w5 ⟨g5,c5,xs5,rfl,hX5,hi5,hb5⟩;have hM5:=hX5.mat hi5)
      |(go_at_call 8;refine(HPK.o _ _ _ hM5).mono ?_;rintro e w6 ⟨E,c6,rfl,hE6,hb6⟩))
    obtain⟨W7,hW7⟩:=eqx (w6.alloc (.cells #[.int .i64 L,.int .i64 L,.slice E (L*L) c6] 31));rw[hW7]
    have hB7:Blk W7 w6.heap.size 31 #[.int .i64 L,.int .i64 L,.slice E (L*L) c6]:=by rw[<-hW7];exact Blk.new _ _ _
    have hal7:Below w6.heap.size w6 W7:=by rw[<-hW7];exact bal
    have hb47:Below w4.heap.size w4 W7:=dW (dW hb5 hb6) hal7;have hg6:w4.heap.size<=w6.heap.size:=aR hb5.size hb6.size;have HE7:=zh (hE6.keep hal7);obtain⟨N,hN⟩:=eqx (L*L);have HN:=zh hN
    have HAV:Hid (Calls Tryz.prog 10 #[.agg #[.int .i64 L,.int .i64 L,.slice E (L*L) c6],.slice H G.length cH,.slice Bs L cB] W7 (aCn L (L*L) ((List.range (L*L)).map (mean (fl M L) (Go.Av.jY.im n G bs) L)) W7)):=zh (by
     have h5:=(HG.o.keep hb47).average (E:=E) (e:=e0) (fl M bs.length) cH cB c6 (by rw[HL.o];exact HBD.o) (by have:=HE0.o;omega) (by rw[HL.o];exact HE7.o) (HT.o.keep (dW hb04 hb47)) (HTT.o.below (dW hb04 hb47) HTT.o.1);rw[HL.o]at h5
     exact h5)
    have HBM:Hid (BdE (e0+2) (L*L) (mean (fl M L) (Go.Av.jY.im n G bs) L)/\aDW (mean (fl M L) (Go.Av.jY.im n G bs) L) L):=zh (by
     have h1:BdE e0 (bs.length*bs.length) (fl M bs.length):=by rw[HL.o];exact HBD.o
     have h2:=h1.means HG.o.acts (by omega);have h3:=HG.o.acts.mean_sym (f:=fl M bs.length) (by rw[HL.o];exact HSY.o);rw[HL.o]at h2 h3
     exact⟨h2,h3⟩)
    rw[hN]at HE7 HAV HBM HBD hLL hB7 ⊢;have HB7:=zh hB7;obtain⟨m0,m1,m2,_,_,_⟩:=hB7.three;clear hW7 hN hE6 hb5 hb6 hal7 hM5 hX5 hi5 HPK HSQ hB7 HQ;unfold aCn at HAV;generalize (mean (fl M L) (Go.Av.jY.im n G bs) L)=mf at*;generalize (fl M L)=f at*;generalize w6.heap.size=g6 at*
    cases av
    case' true=>
     go_upto_region 9 with(go_at_call 10;refine HAV.o.mono ?_;rintro e w8 ⟨q,rfl,hE8,hb8⟩)
     obtain⟨W9,hW9⟩:=eqx (w8.alloc (.cells #[.int .i64 L,.int .i64 L,.slice (some ⟨q,0,none⟩) N N] 31));rw[hW9]
     have B9:Blk W9 w8.heap.size 31 #[.int .i64 L,.int .i64 L,.slice (some ⟨q,0,none⟩) N N]:=by rw[<-hW9];exact Blk.new _ _ _
     have hal9:Below w8.heap.size w8 W9:=by rw[<-hW9];exact bal
     have hb79:=dW hb8 hal9;have hB79:=HB7.o.keep hb79 HB7.o.lt;clear m0 m1 m2;obtain⟨m0,m1,m2,f0,f1,f2⟩:=hB79.three;obtain⟨x0,x1,x2,_,_,_⟩:=B9.three;have HE9:=zh (hE8.keep hal9);have hb49:=dW hb47 hb79;have HB79:=zh hB79;have hgg:g6<W7.heap.size:=HB7.o.lt;generalize w8.heap.size=g8 at*;clear hW9 hE8 hb8 hal9 HAV HE7 hB79 B9;go_upto_region 10 with(fail);have c0:=HB79.o.set 0 (.int .i64 (L:Int));have c1:=c0.set 1 (.int .i64 (L:Int));have c2:=c1.set 2 (.slice (some ⟨q,0,none⟩) N N)
     have v0:∀x:Int,Value.int .i64 x∉((List.range N).map mf).map vq:=λx h=>by
      obtain⟨y,_,h⟩:=aM.1 h
      cases h
     have v1:∀(A:Option Addr) (x y:Nat),Value.slice A x y∉((List.range N).map mf).map vq:=λA x y h=>by
      obtain⟨y,_,h⟩:=aM.1 h
      cases h
     have HM:Hid (aOU w4 (((W9.setCell ⟨g6,0,none⟩ (.int .i64 (L:Int))).setCell ⟨g6,1,none⟩ (.int .i64 (L:Int))).setCell ⟨g6,2,none⟩ (.slice (some ⟨q,0,none⟩) N N)) g6 L N (e0+2) N (some ⟨q,0,none⟩) mf):=zh
       ⟨hJ (hJ (hJ hb49 hg6 _ _) hg6 _ _) hg6 _ _,c2,((HE9.o.put m0 (v0 _) _).put ((c0.cell 1).trans rfl) (v0 _) _).put ((c1.cell 2).trans rfl) (v1 _ _ _) _,HBM.o.1,HBM.o.2,by have:=HE0.o;omega⟩
     generalize (((W9.setCell ⟨g6,0,none⟩ (.int .i64 (L:Int))).setCell ⟨g6,1,none⟩ (.int .i64 (L:Int))).setCell ⟨g6,2,none⟩ (.slice (some ⟨q,0,none⟩) N N))=Wm at*;obtain⟨fm,hfm⟩:∃x,x=mf:=⟨_,rfl⟩;obtain⟨em,hem⟩:∃x,x=e0+2:=⟨_,rfl⟩;obtain⟨Em,hEm⟩:∃x:Option Addr,x=some ⟨q,0,none⟩:=⟨_,rfl⟩;obtain⟨cm,hcm⟩:∃x,x=N:=⟨_,rfl⟩;clear c0 c1 c2 v0 v1 m0 m1 m2 x0 x1 x2 f0 f1 f2 hb49 hgg HB79;rw[<-hfm,<-hem,<-hEm]at HM;have HM:Hid (aOU w4 Wm g6 L N em cm Em fm):=zh (by rw[hcm];exact HM.o);clear hfm hem hEm hcm
    case' false=>
     go_upto_region 10 with(fail);have HM:Hid (aOU w4 W7 g6 L N e0 c6 E f):=zh ⟨hb47,HB7.o,HE7.o,HBD.o,HSY.o,by have:=HE0.o;omega⟩;clear HAV m0 m1 m2 HE7;generalize W7=Wm at*;obtain⟨fm,hfm⟩:∃x,x=f:=⟨_,rfl⟩;obtain⟨em,hem⟩:∃x,x=e0:=⟨_,rfl⟩;obtain⟨Em,hEm⟩:∃x:Option Addr,x=E:=⟨_,rfl⟩;obtain⟨cm,hcm⟩:∃x,x=c6:=⟨_,rfl⟩;rw[<-hfm,<-hem,<-hEm,<-hcm]at HM;clear hfm hem hEm hcm
    all_goals
      have hbm:=HM.o.below;have hbwm:=dW hb04 hbm;obtain⟨m0,m1,m2,_,_,_⟩:=HM.o.mat.three;have HGm:=zh (HG.o.keep hbm);have HOR:=zh (HGm.o.orbitals cH cB);obtain⟨hoa,hpm,hgi⟩:=HG.o.oall
      have him:Hid ((∀o∈(kT (Go.Av.jY.im n G bs) bs.length bs.length).2,aBg fm L o)↔Inv fm (Go.Av.jY.im n G bs) L N):=zh (by
       rw[HL.o]at hoa hpm hgi ⊢
       exact aHQ HN.o hoa hpm hgi HM.o.sy)
      have hlen:(kT (Go.Av.jY.im n G bs) bs.length bs.length).2.flatten.length=L*(L+1)/2:=by
       have:=hoa.len (by rw[HL.o];omega);rw[HL.o]at this;rw[HL.o];exact this
      obtain⟨q,hq⟩:∃q:Bool,q=true↔Inv fm (Go.Av.jY.im n G bs) L N:=(Classical.em (Inv fm (Go.Av.jY.im n G bs) L N)).elim (λh=>⟨true,by simp[h]⟩) (λh=>⟨false,by simp[h]⟩)
      have HIV:Hid (∀V,Below Wm.heap.size Wm V->Calls Tryz.prog 12 #[.agg #[.int .i64 L,.int .i64 L,.slice Em N cm],.slice H G.length cH,.slice Bs L cB] V λe w'=>e=.returned (.tuple #[.bool q,.int .i64 0])/\Below V.heap.size V w'):=zh (λV h=>by
       have h5:=(HGm.o.keep h).invariant (E:=Em) (e:=em) fm cH cB cm q (by rw[HL.o,HN.o];exact HM.o.bd) HM.o.he (by rw[HL.o,HN.o];exact HM.o.sl.keep h) (by rw[HL.o,HN.o];exact hq) (HTT.o.below (dW hbwm h) HTT.o.1);rw[HL.o,HN.o]at h5
       exact h5)
      have HQI:=zh (him.o.trans hq.symm);have HND:=zh hoa.nd;have HUP:Hid (∀x∈(kT (Go.Av.jY.im n G bs) bs.length bs.length).2.flatten,x.1<=x.2/\x.2<L):=zh (λx hx=>by have:=(hoa.mem x).1 hx;rw[HL.o]at this;exact this);have HLEN:=zh hlen
      have HAT:Hid (∀(i j:Nat),i<L->j<L->∀V,Below Wm.heap.size Wm V->Calls Tryz.prog 13 #[.agg #[.int .i64 L,.int .i64 L,.slice Em N cm],.int .i64 (i:Nat),.int .i64 (j:Nat)] V λe w'=>e=.returned (.string (qtx (fm (i*L+j))))/\Below V.heap.size V w'):=zh (λi j hi hj V h=>by
       have hij:i*L+j<N:=by
        have:=aY L (show i+1<=L by omega);rw[eV,HN.o]at this;omega
       have h2:=aAY Em L L N cm i j ((List.range N).map fm) V (by omega) (by omega) (by omega) (by omega) HN.o.symm (by simp) (HM.o.sl.keep h) (λx hx=>by
        obtain⟨p,hp,rfl⟩:=aM.1 hx
        exact HM.o.bd.one (by have:=HM.o.he;omega) (bD.1 hp)) (HTT.o.below (dW hbwm h) HTT.o.1) hi hj (by simpa using hij)
       simpa using h2)
      rw[HL.o]at HOR;rw[HL.o]at HQI HND HUP HLEN;clear hoa hpm hgi him hlen hq HGm;generalize (kT (Go.Av.jY.im n G bs) L L).2=R at*
      have wN:IntKind.i64.wrap ((L:Int)*(L:Int))=(N:Int):=by
       rw[<-iS,HN.o];exact IntWalk.i64_in (N:Int) (by omega)
      have hmk:=Go.Proofs.Tg.Rf.aFs N (by omega);have HNN:=zh hLL
      go_upto_region 11 with(go_at_call 11;refine HOR.o.mono ?_;rintro e w11 ⟨OA,cO,os,rfl,hown,hrows,hR,hb11⟩)
      have m0:=gL hb11 m0;have m1:=gL hb11 m1;have m2:=gL hb11 m2
      go_upto_region 12 with(go_at_call 12;refine(HIV.o _ hb11).mono ?_;rintro e w12 ⟨rfl,hb12⟩)
      have HOWN:=zh (kL hown hb12 (aA _));have HROW:=zh (hrows.keep hb12);have m0:=gL hb12 m0;have m1:=gL hb12 m1;have m2:=gL hb12 m2;have hbm12:=dW hb11 hb12;subst hR;clear hown hrows hb11 hb12 HOR HIV;obtain⟨W,hW⟩:=eqx (w12.alloc (.cells (madeCells #[.bool false] N) 4))
      have hal12:Below w12.heap.size w12 W:=by rw[<-hW];exact bal
      have HST0:Hid (aCI w12 L N (os.map OV.ps) 0 0 W):=zh ⟨hal12,by
       have:=Blk.new w12 4 (madeCells #[.bool false] N);rw[hW,aDY]at this
       have e:oP (os.map OV.ps) 0 0=[]:=by simp[oP]
       rw[e,aHR]
       exact this⟩
      have HWW:=zh hW;clear hW hal12;obtain⟨n0,hn0⟩:=eqx (os.length);have HOL:=zh hn0;rw[hn0]at HOWN ⊢;have hmx:=Go.Proofs.Tg.Rf.aLo HOWN.o;simp only[maxLen]at hmx;clear hn0;go_upto_region 17 with(fail);rw[HWW.o];clear hmk HWW;go_wp2
      go_loopw [23,24,26] (λs23 s24 s26 wr=>∃(i:Nat) (b:Bool),s26=.int .i64 i/\i<=n0/\s23=.int .i64 ((oP (os.map OV.ps) i 0).length:Nat)/\s24=.bool b/\Hid (b=true↔pM fm L (os.map OV.ps) i 0)/\Hid (aCI w12 L N (os.map OV.ps) i 0 wr)) (λ_ _ s26 _=>n0-(intOf s26).toNat)
      case atStart=>exact⟨0,true,rfl,aW _,by simp[oP],rfl,zh ⟨λ_=>aLk _ _ _,λ_=>rfl⟩,HST0⟩
      case round=>as_aux_lemma=>
       clear HST0;obtain⟨wi,rfl⟩:∃wi:World,wi=wr:=⟨_,rfl⟩;obtain⟨i,b,rfl,hi,rfl,rfl,HC,HS⟩:=hrel
       by_cases hin:i<n0
       ·have hio:i<os.length:=by rw[HOL.o];exact hin
        obtain⟨ad,rfl,hc0⟩:=Sl.at1 (Sl.own HOWN.o) hin
        have hc1:w12.cell? (ad.add i)=some (qT os[i]):=by simpa using hc0
        have hro:=HROW.o os[i] (aB _);have HPS:Hid ((os.map OV.ps)[i]?=some os[i].ps):=zh (by simp[hio]);obtain⟨R,hRR⟩:=eqx (os.map OV.ps);rw[hRR]at HPS HS HC HND HUP HLEN HQI ⊢;have HRL:Hid (i<R.length):=zh (by rw[<-hRR];simpa using hio)
        have i0:(0:Int)<=(i:Int):=by omega
        have i1:(i:Int)<(n0:Int):=by omega
        have i3:((i:Int)).toNat=i:=by omega
        have HEQ:Hid (R[i]'HRL.o=os[i].ps):=zh (by
         have:=HPS.o;rw[aF HRL.o]at this
         injection this)
        have HRR:=zh hRR;clear hc0 hRR HPS;generalize os[i]=o at*;obtain⟨oA,oc,ps⟩:=o;unfold qT at hc1 hro;simp only at hc1 hro HEQ;obtain⟨P,hP⟩:=eqx (ps.length);rw[hP]at hc1 hro;have HP:=zh hP;have HRO:=zh hro;have hmp:=Go.Proofs.Tg.Rf.aLo hro;simp only[maxLen]at hmp;clear hP hro;have hci:=gL HS.o.below hc1;go_wp2
        go_loopw [23,24,27] (λs23 s24 s27 wr=>∃(k:Nat) (b:Bool),s27=.int .i64 k/\k<=P/\s23=.int .i64 ((oP R i k).length:Nat)/\s24=.bool b/\Hid (b=true↔pM fm L R i k)/\Hid (aCI w12 L N R i k wr)) (λ_ _ s27 _=>P-(intOf s27).toNat)
        case atStart=>exact⟨0,b,rfl,aW _,rfl,rfl,HC,HS⟩
        case round=>as_aux_lemma=>
         clear HS HC hci;obtain⟨wk,rfl⟩:∃wk:World,wk=wr:=⟨_,rfl⟩;obtain⟨k,b,rfl,hk,rfl,rfl,HC,HS⟩:=hrel;have hbk:=HS.o.below;have hci:=gL hbk hc1
         by_cases hkP:k<P
         ·have hkp:k<ps.length:=by rw[HP.o];exact hkP
          have hkR:k<(R[i]'HRL.o).length:=by rw[HEQ.o];exact hkp
          obtain⟨g,rfl,p0,p1⟩:=tH HRO.o hkP HP.o;obtain⟨g',hg',h0,h1⟩:=tH HRO.o (show 0<P by omega) HP.o
          injection hg' with hg'
          injection hg' with hg' _ _
          subst hg'
          have hhd:ps.headD (0,0)=ps[0]'(by omega):=by
           cases ps with
           |nil=>simp at hkp
           |cons x t=>rfl
          have HK:Hid (ps[k]=(R[i]'HRL.o)[k]'hkR):=zh (by simp only[HEQ.o]);have hm1:ps[k]∈R.flatten:=List.mem_flatten.2 ⟨_,aB HRL.o,by rw[HEQ.o];exact aB _⟩;have hm2:ps[0]'(by omega)∈R.flatten:=List.mem_flatten.2 ⟨_,aB HRL.o,by rw[HEQ.o];exact aB _⟩;have hu1:=HUP.o _ hm1;have hu2:=HUP.o _ hm2;have HSUC:Hid (oP R i (k+1)=oP R i k++[ps[k]]):=zh (by rw[aHT HRL.o hkR,<-HK.o]);have hnew:=aLj HND.o HRL.o hkR;rw[<-HK.o]at hnew
          have hsub:∀r∈oP R i k,r.2<L:=λr hr=>(HUP.o r (aDX HRL.o hkR r hr)).2
          have HCS:Hid (pM fm L R i (k+1)↔(pM fm L R i k/\fm (plP L ps[k])=fm (plP L (ps[0]'(by omega))))):=zh (by
           have:=aLl (f:=fm) (L:=L) HRL.o hkR;rw[<-HK.o,HEQ.o,hhd]at this
           exact this)
          have hpL:plP L ps[k]<N:=by
           unfold plP;have:=aY L (show ps[k].1+1<=L by omega);rw[eV,HN.o]at this;omega
          have hse:=aLg hpL hsub hu1.2 hnew;have HSET:=zh (aHS L N (oP R i k) ps[k]);have HA1:=zh (HAT.o ps[k].1 ps[k].2 (by omega) hu1.2);have HA2:=zh (HAT.o (ps[0]'(by omega)).1 (ps[0]'(by omega)).2 (by omega) hu2.2)
          have HCL:Hid (oP R i k ⊆ R.flatten/\(oP R i k).length<=15):=zh (by
           obtain⟨t,et⟩:=vS HRL.o hkR;have hl:=bK List.length et;rw[aC,HLEN.o]at hl;have:L*(L+1)<=30:=cE (show L<=5 by omega) (show L+1<=6 by omega)
           exact⟨aDX HRL.o hkR,by omega⟩)
          have hrc:=HS.o.seen.cell (plP L ps[k]);have hrf:=HS.o.seen.frozen (plP L ps[k]);rw[eB,hse]at hrc
          have h0':w12.cell? ⟨g,0,none⟩=some (.int .i64 ((ps[0]'(by omega)).1:Nat)):=by simpa using h0
          have h1':w12.cell? ⟨g,1,none⟩=some (.int .i64 ((ps[0]'(by omega)).2:Nat)):=by simpa using h1
          have HPQ:Hid (plP L ps[k]=ps[k].1*L+ps[k].2):=zh rfl;have HPH:Hid (plP L (ps[0]'(by omega))=(ps[0]'(by omega)).1*L+(ps[0]'(by omega)).2):=zh rfl;obtain⟨pp,hpp⟩:=eqx (plP L ps[k]);obtain⟨ph,hph⟩:=eqx (plP L (ps[0]'(by omega)));rw[hpp]at HPQ hrc hrf HSET HCS hpL;rw[hph]at HPH HCS;rw[<-HPQ.o]at HA1;rw[<-HPH.o]at HA2;obtain⟨hl1,hl2⟩:=hu1;obtain⟨hl3,hl4⟩:=hu2;clear h0 h1 hm1 hm2 hnew hsub hse hhd HK hpp hph;generalize hq1:ps[k]=pk at*;generalize ps[0]=pz at*;obtain⟨x,y⟩:=pk;obtain⟨xz,yz⟩:=pz;simp only at*;clear hq1 hkp hkR;obtain⟨xL,hxL⟩:=eqx (x*L)
          have wm:IntKind.i64.wrap ((x:Int)*(L:Int))=(xL:Int):=by
           rw[<-iS,hxL];have:=HPQ.o;rw[hxL]at this;exact IntWalk.i64_in _ (by omega)
          have wa:IntKind.i64.wrap ((xL:Int)+(y:Int))=(pp:Int):=by
           have:=HPQ.o;rw[hxL]at this;rw[<-iR,<-this];exact IntWalk.i64_in _ (by omega)
          have d1:decide ((x:Int)<0)=false:=dF (by omega);have d2:decide ((y:Int)<(x:Int))=false:=dF (by omega);have d2':decide (y<x)=false:=dF (by omega);have d3:decide ((L:Int)<=(y:Int))=false:=dF (by omega);have d3':decide (L<=y)=false:=dF (by omega)
          have k0:(0:Int)<=(k:Int):=by omega
          have k1:(k:Int)<(P:Int):=by omega
          have k3:((k:Int)).toNat=k:=by omega
          have z1:(0:Int)<(P:Int):=by omega
          have z2:(P=0)=False:=bX (by omega);have z3:((P:Int)=0)=False:=bX (by omega)
          have r0:(0:Int)<=(pp:Int):=by omega
          have r1:(pp:Int)<(N:Int):=by omega
          have r3:((pp:Int)).toNat=pp:=by omega
          have e0:=gL hbk p0;have e1:=gL hbk p1;clear hxL;go_upto_region 23 with(fail)
          go_region
          have hdr:Below wk.heap.size wk wk.drew:=brf.drew;have HS5:Hid (aCI w12 L N R i k wk.drew):=zh (HS.o.keep hdr);have hrc5:wk.drew.cell? ⟨w12.heap.size,pp,none⟩=some (.bool false):=hrc;have hrf5:wk.drew.frozen? ⟨w12.heap.size,pp,none⟩=false:=hrf;generalize wk.drew=W5 at*;clear hrc hrf HS hdr hbk hci e0 e1;have hcl:=HCL.o.2
          have wc:IntKind.i64.wrap (((oP R i k).length:Int)+1)=(((oP R i (k+1)).length:Nat):Int):=by
           rw[HSUC.o,aC];exact IntWalk.i64_in _ (by omega)
          have HS6:Hid (aCI w12 L N R i (k+1) (W5.setCell ⟨w12.heap.size,pp,none⟩ (.bool true))):=zh ⟨hJ HS5.o.below (aA _) _ _,by
           have:=HS5.o.seen.set pp (.bool true);rw[fT,HSET.o,<-HSUC.o]at this
           exact this⟩
          go_upto_region 28 with(fail);generalize W5.setCell ⟨w12.heap.size,pp,none⟩ (.bool true)=W6 at*;clear hrc5 hrf5 HS5 wm wa d1 d2 d2' d3 d3' r0 r1 r3 HSET;have hb6:=HS6.o.below;have hb6m:=dW hbm12 hb6;have y0:=gL hb6 m0;have y1:=gL hb6 m1;have y2:=gL hb6 m2;have u0:=gL hb6 h0';have u1:=gL hb6 h1';have uc:=gL hb6 hc1
          cases b with
          |false=>as_aux_lemma=>
           have HC2:Hid (false=true↔pM fm L R i (k+1)):=zh ⟨λh=>(by cases h),λh=>HC.o.2 (HCS.o.1 h).1⟩
           have kc:∀V,Below W6.heap.size W6 V->V.cell? ⟨g6,0,none⟩=some (.int .i64 L)/\V.cell? ⟨g6,1,none⟩=some (.int .i64 L)/\V.cell? ⟨g6,2,none⟩=some (.slice Em N cm)/\V.cell? ⟨g,0,none⟩=some (.int .i64 (xz:Nat))/\V.cell? ⟨g,1,none⟩=some (.int .i64 (yz:Nat))/\V.cell? (ad.add i)=some (.slice (some ⟨g,0,none⟩) P oc):=λV h=>⟨gL h y0,gL h y1,gL h y2,gL h u0,gL h u1,gL h uc⟩
           have BZ:Below W6.heap.size W6 W6.drew:=brf.drew;refine dG (S:=(λw'=>w'.cell? ⟨g6,0,none⟩=some (.int .i64 L)/\w'.cell? ⟨g6,1,none⟩=some (.int .i64 L)/\w'.cell? ⟨g6,2,none⟩=some (.slice Em N cm)/\w'.cell? ⟨g,0,none⟩=some (.int .i64 (xz:Nat))/\w'.cell? ⟨g,1,none⟩=some (.int .i64 (yz:Nat))/\w'.cell? (ad.add i)=some (.slice (some ⟨g,0,none⟩) P oc))) (by kernel_rfl) (kc _ BZ) (λhHeld=>?_);generalize W6.drew=Z at*
           repeat' (first
             |(refine gLd 0 152 (.bool false) rfl rfl hHeld ?_;(try simp only[jA]))
             |(refine gLd 1 153 (.bool false) rfl rfl hHeld ?_;(try simp only[jA]))
             |(refine gSk 2 154 rfl rfl hHeld ?_;(try simp only[jA]))
             |(refine gSk 3 155 rfl rfl hHeld ?_;(try simp only[jA]))
             |(refine gSk 4 156 rfl rfl hHeld ?_;(try simp only[jA]))
             |(refine gSk 5 157 rfl rfl hHeld ?_;(try simp only[jA]))
             |(refine gSk 6 158 rfl rfl hHeld ?_;(try simp only[jA]))
             |(refine gSk 7 159 rfl rfl hHeld ?_;(try simp only[jA]))
             |(refine gSk 8 160 rfl rfl hHeld ?_;(try simp only[jA]))
             |(refine gSk 9 161 rfl rfl hHeld ?_;(try simp only[jA]))
             |(refine gSk 10 162 rfl rfl hHeld ?_;(try simp only[jA]))
             |(refine gSk 11 163 rfl rfl hHeld ?_;(try simp only[jA]))
             |(refine gSk 12 164 rfl rfl hHeld ?_;(try simp only[jA]))
             |(refine gSk 13 165 rfl rfl hHeld ?_;(try simp only[jA]))
             |(refine gSk 14 166 rfl rfl hHeld ?_;(try simp only[jA]))
             |(refine gSk 15 167 rfl rfl hHeld ?_;(try simp only[jA]))
             |(refine gSk 16 168 rfl rfl hHeld ?_;(try simp only[jA]))
             |(refine gSk 17 169 rfl rfl hHeld ?_;(try simp only[jA]))
             |(refine gSk 18 170 rfl rfl hHeld ?_;(try simp only[jA]))
             |(refine gSk 19 171 rfl rfl hHeld ?_;(try simp only[jA]))
             |(refine gSk 20 172 rfl rfl hHeld ?_;(try simp only[jA]))
             |(refine gSk 21 173 rfl rfl hHeld ?_;(try simp only[jA]))
             |(refine gSk 22 174 rfl rfl hHeld ?_;(try simp only[jA]))
             |(refine gLd 23 175 (.bool false) rfl rfl hHeld ?_;(try simp only[jA]))
             |(exact dM)
             |(refine gCs rfl ?_ ?_)
             |(refine gLd 24 24 (.bool false) rfl rfl hHeld ?_;(try simp only[jA]))
             |(refine fD (by decide+kernel) ?_ _)
             |(intro K hK tg;go_simp))
           all_goals
             go_wp2;go_roundw
             case rel=>exact⟨k+1,false,by go_num,by omega,rfl,rfl,HC2,zh (HS6.o.keep BZ)⟩
             case measure=>(simp[intOf];omega)
          |true=>as_aux_lemma=>
           have HB1:Hid (∀V,Below W6.heap.size W6 V->Calls Tryz.prog 13 #[.agg #[.int .i64 L,.int .i64 L,.slice Em N cm],.int .i64 (x:Nat),.int .i64 (y:Nat)] V λe w'=>e=.returned (.string (qtx (fm pp)))/\Below W6.heap.size W6 w'):=zh (λV h=>(HA1.o V (dW hb6m h)).mono (by rintro e w' ⟨h1,h2⟩;exact⟨h1,dW h h2⟩));have HB2:Hid (∀V,Below W6.heap.size W6 V->Calls Tryz.prog 13 #[.agg #[.int .i64 L,.int .i64 L,.slice Em N cm],.int .i64 (xz:Nat),.int .i64 (yz:Nat)] V λe w'=>e=.returned (.string (qtx (fm ph)))/\Below W6.heap.size W6 w'):=zh (λV h=>(HA2.o V (dW hb6m h)).mono (by rintro e w' ⟨h1,h2⟩;exact⟨h1,dW h h2⟩))
           obtain⟨b2,hb2,HC2⟩:∃b2:Bool,((qtx (fm pp)).toList==(qtx (fm ph)).toList)=b2/\Hid (b2=true↔pM fm L R i (k+1)):=by
            by_cases hfe:fm pp=fm ph
            ·exact⟨true,by rw[hfe];simp,zh ⟨λ_=>HCS.o.2 ⟨HC.o.1 rfl,hfe⟩,λ_=>rfl⟩⟩
            exact⟨false,aG.2 (λh=>hfe (Go.Rq.aAQ h)),zh ⟨λh=>(by cases h),λh=>absurd (HCS.o.1 h).2 hfe⟩⟩
           generalize qtx (fm pp)=t1 at*;generalize qtx (fm ph)=t2 at*
           have kc:∀V,Below W6.heap.size W6 V->V.cell? ⟨g6,0,none⟩=some (.int .i64 L)/\V.cell? ⟨g6,1,none⟩=some (.int .i64 L)/\V.cell? ⟨g6,2,none⟩=some (.slice Em N cm)/\V.cell? ⟨g,0,none⟩=some (.int .i64 (xz:Nat))/\V.cell? ⟨g,1,none⟩=some (.int .i64 (yz:Nat))/\V.cell? (ad.add i)=some (.slice (some ⟨g,0,none⟩) P oc):=λV h=>⟨gL h y0,gL h y1,gL h y2,gL h u0,gL h u1,gL h uc⟩
           have BZ:Below W6.heap.size W6 W6.drew:=brf.drew;refine dG (S:=(λw'=>w'.cell? ⟨g6,0,none⟩=some (.int .i64 L)/\w'.cell? ⟨g6,1,none⟩=some (.int .i64 L)/\w'.cell? ⟨g6,2,none⟩=some (.slice Em N cm)/\w'.cell? ⟨g,0,none⟩=some (.int .i64 (xz:Nat))/\w'.cell? ⟨g,1,none⟩=some (.int .i64 (yz:Nat))/\w'.cell? (ad.add i)=some (.slice (some ⟨g,0,none⟩) P oc))) (by kernel_rfl) (kc _ BZ) (λhHeld=>?_);generalize W6.drew=Z at*
           repeat' (first
             |(refine gLd 0 152 (.bool true) rfl rfl hHeld ?_;(try simp only[jA]))
             |(refine gLd 1 153 (.bool true) rfl rfl hHeld ?_;(try simp only[jA]))
             |(refine gLd 2 154 (.agg #[.int .i64 L,.int .i64 L,.slice Em N cm]) rfl rfl hHeld ?_;(try simp only[jA]))
             |(refine gLd 3 155 (.int .i64 (x:Nat)) rfl rfl hHeld ?_;(try simp only[jA]))
             |(refine gLd 4 156 (.int .i64 (y:Nat)) rfl rfl hHeld ?_;(try simp only[jA]))
             |(refine gLd 6 158 (.agg #[.int .i64 L,.int .i64 L,.slice Em N cm]) rfl rfl hHeld ?_;(try simp only[jA]))
             |(refine gLd 7 159 (.slice (some ad) n0 cO) rfl rfl hHeld ?_;(try simp only[jA]))
             |(refine gLd 8 160 (.int .i64 (i:Nat)) rfl rfl hHeld ?_;(try simp only[jA]))
             |(refine gLd 9 161 (.pointer (some (ad.add i))) rfl rfl hHeld ?_;(try simp only[jA]))
             |(refine gLd 10 162 (.slice (some ⟨g,0,none⟩) P oc) rfl rfl hHeld ?_;(try simp only[jA]))
             |(refine gLd 11 163 (.pointer (some ⟨g,0,none⟩)) rfl rfl hHeld ?_;(try simp only[jA]))
             |(refine gLd 12 164 (.pointer (some ⟨g,0,none⟩)) rfl rfl hHeld ?_;(try simp only[jA]))
             |(refine gLd 13 165 (.int .i64 (xz:Nat)) rfl rfl hHeld ?_;(try simp only[jA]))
             |(refine gLd 14 166 (.slice (some ad) n0 cO) rfl rfl hHeld ?_;(try simp only[jA]))
             |(refine gLd 15 167 (.int .i64 (i:Nat)) rfl rfl hHeld ?_;(try simp only[jA]))
             |(refine gLd 16 168 (.pointer (some (ad.add i))) rfl rfl hHeld ?_;(try simp only[jA]))
             |(refine gLd 17 169 (.slice (some ⟨g,0,none⟩) P oc) rfl rfl hHeld ?_;(try simp only[jA]))
             |(refine gLd 18 170 (.pointer (some ⟨g,0,none⟩)) rfl rfl hHeld ?_;(try simp only[jA]))
             |(refine gLd 19 171 (.pointer (some ⟨g,1,none⟩)) rfl rfl hHeld ?_;(try simp only[jA]))
             |(refine gLd 20 172 (.int .i64 (yz:Nat)) rfl rfl hHeld ?_;(try simp only[jA]))
             |(refine gLd 22 174 (.bool b2) rfl rfl hHeld ?_;(try simp only[jA]))
             |(refine gLd 23 175 (.bool b2) rfl rfl hHeld ?_;(try simp only[jA]))
             |(refine gRd [21] ?_)
             |(refine gRd [5] ?_)
             |(refine gRd [5,21] ?_)
             |(exact dM)
             |(refine gCs rfl ?_ ?_)
             |(have _:OpN 5:=tg;clear tg;with_reducible refine bE (HB1.o _ BZ) ?_;rintro e Zn ⟨rfl,hb⟩;replace BZ:=hb;(try go_simp);clear hHeld;refine hK.o _ _ (kc _ BZ) (λhHeld=>?_);clear hK K hb;obtain⟨Z,rfl⟩:∃x,x=Zn:=⟨_,rfl⟩;(try (replace BZ:=BZn;clear BZn));(try simp only[jA]))
             |(have _:OpN 21:=tg;clear tg;with_reducible refine bE (HB2.o _ BZ) ?_;rintro e Zn ⟨rfl,hb⟩;replace BZ:=hb;(try go_simp);clear hHeld;refine hK.o _ _ (kc _ BZ) (λhHeld=>?_);clear hK K hb;obtain⟨Z,rfl⟩:∃x,x=Zn:=⟨_,rfl⟩;(try (replace BZ:=BZn;clear BZn));(try simp only[jA]))
             |(refine gLd 24 24 (.bool b2) rfl rfl hHeld ?_;(try simp only[jA]))
             |(refine fD (by decide+kernel) ?_ _)
             |(intro K hK tg;go_simp))
           all_goals
             go_wp2;go_roundw
             case rel=>exact⟨k+1,b2,by go_num,by omega,rfl,rfl,HC2,zh (HS6.o.keep BZ)⟩
             case measure=>(simp[intOf];omega)
         obtain rfl:k=P:=by omega
         have dk:decide ((k:Int)<(k:Int))=false:=by simp
         have hPk:k=(R[i]'HRL.o).length:=by rw[HEQ.o,HP.o]
         have HROW2:Hid (oP R i k=oP R (i+1) 0):=zh (by rw[hPk];exact aLh HRL.o);have HC2:Hid (b=true↔pM fm L R (i+1) 0):=zh (HC.o.trans (by rw[hPk];exact aNf HRL.o));have HS2:Hid (aCI w12 L N R (i+1) 0 wk):=zh ⟨HS.o.below,by rw[<-HROW2.o];exact HS.o.seen⟩;rw[HROW2.o];clear hPk HC HS;go_wp2;go_roundw
         case rel=>exact⟨i+1,b,by go_num,by omega,rfl,rfl,HC2,HS2⟩
         case measure=>(simp[intOf];omega)
       obtain rfl:i=n0:=by omega
       have di:decide ((i:Int)<(i:Int))=false:=by simp
       have hiR:i=(os.map OV.ps).length:=by rw[aI,HOL.o]
       have hpr:oP (os.map OV.ps) i 0=(os.map OV.ps).flatten:=by rw[hiR];exact aLi _
       have hbq:b=q:=by
        rw[Bool.eq_iff_iff];exact HC.o.trans ((by rw[hiR];exact aNg:pM fm L (os.map OV.ps) i 0↔∀o∈os.map OV.ps,aBg fm L o).trans HQI.o)
       have hbx:=HS.o.below;have hbf:=dW (dW hbwm hbm12) hbx;subst hbq;rw[hpr,HLEN.o];obtain⟨c,hc⟩:=eqx (L*(L+1))
       have hc30:c<=30:=by rw[<-hc];exact cE (show L<=5 by omega) (show L+1<=6 by omega)
       have w1:IntKind.i64.wrap ((L:Int)+1)=(L:Int)+1:=IntWalk.i64_in _ (by omega)
       have w2:IntKind.i64.wrap ((L:Int)*((L:Int)+1))=(c:Int):=by
        rw[show(L:Int)*((L:Int)+1)=((L*(L+1):Nat):Int) by push_cast;rfl,hc];exact IntWalk.i64_in _ (by omega)
       rw[hc];obtain⟨h2,hh2⟩:=eqx (c/2)
       have w3:((c:Nat):Int).tdiv 2=(h2:Int):=by rw[<-hh2];rfl
       have w4:IntKind.i64.wrap (h2:Int)=(h2:Int):=IntWalk.i64_in _ (by omega);rw[hh2];clear hh2;clear hc hpr hiR HC HS
       have hbb:(b==b)=true:=by simp
       have hc2:((h2:Int)==(h2:Int))=true:=by simp
       clear HAT HM HND HUP HLEN HQI HOWN HROW
       go_wp2_with (go_at_call 6;refine(HAW.o _ hbf).mono ?_;rintro e w13 ⟨rfl,hb13⟩)
       go_ret;exact⟨rfl,dW hbf hb13⟩
end Go.Proofs.Tg.Bk
