/- BlocksOrbitals: for every input the statement returns true and leaves its arguments as they are. No condition of its own. -/
import Derived.Test.YtabdoikbodjidaaGreatDoorMBO45
namespace Go.Proofs.YtabdoikbodjidaaGreatDoor.blocksOrbitals
open Go.ChangeShapes Go.WideShapes Go.ChangeAt Go.RowKit Go.Proofs.Tg Go.Gr
set_option maxRecDepth 100000
theorem aJs:∀t∈Tryz.f3.params.toList,Tryz.prog.readableRec t=true/\t<Tryz.prog.types.size:=by
 rw[Tryz.params3]
 intro t ht
 simp only[bA,eH,iC]at ht
 rcases ht with rfl|rfl|rfl|rfl|rfl|rfl
 ·exact⟨by kernel_rfl,dQ (by kernel_rfl)⟩
 ·exact⟨by kernel_rfl,dQ (by kernel_rfl)⟩
 ·exact⟨by kernel_rfl,dQ (by kernel_rfl)⟩
 ·exact⟨by kernel_rfl,dQ (by kernel_rfl)⟩
 ·exact⟨by kernel_rfl,dQ (by kernel_rfl)⟩
 exact⟨by kernel_rfl,dQ (by kernel_rfl)⟩
theorem aAA (H:Type)(enc:TypeId×Value->H)(W:World)(base:Nat)(args:Array Value)(ds gs:List (DataW H))(before:List MemPlace)
    (hval:∀(j:Nat) t v,Tryz.f3.params[j]?=some t->args[j]?=some v->Value.okWide Tryz.prog W .any base t v)
    (hW:DataW.Whole enc Tryz.prog Tryz.f3.params.toList Rows.blocksOrbitalsSpec.vars false W args.toList ds gs before) (hL:laidMetH Tryz.prog Rows.blocksOrbitalsRow.laid W):
    Calls Tryz.prog 3 args W λe W'=>∃v,e=.returned v/\Rows.blocksOrbitalsSpec.post enc Tryz.prog Tryz.f3 false true false false W args v W':=by
  have hT:Bk.PT W:=Fr.aOm hL;have hTab:Tab W:=Fr.aOo hL;have hW':=hW;have hlt:=hW.lt;obtain⟨p,q,hA0,hV,rfl,hfz,hnd⟩:=hW;have hA:DataW.TrodAll enc Tryz.prog W 0 (λ_=>true) true Tryz.f3.params.toList args.toList ds p:=hA0;rw[Tryz.params3]at hA hval;obtain⟨v0,vs0,d0,ds0,p0,q0,hargs,rfl,rfl,h0,r0⟩:=trodAll_cons hA;obtain⟨v1,vs1,d1,ds1,p1,q1,rfl,rfl,rfl,h1,r1⟩:=trodAll_cons r0;obtain⟨v2,vs2,d2,ds2,p2,q2,rfl,rfl,rfl,h2,r2⟩:=trodAll_cons r1;obtain⟨v3,vs3,d3,ds3,p3,q3,rfl,rfl,rfl,h3,r3⟩:=trodAll_cons r2;obtain⟨v4,vs4,d4,ds4,p4,q4,rfl,rfl,rfl,h4,r4⟩:=trodAll_cons r3;obtain⟨v5,vs5,d5,ds5,p5,q5,rfl,rfl,rfl,h5,r5⟩:=trodAll_cons r4;obtain⟨rfl,rfl,rfl⟩:=trodAll_nil r5
  obtain rfl:args=#[v0,v1,v2,v3,v4,v5]:=by cases args;simp_all
  obtain⟨rfl,rfl⟩:=trodVars_none hV;clear hA0;simp only[eA]at hW' hlt;obtain⟨n0,rfl,rfl,rfl,wf0⟩:=open_int Tryz.underlying3 (hval 0 3 v0 rfl rfl) h0;obtain⟨A1,l1,c1,rfl,g1⟩:=Fr.aBJ (hval 1 22 v1 rfl rfl) h1;obtain⟨A2,l2,c2,rfl,g2⟩:=Fr.aBJ (hval 2 22 v2 rfl rfl) h2;obtain⟨b3,rfl,rfl,rfl⟩:=open_bool Tryz.underlying4 (hval 3 4 v3 rfl rfl) h3;obtain⟨A4,l4,c4,rfl,g4⟩:=Fr.aEH (hval 4 23 v4 rfl rfl) h4;obtain⟨b5,rfl,rfl,rfl⟩:=open_bool Tryz.underlying4 (hval 5 4 v5 rfl rfl) h5
  have walk:Calls Tryz.prog 3 #[.int .i64 n0,.slice A1 l1.length c1,.slice A2 l2.length c2,.bool b3,.slice A4 (List.length l4) c4,.bool b5] W λe w'=>e=.returned (.bool true)/\Below W.heap.size W w':=Bk.aCJ n0 A1 A2 A4 c1 c2 c4 l1 l2 b3 l4 b5 W g1 g2 g4 hT hTab
  refine walk.mono λe W' ⟨he,hb⟩=>?_
  subst he;exact⟨_,rfl,Fr.aJw hW' rfl (by kernel_rfl) rfl rfl rfl aJs hb⟩
theorem aJt (os:Os):laidMet Tryz.prog Rows.blocksOrbitalsRow.laid ((Fr.yA os).forCall (λ_ _=>0) ⟨#[],#[.int .i64 0,.slice none 0 0,.slice none 0 0,.bool false,.slice none 0 0,.bool false],[]⟩).memory:=
  laidMet_of_run' 8 (by kernel_rfl) (by kernel_rfl)
theorem aJu (os:Os){H:Type}(enc:TypeId×Value->H):∃places,DataW.whole enc Tryz.prog ((Fr.yA os).forCall (λ_ _=>0) ⟨#[],#[.int .i64 0,.slice none 0 0,.slice none 0 0,.bool false,.slice none 0 0,.bool false],[]⟩).memory Tryz.f3.params.toList Rows.blocksOrbitalsSpec.vars false (#[.int .i64 0,.slice none 0 0,.slice none 0 0,.bool false,.slice none 0 0,.bool false]:Array Value).toList 8=some ([.lit (.int .i64 0),.nil,.nil,.lit (.bool false),.nil,.lit (.bool false)],[],places):=
  ⟨[],by kernel_rfl⟩
theorem aOj (os:Os)(started:os.Started)(H:Type)(enc:TypeId×Value->H)(F:Stop.Interp):
    ReturnsInHanded {} Tryz.checked os 3 .any ((OpenSpec.ofChange Rows.blocksOrbitalsSpec).preRow enc Tryz.prog Tryz.f3 Rows.blocksOrbitalsRow.domain false Rows.blocksOrbitalsRow.laid) (((OpenSpec.ofChange Rows.blocksOrbitalsSpec).at F).post enc Tryz.prog Tryz.f3 false true false false):=by
  obtain⟨places,hx⟩:=aJu os enc
  refine returnsInHanded_of_row (C:=Tryz.checked) (s:=OpenSpec.ofChange Rows.blocksOrbitalsSpec) Fr.own started (by kernel_rfl) Tryz.func3
    (witness_row_at (enc:=enc) (C:=Tryz.checked) false (Fr.yA os) #[.int .i64 0,.slice none 0 0,.slice none 0 0,.bool false,.slice none 0 0,.bool false] rfl (by kernel_rfl) (by kernel_rfl) (by kernel_rfl)
      (OpenSpec.preRow_of_cond 8 hx (by kernel_rfl) (λk hk=>by cases hk) (by kernel_rfl) (aJt os))) ?_
  intro W base args ds gs before hval hW _ _ _ hL _ _;exact aAA H enc W base args ds gs before hval hW hL
set_option maxHeartbeats 0 in
theorem aOk:joinedFacts Tryz.pinned.checked.prog 3 Tryz.f3 (OpenSpec.ofChange Rows.blocksOrbitalsSpec).bare Rows.blocksOrbitalsRow=true:=by
 unfold joinedFacts
 repeat' (with_reducible apply Fr.aPV)
 all_goals(as_aux_lemma=>kernel_rfl)
theorem aPU:Rows.BlocksOrbitalsSaid:=
  OpenClaim.holds_of_cond 3 Tryz.f3 rfl rfl rfl rfl rfl rfl rfl ⟨rfl,rfl,rfl,rfl,rfl⟩ rfl rfl rfl rfl rfl (by as_aux_lemma=>kernel_rfl) Tryz.func3 aOk
    (dQ (by kernel_rfl)) (by unfold Func.isWrapper;first|(rw[aQ (by decide+kernel)];kernel_rfl)|(rw[aJ (by decide+kernel)];exact⟨rfl,rfl⟩))
    (λos started H enc _ F=>by rw[OpenClaim.pre_eq_preRow];exact aOj os started H enc F)
theorem pG (f:FuncId)(fn:Func)(hf:Tryz.pinned.checked.prog.funcNamed "sosopt/sosoptlaw19.BlocksOrbitals" =some f)(hfn:Tryz.pinned.checked.prog.funcs[f]?=some fn):
    false=Tryz.pinned.checked.prog.looks []/\∀(j:Nat) t,fn.params[j]?=some t->Tryz.pinned.checked.prog.wantsStandIn t=false:=by
  obtain rfl:f=3:=Option.some.inj ((show Tryz.prog.funcNamed "sosopt/sosoptlaw19.BlocksOrbitals" =some 3 by kernel_rfl).symm.trans hf) |>.symm;obtain rfl:fn=Tryz.f3:=(Option.some.inj (Tryz.func3.symm.trans hfn)).symm;refine⟨by kernel_rfl,fun j t ht=>?_⟩;rw[Tryz.params3]at ht;have ht:=Array.mem_of_getElem? ht;simp only[List.mem_toArray,bA,eH,iC]at ht
  rcases ht with rfl|rfl|rfl|rfl|rfl|rfl
  ·exact(show Tryz.prog.wantsStandIn 3=false by kernel_rfl)
  ·exact(show Tryz.prog.wantsStandIn 22=false by kernel_rfl)
  ·exact(show Tryz.prog.wantsStandIn 22=false by kernel_rfl)
  ·exact(show Tryz.prog.wantsStandIn 4=false by kernel_rfl)
  ·exact(show Tryz.prog.wantsStandIn 23=false by kernel_rfl)
  exact(show Tryz.prog.wantsStandIn 4=false by kernel_rfl)
theorem card:Rows.BlocksOrbitalsCardSaid:=
  Claim7.holds_tied_plain_at .later [] _ _ _ _ aPU (λ_ h=>by cases h) (by kernel_rfl) (λ_ h=>by cases h) blocksOrbitals_row_tie rfl ⟨rfl,rfl⟩ (by kernel_rfl) rfl pG (by kernel_rfl)
end Go.Proofs.YtabdoikbodjidaaGreatDoor.blocksOrbitals
