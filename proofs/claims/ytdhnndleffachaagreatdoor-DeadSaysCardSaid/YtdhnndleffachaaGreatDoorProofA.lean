import Derived.Test.YtdhnndleffachaaGreatDoorRows
import Derived.Test.YtdhnndleffachaaGreatDoorCards
import Derived.Test.YtdhnndleffachaaGreatDoorTie
import Derived.OpenShut
import Derived.ProofKit
import Derived.SevenTiedAt
import Derived.LaidLaws
import Derived.Test.YtdhnndleffachaaGreatDoorP08
import Derived.Test.YtdhnndleffachaaGreatDoorP03
import Derived.Test.YtdhnndleffachaaGreatDoorP02
set_option linter.all false
set_option maxHeartbeats 1000000
namespace Go.Proofs.YtdhnndleffachaaGreatDoor
open Go Go.ChangeShapes Go.WideShapes Go.ChangeAt Go.RowKit
open Go.AI (Bc Ev mL bM laidV_of lain_heap1 law_read post_of_read Kept aggT tyOf)
theorem Tryz.laidOut:laidOutB Tryz.prog=true:=by kernel_rfl
theorem Tryz.own:ownKnob Tryz.prog.godebug=none:=by kernel_rfl
theorem W8:Tryz.prog.globalNamed "turnery/code.ways" =some 0:=by kernel_rfl
theorem Z3:(Tryz.prog.globals[0]?).map (·.type)=some 241:=by kernel_rfl
theorem VA:Tryz.prog.cellsOf 241=4:=by kernel_rfl
theorem Yo:Tryz.prog.cellsOf 3=1:=by kernel_rfl
theorem vB{H:Type}{enc:TypeId×Value->H}{P:Program}{w:World}{base:Nat}{sp:Nat->Bool}{held:Bool}{fuel:Nat}{t:TypeId}{k:IntKind}{c:Value}{y:DataW H×List MemPlace}(ht:P.underlying t=some (.int k))(h:DataW.trod enc P w base sp held fuel t [c]=some y):∃n,c=.int k n/\y=(.lit (.int k n),[]):=by
 cases fuel with
 |zero=>simp[DataW.trod] at h
 |succ fuel=>
  cases c<;>simp[DataW.trod,ht] at h;rename_i k' n;obtain⟨⟨rfl,_⟩,rfl⟩:=h;exact⟨n,rfl,rfl⟩
theorem KE{W:World}(h:laidMet Tryz.prog [("turnery/code.ways",Rows.laid_turnery_code_ways)] W):W.var? Tryz.prog "turnery/code.ways" =some ⟨ways⟩:=by
 obtain⟨ps,⟨g,t,cs,fuel,p,q,hg,ht,awp,hd,_,_⟩,_⟩:=h;obtain rfl:=Option.some.inj (W8.symm.trans hg);obtain rfl:=Option.some.inj (Z3.symm.trans ht);rw[awp];congr 1;obtain⟨l⟩:=cs;cases fuel with
 |zero=>simp[DataW.trod] at hd
 |succ fuel=>
  simp only[DataW.trod,Tryz.underlying241,VA,Yo] at hd;split at hd
  .rename_i hl;obtain⟨c0,c1,c2,c3,rfl⟩:∃c0 c1 c2 c3,l=[c0,c1,c2,c3]:=by
    match l,hl with
    |[a,b,c,d],_=>exact⟨a,b,c,d,rfl⟩
   have e:List.range 4=[0,1,2,3]:=rfl;rw[e] at hd;simp only[Option.map_eq_some_iff,List.mapM_cons,List.mapM_nil,Option.bind_eq_bind,Ev,Option.pure_def,mL] at hd;obtain⟨xs,⟨y0,h0,_,⟨y1,h1,_,⟨y2,h2,_,⟨y3,h3,_,rfl,rfl⟩,rfl⟩,rfl⟩,rfl⟩,hx⟩:=hd;obtain⟨n0,rfl,rfl⟩:=vB Tryz.underlying3 h0;obtain⟨n1,rfl,rfl⟩:=vB Tryz.underlying3 h1;obtain⟨n2,rfl,rfl⟩:=vB Tryz.underlying3 h2;obtain⟨n3,rfl,rfl⟩:=vB Tryz.underlying3 h3;simp[Rows.laid_turnery_code_ways] at hx;obtain⟨⟨rfl,rfl,rfl,rfl⟩,_⟩:=hx;rfl
  cases hd
theorem Od{W:World}(h:laidMetH Tryz.prog Rows.deadSaysRow.laid W):∃el fr,W.heap[0]?=some (.cells ⟨ways⟩ el fr):=by
 have h':laidMet Tryz.prog [("turnery/code.ways",Rows.laid_turnery_code_ways)] W:=h;have hv:=KE h';unfold World.var? at hv;rw[W8] at hv;simp only[Option.bind_some] at hv;split at hv
 rename_i cs el fr hh;cases hv;exact⟨el,fr,hh⟩;cases hv
noncomputable def Fm(os:Os):World:=
 {World.holding Tryz.prog os ⟨#[],#[],[]⟩ with heap:=(World.holding Tryz.prog os ⟨#[],#[],[]⟩).heap.modify 0 fun
   |.cells _ t frozen=>.cells ⟨ways⟩ t frozen
   |o=>o}
theorem BJ(os:Os):((Fm os).forCall (fun _ _=>0) ⟨#[],#[.agg #[.slice none 0 0,.slice none 0 0]],[]⟩).memory.heap[0]?=some (.cells ⟨ways⟩ 241 (0,0)):=by kernel_rfl
set_option maxRecDepth 100000 in
theorem K0(os:Os):laidMetH Tryz.prog Rows.deadSaysRow.laid ((Fm os).forCall (fun _ _=>0) ⟨#[],#[.agg #[.slice none 0 0,.slice none 0 0]],[]⟩).memory:=by
 show laidMet Tryz.prog [("turnery/code.ways",Rows.laid_turnery_code_ways)] _;refine⟨_,⟨0,241,⟨ways⟩,8,[],[],by kernel_rfl,by kernel_rfl,by kernel_rfl,by kernel_rfl,rfl,rfl⟩,by decide,fun b off h=>?_⟩;have h':MemPlace.cell b off∈[MemPlace.cell 0 0,.cell 0 1,.cell 0 2,.cell 0 3]:=h;have hb:b=0:=by simp at h';omega
 subst hb;refine⟨⟨_,_,BJ os⟩,fun u v hc=>?_⟩;simp only[World.cell?,BJ os] at hc;simp at h';rcases h' with rfl|rfl|rfl|rfl<;>simp[ways] at hc
theorem ago:tyOf Tryz.prog 12 25=some FE:=by kernel_rfl
theorem adV:aggT Tryz.prog 25=true:=by kernel_rfl
set_option maxRecDepth 100000 in
theorem acE{H:Type}{enc:TypeId×Value->H}{W:World}{base:Nat}{v:Value}{d:DataW H}{ps:List MemPlace}(hW:∃el fr,W.heap[0]?=some (.cells ⟨ways⟩ el fr))(Fj:Value.okWide Tryz.prog W .any base 25 v)(h0:DataW.Trod enc Tryz.prog W 0 (fun _=>true) true 25 v d ps)(hwt:∀n∈d.weights Tryz.prog 25,n<=reachBytes):
  Calls Tryz.prog 3 ⟨[v]⟩ W (fun e W'=>e=.returned (.bool true)/\Kept W W'):=by
 have eQ:∃(k:Nat) (fK:Array Value) (el:TypeId) (fr:Nat×Nat),W.heap[k]?=some (.cells fK el fr):=by obtain⟨el,fr,h⟩:=hW;exact⟨0,_,el,fr,h⟩
 obtain⟨ρ',h',acs,y,l,g,L,vr,r,b,co⟩:=laidV_of (k:=some 140737488351232) (CC:=AI.ik (AI.qV Tryz.prog) 1 (AI.fF (AI.qV Tryz.prog) 1)) ago Fj h0 (fun K hK n hn=>by cases hK;exact hwt n hn) (lain_heap1 (cs:=ways) (by simp[ways,AI.du]) hW) eQ;obtain⟨G,F,rfl,hu⟩:=adq r;obtain⟨s1,sm⟩:=aa1 b;rw[adV] at vr;have ahm:GR h':=⟨true,0,0,g.get (AI.lain_heap1 (CC:=AI.ik (AI.qV Tryz.prog) 1 (AI.fF (AI.qV Tryz.prog) 1)) (cs:=ways) (by simp[ways,AI.du]) hW).ok (by simp[AI.L8,AI.Tr.get]) (fun h=>h)⟩;refine law_read al6 (AI.Sl _) (KI L.ok L.cl (by obtain⟨_,_,_,q⟩:=ahm;exact Nat.lt_of_le_of_lt (Nat.zero_le _) (L.ok.wf _ _ q)) ahm hu s1 sm ⟨co _ (by simp),co _ (by simp)⟩) L.S8 ?_ (.cons vr .nil) L.ro;intro k hk;have:k=0:=by omega
 subst this;exact⟨_,l 0 _ (bM rfl),rfl,rfl⟩
set_option maxRecDepth 100000 in
theorem GZ(os:Os)(started:os.Started)(H:Type)(enc:TypeId×Value->H):
  ReturnsInHanded {} Tryz.checked os 3 .any (fun w args=>(Rows.deadSaysSpec.pre enc Tryz.prog Tryz.f3 [] false w args/\laidMetH Tryz.prog Rows.deadSaysRow.laid w)/\sizedMet enc Tryz.prog Tryz.f3 (OpenSpec.ofChange Rows.deadSaysSpec) false w args)
   (Rows.deadSaysSpec.post enc Tryz.prog Tryz.f3 false true false false):=by
 refine returnsInHanded_of_change_and (C:=Tryz.checked) (X:=fun w _=>laidMetH Tryz.prog Rows.deadSaysRow.laid w) (fun _ _ _ hh h=>h.of_heap hh) Tryz.own started (by kernel_rfl) Tryz.func3
  (ChangeSpec.witness_at (enc:=enc) (C:=Tryz.checked) (os:=os) (X:=fun w _=>laidMetH Tryz.prog Rows.deadSaysRow.laid w) false (Fm os) #[.agg #[.slice none 0 0,.slice none 0 0]] 12 rfl (by kernel_rfl) (by kernel_rfl) (by kernel_rfl) (by kernel_rfl) (by kernel_rfl) (K0 os)) ?_
 intro W base args ds gs before aoS hW _ vy hL _;have Fj:∀(j:Nat) t v,Tryz.f3.params[j]?=some t->args[j]?=some v->Value.okWide Tryz.prog W .any base t v:=aoS;have hW':=hW;obtain⟨p,q,hA0,hV0,rfl,hfz,QI⟩:=hW;have hA:DataW.TrodAll enc Tryz.prog W 0 (fun _=>true) true Tryz.f3.params.toList args.toList ds p:=hA0;have hV:DataW.TrodVars enc Tryz.prog W (fun _=>true) [] gs q:=hV0;rw[Tryz.params3] at hA Fj;obtain⟨v0,d0,rfl,rfl,h0⟩:=trodAll_one hA;obtain⟨rfl,rfl⟩:=trodVars_none hV;have hwt:∀n∈d0.weights Tryz.prog 25,n<=reachBytes:=by
  intro n hn;have h1:(DataW.weightsEach Tryz.prog (Tryz.f3.params.toList++[]) ([d0]++[])).all (· <=reachBytes)=true:=vy;rw[Tryz.params3] at h1;rw[List.all_eq_true] at h1;have h2:=h1 n (by show n∈DataW.weightsEach Tryz.prog [25] [d0];rw[DataW.weightsEach];exact List.mem_append_left _ hn)
  simpa using h2
 refine(acE (Od hL) (Fj 0 25 v0 rfl rfl) h0 hwt).mono fun e W' ⟨he,hk⟩=>?_;subst he;have gX:∀x∈p,x.block<W.heap.size:=fun x hx=>hW'.lt x (by simpa using hx);exact⟨_,rfl,post_of_read hW' (fun _ _ _=>trodAll_mk1 (shut_bool Tryz.underlying4 true))
  (fun sp hsp=>by have:=trodAll_mk1 (WideElems.Trod_stays (sp':=sp) Tryz.laidOut (by kernel_rfl) (of_decide_eq_true (by kernel_rfl)) h0 (fun x hx=>hk.sameAt (gX x hx)) (fun x hx=>hsp x (by simpa using hx)));show DataW.TrodAll enc Tryz.prog W' 0 sp true [25] [v0] [d0] (p++[]);rw[Bc];exact this)
  (fun _ _=>rfl) hk (ok_one (by kernel_rfl) rfl (okWide_bool_mk Tryz.underlying4 true))⟩
end Go.Proofs.YtdhnndleffachaaGreatDoor
