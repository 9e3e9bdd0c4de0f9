import Derived.Test.YtdhnndleffachaaGreatDoorRows
import Derived.Test.YtdhnndleffachaaGreatDoorCards
import Derived.Test.YtdhnndleffachaaGreatDoorTie
import Derived.OpenShut
import Derived.ProofKit
import Derived.SevenTiedAt
import Derived.LaidLaws
import Derived.Test.YtdhnndleffachaaGreatDoorP08
import Derived.Test.YtdhnndleffachaaGreatDoorP03
import Derived.Test.YtdhnndleffachaaGreatDoorP02
set_option linter.all false
set_option maxHeartbeats 1000000
namespace Go.Proofs.YtdhnndleffachaaGreatDoor
open Go Go.ChangeShapes Go.WideShapes Go.ChangeAt Go.RowKit
open Go.AI (Bx JT oy bK laidV_of lain_heap1 law_read post_of_read Kept aggT tyOf)
theorem Tryz.laidOut:laidOutB Tryz.prog=true:=by kernel_rfl
theorem Tryz.own:ownKnob Tryz.prog.godebug=none:=by kernel_rfl
theorem acE:Tryz.prog.globalNamed "turnery/code.ways" =some 0:=by kernel_rfl
theorem afu:(Tryz.prog.globals[0]?).map (·.type)=some 241:=by kernel_rfl
theorem abj:Tryz.prog.cellsOf 241=4:=by kernel_rfl
theorem adP:Tryz.prog.cellsOf 3=1:=by kernel_rfl
theorem yR{H:Type}{enc:TypeId×Value->H}{P:Program}{w:World}{base:Nat}{sp:Nat->Bool}{held:Bool}{fuel:Nat}{t:TypeId}{k:IntKind}{c:Value}{y:DataW H×List MemPlace}(ht:P.underlying t=some (.int k))(h:DataW.trod enc P w base sp held fuel t [c]=some y):∃n,c=.int k n/\y=(.lit (.int k n),[]):=by
 cases fuel with
 |zero=>simp[DataW.trod] at h
 |succ fuel=>
  cases c<;>simp[DataW.trod,ht] at h;rename_i k' n;obtain⟨⟨rfl,_⟩,rfl⟩:=h;exact⟨n,rfl,rfl⟩
theorem Pd{W:World}(h:laidMet Tryz.prog [("turnery/code.ways",Rows.laid_turnery_code_ways)] W):W.var? Tryz.prog "turnery/code.ways" =some ⟨ways⟩:=by
 obtain⟨ps,⟨g,t,cs,fuel,p,q,hg,ht,aC6,hd,_,_⟩,_⟩:=h;obtain rfl:=Option.some.inj (acE.symm.trans hg);obtain rfl:=Option.some.inj (afu.symm.trans ht);rw[aC6];congr 1;obtain⟨l⟩:=cs;cases fuel with
 |zero=>simp[DataW.trod] at hd
 |succ fuel=>
  simp only[DataW.trod,Tryz.underlying241,abj,adP] at hd;split at hd
  .rename_i hl;obtain⟨c0,c1,c2,c3,rfl⟩:∃c0 c1 c2 c3,l=[c0,c1,c2,c3]:=by
    match l,hl with
    |[a,b,c,d],_=>exact⟨a,b,c,d,rfl⟩
   have e:List.range 4=[0,1,2,3]:=rfl;rw[e] at hd;simp only[Option.map_eq_some_iff,List.mapM_cons,List.mapM_nil,Option.bind_eq_bind,JT,Option.pure_def,oy] at hd;obtain⟨xs,⟨y0,h0,_,⟨y1,h1,_,⟨y2,h2,_,⟨y3,h3,_,rfl,rfl⟩,rfl⟩,rfl⟩,rfl⟩,hx⟩:=hd;obtain⟨n0,rfl,rfl⟩:=yR Tryz.underlying3 h0;obtain⟨n1,rfl,rfl⟩:=yR Tryz.underlying3 h1;obtain⟨n2,rfl,rfl⟩:=yR Tryz.underlying3 h2;obtain⟨n3,rfl,rfl⟩:=yR Tryz.underlying3 h3;simp[Rows.laid_turnery_code_ways] at hx;obtain⟨⟨rfl,rfl,rfl,rfl⟩,_⟩:=hx;rfl
  cases hd
theorem S8{W:World}(h:laidMetH Tryz.prog Rows.sparseSaysRow.laid W):∃el fr,W.heap[0]?=some (.cells ⟨ways⟩ el fr):=by
 have h':laidMet Tryz.prog [("turnery/code.ways",Rows.laid_turnery_code_ways)] W:=h;have hv:=Pd h';unfold World.var? at hv;rw[acE] at hv;simp only[Option.bind_some] at hv;split at hv
 rename_i cs el fr hh;cases hv;exact⟨el,fr,hh⟩;cases hv
noncomputable def Jg(os:Os):World:=
 {World.holding Tryz.prog os ⟨#[],#[],[]⟩ with heap:=(World.holding Tryz.prog os ⟨#[],#[],[]⟩).heap.modify 0 fun
   |.cells _ t frozen=>.cells ⟨ways⟩ t frozen
   |o=>o}
theorem EP(os:Os):((Jg os).forCall (fun _ _=>0) ⟨#[],#[.agg #[.slice none 0 0,.slice none 0 0]],[]⟩).memory.heap[0]?=some (.cells ⟨ways⟩ 241 (0,0)):=by kernel_rfl
set_option maxRecDepth 100000 in
theorem Py(os:Os):laidMetH Tryz.prog Rows.sparseSaysRow.laid ((Jg os).forCall (fun _ _=>0) ⟨#[],#[.agg #[.slice none 0 0,.slice none 0 0]],[]⟩).memory:=by
 show laidMet Tryz.prog [("turnery/code.ways",Rows.laid_turnery_code_ways)] _;refine⟨_,⟨0,241,⟨ways⟩,8,[],[],by kernel_rfl,by kernel_rfl,by kernel_rfl,by kernel_rfl,rfl,rfl⟩,by decide,fun b off h=>?_⟩;have h':MemPlace.cell b off∈[MemPlace.cell 0 0,.cell 0 1,.cell 0 2,.cell 0 3]:=h;have hb:b=0:=by simp at h';omega
 subst hb;refine⟨⟨_,_,EP os⟩,fun u v hc=>?_⟩;simp only[World.cell?,EP os] at hc;simp at h';rcases h' with rfl|rfl|rfl|rfl<;>simp[ways] at hc
theorem ame:tyOf Tryz.prog 12 25=some Jz:=by kernel_rfl
theorem ajd:aggT Tryz.prog 25=true:=by kernel_rfl
set_option maxRecDepth 100000 in
theorem ahW{H:Type}{enc:TypeId×Value->H}{W:World}{base:Nat}{v:Value}{d:DataW H}{ps:List MemPlace}(hW:∃el fr,W.heap[0]?=some (.cells ⟨ways⟩ el fr))(Jc:Value.okWide Tryz.prog W .any base 25 v)(h0:DataW.Trod enc Tryz.prog W 0 (fun _=>true) true 25 v d ps)(hwt:∀n∈d.weights Tryz.prog 25,n<=reachBytes):
  Calls Tryz.prog 7 ⟨[v]⟩ W (fun e W'=>e=.returned (.bool true)/\Kept W W'):=by
 have eV:∃(k:Nat) (gm:Array Value) (el:TypeId) (fr:Nat×Nat),W.heap[k]?=some (.cells gm el fr):=by obtain⟨el,fr,h⟩:=hW;exact⟨0,_,el,fr,h⟩
 obtain⟨ρ',h',acs,y,l,g,L,vr,r,b,co⟩:=laidV_of (k:=some 140737488351232) (f:=AI.jc (AI.uk Tryz.prog) 1 (AI.fY (AI.uk Tryz.prog) 1)) ame Jc h0 (fun K hK n hn=>by cases hK;exact hwt n hn) (lain_heap1 (a:=ways) (by simp[ways,AI.dw]) hW) eV;obtain⟨G,F,rfl,hu⟩:=aiJ r;obtain⟨s1,sm⟩:=agj b;rw[ajd] at vr;have anb:IC h':=⟨true,0,0,g.get (AI.lain_heap1 (f:=AI.jc (AI.uk Tryz.prog) 1 (AI.fY (AI.uk Tryz.prog) 1)) (a:=ways) (by simp[ways,AI.dw]) hW).ok (by simp[AI.Qw,AI.Tr.get]) (fun h=>h)⟩;refine law_read ase (AI.XE _) (KQ L.ok L.cl (by obtain⟨_,_,_,q⟩:=anb;exact Nat.lt_of_le_of_lt (Nat.zero_le _) (L.ok.wf _ _ q)) anb hu s1 sm ⟨co _ (by simp),co _ (by simp)⟩) L.Yk ?_ (.cons vr .nil) L.ro;intro k hk;have:k=0:=by omega
 subst this;exact⟨_,l 0 _ (bK rfl),rfl,rfl⟩
set_option maxRecDepth 100000 in
theorem Ib(os:Os)(started:os.Started)(H:Type)(enc:TypeId×Value->H):
  ReturnsInHanded {} Tryz.checked os 7 .any (fun w args=>(Rows.sparseSaysSpec.pre enc Tryz.prog Tryz.f7 [] false w args/\laidMetH Tryz.prog Rows.sparseSaysRow.laid w)/\sizedMet enc Tryz.prog Tryz.f7 (OpenSpec.ofChange Rows.sparseSaysSpec) false w args)
   (Rows.sparseSaysSpec.post enc Tryz.prog Tryz.f7 false true false false):=by
 refine returnsInHanded_of_change_and (C:=Tryz.checked) (X:=fun w _=>laidMetH Tryz.prog Rows.sparseSaysRow.laid w) (fun _ _ _ hh h=>h.of_heap hh) Tryz.own started (by kernel_rfl) Tryz.func7
  (ChangeSpec.witness_at (enc:=enc) (C:=Tryz.checked) (os:=os) (X:=fun w _=>laidMetH Tryz.prog Rows.sparseSaysRow.laid w) false (Jg os) #[.agg #[.slice none 0 0,.slice none 0 0]] 12 rfl (by kernel_rfl) (by kernel_rfl) (by kernel_rfl) (by kernel_rfl) (by kernel_rfl) (Py os)) ?_
 intro W base args ds gs before avs hW _ yO hL _;have Jc:∀(j:Nat) t v,Tryz.f7.params[j]?=some t->args[j]?=some v->Value.okWide Tryz.prog W .any base t v:=avs;have hW':=hW;obtain⟨p,q,hA0,hV0,rfl,hfz,Ta⟩:=hW;have hA:DataW.TrodAll enc Tryz.prog W 0 (fun _=>true) true Tryz.f7.params.toList args.toList ds p:=hA0;have hV:DataW.TrodVars enc Tryz.prog W (fun _=>true) [] gs q:=hV0;rw[Tryz.params7] at hA Jc;obtain⟨v0,d0,rfl,rfl,h0⟩:=trodAll_one hA;obtain⟨rfl,rfl⟩:=trodVars_none hV;have hwt:∀n∈d0.weights Tryz.prog 25,n<=reachBytes:=by
  intro n hn;have h1:(DataW.weightsEach Tryz.prog (Tryz.f7.params.toList++[]) ([d0]++[])).all (· <=reachBytes)=true:=yO;rw[Tryz.params7] at h1;rw[List.all_eq_true] at h1;have h2:=h1 n (by show n∈DataW.weightsEach Tryz.prog [25] [d0];rw[DataW.weightsEach];exact List.mem_append_left _ hn)
  simpa using h2
 refine(ahW (S8 hL) (Jc 0 25 v0 rfl rfl) h0 hwt).mono fun e W' ⟨he,hk⟩=>?_;subst he;have iK:∀x∈p,x.block<W.heap.size:=fun x hx=>hW'.lt x (by simpa using hx);exact⟨_,rfl,post_of_read hW' (fun _ _ _=>trodAll_mk1 (shut_bool Tryz.underlying4 true))
  (fun sp hsp=>by have:=trodAll_mk1 (WideElems.Trod_stays (sp':=sp) Tryz.laidOut (by kernel_rfl) (of_decide_eq_true (by kernel_rfl)) h0 (fun x hx=>hk.sameAt (iK x hx)) (fun x hx=>hsp x (by simpa using hx)));show DataW.TrodAll enc Tryz.prog W' 0 sp true [25] [v0] [d0] (p++[]);rw[Bx];exact this)
  (fun _ _=>rfl) hk (ok_one (by kernel_rfl) rfl (okWide_bool_mk Tryz.underlying4 true))⟩
end Go.Proofs.YtdhnndleffachaaGreatDoor
