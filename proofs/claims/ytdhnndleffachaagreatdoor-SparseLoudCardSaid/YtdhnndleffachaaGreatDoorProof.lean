/- For every unit the law SparseLoud returns true, and what stood in memory stands as it stood; the variable turnery/code.ways holds what the program's text lays. -/
import Derived.Test.YtdhnndleffachaaGreatDoorRows
import Derived.Test.YtdhnndleffachaaGreatDoorCards
import Derived.Test.YtdhnndleffachaaGreatDoorTie
import Derived.OpenShut
import Derived.ProofKit
import Derived.SevenTiedAt
import Derived.LaidLaws
import Derived.Test.YtdhnndleffachaaGreatDoorP10
import Derived.Test.YtdhnndleffachaaGreatDoorP04
set_option linter.all false
namespace Go.Proofs.YtdhnndleffachaaGreatDoor
open Go Go.ChangeShapes Go.WideShapes Go.ChangeAt Go.RowKit
open Go.AI (kl aU aT Ty rep SliceR LaidV laidV_of lain_heap1 law_read post_of_read Kept aggT tyOf WB)
theorem Tryz.laidOut:laidOutB Tryz.prog=true:=by kernel_rfl
theorem Tryz.own:ownKnob Tryz.prog.godebug=none:=by kernel_rfl
theorem Qu:Tryz.prog.globalNamed "turnery/code.ways" =some 0:=by kernel_rfl
theorem S9:(Tryz.prog.globals[0]?).map (·.type)=some 241:=by kernel_rfl
theorem Pc:Tryz.prog.cellsOf 241=4:=by kernel_rfl
theorem Rr:Tryz.prog.cellsOf 3=1:=by kernel_rfl
theorem sK {H:Type} {enc:TypeId×Value->H} {P:Program} {w:World} {base:Nat} {sp:Nat->Bool} {held:Bool} {fuel:Nat} {t:TypeId} {k:IntKind} {c:Value} {y:DataW H×List MemPlace}
  (ht:P.underlying t=some (.int k)) (h:DataW.trod enc P w base sp held fuel t [c]=some y): ∃n,c= .int k n/\y=(.lit (.int k n),[]):=by
 cases fuel with
 |zero=>simp[DataW.trod] at h
 |succ fuel=>
  cases c<;>simp[DataW.trod,ht] at h;rename_i k' n;obtain⟨⟨rfl,_⟩,rfl⟩:=h;exact⟨n,rfl,rfl⟩
theorem FT {W:World} (h:laidMet Tryz.prog [("turnery/code.ways",Rows.laid_turnery_code_ways)] W):W.var? Tryz.prog "turnery/code.ways" =some ⟨ways⟩:=by
 obtain⟨ps,⟨g,t,cs,fuel,p,q,hg,ht,aoc,hd,_,_⟩,_⟩:=h;obtain rfl:=Option.some.inj (Qu.symm.trans hg);obtain rfl:=Option.some.inj (S9.symm.trans ht);rw[aoc];congr 1;obtain⟨l⟩:=cs;cases fuel with
 |zero=>simp[DataW.trod] at hd
 |succ fuel=>
  simp only[DataW.trod,Tryz.underlying241,Pc,Rr] at hd;split at hd
  .rename_i hl;obtain⟨c0,c1,c2,c3,rfl⟩: ∃c0 c1 c2 c3,l=[c0,c1,c2,c3]:=by
    match l,hl with
    |[a,b,c,d],_=>exact⟨a,b,c,d,rfl⟩
   have e:List.range 4=[0,1,2,3]:=rfl;rw[e] at hd;simp only[Option.map_eq_some_iff,List.mapM_cons,List.mapM_nil,Option.bind_eq_bind,Option.bind_eq_some_iff,Option.pure_def,kl] at hd;obtain⟨xs,⟨y0,h0,_,⟨y1,h1,_,⟨y2,h2,_,⟨y3,h3,_,rfl,rfl⟩,rfl⟩,rfl⟩,rfl⟩,hx⟩:=hd;obtain⟨n0,rfl,rfl⟩:=sK Tryz.underlying3 h0;obtain⟨n1,rfl,rfl⟩:=sK Tryz.underlying3 h1;obtain⟨n2,rfl,rfl⟩:=sK Tryz.underlying3 h2;obtain⟨n3,rfl,rfl⟩:=sK Tryz.underlying3 h3;simp[Rows.laid_turnery_code_ways] at hx;obtain⟨⟨rfl,rfl,rfl,rfl⟩,_⟩:=hx;rfl
  .cases hd
theorem IT {W:World} (h:laidMetH Tryz.prog Rows.sparseLoudRow.laid W): ∃el fr,W.heap[0]? =some (.cells ⟨ways⟩ el fr):=by
 have h':laidMet Tryz.prog [("turnery/code.ways",Rows.laid_turnery_code_ways)] W:=h;have hv:=FT h';unfold World.var? at hv;rw[Qu] at hv;simp only[Option.bind_some] at hv;split at hv
 .rename_i cs el fr hh;cases hv;exact⟨el,fr,hh⟩
 .cases hv
noncomputable def Bu (os:Os):World:=
 { World.holding Tryz.prog os ⟨#[],#[],[]⟩ with heap:=(World.holding Tryz.prog os ⟨#[],#[],[]⟩).heap.modify 0 fun
   | .cells _ t frozen=> .cells ⟨ways⟩ t frozen
   |o=>o }
theorem yq (os:Os):((Bu os).forCall (fun _ _=>0) ⟨#[],#[.agg #[.slice none 0 0,.slice none 0 0]],[]⟩).memory.heap[0]? =some (.cells ⟨ways⟩ 241 (0,0)):=by kernel_rfl
set_option maxRecDepth 100000 in
theorem Gi (os:Os):laidMetH Tryz.prog Rows.sparseLoudRow.laid ((Bu os).forCall (fun _ _=>0) ⟨#[],#[.agg #[.slice none 0 0,.slice none 0 0]],[]⟩).memory:=by
 show laidMet Tryz.prog [("turnery/code.ways",Rows.laid_turnery_code_ways)] _;refine⟨_,⟨0,241,⟨ways⟩,8,[],[],by kernel_rfl,by kernel_rfl,by kernel_rfl,by kernel_rfl,rfl,rfl⟩,by decide,fun b off h=> ?_⟩;have h':MemPlace.cell b off∈[MemPlace.cell 0 0,.cell 0 1,.cell 0 2,.cell 0 3]:=h;have hb:b=0:=by simp at h';omega
 subst hb;refine⟨⟨_,_,yq os⟩,fun u v hc=> ?_⟩;simp only[World.cell?,yq os] at hc;simp at h';rcases h' with rfl|rfl|rfl|rfl<;>simp[ways] at hc
theorem Z9:tyOf Tryz.prog 12 25=some BE:=by kernel_rfl
theorem Xu:aggT Tryz.prog 25=true:=by kernel_rfl
set_option maxRecDepth 100000 in
theorem VT {H:Type} {enc:TypeId×Value->H} {W:World} {base:Nat} {v:Value} {d:DataW H} {ps:List MemPlace} (hW: ∃el fr,W.heap[0]? =some (.cells ⟨ways⟩ el fr)) (Bs:Value.okWide Tryz.prog W .any base 25 v) (h0:DataW.Trod enc Tryz.prog W 0 (fun _=>true) true 25 v d ps) (hwt: ∀n∈d.weights Tryz.prog 25,n<=reachBytes):
  Calls Tryz.prog 8 ⟨[v]⟩ W (fun e W'=>e= .returned (.bool true)/\Kept W W'):=by
 have cJ: ∃(k:Nat) (ez:Array Value) (el:TypeId) (fr:Nat×Nat),W.heap[k]? =some (.cells ez el fr):=by obtain⟨el,fr,h⟩:=hW;exact⟨0,_,el,fr,h⟩
 obtain⟨ρ',h',acs,y,l,g,L,vr,r,b⟩:=laidV_of (k:=some 140737488351232) (CC:=AI.fS (AI.rK Tryz.prog) 1 (AI.dZ (AI.rK Tryz.prog) 1)) Z9 Bs h0 (fun K hK n hn=>by cases hK;exact hwt n hn) (lain_heap1 (cs:=ways) (by simp[ways,AI.bK]) hW) cJ;obtain⟨G,F,rfl,hu⟩:=WS r;obtain⟨s1,sm⟩:=Uc b;rw[Xu] at vr;have ahQ:CA h':=⟨true,0,0,g.get (AI.lain_heap1 (CC:=AI.fS (AI.rK Tryz.prog) 1 (AI.dZ (AI.rK Tryz.prog) 1)) (cs:=ways) (by simp[ways,AI.bK]) hW).ok (by simp[AI.GY,AI.Tr.get]) (fun h=>h)⟩;refine law_read ae_ (AI.Mg _) (CV L.ok ahQ hu s1 sm) L.Qp ?_ (.cons vr .nil) L.ro;intro k hk;have:k=0:=by omega
 subst this;exact⟨_,l 0 _ (aU rfl),rfl,rfl⟩
set_option maxRecDepth 100000 in
theorem AJ (os:Os) (started:os.Started) (H:Type) (enc:TypeId×Value->H):
  ReturnsInHanded {} Tryz.checked os 8 .any (fun w args=>(Rows.sparseLoudSpec.pre enc Tryz.prog Tryz.f8 [] false w args/\laidMetH Tryz.prog Rows.sparseLoudRow.laid w)/\sizedMet enc Tryz.prog Tryz.f8 (OpenSpec.ofChange Rows.sparseLoudSpec) false w args)
   (Rows.sparseLoudSpec.post enc Tryz.prog Tryz.f8 false true false false):=by
 refine returnsInHanded_of_change_and (C:=Tryz.checked) (X:=fun w _=>laidMetH Tryz.prog Rows.sparseLoudRow.laid w) (fun _ _ _ hh h=>h.of_heap hh) Tryz.own started (by kernel_rfl) Tryz.func8
  (ChangeSpec.witness_at (enc:=enc) (C:=Tryz.checked) (os:=os) (X:=fun w _=>laidMetH Tryz.prog Rows.sparseLoudRow.laid w) false (Bu os) #[.agg #[.slice none 0 0,.slice none 0 0]] 12 rfl (by kernel_rfl) (by kernel_rfl) (by kernel_rfl) (by kernel_rfl) (by kernel_rfl) (Gi os)) ?_
 intro W base args ds gs before ahM hW _ p_ hL _;have Bs: ∀(j:Nat) t v,Tryz.f8.params[j]? =some t->args[j]? =some v->Value.okWide Tryz.prog W .any base t v:=ahM;have hW':=hW;obtain⟨p,q,hA0,hV0,rfl,hfz,Tm⟩:=hW;have hA:DataW.TrodAll enc Tryz.prog W 0 (fun _=>true) true Tryz.f8.params.toList args.toList ds p:=hA0;have hV:DataW.TrodVars enc Tryz.prog W (fun _=>true) [] gs q:=hV0;rw[Tryz.params8] at hA Bs;obtain⟨v0,d0,rfl,rfl,h0⟩:=trodAll_one hA;obtain⟨rfl,rfl⟩:=trodVars_none hV;have hwt: ∀n∈d0.weights Tryz.prog 25,n<=reachBytes:=by
  intro n hn;have h1:(DataW.weightsEach Tryz.prog (Tryz.f8.params.toList++[]) ([d0]++[])).all (· <=reachBytes)=true:=p_;rw[Tryz.params8] at h1;rw[List.all_eq_true] at h1;have h2:=h1 n (by show n∈DataW.weightsEach Tryz.prog [25] [d0];rw[DataW.weightsEach];exact List.mem_append_left _ hn)
  simpa using h2
 refine(VT (IT hL) (Bs 0 25 v0 rfl rfl) h0 hwt).mono fun e W' ⟨he,hk⟩=> ?_;subst he;have ef: ∀x∈p,x.block<W.heap.size:=fun x hx=>hW'.lt x (by simpa using hx);exact⟨_,rfl,post_of_read hW' (fun _ _ _=>trodAll_mk1 (shut_bool Tryz.underlying4 true))
  (fun sp Zf=>by have:=trodAll_mk1 (WideElems.Trod_stays (sp':=sp) Tryz.laidOut (by kernel_rfl) (of_decide_eq_true (by kernel_rfl)) h0 (fun x hx=>hk.sameAt (ef x hx)) (fun x hx=>Zf x (by simpa using hx)));show DataW.TrodAll enc Tryz.prog W' 0 sp true [25] [v0] [d0] (p++[]);rw[List.append_nil];exact this)
  (fun _ _=>rfl) hk (ok_one (by kernel_rfl) rfl (okWide_bool_mk Tryz.underlying4 true))⟩
theorem BB:Rows.SparseLoudSaid:=
 OpenClaim.holds_of_wide 8 Tryz.f8 rfl rfl rfl rfl rfl rfl rfl ⟨rfl,rfl,rfl,rfl,rfl⟩ rfl rfl rfl rfl rfl (by kernel_rfl) Tryz.func8 (by kernel_rfl)
  (of_decide_eq_true (by kernel_rfl)) (by unfold Func.isWrapper;rw[aT (of_decide_eq_false (by kernel_rfl))];exact⟨rfl,rfl⟩)
  (fun os started H enc _=>AJ os started H enc)
theorem sparseLoud_card:Rows.SparseLoudCardSaid:=
 Claim7.holds_tied_plain_at .later [] [.data] true (true, "cb32942601511fab7ad9fbdee645987344ef58f4d4a0d260ec0b96243efde1ec") false
  BB (fun _ h=>by cases h) (by kernel_rfl) (fun _ h=>by cases h) sparseLoud_row_tie rfl ⟨rfl,rfl⟩ (by kernel_rfl) rfl
  (fun f fn hf PO=>by
   obtain rfl:f=8:=Option.some.inj ((show Tryz.prog.funcNamed "turnery/turnerylaw4.SparseLoud" =some 8 by kernel_rfl).symm.trans hf) |>.symm;obtain rfl:fn=Tryz.f8:=(Option.some.inj (Tryz.func8.symm.trans PO)).symm;exact⟨by kernel_rfl,fun j t ht=>by
    rw[Tryz.params8] at ht;rcases j with _|j
    .obtain rfl:t=25:=by simpa using ht.symm
     exact(show Tryz.prog.wantsStandIn 25=false by kernel_rfl)
    .simp at ht⟩)
  (by kernel_rfl)
#print axioms sparseLoud_card
end Go.Proofs.YtdhnndleffachaaGreatDoor
