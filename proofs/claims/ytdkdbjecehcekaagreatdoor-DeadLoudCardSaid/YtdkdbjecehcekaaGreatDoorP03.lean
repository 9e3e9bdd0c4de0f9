/- Parts of the proof. -/
import Derived.Test.YtdkdbjecehcekaaGreatDoorP02
import Derived.Test.YtdkdbjecehcekaaGreatDoorP00
import Derived.Orders
set_option linter.all false
set_option linter.unusedSimpArgs false
set_option linter.unusedVariables false
set_option linter.unnecessarySimpa false
namespace Go.AI
theorem Bj {T:mV} {c:Call} {f:Operand} {args:List Operand} (h:sZ T c= .call f args):c.callee= .value f∧c.args.toList=args:=by
 obtain⟨cal,cargs,ats⟩:=c
 unfold sZ at h
 split at h
 ·rename_i g hg
  injection h with h1 h2
  subst h1;subst h2
  exact⟨hg,rfl⟩
 all_goals (repeat' (first|(cases h;done)|split at h))
theorem y4 {T:mV} {op:Op} {f:Operand} {args:List Operand} (h:bC T op= .call f args): ∃c,op= .call c∧c.callee= .value f∧c.args.toList=args:=by
 cases op with
 |call c=>exact⟨c,rfl,Bj h⟩
 |build t ps=>
  simp only[bC] at h
  split at h
  ·split at h
   ·rename_i fs _
    generalize (fs.toList.all fun f=>(T f.type).isSome)=bb at h
    cases bb<;>simp only[cond_true,cond_false] at h<;>repeat' (first|(cases h;done)|split at h)
   ·repeat' (first|(cases h;done)|split at h)
   ·cases h
  ·cases h
 |buildSlice t n ps=>
  simp only[bC] at h
  repeat' (first|(cases h;done)|split at h)
  rename_i e _
  cases hb:(n*e.size).ble 1000000&&e.zero.length.beq e.size<;>simp only[hb,cond_true,cond_false] at h<;>cases h
 |slice t x lo hi mx=>
  simp only[bC] at h
  repeat' (first|(cases h;done)|split at h)
  cases hb:mx.isSome&&hi.isNone<;>simp only[hb,cond_true,cond_false] at h<;>cases h
 |fieldAddr t x k=>
  simp only[bC] at h
  repeat' (first|(cases h;done)|split at h)
  rename_i fi _
  cases hb:fi.size.beq 0<;>simp only[hb,cond_true,cond_false] at h<;>cases h
 |makeFunc fn first caps=>
  cases fn with
  |func g=>
   simp only[bC] at h
   cases hb:first.isEmpty<;>simp only[hb,cond_true,cond_false] at h<;>cases h
  |_=>simp only[bC] at h;cases h
 |makeMap t r=>cases r<;>(simp only[bC] at h;cases h)
 |next it st=>cases st<;>(simp only[bC] at h;cases h)
 |_=>
  simp only[bC] at h
  repeat' (first|(cases h;done)|split at h)
theorem AP {T:mV} {op:Op} {e:Env} {h:ae} {x:Value×ae} (hv:aZ e h (bC T op)=some x):Op.oQ op=false:=by
 cases op with
 |defer c=>simp[bC,aZ] at hv
 |_=>rfl
section
variable {P:Program} {T:mV} {ng:Nat} {dr:pU} {F:Nat→Option bA} {ih:aj→Env→ae→R}
theorem AT {w:World} {b:Nat} {ccs:Array Value} {el:TypeId} (h:w.heap[b]? =some (.cells ccs el (0,0))) (o:Nat):w.frozen? ⟨b,o,none⟩=false:=by
 simp[World.frozen?,h]
theorem Lt (hT:bQ P T) {f:Nat} (hO:Gn P T f) {CC:bI} {ρ:dp} {h:ae} {w:World} (S:cu CC ρ h w) {args cargs:List Value} (ha:All2 (VR ρ) args cargs)
  (hov: ∃a oa la ca b ob lb cb csa o1 s1 csb o2 s2,args=[.slice (some ⟨a,oa,none⟩) la ca,.slice (some ⟨b,ob,none⟩) lb cb]∧h.tr.get a=some (.aA csa false o1 s1)∧h.tr.get b=some (.aA csb false o2 s2)∧(la=0∨lb=0∨a≠b)):
  (callFunc f ⟨cargs⟩).run P w= .ok (.value (.bool false)) w:=by
 obtain⟨fn,t,el,i,ei,h1,h2,h3,h4,h5,h6,h7,h8,h9⟩:=hO
 obtain⟨a,oa,la,ca,b,ob,lb,cb,csa,o1,s1,csb,o2,s2,rfl,ga,gb,hne⟩:=hov
 match cargs,ha with
 |[x,y],.cons hx (.cons hy .nil)=>
 obtain⟨ra,xa,xc,hra,rfl,hsa⟩:=hx.ef
 obtain⟨rb,ya,yc,hrb,rfl,rD⟩:=hy.ef
 have hut:=(hT t i h7).u
 rw[h8] at hut
 obtain⟨ti,k1,k2,k3,z,k4,k5⟩:=(hT el ei h9).info
 obtain⟨cca,ela,fra,p1,_,_,_,p5,_⟩:=S.obj a ra _ hra ga
 obtain⟨ccb,elb,frb,q1,_,_,_,q5,_⟩:=S.obj b rb _ hrb gb
 have p5:=p5 rfl
 have q5:=q5 rfl
 subst p5;subst q5
 have hn3: ¬(fn.name= "runtime.NumGoroutine"):=by simpa using h3
 have hb:fn.body=none:=by simpa using h2
 have hov:(Extern.SlicesOverlaps.overlaps fn.params fn.resultTypes #[.slice (some xa) la xc,.slice (some ya) lb yc]).run P w= .ok (.bool false) w:=by
  change Sem.run P (α:=Value) (do
   let some t:=fn.params[0]? |stuck "slices.overlaps: no parameter types"
   let .slice elem←underlying t|stuck "slices.overlaps: slice type expected"
   let size←sizeOf elem
   match(some xa:Option Addr),(some ya:Option Addr) with
   |some a,some b=>
    if la=0∨lb=0∨size=0 then pure (Value.bool false)
    else if a.block !=b.block&&(←frozen a)&&(←frozen b) then unsupported .addressObserved
    else do
     if a.block !=b.block then do
      noView a;noView b
      if←mayBeOne a b then return Value.bool ((←choose (.extern "sameAddr.stringBytes" 2))==1)
     pure (Value.bool (a.block==b.block&&a.off<b.off+lb*size&&b.off<a.off+la*size))
   |_,_=>pure (Value.bool false)) w=_
  by_cases h0:la=0∨lb=0∨ei.size=0
  ·simp[h6,run_underlying hut,sizeOf,typeInfo,k1,k2,h0]
  ·have hab:a≠b:=by
    rcases hne with h|h|h
    ·exact absurd (.inl h) h0
    ·exact absurd (.inr (.inl h)) h0
    ·exact h
   have hca:0<xc:=by
    have:=hsa.2.2;have:=hsa.uB
    omega
   have hcb:0<yc:=by
    have:=rD.2.2;have:=rD.uB
    omega
   have hblk:ra.aA≠rb.aA:=S.inj a b ra rb _ hra hrb ⟨_,ga,rfl⟩ gb hab
   have exa:=hsa.addr hca
   have eyb:=rD.addr hcb
   subst exa;subst eyb
   have hnb:(ra.aA !=rb.aA)=true:=by simpa using hblk
   have hnb':(ra.aA==rb.aA)=false:=by simpa using hblk
   have sa:w.shape? ra.aA=some (ela,cca.size):=by simp[World.shape?,p1]
   have sb:w.shape? rb.aA=some (elb,ccb.size):=by simp[World.shape?,q1]
   have fa: ∀o,w.frozen? ⟨ra.aA,o,none⟩=false:=AT p1
   have fb: ∀o,w.frozen? ⟨rb.aA,o,none⟩=false:=AT q1
   simp[h6,run_underlying hut,sizeOf,typeInfo,k1,k2,h0,hnb,hnb',frozen,noView,viewAt,mayBeOne,stringish,shape,Sem.run,sa,sb,fa,fb]
 simp[callFunc,h1,hn3,hb,Go.mark,h4,h5,hov,Sem.run]
theorem wN (hF:zD P T ng dr F) (hT:bQ P T) (hI:qc P T ng dr ih) {fv cfv:Value} {args cargs:List Value} {h h':ae} {v:Value} (hc:cm F ih fv args h=some (v,h'))
  {ρ:dp} {w:World} (S:cu (eY T ng dr) ρ h w) (hG:bJ ng ρ) (hf:VR ρ fv cfv) (ha:All2 (VR ρ) args cargs) {a:Act} {ops:Array Oper} {i:Nat} {rest:List Nat} {o:Oper}
  (ho:ops[i]? =some o) (hw:Region.wanted o (yielded ops a.tmps)=true) {cl:Call} {f:Operand} (hop:o.op= .call cl) (hcal:cl.callee= .value f) (hcf:a.eval f=cfv) (hca:cl.args.toList.map a.eval=cargs)
  (b:Frame) (k:List Item) (cs:List Frame):
  ∃ρ' w' c,Steps P (lone (on b a (.inRegion ops (i::rest)::k)) cs w) (lone (on b (a.put o.dst c) (.inRegion ops rest::k)) cs w')∧VR ρ' v c∧cu (eY T ng dr) ρ' h' w'∧Ext ρ h w ρ' h' w':=by
 obtain⟨cal,args0,ats⟩:=cl
 dsimp only at hcal hca
 subst hcal
 have hnd:Op.oQ o.op=false:=by rw[hop];rfl
 have hfin: ∀c,(on b a (.inRegion ops (i::rest)::k)).finish c=on b (a.put o.dst c) (.inRegion ops rest::k):=by
  intro c
  rw[sE,ho];rfl
 have hmap:args0.map a.eval=⟨cargs⟩:=by
  apply Array.ext';simp[←hca]
 unfold cm at hc
 split at hc
 ·rename_i g first caps
  cases hf with
  |val hf=>cases hf with
   |cell hf=>cases hf with
    |cell hf=>cases hf
    | @fn _ l m hlm=>
     have hargs:All2 (VR ρ) ([]++args++l) (cargs++m):=ha.app (hlm.mono fun _ _ h=>h.vr)
     rcases zf hc with hc|⟨af,haf,hprim,hc⟩
     rotate_left 1
     ·
      have hFf:=hF g af haf
      rw[hprim] at hFf
      obtain⟨rfl,rfl,hov⟩:=Ak hc
      have hcall:=Lt (P:=P) hT hFf S hargs hov
      have hrun:(execOp a.eval o).run P w= .ok (.value (.bool false)) w:=by
       simp only[execOp,hop,resolve,Deferred.ofValue,invoke,hcf,Sem.run_bind,Sem.run_pure,Result.andThen_ok,hmap]
       have:(#[]:Array Value)++(⟨cargs⟩:Array Value)++(⟨m⟩:Array Value)=⟨cargs++m⟩:=by apply Array.ext';simp
       rw[this]
       exact hcall
      exact⟨ρ,w,.bool false,.one (Cs ho hw hnd hrun),VR.bool _,S,.refl ρ _ w⟩
     obtain⟨fn,ρ',w',c,fr,h1,h2,h3,h4,h5,h6,h7,h8,h9⟩:=rC hF hT hI hc S hG hargs (on b a (.inRegion ops (i::rest)::k)::cs)
     have hrun:(execOp a.eval o).run P w= .ok (.enter g ⟨cargs++m⟩) w:=by
      have:=Dg (P:=P) (w:=w) (args:=args0) (ats:=ats) (ty:=o.type) hcf h1 h2 h3
      rw[hmap] at this
      simp only[execOp,hop]
      rw[this]
      congr 2
      apply Array.ext';simp
     refine⟨ρ',w',c,.head (L6 ho hw hnd hrun) (h4.trans (.one ?_)),h7,h8,h9⟩
     rw[step_leave_returned h6,hfin]
 ·rename_i l _ _
  cases hf with
  |val hf=>cases hf with
   |cell hf=>cases hf with
    |cell hf=>cases hf
    | @yield _ r hl=>
     obtain⟨L,ρ',w',cv,h1,h2,h3,h4,h5,h6⟩:=Bz (P:=P) hI hc S hG ha hl (on b a (.inRegion ops (i::rest)::k)) cs
     have hsz:args0.size=L.params.size:=by
      rw[←h2,←hca];simp
     have hrun:(execOp a.eval o).run P w= .ok (.round r.aA L.fn ((L.params.toList.zip cargs).foldl (fun(tmps:Array Value) (x:Nat×Value)=>tmps.setIfInBounds x.1 x.2) L.tmps) L.assign L.body) w:=by
      have:=It (P:=P) (w:=w) (args:=args0) (ats:=ats) (ty:=o.type) hcf h1 hsz
      rw[hmap] at this
      simp only[execOp,hop]
      rw[this]
      congr 2
      rw[←Array.foldl_toList]
      simp
     refine⟨ρ',w',cv,.head (LC ho hw hnd hrun) ?_,h4,h5,h6⟩
     rw[hfin] at h3
     exact h3
 ·cases hc
theorem C2 (hF:zD P T ng dr F) (hT:bQ P T) (hI:qc P T ng dr ih) {n:Nat} {ops:Array Oper} {i:Nat} {o:Oper} (ho:ops[i]? =some o) {e e':Env} {h h':ae}
  (hc:cn F ih (aM T ng n ops.toList o) e h=some (e',h')) {ρ:dp} {w:World} (S:cu (eY T ng dr) ρ h w) (hG:bJ ng ρ) {a:Act} (hE:ER ρ e a.tmps) (hn:n≤a.tmps.size)
  (b:Frame) (k:List Item) (cs:List Frame) (rest:List Nat):
  ∃ρ' w' a',Steps P (lone (on b a (.inRegion ops (i::rest)::k)) cs w) (lone (on b a' (.inRegion ops rest::k)) cs w')∧
   cu (eY T ng dr) ρ' h' w'∧ER ρ' e' a'.tmps∧a'.tmps.size=a.tmps.size∧a'.defers=a.defers∧Ext ρ h w ρ' h' w':=by
 unfold aM at hc
 cases hcond:pL ng n ops.toList o with
 |false=>
  simp only[hcond,cond_false] at hc
  simp[cn,wanted,aZ] at hc
 |true=>
  simp only[hcond,cond_true] at hc
  simp only[pL,Bool.and_eq_true] at hcond
  obtain⟨⟨hd,hg⟩,hopd⟩:=hcond
  have hdst: ∀d,o.dst=some d→d<a.tmps.size:=by
   intro d hd'
   rw[hd'] at hd
   exact Nat.lt_of_lt_of_le (qH.1 hd) hn
  have hwr:Region.wanted o (yielded ops a.tmps)=wanted e (guardOf ops.toList o):=by
   unfold guardOf
   refine zB hE ?_
   cases hgo:o.guard with
   |none=>exact .inl ⟨rfl,rfl⟩
   |some x=>
    obtain⟨j,bb⟩:=x
    rw[hgo] at hg
    obtain⟨t,ht⟩:=Option.isSome_iff_exists.1 hg
    exact .inr ⟨j,bb,t,rfl,ht,by dsimp only;rw[ht];rfl⟩
  have put_out: ∀ {ρ':dp} {w':World} {v c:Value} {hh:ae},VR ρ' v c→Ext ρ h w ρ' hh w'→ER ρ' (dW e o.dst v) (a.put o.dst c).tmps:=by
   intro ρ' w' v c hh hv E
   exact ER.put (hE.mono E.le) hdst hv
  unfold cn at hc
  dsimp only at hc
  rw[←hwr] at hc
  cases hwant:Region.wanted o (yielded ops a.tmps) with
  |false=>
   simp only[hwant,cond_false,Option.some.injEq,Prod.mk.injEq] at hc
   obtain⟨rfl,rfl⟩:=hc
   refine⟨ρ,w,a.put o.dst undef,.one ?_,S,put_out VR.undef (.refl ρ h w),qd _ _ _,put_defers _ _ _,.refl ρ h w⟩
   have:=A8 (P:=P) (b:=b) (a:=a) (k:=k) (cs:=cs) (w:=w) (ops:=ops) (i:=i) (rest:=rest) (by simp[ho,hwant])
   rw[ho] at this
   exact this
  |true=>
   simp only[hwant,cond_true] at hc
   split at hc
   ·rename_i f args hop
    obtain⟨cl,h1,h2,h3⟩:=y4 hop
    split at hc
    ·rename_i v h1' hcv
     cases hc
     have hoks:aR ng f=true∧args.all (aR ng)=true:=by
      rw[h1] at hopd
      simp only[Op.operands,Call.operands,h2] at hopd
      rw[←h3]
      simpa using hopd
     obtain⟨ρ',w',c,q1,q2,q3,q4⟩:=wN (P:=P) hF hT hI hcv S hG (hE.eval hG hoks.1) (u6 hE hG args hoks.2) ho hwant h1 h2 rfl (by rw[h3]) b k cs (rest:=rest)
     exact⟨ρ',w',a.put o.dst c,q1,q3,put_out q2 q4,qd _ _ _,put_defers _ _ _,q4⟩
    ·cases hc
   ·split at hc
    ·rename_i v h1' hov
     cases hc
     obtain⟨ρ',w',c,hr,hv,S',E'⟩:=DD (P:=P) (a:=a) hT S hE hG o hopd hov
     have hnd:=AP hov
     rcases hr with hr|⟨rfl,hr⟩
     ·exact⟨ρ',w',a.put o.dst c,.one (Cs ho hwant hnd hr),S',put_out hv E',qd _ _ _,put_defers _ _ _,E'⟩
     ·exact⟨ρ',w',a.put o.dst undef,.one (GL ho hwant hnd hr),S',put_out hv E',qd _ _ _,put_defers _ _ _,E'⟩
    ·cases hc
theorem Eu (hF:zD P T ng dr F) (hT:bQ P T) (hI:qc P T ng dr ih) {n:Nat} {ops:Array Oper} (b:Frame) (k:List Item) (cs:List Frame):
  ∀(m i:Nat),i+m=ops.size→ ∀(e e':Env) (h h':ae),tA F ih ((ops.toList.drop i).map (aM T ng n ops.toList)) e h=some (e',h')→
  ∀(ρ:dp) (w:World) (a:Act),cu (eY T ng dr) ρ h w→bJ ng ρ→ER ρ e a.tmps→n≤a.tmps.size→
  ∃ρ' w' a',Steps P (lone (on b a (.inRegion ops ((List.range' i m))::k)) cs w) (lone (on b a' (.inRegion ops []::k)) cs w')∧
   cu (eY T ng dr) ρ' h' w'∧ER ρ' e' a'.tmps∧a'.tmps.size=a.tmps.size∧a'.defers=a.defers∧Ext ρ h w ρ' h' w':=by
 intro m
 induction m with
 |zero=>
  intro i hi e e' h h' hc ρ w a S hG hE hn
  rw[List.drop_eq_nil_of_le (by simp;omega)] at hc
  simp only[List.map_nil,tA,Option.some.injEq,Prod.mk.injEq] at hc
  obtain⟨rfl,rfl⟩:=hc
  exact⟨ρ,w,a,Steps.refl P _,S,hE,rfl,rfl,.refl ρ h w⟩
 |succ m ihm=>
  intro i hi e e' h h' hc ρ w a S hG hE hn
  have hlt:i<ops.toList.length:=by simp;omega
  rw[List.drop_eq_getElem_cons hlt] at hc
  simp only[List.map_cons,tA] at hc
  have ho:ops[i]? =some ops.toList[i]:=by
   rw[←Array.getElem?_toList,aQ hlt]
  split at hc
  ·rename_i e1 h1 hop
   obtain⟨ρ1,w1,a1,s1,S1,E1,z1,d1,X1⟩:=C2 (P:=P) hF hT hI ho hop S hG hE hn b k cs (List.range' (i+1) m)
   obtain⟨ρ2,w2,a2,s2,S2,E2,z2,d2,X2⟩:=ihm (i+1) (by omega) e1 e' h1 h' hc ρ1 w1 a1 S1 (hG.mono X1.le) E1 (by omega)
   refine⟨ρ2,w2,a2,?_,S2,E2,z2.trans z1,d2.trans d1,X1.trans X2⟩
   rw[List.range'_succ]
   exact s1.trans s2
  ·cases hc
end
def ia.gY:ia→List Operand
 | .mv x=>[x]
 | .pick c a b=>[c,a,b]
 | .alloc _=>[]
 | .box x=>[x]
 | .build _ ps=>ps.map (·.2.2)
 | .ct _ _ ps=>ps.map (·.2.2)
 | .load _ a=>[a]
 | .store _ a v=>[a,v]
 | .bj x=>[x]
 | .bin _ _ x y=>[x,y]
 | .un _ x=>[x]
 | .conv _ x=>[x]
 | .mH _ caps=>caps
 | .A_=>[]
 | .fB _ _ l c=>[l,c]
 | .slice _ x lo hi mx=>x::(lo.toList++hi.toList++mx.toList)
 | .bw _ x=>[x]
 | .cw _ _ x i=>[x,i]
 | .field _ _ x=>[x]
 | .index _ x i=>[x,i]
 | .look _ _ _ x i=>[x,i]
 | .Bn _ m k v=>[m,k,v]
 | .vZ x=>[x]
 | .ND x=>[x]
 | .ext _ x=>[x]
 | .call f args=>f::args
 | .nx x=>[x]
 | .FV x=>[x]
 | .Cd x=>[x]
 | .append _ _ _ s x=>[s,x]
 | .copy _ d s=>[d,s]
 | .clear _ x=>[x]
 | .Fx x y=>[x,y]
 | .bad=>[]
def ia.kind:ia→Nat
 | .mv _| .pick .. | .build .. | .bj _| .bin .. | .un .. | .conv .. | .mH .. | .bw .. | .cw .. | .field .. | .index .. | .ext .. | .nx _| .Cd _| .Fx .. =>0
 | .load .. | .slice .. =>1
 | .alloc _| .box _| .ct .. | .fB .. | .A_=>2
 |_=>3
theorem qB {e e':Env} : ∀(ps:List (Nat×Nat×Operand)) (cs:List Value),(∀x∈ps.map (·.2.2),ev e x=ev e' x)→pz e cs ps=pz e' cs ps
 |[],_,_=>rfl
 |(off,n,x)::r,cs,h=>by
  have hx:ev e x=ev e' x:=h x (by simp)
  simp only[pz,hx]
  split
  ·split
   ·exact qB r _ (fun y hy=>h y (by simp only[List.map_cons,List.mem_cons];exact .inr hy))
   ·rfl
  ·rfl
theorem yG {e e':Env} {l:List Operand} (h: ∀x∈l,ev e x=ev e' x):pP e l=pP e' l:=List.map_congr_left h
theorem rm {e e':Env} (x:Option Operand) (d t:Nat) (h: ∀y∈x.toList,ev e y=ev e' y):bound e x d t=bound e' x d t:=by
 cases x with
 |none=>rfl
 |some y=>simp only[bound,h y (by simp)]
theorem Hv {e e':Env} {h:ae} (op:ia) (hx: ∀x∈op.gY,ev e x=ev e' x):aZ e h op=aZ e' h op:=by
 cases op with
 |build z ps=>simp only[aZ,qB ps z hx]
 |ct n z ps=>simp only[aZ,qB ps z hx]
 |mH f caps=>
  simp only[ia.gY] at hx
  simp only[aZ,yG hx]
 |slice s x lo hi mx=>
  simp only[ia.gY,List.mem_cons,List.mem_append,or_assoc] at hx
  have h0:=hx x (.inl rfl)
  have h1: ∀d t,bound e lo d t=bound e' lo d t:=fun d t=>rm lo d t fun y hy=>hx y (.inr (.inl hy))
  have h2: ∀d t,bound e hi d t=bound e' hi d t:=fun d t=>rm hi d t fun y hy=>hx y (.inr (.inr (.inl hy)))
  have h3: ∀d t,bound e mx d t=bound e' mx d t:=fun d t=>rm mx d t fun y hy=>hx y (.inr (.inr (.inr hy)))
  simp only[aZ,h0,h1,h2,h3]
 |pick c a b=>
  simp only[ia.gY,List.mem_cons,List.not_mem_nil,or_false,forall_eq_or_imp,forall_eq] at hx
  simp only[aZ,hx.1,hx.2.1,hx.2.2]
 |Bn n c a b=>
  simp only[ia.gY,List.mem_cons,List.not_mem_nil,or_false,forall_eq_or_imp,forall_eq] at hx
  simp only[aZ,hx.1,hx.2.1,hx.2.2]
 |alloc|A_|call|bad=>rfl
 |store _ x y|bin _ _ x y|fB _ _ x y|cw _ _ x y|index _ x y|look _ _ _ x y|append _ _ _ x y|copy _ x y|Fx x y=>
  simp only[ia.gY,List.mem_cons,List.not_mem_nil,or_false,forall_eq_or_imp,forall_eq] at hx
  simp only[aZ,hx.1,hx.2]
 |mv x|box x|load _ x|bj x|vZ x|ND x|un _ x|conv _ x|bw _ x|field _ _ x|ext _ x|nx x|FV x|Cd x|clear _ x=>
  simp only[ia.gY,List.mem_cons,List.not_mem_nil,or_false,forall_eq] at hx
  simp only[aZ,hx]
def leads:Value→Option Nat
 | .pointer (some ⟨b,_,_⟩)=>some b
 | .slice (some ⟨b,_,_⟩) _ _=>some b
 | .map (some b)=>some b
 |_=>none
def ia.through:ia→Option Operand
 | .load _ a=>some a
 | .slice _ x _ _ _=>some x
 |_=>none
theorem ym {e:Env} {h h':ae} {op:ia} {v:Value} (hk:op.kind=0) (hv:aZ e h op=some (v,h')):h'=h∧ ∀h2,aZ e h2 op=some (v,h2):=by
 cases op with
 |mH f caps=>
  simp only[aZ] at hv ⊢
  cases hb:(pP e caps).all simple<;>simp only[hb,cond_true,cond_false] at hv ⊢ <;>cases hv
  exact⟨rfl,fun h2=>rfl⟩
 |Fx x y=>
  simp only[aZ] at hv ⊢
  split at hv
  ·by_cases hkk: ‹IntKind› = ‹IntKind› <;>skip
   all_goals
    split at hv
    ·cases hv
     refine⟨rfl,fun h2=> ?_⟩
     simp_all
    ·cases hv
  ·cases hv
 |_=>
  simp only[ia.kind] at hk
  first
   |(exact absurd hk (by decide))
   |(simp only[aZ] at hv ⊢
     repeat' split at hv
     all_goals first
      |(cases hv;refine⟨rfl,fun h2=> ?_⟩;first|rfl|(simp_all;done))
      |(cases hv;done))
theorem uL {e:Env} {h h':ae} {op:ia} {v:Value} (hk:op.kind=1) (hv:aZ e h op=some (v,h')):
  h'=h∧ ∃x,op.through=some x∧(∀h2,(∀b,leads (ev e x)=some b→h2.tr.get b=h.tr.get b)→aZ e h2 op=some (v,h2))∧(∀b,leads (ev e x)=some b→ ∃cs ro o s,h.tr.get b=some (.aA cs ro o s)):=by
 cases op<;>simp only[ia.kind] at hk<;>first|(exact absurd hk (by decide))|skip
 case load n a=>
  simp only[aZ] at hv
  split at hv
  ·rename_i b off heq
   split at hv
   ·rename_i cs hr
    split at hv
    ·rename_i v' hg
     cases hv
     refine⟨rfl,a,rfl,?_,?_⟩
     ·intro h2 hb
      have:=hb b (by rw[heq];rfl)
      have hr2:aT h2 b off (width n)=some cs:=by
       unfold aT at hr ⊢
       rw[this];exact hr
      simp only[aZ,heq,hr2,hg]
     ·intro b' hb'
      rw[heq] at hb'
      cases hb'
      unfold aT at hr
      split at hr
      ·exact⟨_,_,_,_,by assumption⟩
      ·cases hr
    ·cases hv
   ·cases hv
  ·cases hv
 case slice sz x lo hi mx=>
  simp only[aZ] at hv
  split at hv
  ·rename_i a len cap heq
   split at hv
   ·cases hv
   ·rename_i m hm
    split at hv
    ·cases hv
    ·rename_i hh hhi
     split at hv
     ·cases hv
     ·rename_i l hl
      split at hv
      ·cases hv
       refine⟨rfl,x,rfl,fun h2 _=> ?_,fun b hb=> ?_⟩
       ·simp only[aZ,heq,hm,hhi,hl]
       ·rw[heq] at hb;cases hb
      ·rename_i b off
       split at hv
       ·rename_i cs ro o s hg
        cases hc:(Nat.beq o 0||Nat.beq o sz) with
        |false=>rw[hc] at hv;cases hv
        |true=>
         rw[hc] at hv
         cases hv
         refine⟨rfl,x,rfl,fun h2 hb=> ?_,fun b' hb=> ?_⟩
         ·have:=hb b (by rw[heq];rfl)
          simp only[aZ,heq,hm,hhi,hl,this,hg,hc,cond_true]
         ·rw[heq] at hb;cases hb
          exact⟨_,_,_,_,hg⟩
       ·cases hv
      ·cases hv
  ·cases hv
theorem cQ.refl (h:ae):cQ h h:=⟨Nat.le_refl _,Nat.le_refl _,fun _ _ _ _ _ _ h _=>h,id,fun _ _ h=>h⟩
theorem cQ.trans {h h1 h2:ae} (x:cQ h h1) (y:cQ h1 h2):cQ h h2:=
 ⟨Nat.le_trans x.next y.next,Nat.le_trans x.clock y.clock,fun b cs ro o s hb hg hs=>x.bl b cs ro o s hb (y.bl b cs ro o s (Nat.lt_of_lt_of_le hb x.next) hg (Nat.lt_of_lt_of_le hs x.clock)) hs,y.wf∘x.wf,fun b hb hg=>x.mp b hb (y.mp b (Nat.lt_of_lt_of_le hb x.next) hg)⟩
theorem cQ.new (h:ae) (o:nr):cQ h (h.new o):=by
 refine⟨by simp[ae.new],Nat.le_refl _,fun b cs ro op s hb hg _=> ?_,fun hw b x hb=> ?_,fun b hb hg=> ?_⟩
 ·simp only[ae.new,Tr.aN] at hg
  rwa [if_neg (by omega)] at hg
 ·simp only[ae.new,Tr.aN] at hb ⊢
  by_cases e:b=h.next
  ·omega
  ·rw[if_neg e] at hb
   have:=hw b x hb
   omega
 ·simp only[ae.new,Tr.aN] at hg
  rwa [if_neg (by omega)] at hg
theorem cQ.del (h:ae) (l:Nat):cQ h { h with tr:=h.tr.del l } :=by
 refine⟨Nat.le_refl _,Nat.le_refl _,fun b cs ro op s hb hg _=> ?_,fun hw b x hb=> ?_,fun b hb hg=> ?_⟩
 ·simp only[Tr.ke] at hg
  by_cases e:b=l
  ·rw[if_pos e] at hg;cases hg
  ·rwa [if_neg e] at hg
 ·simp only[Tr.ke] at hb
  by_cases e:b=l
  ·rw[if_pos e] at hb;cases hb
  ·rw[if_neg e] at hb;exact hw b x hb
 ·simp only[Tr.ke] at hg
  by_cases e:b=l
  ·rw[if_pos e] at hg;cases hg
  ·rwa [if_neg e] at hg
theorem cQ.other {h:ae} {o:nr} (l:Nat) (c:Nat) (hc:h.clock≤c) (hl: ∃x,h.tr.get l=some x) (ho: ∀cs ro op s,o= .aA cs ro op s→h.clock≤s) (hm:o≠ .map []):cQ h { h with clock:=c,tr:=h.tr.set l o } :=by
 refine⟨Nat.le_refl _,hc,fun b cs ro op s hb hg hs=> ?_,fun hw b x hb=> ?_,fun b hb hg=> ?_⟩
 ·simp only[Tr.aN] at hg
  by_cases e:b=l
  ·rw[if_pos e] at hg;cases hg
   have:=ho _ _ _ _ rfl
   omega
  ·rwa [if_neg e] at hg
 ·simp only[Tr.aN] at hb
  by_cases e:b=l
  ·obtain⟨y,hy⟩:=hl
   rw[e];exact hw l y hy
  ·rw[if_neg e] at hb;exact hw b x hb
 ·simp only[Tr.aN] at hg
  by_cases e:b=l
  ·rw[if_pos e] at hg;cases hg;exact absurd rfl hm
  ·rwa [if_neg e] at hg
theorem cQ.write {h h':ae} {b off:Nat} {vs:List Value} (hw:jk h b off vs=some h'):cQ h h':=by
 unfold jk at hw
 split at hw
 ·rename_i hg
  split at hw
  ·cases hw
   exact cQ.other b (h.clock+1) (Nat.le_succ _) ⟨_,hg⟩ (fun cs ro op s e=>by cases e;exact Nat.le_refl _) (fun e=>by cases e)
  ·cases hw
 ·cases hw
inductive Mk where
 |ptr
 |sl (l c:Nat)
 |mp
def Ms:Mk→Nat→Value
 | .ptr,N=> .pointer (some ⟨N,0,none⟩)
 | .sl l c,N=> .slice (some ⟨N,0,none⟩) l c
 | .mp,N=> .map (some N)
def Mq:Mk→List Value→nr
 | .mp,_=> .map []
 |_,cells=> .aA cells false 0 0
theorem th {e:Env} {h h':ae} {op:ia} {v:Value} (hk:op.kind=2) (hv:aZ e h op=some (v,h')):
  ∃s cells,v=Ms s h.next∧h'=h.new (Mq s cells)∧ ∀h2,aZ e h2 op=some (Ms s h2.next,h2.new (Mq s cells)):=by
 cases op with
 |alloc z=>
  simp only[aZ,Option.some.injEq,Prod.mk.injEq] at hv
  exact⟨.ptr,z,hv.1.symm,hv.2.symm,fun h2=>rfl⟩
 |A_=>
  simp only[aZ,Option.some.injEq,Prod.mk.injEq] at hv
  exact⟨.mp,[],hv.1.symm,hv.2.symm,fun h2=>rfl⟩
 |box x=>
  simp only[aZ] at hv
  split at hv
  ·rename_i vs hf
   cases hv
   exact⟨.ptr,vs,rfl,rfl,fun h2=>by simp only[aZ,hf];rfl⟩
  ·cases hv
 |ct n z ps=>
  simp only[aZ] at hv
  split at hv
  ·rename_i cs hf
   cases hv
   exact⟨.sl n n,cs,rfl,rfl,fun h2=>by simp only[aZ,hf];rfl⟩
  ·cases hv
 |fB z n l c=>
  simp only[aZ] at hv
  split at hv
  ·rename_i ll cc h1 h2
   split at hv
   ·rename_i hb
    cases hv
    exact⟨.sl ll cc,gI z cc,rfl,rfl,fun h3=>by simp only[aZ,h1,h2,hb,if_true];rfl⟩
   ·cases hv
  ·cases hv
 |_=>simp only[ia.kind] at hk;cases hk
theorem Be {h h':ae} {z:List Value} {bytes:Nat} {s:Value} {n:Nat} {cs:List Value} {v:Value} (hv:ff h z bytes s n cs=some (v,h')):cQ h h':=by
 unfold ff at hv
 dsimp only at hv
 repeat' split at hv
 all_goals first
  |(cases hv;done)
  |(cases hv;exact cQ.refl _)
  |(cases hv;exact cQ.new _ _)
  |(rename_i hw;cases hv;exact cQ.write hw)
  |(cases hv;exact(cQ.del _ _).trans (cQ.new _ _))
  |skip
theorem Jd {n:List Nat} {k v:Value} {es es':List (Value×Value)} (h:pY n k v es=some es'):es'≠[]:=by
 cases es with
 |nil=>
  simp only[pY] at h
  split at h<;>cases h
  exact List.cons_ne_nil _ _
 |cons x r=>
  obtain⟨k',v'⟩:=x
  simp only[pY] at h
  repeat' split at h
  all_goals (cases h;try exact List.cons_ne_nil _ _)
theorem Hi {e:Env} {h h':ae} {op:ia} {v:Value} (hv:aZ e h op=some (v,h')):cQ h h':=by
 by_cases h0:op.kind=0
 ·rw[(ym h0 hv).1];exact .refl h
 by_cases h1:op.kind=1
 ·rw[(uL h1 hv).1];exact .refl h
 by_cases h2:op.kind=2
 ·obtain⟨_,cs,_,rfl,_⟩:=th h2 hv;exact .new h _
 cases op with
 |store n a x=>
  simp only[aZ] at hv
  repeat' split at hv
  all_goals first
   |(cases hv;done)
   |(rename_i hw;cases hv;exact cQ.write hw)
 |look n z ok x i=>
  simp only[aZ] at hv
  cases hko:sg n (ev e i) with
  |false=>rw[hko] at hv;cases hv
  |true=>
  simp only[hko,cond_true] at hv
  repeat' split at hv
  all_goals first
   |(cases hv;done)
   |(cases hv;exact .refl h)
 |Bn n m k x=>
  simp only[aZ] at hv
  cases hko:sg n (ev e k) with
  |false=>rw[hko] at hv;cases hv
  |true=>
  simp only[hko,cond_true] at hv
  repeat' split at hv
  all_goals first
   |(cases hv;done)
   |(rename_i hg _ _ _;cases hv;exact cQ.other _ _ (Nat.le_succ _) ⟨_,hg⟩ (fun _ _ _ _ e=>by cases e) (fun e=>by cases e;exact Jd (by assumption) rfl))
 |vZ x=>
  simp only[aZ] at hv
  split at hv
  ·cases hv;exact .new h _
  ·cases hv
 |ND x=>
  simp only[aZ] at hv
  repeat' split at hv
  all_goals first
   |(cases hv;done)
   |(cases hv;exact .refl h)
 |append z bytes zs s x=>
  simp only[aZ] at hv
  split at hv
  ·exact Be hv
  ·cases hv
 |copy sz d s=>
  simp only[aZ] at hv
  repeat' split at hv
  all_goals first
   |(cases hv;done)
   |(cases hv;exact .refl h)
   |(rename_i hw;cases hv;exact cQ.write hw)
 |clear z x=>
  simp only[aZ] at hv
  repeat' split at hv
  all_goals first
   |(cases hv;done)
   |(cases hv;exact .refl h)
   |(rename_i hw;cases hv;exact cQ.write hw)
 |FV x=>
  simp only[aZ] at hv
  repeat' split at hv
  all_goals first
   |(cases hv;done)
   |(cases hv;exact .refl h)
 |call f args=>simp[aZ] at hv
 |bad=>simp[aZ] at hv
 |_=>first|exact absurd rfl h0|exact absurd rfl h1|exact absurd rfl h2
section
variable {F:Nat→Option bA} {ih:aj→Env→ae→R}
def eV (ih:aj→Env→ae→R):Prop:= ∀c e h x e' h',ih c e h=some (x,e',h')→cQ h h'
theorem wQ (hK:eV ih) {f:Nat} {args:List Value} {h h':ae} {v:Value} (hc:pb F ih f args h=some (v,h')):cQ h h':=by
 unfold pb lK at hc
 split at hc
 ·cases hc
 ·split at hc
  ·cases hc
  ·rename_i hp _;exact hp _ _ _ _ hc
  split at hc
  all_goals first
   |(cases hc;done)
   |(rename_i hr
     split at hc
     ·rename_i vs _
      cases hb:fW vs<;>simp only[hb,cond_true,cond_false] at hc<;>cases hc
      exact hK _ _ _ _ _ _ hr
     ·cases hc)
theorem tV {h:ae} {l:Nat} {x:nr} (hx:h.tr.get l=some x) (env:Env) (ps:List Nat) (asg body:aj) (st:IG):cQ h (eL h l env ps asg body st):=
 cQ.other l h.clock (Nat.le_refl _) ⟨x,hx⟩ (fun _ _ _ _ e=>by cases e) (fun e=>by cases e)
theorem Bg {l:Nat} {h h':ae} {st:IG} {b:Bool} {v:Value} (hc:kM l h st b=some (v,h')):cQ h h':=by
 unfold kM at hc
 split at hc
 ·rename_i hg;cases hc;exact tV hg ..
 ·cases hc
theorem BH (hK:eV ih) {l:Nat} {args:List Value} {h h':ae} {v:Value} (hc:qi ih l args h=some (v,h')):cQ h h':=by
 unfold qi at hc
 split at hc
 ·split at hc
  ·cases hc
  ·split at hc
   ·rename_i hr
    refine(hK _ _ _ _ _ _ hr).trans ?_
    unfold uT at hc
    split at hc
    ·rename_i hg
     split at hc
     all_goals first
      |(cases hc;done)
      |(rename_i hr2;exact(tV hg _ _ _ _ _).trans ((hK _ _ _ _ _ _ hr2).trans (Bg hc)))
    ·cases hc
   ·cases hc
 ·cases hc
theorem C0 (hK:eV ih) {fv:Value} {args:List Value} {h h':ae} {v:Value} (hc:cm F ih fv args h=some (v,h')):cQ h h':=by
 unfold cm at hc
 split at hc
 ·rcases zf hc with hc|⟨_,_,_,hc⟩
  ·exact wQ hK hc
  ·rw[(Ak hc).2.1];exact .refl h
 ·exact BH hK hc
 ·cases hc
theorem qZ (hK:eV ih) {o:aV} {e e':Env} {h h':ae} (hc:cn F ih o e h=some (e',h')):cQ h h':=by
 unfold cn at hc
 cases hw:wanted e o.guard<;>simp only[hw,cond_true,cond_false] at hc
 ·cases hc;exact .refl h
 ·split at hc
  ·split at hc
   ·rename_i hv;cases hc;exact C0 hK hv
   ·cases hc
  ·split at hc
   ·rename_i hv;cases hc;exact Hi hv
   ·cases hc
theorem yz (hK:eV ih): ∀(l:List aV) {e e':Env} {h h':ae},tA F ih l e h=some (e',h')→cQ h h'
 |[],_,_,_,_,hc=>by simp only[tA] at hc;cases hc;exact .refl _
 |o::r,_,_,_,_,hc=>by
  simp only[tA] at hc
  split at hc
  ·rename_i ho;exact(qZ hK ho).trans (yz hK r hc)
  ·cases hc
theorem wT (hK:eV ih) (c:Nat): ∀(l:List (aV×List Nat)) {e e':Env} {h h':ae},kx F ih c l e h=some (e',h')→cQ h h'
 |[],_,_,_,_,hc=>by simp only[kx] at hc;cases hc;exact .refl _
 |(o,chk)::r,_,_,_,_,hc=>by
  simp only[kx] at hc
  split at hc
  ·rename_i e1 h1 ho
   cases hs:still e1 h1 c chk<;>simp only[hs,cond_true,cond_false] at hc
   ·cases hc
   ·exact(qZ hK ho).trans (wT hK c r hc)
  ·cases hc
theorem CT (hK:eV ih):eV (bK F ih):=by
 intro c e h x e' h' hc
 cases c with
 |skip|exit|ret=>simp only[bK] at hc;cases hc;exact .refl h
 |ops l=>
  simp only[bK] at hc
  split at hc
  ·rename_i ho;cases hc;exact yz hK l ho
  ·cases hc
 |draw l=>
  simp only[bK] at hc
  split at hc
  ·rename_i ho;cases hc
   have h1:cQ h { h with clock:=h.clock+1 } :=⟨Nat.le_refl _,Nat.le_succ _,fun _ _ _ _ _ _ q _=>q,id,fun _ _ q=>q⟩
   exact h1.trans (wT hK _ l ho)
  ·cases hc
 |seq a b=>
  simp only[bK] at hc
  split at hc
  ·rename_i ho;exact(hK _ _ _ _ _ _ ho).trans (hK _ _ _ _ _ _ hc)
  ·exact hK _ _ _ _ _ _ hc
 |cond q a b=>
  simp only[bK] at hc
  split at hc
  ·exact hK _ _ _ _ _ _ hc
  ·exact hK _ _ _ _ _ _ hc
  ·cases hc
 |block id a=>
  simp only[bK] at hc
  split at hc
  ·rename_i i _ _ ho
   cases hb:Nat.beq i id<;>simp only[hb,cond_true,cond_false] at hc<;>cases hc<;>exact hK _ _ _ _ _ _ ho
  ·exact hK _ _ _ _ _ _ hc
 |loop a=>
  simp only[bK] at hc
  split at hc
  ·rename_i ho;exact(hK _ _ _ _ _ _ ho).trans (hK _ _ _ _ _ _ hc)
  ·exact hK _ _ _ _ _ _ hc
 |AM f ps asg body=>
  simp only[bK] at hc
  split at hc
  ·split at hc
   ·rename_i hcall
    have h1:=(cQ.new h (.loop e ps asg body .ready)).trans (wQ hK hcall)
    split at hc
    all_goals first
     |(cases hc;done)
     |(cases hc;exact h1.trans (cQ.del _ _))
   ·cases hc
  ·cases hc
 |bad=>simp[bK] at hc
theorem Io: ∀fuel,eV (run F fuel):=by
 intro fuel
 induction fuel with
 |zero=>intro c e h x e' h' hc;cases hc
 |succ m ihm=>exact CT ihm
end
def Ca (P:Program) (T:mV) (ng:Nat) (dr:pU) (F:Nat→Option bA):Prop:=
 ∀(ih:aj→Env→ae→R),eV ih→qc P T ng dr ih→ ∀(n:Nat) (ops:Array Oper) (e:Env) (h:ae) (e':Env) (h':ae),
  kx F ih h.clock (dr n ops.toList) e { h with clock:=h.clock+1 } =some (e',h')→
  ∀(mixed:Bool) (t:Nat) (ρ:dp) (w:World) (a:Act) (b:Frame) (k:List Item) (cs:List Frame),cu (eY T ng dr) ρ h w→bJ ng ρ→ER ρ e a.tmps→n≤a.tmps.size→
  ∃ρ' w' a',Steps P (lone (on b a (.inRegion ops (Region.schedule mixed ops t)::k)) cs w) (lone (on b a' (.inRegion ops []::k)) cs w')∧
   cu (eY T ng dr) ρ' h' w'∧ER ρ' e' a'.tmps∧a'.tmps.size=a.tmps.size∧a'.defers=a.defers∧Ext ρ h w ρ' h' w'
theorem uz {P:Program} {m m1 t:Machine} (h:Steps P m t) (hs:step P m= .next m1) (hne:t≠m):Steps P m1 t:=by
 obtain⟨n,hn⟩:=h
 cases n with
 |zero=>simp only[runN] at hn;cases hn;exact absurd rfl hne
 |succ n=>simp only[runN,hs] at hn;exact⟨n,hn⟩
theorem HX {b b':Frame} {cs cs':List Frame} {w w':World} (h:lone b cs w=lone b' cs' w'):b.todo=b'.todo:=by
 have h2:=congrArg (fun m:Machine=>(m.gs[0]?).map (fun g=>g.frame.todo)) h
 simpa [lone] using h2
section
variable {P:Program} {T:mV} {ng:Nat} {dr:pU} {F:Nat→Option bA} {ih:aj→Env→ae→R}
theorem cu.hidden {CC:bI} {ρ:dp} {h:ae} {w:World} (S:cu CC ρ h w) (o:Obj):cu CC ρ h (w.alloc o)∧Ext ρ h w ρ h (w.alloc o):=by
 have hsz:(w.alloc o).heap.size=w.heap.size+1:=Array.size_push _
 have hold: ∀k,k<w.heap.size→(w.alloc o).heap[k]? =w.heap[k]? :=by
  intro k hk
  show(w.heap.push o)[k]? =_
  rw[Array.getElem?_push,if_neg (by omega)]
 refine⟨⟨fun b r hb=>⟨(S.low b r hb).1,by have:=(S.low b r hb).2;omega⟩,fun b r x hb hx=>gh.mono ρ.le_refl (hold _ (S.low b r hb).2) (S.obj b r x hb hx),S.inj,S.wf⟩,
  ⟨ρ.le_refl,Nat.le_refl _,by omega,rfl,rfl,rfl,fun k hk _=>hold k hk,fun b r hb hw=> .inr ⟨b,r,hb,hw,rfl⟩,fun b r h h'=>(by rw[h] at h';cases h'),fun b r x hb hx=> .inr ⟨b,r,x,hb,hx,rfl⟩⟩⟩
theorem xZ (w:World) (o:Obj):(w.alloc o).heap.size=w.heap.size+1:=Array.size_push _
theorem tN.same {CC:bI} {B:Nat} {ρ:dp} {e:Env} {h:ae} {w:World} {a:Act} (S:cu CC ρ h w) (hE:ER ρ e a.tmps) (hd:u7 B ρ h w a.defers):tN CC B ρ h w a ρ e h w a:=
 ⟨S,hE,rfl,.refl ρ h w,hd⟩
theorem tN.trans {CC:bI} {B:Nat} {ρ ρ1 ρ2:dp} {e1 e2:Env} {h h1 h2:ae} {w w1 w2:World} {a a1 a2:Act} (x:tN CC B ρ h w a ρ1 e1 h1 w1 a1) (y:tN CC B ρ1 h1 w1 a1 ρ2 e2 h2 w2 a2):
  tN CC B ρ h w a ρ2 e2 h2 w2 a2:=⟨y.GC,y.er,y.size.trans x.size,x.ext.trans y.ext,y.defs⟩
theorem VR.fnv {ρ:dp} {g:FuncId} {first caps:Array Value} {c:Value} (h:VR ρ (.func (.func g) first caps) c): ∃l m,first= #[]∧caps=⟨l⟩∧c= .func (.func g) #[] ⟨m⟩∧All2 (CR ρ) l m:=by
 cases h with
 |val h=>cases h with
  |cell h=>cases h with
   |cell h=>cases h
   |fn g h=>exact⟨_,_,rfl,rfl,rfl,h⟩
theorem cu.off {CC:bI} {ρ:dp} {h:ae} {w w':World} (S:cu CC ρ h w) {b:Nat} {r:uD} {o:nr} (hb:ρ b=some r) (ho:h.tr.get b=some o) (hrw:o.rw=true) (ha:FL r.aA w w'):
  cu CC ρ { h with tr:=h.tr.del b } w'∧Ext ρ h w ρ { h with tr:=h.tr.del b } w':=by
 have hwr:dm h b:=⟨o,ho,hrw⟩
 have hget: ∀x p,({ h with tr:=h.tr.del b } :ae).tr.get x=some p→x≠b∧h.tr.get x=some p:=by
  intro x p hx
  simp only[Tr.ke] at hx
  by_cases e:x=b
  ·rw[if_pos e] at hx;cases hx
  ·rw[if_neg e] at hx;exact⟨e,hx⟩
 have hback: ∀x,dm { h with tr:=h.tr.del b } x→dm h x:=fun x ⟨p,hp,hpr⟩=>⟨p,(hget x p hp).2,hpr⟩
 refine⟨⟨fun x rx hx=>⟨(S.low x rx hx).1,by rw[ha.size];exact(S.low x rx hx).2⟩,?_,?_,fun x p hp=>S.wf x p (hget x p hp).2⟩,⟨ρ.le_refl,Nat.le_refl _,Nat.le_of_eq ha.size.symm,ha.os,ha.tape,ha.output,?_,?_,?_,?_⟩⟩
 ·intro x rx p hx hp
  obtain⟨hne,hp⟩:=hget x p hp
  exact gh.mono ρ.le_refl (ha.other _ (S.inj b x r rx p hb hx hwr hp (Ne.symm hne)).symm) (S.obj x rx p hx hp)
 ·intro x y rx ry p hx hy hw hp hne
  exact S.inj x y rx ry p hx hy (hback x hw) (hget y p hp).2 hne
 ·intro k _ hk
  exact ha.other k (fun e=>hk b r hb hwr e.symm)
 ·intro x rx hx hw
  exact .inr ⟨x,rx,hx,hback x hw,rfl⟩
 ·intro x rx h1 h2;rw[h1] at h2;cases h2
 ·intro x rx p hx hp
  exact .inr ⟨x,rx,p,hx,(hget x p hp).2,rfl⟩
theorem GN {ρ ρ':dp} {h h':ae} {w w':World} {r:Nat} (hh:w.heap[r]? =some (.deferred (some []))) (hf:C7 ρ h r) (E:Ext ρ h w ρ' h' w'):w'.heap[r]? =some (.deferred (some []))∧C7 ρ' h' r:=by
 have hlt:=uP hh
 refine⟨?_,hf.ext E hlt⟩
 rw[E.pK r hlt,hh]
 rintro x rx hx ⟨o,ho,_⟩
 exact hf x rx o hx ho
theorem HT (hF:zD P T ng dr F) (hT:bQ P T) (hI:qc P T ng dr ih) {n:Nat} {f:Operand} {ps:Array Tmp} {asg body:Code}
  (hopf:aR ng f=true) (hps:ps.toList.all (Nat.blt · n)=true) (hna:gE asg=true) (hnb:gE body=true)
  {e:Env} {h:ae} {x:aO} {e':Env} {h':ae} (hc:bK F ih (.AM f ps.toList (bz T ng n dr asg) (bz T ng n dr body)) e h=some (x,e',h'))
  {B:Nat} {ρ:dp} {w:World} {a:Act} (b:Frame) (k:List Item) (cs:List Frame) (S:cu (eY T ng dr) ρ h w) (hG:bJ ng ρ) (hE:ER ρ e a.tmps) (hn:n≤a.tmps.size) (hB:B≤w.heap.size) (hD:u7 B ρ h w a.defers)
  (hr:b.roundOf=none):
  ∃ρ' w' a',zG P b k cs (lone (on b a (.code (.rangeFunc f ps asg body)::k)) cs w) x a' w'∧tN (eY T ng dr) B ρ h w a ρ' e' h' w' a':=by
 simp only[bK] at hc
 split at hc
 ·rename_i g first caps hev
  have hvf:=hE.eval hG hopf
  rw[hev] at hvf
  obtain⟨l,m,rfl,rfl,hcf,hlm⟩:=hvf.fnv
  split at hc
  ·rename_i v h1 hcall
   
   obtain⟨S1,E1⟩:=S.hidden (.deferred (some []))
   let L:Loop:= { state:= .ready,pending:=none,fn:=b.fn,tmps:=a.tmps,params:=ps,assign:=asg,body:=body,defers:=w.heap.size }
   let im:uD:= { aA:=w.heap.size+1,base:=0,len:=0,yW:=0,room:=0 }
   have hok:gh (eY T ng dr) (gM ρ h.next im) im (.loop e ps.toList (bz T ng n dr asg) (bz T ng n dr body) .ready) ((w.alloc (.deferred (some []))).alloc (.loop L)):=by
    refine⟨L,?_,hE.mono (pg S.fresh),rfl,⟨n,hn,rfl,hna⟩,⟨n,hn,rfl,hnb⟩,?_,rfl,rfl⟩
    ·show((w.alloc (.deferred (some []))).heap.push (.loop L))[w.heap.size+1]? =_
     rw[←xZ w (.deferred (some [])),Array.getElem?_push,if_pos rfl]
    ·intro t ht
     have:=List.all_eq_true.1 hps t ht
     exact Nat.lt_of_lt_of_le (qH.1 this) hn
   obtain⟨S2,E2⟩:=S1.add (im:=im) (xZ w _).symm hok
   have E02:=E1.trans E2
   have hG2:=hG.mono E02.le
   have hat:gM ρ h.next im h.next=some im:=by simp[gM]
   have hargs:All2 (VR (gM ρ h.next im)) ([]++[.func (.yield h.next) #[] #[]]++l) ([.func (.yield (w.heap.size+1)) #[] #[]]++m):=by
    refine All2.cons (.val (.cell (.yield hat))) ?_
    exact hlm.mono fun _ _ q=>(q.mono E02.le).vr
   have hcall':pb F ih g ([]++[.func (.yield h.next) #[] #[]]++l) (h.new (.loop e ps.toList (bz T ng n dr asg) (bz T ng n dr body) .ready))=some (v,h1):=hcall
   let a2:Act:= { a with defers:=mark w.heap.size::a.defers }
   let bb:Frame:=on b a2 (.inRangeFunc (w.heap.size+1)::k)
   obtain⟨fn,ρ3,w3,c,fr,q1,q2,q3,q4,q5,q6,q7,q8,q9⟩:=rC hF hT hI hcall' S2 hG2 hargs (bb::cs)
   have hrun:=Dg (P:=P) (ρ:=a.eval) (w:=(w.alloc (.deferred (some []))).alloc (.loop L)) (args:= #[.const (.func (.yield (w.heap.size+1)) #[] #[])]) (ats:= #[]) (ty:=0) hcf q1 q2 q3
   have hgo:=Oe (P:=P) (b:=b) (a:=a) (k:=k) (cs:=cs) (w:=w) (f:=f) (ps:=ps) (asg:=asg) (body:=body) hr hrun
   have hargs':(#[]++(#[Operand.const (.func (.yield (w.heap.size+1)) #[] #[])]:Array Operand).map a.eval++⟨m⟩:Array Value)=⟨[.func (.yield (w.heap.size+1)) #[] #[]]++m⟩:=by
    apply Array.ext';simp[Act.eval]
   rw[hargs'] at hgo
   have hst3:Steps P (lone (on b a (.code (.rangeFunc f ps asg body)::k)) cs w) (lone (on b a2 (.endRangeFunc (w.heap.size+1)::k)) cs w3):=by
    refine .head hgo (q4.trans (.one ?_))
    rw[step_leave_returned q6]
    rfl
   have E03:=E02.trans q9
   
   have hl3:ρ3 h.next=some im:=q9.le _ _ hat
   
   have hDn:u7 B ρ3 h1 w3 a2.defers:=by
    obtain⟨rs,h4,h5,h6⟩:=hD
    have hlow: ∀r∈rs,r<w.heap.size:=fun r hr=>uP (h6 r hr).2.1
    refine⟨w.heap.size::rs,by simp[a2,h4],List.nodup_cons.2 ⟨fun hm=>by have:=hlow _ hm;omega,h5⟩,?_⟩
    intro r hr
    rcases List.mem_cons.1 hr with rfl|hr
    ·have hfree2:C7 (gM ρ h.next im) (h.new (.loop e ps.toList (bz T ng n dr asg) (bz T ng n dr body) .ready)) w.heap.size:=by
      intro y ry o hy _ he
      unfold gM at hy
      by_cases hyn:y=h.next
      ·rw[if_pos hyn] at hy;cases hy
       simp[im] at he
      ·rw[if_neg hyn] at hy
       have:=(S.low y ry hy).2
       omega
     refine⟨hB,GN ?_ hfree2 q9⟩
     show((w.heap.push (.deferred (some []))).push (.loop L))[w.heap.size]? =_
     rw[Array.getElem?_push,if_neg (by simp),Array.getElem?_push,if_pos rfl]
    ·exact⟨(h6 r hr).1,GN (h6 r hr).2.1 (h6 r hr).2.2 E03⟩
   
   have fin: ∀(env3:Env) (ps3:List Nat) (asg3 body3:aj) (st:IG),h1.tr.get h.next=some (.loop env3 ps3 asg3 body3 st)→st≠ .busy→
     ∃w',(∃L3:Loop,BW st L3∧Steps P (lone (on b a (.code (.rangeFunc f ps asg body)::k)) cs w) (lone (on b a2 ((L3.pending.map Item.code).toList++k)) cs w'))∧
      tN (eY T ng dr) B ρ h w a ρ3 e { h1 with tr:=h1.tr.del h.next } w' a2:=by
    intro env3 ps3 asg3 body3 st hget hst
    obtain⟨L3,hh3,hE3,hp3,hc3,hc4,hlt3,hj3⟩:=q8.obj h.next im _ hl3 hget
    have hnb3:(L3.state== .busy)=false:=by
     cases st with
     |ready=>rw[hj3.1];rfl
     |busy=>exact absurd rfl hst
     |done j=>cases j<;>(rw[hj3.1];rfl)
    have hstep:=IS (P:=P) (b:=b) (a:=a2) (k:=k) (cs:=cs) hh3 hnb3
    obtain⟨S4,E4⟩:=q8.off hl3 hget rfl (FL.obj im.aA (.loop { L3 with state:= .exhausted }))
    have E04:=E03.trans E4
    exact⟨_,⟨L3,hj3,hst3.trans (.one hstep)⟩,⟨S4,hE.mono E04.le,rfl,E04,hDn.ext E4⟩⟩
   split at hc
   ·rename_i env3 ps3 asg3 body3 hget
    cases hc
    obtain⟨w',⟨L3,hj,hs⟩,hA⟩:=fin _ _ _ _ _ hget (by simp)
    refine⟨ρ3,w',a2,?_,hA⟩
    rw[hj.2] at hs
    exact hs
   ·rename_i env3 ps3 asg3 body3 hget
    cases hc
    obtain⟨w',⟨L3,hj,hs⟩,hA⟩:=fin _ _ _ _ _ hget (by simp)
    refine⟨ρ3,w',a2,⟨k,?_⟩,hA⟩
    rw[hj.2] at hs
    exact hs
   ·rename_i env3 ps3 asg3 body3 id hget
    cases hc
    obtain⟨w',⟨L3,hj,hs⟩,hA⟩:=fin _ _ _ _ _ hget (by simp)
    refine⟨ρ3,w',a2,⟨k,?_,rfl⟩,hA⟩
    rw[hj.2] at hs
    exact hs
   ·cases hc
  ·cases hc
 ·cases hc
end
section
variable {P:Program} {T:mV} {ng:Nat} {dr:pU} {F:Nat→Option bA} {ih:aj→Env→ae→R}
theorem IX {e:Env} {h:ae} {y:aO×Env×ae} (hc:bK F ih .bad e h=some y):False:=by simp[bK] at hc
theorem Ci {b:Frame} {a a':Act} {cs:List Frame} {w w':World} {t t':List Item} (h:t≠t'):lone (on b a t) cs w≠lone (on b a' t') cs w':=by
 intro e
 exact h (HX e)
theorem Cz (hF:zD P T ng dr F) (hT:bQ P T) (hD:Ca P T ng dr F) (hK:eV ih) (hI:qc P T ng dr ih):qc P T ng dr (bK F ih):=by
 intro n c
 induction c with
 |skip=>
  intro e h x e' h' hc B ρ w a b k cs S hG hE hn hB hDe hr
  simp only[bz,bK,Option.some.injEq,Prod.mk.injEq] at hc
  obtain⟨rfl,rfl,rfl⟩:=hc
  exact⟨ρ,w,a,.one No,.same S hE hDe⟩
 |label l=>
  intro e h x e' h' hc B ρ w a b k cs S hG hE hn hB hDe hr
  simp only[bz,bK,Option.some.injEq,Prod.mk.injEq] at hc
  obtain⟨rfl,rfl,rfl⟩:=hc
  exact⟨ρ,w,a,.one KU,.same S hE hDe⟩
 |region id ops draw=>
  intro e h x e' h' hc B ρ w a b k cs S hG hE hn hB hDe hr
  cases draw with
  |false=>
   simp only[bz,bK] at hc
   split at hc
   ·rename_i e1 h1 ho
    cases hc
    obtain⟨ρ1,w1,a1,s1,S1,E1,z1,d1,X1⟩:=Eu hF hT hI b k cs ops.size 0 (by omega) e e' h h' ho ρ w a S hG hE hn
    refine⟨ρ1,w1,a1,?_,⟨S1,E1,z1,X1,by rw[d1];exact hDe.ext X1⟩⟩
    rw[←List.range_eq_range'] at s1
    exact Steps.head Jw (Steps.trans s1 (.one vI))
   ·cases hc
  |true=>
   simp only[bz,bK] at hc
   split at hc
   ·rename_i e1 h1 ho
    cases hc
    obtain⟨ρ1,w1,a1,s1,S1,E1,z1,d1,X1⟩:=hD ih hK hI n ops e h e' h' ho (P.follows .mixedOrders) (w.tape w.drawn (.order b.fn id)) ρ { w with drawn:=w.drawn+1 } a b k cs (S.drawn _) hG hE hn
    have X:=(Ext.drawn (ρ:=ρ) (h:=h) (w:=w) (w.drawn+1)).trans X1
    refine⟨ρ1,w1,a1,?_,⟨S1,E1,z1,X,by rw[d1];exact hDe.ext X⟩⟩
    exact Steps.head M6 (Steps.trans s1 (.one vI))
   ·cases hc
 |seq c1 c2 _ _=>
  intro e h x e' h' hc B ρ w a b k cs S hG hE hn hB hDe hr
  have hr1:b.roundOf=none∨gE c1=true:=hr.imp_right fun q=>by simp only[gE,Bool.and_eq_true] at q;exact q.1
  have hr2:b.roundOf=none∨gE c2=true:=hr.imp_right fun q=>by simp only[gE,Bool.and_eq_true] at q;exact q.2
  simp only[bz,bK] at hc
  split at hc
  ·rename_i e1 h1 ho
   obtain⟨ρ1,w1,a1,g1,A1⟩:=hI n c1 e h _ e1 h1 ho B ρ w a b (.code c2::k) cs S hG hE hn hB hDe hr1
   obtain⟨ρ2,w2,a2,g2,A2⟩:=hI n c2 e1 h1 _ e' h' hc B ρ1 w1 a1 b k cs A1.GC (hG.mono A1.ext.le) A1.er (by rw[A1.size];exact hn) (Nat.le_trans hB A1.ext.size) A1.defs hr2
   exact⟨ρ2,w2,a2,zG.of_steps (.head Kt g1) g2,A1.trans A2⟩
  ·rename_i hne
   obtain⟨ρ1,w1,a1,g1,A1⟩:=hI n c1 e h _ e' h' hc B ρ w a b (.code c2::k) cs S hG hE hn hB hDe hr1
   refine⟨ρ1,w1,a1,?_,A1⟩
   cases x with
   |normal=>exact absurd hc (hne e' h')
   |exit id=>
    obtain⟨k',h1,h2⟩:=g1
    exact⟨k',.head Kt h1,h2.trans rfl⟩
   |ret=>
    obtain⟨k',h1⟩:=g1
    exact⟨k',.head Kt h1⟩
 |cond c c1 c2 _ _=>
  intro e h x e' h' hc B ρ w a b k cs S hG hE hn hB hDe hr
  have hr1:b.roundOf=none∨gE c1=true:=hr.imp_right fun q=>by simp only[gE,Bool.and_eq_true] at q;exact q.1
  have hr2:b.roundOf=none∨gE c2=true:=hr.imp_right fun q=>by simp only[gE,Bool.and_eq_true] at q;exact q.2
  simp only[bz] at hc
  cases ho:aR ng c with
  |false=>rw[ho] at hc;exact(IX hc).elim
  |true=>
   simp only[ho,cond_true,bK] at hc
   have hv:=hE.eval hG ho
   split at hc
   ·rename_i hev
    rw[hev] at hv
    obtain⟨ρ1,w1,a1,g1,A1⟩:=hI n c1 e h _ e' h' hc B ρ w a b k cs S hG hE hn hB hDe hr1
    exact⟨ρ1,w1,a1,zG.of_steps (.one (Ke hv.j5)) g1,A1⟩
   ·rename_i hev
    rw[hev] at hv
    obtain⟨ρ1,w1,a1,g1,A1⟩:=hI n c2 e h _ e' h' hc B ρ w a b k cs S hG hE hn hB hDe hr2
    exact⟨ρ1,w1,a1,zG.of_steps (.one (Ke hv.j5)) g1,A1⟩
   ·cases hc
 |block id c _=>
  intro e h x e' h' hc B ρ w a b k cs S hG hE hn hB hDe hr
  simp only[bz,bK] at hc
  split at hc
  ·rename_i i e1 h1 ho
   obtain⟨ρ1,w1,a1,g1,A1⟩:=hI n c e h _ e1 h1 ho B ρ w a b (.inBlock id::k) cs S hG hE hn hB hDe hr
   obtain⟨k',q1,q2⟩:=g1
   cases hi:Nat.beq i id with
   |true=>
    have:=Nat.eq_of_beq_eq_true hi
    subst this
    simp only[hi,cond_true,Option.some.injEq,Prod.mk.injEq] at hc
    obtain⟨rfl,rfl,rfl⟩:=hc
    refine⟨ρ1,w1,a1,?_,A1⟩
    refine Steps.head xK (q1.trans (.one (MQ ?_)))
    rw[q2]
    simp[exitTo]
   |false=>
    simp only[hi,cond_false,Option.some.injEq,Prod.mk.injEq] at hc
    obtain⟨rfl,rfl,rfl⟩:=hc
    refine⟨ρ1,w1,a1,⟨k',.head xK q1,?_⟩,A1⟩
    rw[q2]
    have:(id==i)=false:=by
     cases hx:id==i with
     |false=>rfl
     |true=>
      have:=eq_of_beq hx
      subst this
      rw[Nat.beq_refl] at hi;cases hi
    simp[exitTo,this]
  ·rename_i hne
   obtain⟨ρ1,w1,a1,g1,A1⟩:=hI n c e h _ e' h' hc B ρ w a b (.inBlock id::k) cs S hG hE hn hB hDe hr
   refine⟨ρ1,w1,a1,?_,A1⟩
   cases x with
   |normal=>exact Steps.head xK (Steps.trans g1 (.one He))
   |exit i=>exact absurd hc (hne i e' h')
   |ret=>
    obtain⟨k',h1⟩:=g1
    exact⟨k',.head xK h1⟩
 |loop c _=>
  intro e h x e' h' hc B ρ w a b k cs S hG hE hn hB hDe hr
  simp only[bz,bK] at hc
  split at hc
  ·rename_i e1 h1 ho
   obtain⟨ρ1,w1,a1,g1,A1⟩:=hI n c e h _ e1 h1 ho B ρ w a b (.inLoop c::k) cs S hG hE hn hB hDe hr
   obtain⟨ρ2,w2,a2,g2,A2⟩:=hI n (.loop c) e1 h1 _ e' h' hc B ρ1 w1 a1 b k cs A1.GC (hG.mono A1.ext.le) A1.er (by rw[A1.size];exact hn) (Nat.le_trans hB A1.ext.size) A1.defs hr
   refine⟨ρ2,w2,a2,?_,A1.trans A2⟩
   have hto:Steps P (lone (on b a (.code (.loop c)::k)) cs w) (lone (on b a1 (.code c:: .inLoop c::k)) cs w1):= .head BJ (Steps.trans g1 (.one IY))
   refine zG.of_steps hto ?_
   have hs:=BJ (P:=P) (b:=b) (a:=a1) (k:=k) (cs:=cs) (w:=w1) (c:=c)
   cases x with
   |normal=>exact uz g2 hs (Ci fun q=>by have:=congrArg List.length q;simp at this)
   |exit i=>
    obtain⟨k',q1,q2⟩:=g2
    exact⟨k',uz q1 hs (Ci fun q=>by cases q),q2⟩
   |ret=>
    obtain⟨k',q1⟩:=g2
    exact⟨k',uz q1 hs (Ci fun q=>by cases q)⟩
  ·rename_i hne
   obtain⟨ρ1,w1,a1,g1,A1⟩:=hI n c e h _ e' h' hc B ρ w a b (.inLoop c::k) cs S hG hE hn hB hDe hr
   refine⟨ρ1,w1,a1,?_,A1⟩
   cases x with
   |normal=>exact absurd hc (hne e' h')
   |exit id=>
    obtain⟨k',h1,h2⟩:=g1
    exact⟨k',.head BJ h1,h2.trans rfl⟩
   |ret=>
    obtain⟨k',h1⟩:=g1
    exact⟨k',.head BJ h1⟩
 |scope c ihc=>
  intro e h x e' h' hc B ρ w a b k cs S hG hE hn hB hDe hr
  simp only[bz] at hc
  obtain⟨ρ1,w1,a1,g1,A1⟩:=ihc e h x e' h' hc B ρ w a b (.inScope c::k) cs S hG hE hn hB hDe hr
  refine⟨ρ1,w1,a1,?_,A1⟩
  cases x with
  |normal=>exact Steps.head B8 (Steps.trans g1 (.one Iy))
  |exit id=>
   obtain⟨k',h1,h2⟩:=g1
   exact⟨k',.head B8 h1,h2.trans rfl⟩
  |ret=>
   obtain⟨k',h1⟩:=g1
   exact⟨k',.head B8 h1⟩
 |exit id=>
  intro e h x e' h' hc B ρ w a b k cs S hG hE hn hB hDe hr
  simp only[bz,bK,Option.some.injEq,Prod.mk.injEq] at hc
  obtain⟨rfl,rfl,rfl⟩:=hc
  exact⟨ρ,w,a,⟨k,Steps.refl P _,rfl⟩,.same S hE hDe⟩
 |ret=>
  intro e h x e' h' hc B ρ w a b k cs S hG hE hn hB hDe hr
  simp only[bz,bK,Option.some.injEq,Prod.mk.injEq] at hc
  obtain⟨rfl,rfl,rfl⟩:=hc
  exact⟨ρ,w,a,⟨k,Steps.refl P _⟩,.same S hE hDe⟩
 |rangeFunc f ps asg body _ _=>
  intro e h x e' h' hc B ρ w a b k cs S hG hE hn hB hDe hr
  simp only[bz] at hc
  cases hok:(aR ng f&&ps.toList.all (Nat.blt · n)&&gE asg&&gE body) with
  |false=>rw[hok] at hc;exact(IX hc).elim
  |true=>
   rw[hok] at hc
   simp only[Bool.and_eq_true] at hok
   obtain⟨⟨⟨h1,h2⟩,h3⟩,h4⟩:=hok
   have hrn:b.roundOf=none:=by
    rcases hr with q|q
    ·exact q
    ·simp[gE] at q
   exact HT hF hT hI h1 h2 h3 h4 hc b k cs S hG hE hn hB hDe hrn
 |_=>
  intro e h x e' h' hc
  exact(IX hc).elim
theorem Ic (hF:zD P T ng dr F) (hT:bQ P T) (hD:Ca P T ng dr F): ∀fuel,qc P T ng dr (run F fuel):=by
 intro fuel
 induction fuel with
 |zero=>intro n c e h x e' h' hc;cases hc
 |succ m ihm=>exact Cz hF hT hD (Io m) ihm
end
def fe (md:Region.Mode) (o:Oper):List Nat:=(o.after.toList.filter (Region.binds md)).map (·.on)
def pass:List (List Nat)→Nat→Nat→Nat
 |[],_,mask=>mask
 |e::r,i,mask=>pass r (i+1) (bif e.all (Nat.testBit mask) then mask ||| (1 <<< i) else mask)
def Lg (full:Nat) (es:List (List Nat)):Nat→Nat→Bool
 |0,_=>false
 |f+1,mask=>bif Nat.beq mask full then true else Lg full es f (pass es 0 mask)
def uK (md:Region.Mode) (ops:List Oper):Bool:=Lg (2^ops.length-1) (ops.map (fe md)) (ops.length+1) 0
theorem Gt {mask i j:Nat} :Nat.testBit (mask ||| (1 <<< i)) j=true↔Nat.testBit mask j=true∨j=i:=by
 rw[Nat.testBit_or,Bool.or_eq_true,Nat.one_shiftLeft,Nat.testBit_two_pow,decide_eq_true_eq]
 exact⟨Or.imp_right Eq.symm,Or.imp_right Eq.symm⟩
theorem yK {D:Nat→Prop} : ∀(es:List (List Nat)) (i mask:Nat),(∀j e,es[j]? =some e→(∀k∈e,D k)→D (i+j))→(∀k,Nat.testBit mask k=true→D k)→ ∀k,Nat.testBit (pass es i mask) k=true→D k
 |[],_,_,_,hm=>hm
 |e::r,i,mask,hD,hm=>by
  refine yK r (i+1) _ (fun j e' hj hk=>by have:=hD (j+1) e' (by simpa using hj) hk;rwa [Nat.add_assoc,Nat.add_comm 1 j]) ?_
  intro k hk
  cases hb:e.all (Nat.testBit mask)<;>simp only[hb,cond_true,cond_false] at hk
  ·exact hm k hk
  ·rcases Gt.1 hk with h|rfl
   ·exact hm k h
   ·exact hD 0 e rfl fun q hq=>hm q (List.all_eq_true.1 hb q hq)
theorem yd {D:Nat→Prop} {full:Nat} {es:List (List Nat)} (hD: ∀j e,es[j]? =some e→(∀k∈e,D k)→D j): ∀(f mask:Nat),Lg full es f mask=true→(∀k,Nat.testBit mask k=true→D k)→ ∀k,Nat.testBit full k=true→D k
 |0,_,h,_=>by cases h
 |f+1,mask,h,hm=>by
  simp only[Lg] at h
  cases hb:Nat.beq mask full with
  |true=>rw[Nat.eq_of_beq_eq_true hb] at hm;exact hm
  |false=>
   rw[hb] at h
   exact yd hD f _ h (yK es 0 mask (fun j e hj hk=>by rw[Nat.zero_add];exact hD j e hj hk) hm)
theorem EV {D:Nat→Prop} {md:Region.Mode} {ops:List Oper} (h:uK md ops=true) (hD: ∀(j:Nat) (o:Oper),ops[j]? =some o→(∀k∈fe md o,D k)→D j): ∀k,k<ops.length→D k:=by
 intro k hk
 refine yd (D:=D) (fun j e hj hke=> ?_) _ _ h (fun q hq=>by simp at hq) k ?_
 ·rw[List.getElem?_map] at hj
  cases ho:ops[j]? with
  |none=>rw[ho] at hj;cases hj
  |some o=>rw[ho] at hj;cases hj;exact hD j o ho hke
 ·rw[Nat.testBit_two_pow_sub_one];simpa using hk
inductive Ord (ops:Array Oper):(Nat→Prop)→List Nat→Prop
 |nil {D:Nat→Prop} (h: ∀i,i<ops.size→D i):Ord ops D []
 |cons {D:Nat→Prop} {i:Nat} {L:List Nat} {o:Oper} (ho:ops[i]? =some o) (hn: ¬D i) (he: ∀k∈fe .any o,D k) (hl:Ord ops (fun j=>D j∨j=i) L):Ord ops D (i::L)
theorem Hx {md:Region.Mode} {o:Oper} {k:Nat} (h:k∈fe .any o):k∈fe md o:=by
 unfold fe at h ⊢
 simp only[List.mem_map,List.mem_filter] at h ⊢
 obtain⟨e,⟨h1,h2⟩,h3⟩:=h
 refine⟨e,⟨h1,?_⟩,h3⟩
 unfold Region.binds at h2 ⊢
 split at h2<;>simp_all
theorem Nr {md:Region.Mode} {ops:Array Oper} (ht:uK md ops.toList=true): ∀(fuel t:Nat) (listed:Array Bool) (D:Nat→Prop),listed.size=ops.size→(∀i,D i↔listed.getD i false=true)→listed.toList.count false=fuel→
  Ord ops D (Region.linearise.go md ops fuel t listed []):=by
 intro fuel
 induction fuel with
 |zero=>
  intro t listed D hs hD hc
  refine .nil fun i hi=>(hD i).2 ?_
  have hlt:i<listed.size:=by omega
  rw[List.count_eq_zero] at hc
  cases hv:listed[i] with
  |true=>simp[Array.getD,hlt,hv]
  |false=>exact absurd (Array.mem_toList_iff.2 (hv▸Array.getElem_mem hlt)) hc
 |succ f ihf=>
  intro t listed D hs hD hc
  simp only[Region.linearise.go]
  generalize hrs:((List.range ops.size).filter fun i=> !listed.getD i true&&((ops[i]?).map (·.after.all fun e=> !Region.binds md e||listed.getD e.on false)).getD false)=rs
  have hmem: ∀i,i∈rs↔i<ops.size∧listed.getD i true=false∧((ops[i]?).map (·.after.all fun e=> !Region.binds md e||listed.getD e.on false)).getD false=true:=by
   intro i
   rw[←hrs]
   simp[and_assoc]
  have hne:rs≠[]:=by
   intro hnil
   have hall: ∀k,k<ops.toList.length→D k:=by
    refine EV ht fun j o hj hk=> ?_
    have hjo:ops[j]? =some o:=by simpa using hj
    have hlt:j<ops.size:=(Array.getElem?_eq_some_iff.1 hjo).1
    cases hv:listed.getD j true with
    |true=>
     refine(hD j).2 ?_
     have hlt':j<listed.size:=by omega
     simpa [Array.getD,hlt'] using hv
    |false=>
     have:j∈rs:=by
      refine(hmem j).2 ⟨hlt,hv,?_⟩
      rw[hjo]
      simp only[Option.map_some,Option.getD_some,Array.all_eq_true']
      intro e he
      cases hb:Region.binds md e with
      |false=>rfl
      |true=>
       refine(hD e.on).1 (hk e.on ?_)
       unfold fe
       simp only[List.mem_map,List.mem_filter]
       exact⟨e,⟨by simpa using he,hb⟩,rfl⟩
     rw[hnil] at this;cases this
   have:listed.toList.count false=0:=by
    rw[List.count_eq_zero]
    intro hm
    obtain⟨i,hi,hv⟩:=List.getElem_of_mem hm
    have hi':i<listed.size:=by simpa using hi
    have:=(hD i).1 (hall i (by simp;omega))
    simp[Array.getD,hi'] at this
    simp at hv
    rw[this] at hv;cases hv
   omega
  have hlen:0<rs.length:=List.length_pos_iff.2 hne
  have hget:rs[t%rs.length]? =some (rs[t%rs.length]'(Nat.mod_lt _ hlen)):=aQ _
  rw[hget]
  dsimp only
  generalize hi:rs[t%rs.length]'(Nat.mod_lt _ hlen)=i
  have him:i∈rs:=hi▸List.getElem_mem _
  obtain⟨h1,h2,h3⟩:=(hmem i).1 him
  rw[linearise_go_acc,List.reverse_singleton,List.singleton_append]
  have ho:ops[i]? =some ops[i]:=Array.getElem?_eq_getElem h1
  have hi2:i<listed.size:=by omega
  have hvi:listed[i]=false:=by simpa [Array.getD,hi2] using h2
  refine .cons ho ?_ ?_ (ihf _ _ _ (by simp[hs]) ?_ ?_)
  ·intro hd
   have:=(hD i).1 hd
   simp[Array.getD,hi2,hvi] at this
  ·intro k hk
   rw[ho] at h3
   simp only[Option.map_some,Option.getD_some,Array.all_eq_true'] at h3
   have hk':=Hx (md:=md) hk
   unfold fe at hk'
   simp only[List.mem_map,List.mem_filter] at hk'
   obtain⟨e,⟨q1,q2⟩,q3⟩:=hk'
   have:=h3 e (by simpa using q1)
   rw[q2] at this
   rw[←q3]
   exact(hD e.on).2 (by simpa using this)
  ·intro j
   constructor
   ·rintro(hj|rfl)
    ·have:=(hD j).1 hj
     by_cases hji:j=i
     ·subst hji;simp[Array.getD,hi2]
     ·simp only[Array.getD_eq_getD_getElem?] at this ⊢
      rw[Array.getElem?_setIfInBounds_ne (Ne.symm hji)]
      exact this
    ·simp[Array.getD,hi2]
   ·intro hj
    by_cases hji:j=i
    ·exact .inr hji
    ·refine .inl ((hD j).2 ?_)
     simp only[Array.getD_eq_getD_getElem?] at hj ⊢
     rwa [Array.getElem?_setIfInBounds_ne (Ne.symm hji)] at hj
  ·rw[Array.toList_setIfInBounds,List.count_set (by simpa using hi2)]
   simp[hvi,hc]
theorem BS {ops:Array Oper} (h0:uK .any ops.toList=true) (h1:uK .text ops.toList=true) (h2:uK .gc ops.toList=true) (mixed:Bool) (t:Nat):
  Ord ops (fun _=>False) (Region.schedule mixed ops t):=by
 have key: ∀(md:Region.Mode) (t:Nat),uK md ops.toList=true→Ord ops (fun _=>False) (Region.linearise md ops t):=by
  intro md t ht
  refine Nr ht _ _ _ _ (by simp) (fun i=> ?_) (by simp)
  simp[Array.getD_eq_getD_getElem?,Array.getElem?_replicate]
  split<;>simp
 unfold Region.schedule
 split
 ·exact key _ _ h0
 ·split
  ·exact key _ _ h1
  ·exact key _ _ h2
def zt (A:Tr Nat):List Nat→Nat
 |[]=>0
 |j::r=>(zt A r ||| (1 <<< j)) ||| (Tr.get A j).getD 0
def tF:List Oper→Nat→Tr Nat→Tr Nat
 |[],_,A=>A
 |o::r,i,A=>tF r (i+1) (A.set i (zt A (fe .any o)))
def qU (A:Tr Nat) (j i:Nat):Bool:=Nat.testBit ((Tr.get A j).getD 0) i
inductive wv (ops:Array Oper):Nat→Nat→Prop
 |Kb {i k:Nat} {o:Oper} (ho:ops[i]? =some o) (h:k∈fe .any o):wv ops i k
 |rP {i k j:Nat} {o:Oper} (ho:ops[i]? =some o) (h:k∈fe .any o) (hj:wv ops k j):wv ops i j
theorem xl {A:Tr Nat} : ∀ {es:List Nat} {k:Nat},Nat.testBit (zt A es) k=true→ ∃e∈es,k=e∨qU A e k=true
 |[],k,h=>by simp[zt] at h
 |j::r,k,h=>by
  rw[zt,Nat.testBit_or,Bool.or_eq_true] at h
  rcases h with h|h
  ·rcases Gt.1 h with h|h
   ·obtain⟨e,he,hk⟩:=xl h
    exact⟨e,List.mem_cons_of_mem _ he,hk⟩
   ·exact⟨j,List.mem_cons_self ..,.inl h⟩
  ·exact⟨j,List.mem_cons_self ..,.inr h⟩
theorem yb {ops:Array Oper} : ∀(l:List Oper) (i:Nat) (A:Tr Nat),(∀j o,l[j]? =some o→ops[i+j]? =some o)→(∀j k,qU A j k=true→wv ops j k)→ ∀j k,qU (tF l i A) j k=true→wv ops j k
 |[],_,_,_,hA=>hA
 |o::r,i,A,hl,hA=>by
  refine yb r (i+1) _ (fun j o' ho=>by have:=hl (j+1) o' (by simpa using ho);rwa [Nat.add_assoc,Nat.add_comm 1 j]) ?_
  intro j k hb
  unfold qU at hb
  rw[Tr.aN] at hb
  by_cases e:j=i
  ·subst e
   rw[if_pos rfl] at hb
   obtain⟨q,hq,hk⟩:=xl hb
   have ho:=hl 0 o rfl
   rcases hk with rfl|hk
   ·exact .Kb ho hq
   ·exact .rP ho hq (hA _ _ hk)
  ·rw[if_neg e] at hb
   exact hA j k hb
theorem wv.closed {ops:Array Oper} {D:Nat→Prop} (hD: ∀i o,ops[i]? =some o→D i→ ∀k∈fe .any o,D k) {i j:Nat} (h:wv ops i j):(∀o,ops[i]? =some o→ ∀k∈fe .any o,D k)→D j:=by
 induction h with
 |Kb ho h=>intro hi;exact hi _ ho _ h
 |rP ho h _ ih=>
  intro hi
  have hk:=hi _ ho _ h
  exact ih fun o' ho' k' hk'=>hD _ o' ho' hk k' hk'
theorem wv.lt {ops:Array Oper} (hl: ∀i o,ops[i]? =some o→ ∀k∈fe .any o,k<i) {i j:Nat} (h:wv ops i j):j<i:=by
 induction h with
 |Kb ho h=>exact hl _ _ ho _ h
 |rP ho h _ ih=>exact Nat.lt_trans ih (hl _ _ ho _ h)
def Ay:List Oper→Nat→Tr Nat→Option (Tr Nat)
 |[],_,M=>some M
 |o::r,i,M=>match o.dst with
  |none=>Ay r (i+1) M
  |some d=>match Tr.get M d with
   |none=>Ay r (i+1) (M.set d i)
   |some _=>none
theorem uJ: ∀(l:List Oper) (i:Nat) (M M':Tr Nat),Ay l i M=some M'→(∀d k,Tr.get M d=some k→Tr.get M' d=some k)∧ ∀j o d,l[j]? =some o→o.dst=some d→Tr.get M' d=some (i+j)
 |[],_,M,M',h=>by
  simp only[Ay,Option.some.injEq] at h
  subst h
  exact⟨fun _ _ h=>h,fun j o d h=>by simp at h⟩
 |o::r,i,M,M',h=>by
  simp only[Ay] at h
  split at h
  ·rename_i hn
   obtain⟨h1,h2⟩:=uJ r (i+1) M M' h
   refine⟨h1,fun j o' d hj hd=> ?_⟩
   cases j with
   |zero=>simp only[List.getElem?_cons_zero,Option.some.injEq] at hj;subst hj;rw[hn] at hd;cases hd
   |succ j=>rw[h2 j o' d (by simpa using hj) hd];congr 1;omega
  ·rename_i d0 hs
   split at h
   ·rename_i hg
    obtain⟨h1,h2⟩:=uJ r (i+1) _ M' h
    refine⟨fun d k hk=>h1 d k ?_,fun j o' d hj hd=> ?_⟩
    ·rw[Tr.aN]
     by_cases e:d=d0
     ·subst e;rw[hg] at hk;cases hk
     ·rw[if_neg e];exact hk
    ·cases j with
     |zero=>
      simp only[List.getElem?_cons_zero,Option.some.injEq] at hj;subst hj
      rw[hs] at hd;cases hd
      exact h1 _ _ (by rw[Tr.aN,if_pos rfl];rfl)
     |succ j=>rw[h2 j o' d (by simpa using hj) hd];congr 1;omega
   ·cases h
def places (p:Nat→Bool):List aV→Nat→List Nat
 |[],_=>[]
 |o::r,i=>bif p o.op.kind then i::places p r (i+1) else places p r (i+1)
theorem xn {p:Nat→Bool} : ∀(l:List aV) (i j:Nat) (o:aV),l[j]? =some o→p o.op.kind=true→i+j∈places p l i
 |[],_,j,o,h,_=>by simp at h
 |o::r,i,j,o',hj,hp=>by
  simp only[places]
  cases j with
  |zero=>
   simp only[List.getElem?_cons_zero,Option.some.injEq] at hj;subst hj
   rw[hp];exact List.mem_cons_self ..
  |succ j=>
   have:=xn r (i+1) j o' (by simpa using hj) hp
   rw[Nat.add_assoc,Nat.add_comm 1 j] at this
   cases p o.op.kind
   ·exact this
   ·exact List.mem_cons_of_mem _ this
def level (A:Tr Nat) (i:Nat):List Nat→Nat
 |[]=>0
 |u::r=>bif qU A i u then level A i r+1 else level A i r
def Gs (A:Tr Nat) (effs rest:List Nat):List Nat→Nat→List Nat
 |[],s=>rest.filter fun i=>Nat.beq (level A i effs) s
 |u::r,s=>(rest.filter fun i=>Nat.beq (level A i effs) s)++u::Gs A effs rest r (s+1)
def Gk (A:Tr Nat) (effs others:List Nat):List Nat:=Gs A effs others effs 0
def Dr:List Nat→Nat→Tr Nat→Option (Tr Nat)
 |[],_,Q=>some Q
 |i::r,p,Q=>match Tr.get Q i with
  |none=>Dr r (p+1) (Q.set i p)
  |some _=>none
theorem xW: ∀(l:List Nat) (p:Nat) (Q Q':Tr Nat),Dr l p Q=some Q'→(∀i k,Tr.get Q i=some k→Tr.get Q' i=some k)∧(∀j i,l[j]? =some i→Tr.get Q' i=some (p+j))∧
  (∀i k,Tr.get Q' i=some k→Tr.get Q i=some k∨ ∃j,l[j]? =some i∧k=p+j)
 |[],_,Q,Q',h=>by
  simp only[Dr,Option.some.injEq] at h
  subst h
  exact⟨fun _ _ h=>h,fun j i h=>by simp at h,fun i k h=> .inl h⟩
 |i0::r,p,Q,Q',h=>by
  simp only[Dr] at h
  split at h
  ·rename_i hn
   obtain⟨h1,h2,h3⟩:=xW r (p+1) _ Q' h
   refine⟨fun i k hk=>h1 i k ?_,fun j i hj=> ?_,fun i k hk=> ?_⟩
   ·rw[Tr.aN]
    by_cases e:i=i0
    ·subst e;rw[hn] at hk;cases hk
    ·rw[if_neg e];exact hk
   ·cases j with
    |zero=>
     simp only[List.getElem?_cons_zero,Option.some.injEq] at hj;subst hj
     exact h1 _ _ (by rw[Tr.aN,if_pos rfl];rfl)
    |succ j=>rw[h2 j i (by simpa using hj)];congr 1;omega
   ·rcases h3 i k hk with h|⟨j,hj,hkj⟩
    ·rw[Tr.aN] at h
     by_cases e:i=i0
     ·rw[if_pos e] at h;cases h
      exact .inr ⟨0,by simp[e],rfl⟩
     ·rw[if_neg e] at h;exact .inl h
    ·exact .inr ⟨j+1,by simpa using hj,by omega⟩
  ·cases h
def zv (ops:List Oper):List Nat→Option (List (Nat×Oper))
 |[]=>some []
 |i::r=>match ops[i]?,zv ops r with
  |some o,some l=>some ((i,o)::l)
  |_,_=>none
theorem wP {ops:List Oper} : ∀(l:List Nat) (rows:List (Nat×Oper)),zv ops l=some rows→rows.length=l.length∧ ∀(p i:Nat) (o:Oper),rows[p]? =some (i,o)→l[p]? =some i∧ops[i]? =some o
 |[],rows,h=>by
  simp only[zv,Option.some.injEq] at h
  subst h
  exact⟨rfl,fun p i o h=>by simp at h⟩
 |i::r,rows,h=>by
  simp only[zv] at h
  split at h
  ·rename_i o l ho hl
   cases h
   obtain⟨h1,h2⟩:=wP r l hl
   refine⟨by simp[h1],fun p i' o' hp=> ?_⟩
   cases p with
   |zero=>
    simp only[List.getElem?_cons_zero,Option.some.injEq,Prod.mk.injEq] at hp
    obtain⟨rfl,rfl⟩:=hp
    exact⟨rfl,ho⟩
   |succ p=>simpa using h2 p i' o' (by simpa using hp)
  ·cases h
def y_ (A M Q:Tr Nat) (effs:List Nat) (p i:Nat) (o:Oper):Bool:=
 (fe .any o).all (fun e=>match Tr.get Q e with|some pe=>Nat.blt pe p|none=>false)&&
 (match o.guard with|none=>true|some (g,_)=>qU A i g)&&
 o.op.operands.toList.all (fun x=>match x with
  | .tmp t=>match Tr.get M t with
   |none=>true
   |some k=>qU A i k||qU A k i
  |_=>true)&&
 effs.all fun u=>match Tr.get Q u with
  |some pu=> !Nat.blt pu p||qU A i u
  |none=>false
def yS (A M Q:Tr Nat) (effs:List Nat):List (Nat×Oper)→Nat→Bool
 |[],_=>true
 |(i,o)::r,p=>y_ A M Q effs p i o&&yS A M Q effs r (p+1)
theorem wM {A M Q:Tr Nat} {effs:List Nat} : ∀(l:List (Nat×Oper)) (p:Nat),yS A M Q effs l p=true→ ∀j i o,l[j]? =some (i,o)→y_ A M Q effs (p+j) i o=true
 |[],_,_,j,i,o,h=>by simp at h
 |(i,o)::r,p,h,j,i',o',hj=>by
  simp only[yS,Bool.and_eq_true] at h
  cases j with
  |zero=>
   simp only[List.getElem?_cons_zero,Option.some.injEq,Prod.mk.injEq] at hj
   obtain⟨rfl,rfl⟩:=hj
   exact h.1
  |succ j=>have:=wM r (p+1) h.2 j i' o' (by simpa using hj);rwa [Nat.add_assoc,Nat.add_comm 1 j] at this
def iL (A Q:Tr Nat) (p i:Nat):List Nat→List Nat
 |[]=>[]
 |u::r=>match Tr.get Q u with
  |some pu=>bif Nat.blt p pu&& !qU A u i then pu::iL A Q p i r else iL A Q p i r
  |none=>iL A Q p i r
theorem wO {A Q:Tr Nat} {p i:Nat} : ∀ {l:List Nat} {u pu:Nat},u∈l→Tr.get Q u=some pu→p<pu→qU A u i=false→pu∈iL A Q p i l
 |[],u,pu,h,_,_,_=>by simp at h
 |v::r,u,pu,h,hq,hp,hb=>by
  have hrest:u∈r→pu∈iL A Q p i (v::r):=fun hr=>by
   have:=wO hr hq hp hb
   simp only[iL]
   split
   ·rename_i pv _
    cases(Nat.blt p pv&& !qU A v i)
    ·exact this
    ·exact List.mem_cons_of_mem _ this
   ·exact this
  rcases List.mem_cons.1 h with rfl|hr
  ·simp only[iL,hq]
   rw[qH.2 hp,hb]
   exact List.mem_cons_self ..
  ·exact hrest hr
def BZ (A M:Tr Nat) (i:Nat) (o:aV):Option Nat:=
 bif Nat.beq o.op.kind 1 then match o.op.through with
  |some (.tmp t)=>match Tr.get M t with
   |none=>some t
   |some k=>bif qU A i k then some t else none
  |_=>none
 else o.dst
def xO (A M Q:Tr Nat) (effs:List Nat) (f:Oper→aV):List (Nat×Oper)→Nat→Option (List (Nat×Nat))
 |[],_=>some []
 |(i,o)::r,p=>match xO A M Q effs f r (p+1) with
  |none=>none
  |some ps=>bif Nat.beq (f o).op.kind 1||Nat.beq (f o).op.kind 2 then match iL A Q p i effs with
    |[]=>some ps
    |u::us=>match BZ A M i (f o) with
     |some t=>some (((u::us).foldl Nat.max p,t)::ps)
     |none=>none
   else some ps
theorem foldl_max: ∀(l:List Nat) (i:Nat),i≤l.foldl Nat.max i∧(∀u∈l,u≤l.foldl Nat.max i)∧(l.foldl Nat.max i=i∨l.foldl Nat.max i∈l)
 |[],i=>⟨Nat.le_refl _,fun _ h=>by simp at h,.inl rfl⟩
 |u::l,i=>by
  obtain⟨h1,h2,h3⟩:=foldl_max l (Nat.max i u)
  simp only[List.foldl_cons]
  refine⟨Nat.le_trans (Nat.le_max_left i u) h1,?_,?_⟩
  ·intro x hx
   rcases List.mem_cons.1 hx with rfl|hx
   ·exact Nat.le_trans (Nat.le_max_right i x) h1
   ·exact h2 x hx
  ·rcases h3 with h3|h3
   ·rw[h3]
    rcases Nat.le_total i u with h|h
    ·right;rw[show Nat.max i u=u from Nat.max_eq_right h];exact List.mem_cons_self ..
    ·left;exact Nat.max_eq_left h
   ·exact .inr (List.mem_cons_of_mem _ h3)
theorem xV {A Q:Tr Nat} {p i:Nat} : ∀ {l:List Nat} {x:Nat},x∈iL A Q p i l→ ∃u∈l,Tr.get Q u=some x
 |[],x,h=>by simp[iL] at h
 |v::r,x,h=>by
  simp only[iL] at h
  have hr:x∈iL A Q p i r→ ∃u∈v::r,Tr.get Q u=some x:=fun h=>by
   obtain⟨u,hu,hq⟩:=xV h
   exact⟨u,List.mem_cons_of_mem _ hu,hq⟩
  split at h
  ·rename_i pv hpv
   cases hb:(Nat.blt p pv&& !qU A v i)<;>rw[hb] at h
   ·exact hr h
   ·rcases List.mem_cons.1 h with rfl|h
    ·exact⟨v,List.mem_cons_self ..,hpv⟩
    ·exact hr h
  ·exact hr h
theorem uU {A M Q:Tr Nat} {effs:List Nat} {f:Oper→aV} : ∀(l:List (Nat×Oper)) (p:Nat) (ps:List (Nat×Nat)),xO A M Q effs f l p=some ps→ ∀j i o,l[j]? =some (i,o)→((f o).op.kind=1∨(f o).op.kind=2)→
  iL A Q (p+j) i effs=[]∨ ∃c t,BZ A M i (f o)=some t∧p+j≤c∧(∀u∈iL A Q (p+j) i effs,u≤c)∧(c=p+j∨ ∃u∈effs,Tr.get Q u=some c)∧(c,t)∈ps
 |[],_,_,_,j,i,o,h,_=>by simp at h
 |(i,o)::r,p,ps,h,j,i',o',hj,hk=>by
  simp only[xO] at h
  split at h
  ·cases h
  ·rename_i ps' hr
   cases j with
   |succ j=>
    have:=uU r (p+1) ps' hr j i' o' (by simpa using hj) hk
    rw[Nat.add_assoc,Nat.add_comm 1 j] at this
    refine this.imp_right fun⟨c,t,h1,h2,h3,h4,h5⟩=>⟨c,t,h1,h2,h3,h4,?_⟩
    cases hb:(Nat.beq (f o).op.kind 1||Nat.beq (f o).op.kind 2)<;>rw[hb] at h
    ·cases h;exact h5
    ·simp only[cond_true] at h
     split at h
     ·cases h;exact h5
     ·split at h
      ·cases h;exact List.mem_cons_of_mem _ h5
      ·cases h
   |zero=>
    simp only[List.getElem?_cons_zero,Option.some.injEq,Prod.mk.injEq] at hj
    obtain⟨rfl,rfl⟩:=hj
    have hb:(Nat.beq (f o).op.kind 1||Nat.beq (f o).op.kind 2)=true:=by rcases hk with hk|hk<;>rw[hk]<;>rfl
    rw[hb] at h
    simp only[cond_true] at h
    split at h
    ·rename_i hf;exact .inl hf
    ·rename_i u us hf
     split at h
     ·rename_i t ht
      cases h
      obtain⟨h1,h2,h3⟩:=foldl_max (u::us) p
      refine .inr ⟨_,t,ht,h1,by rw[Nat.add_zero,hf];exact h2,h3.imp_right fun q=> ?_,List.mem_cons_self ..⟩
      have q': ∀x,x∈u::us→ ∃v∈effs,Tr.get Q v=some x:=fun x hx=>xV (hf▸hx:x∈iL A Q p i effs)
      exact q' _ q
     ·cases h
def attach (ps:List (Nat×Nat)) (f:Oper→aV):List (Nat×Oper)→Nat→List (aV×List Nat)
 |[],_=>[]
 |(_,o)::r,p=>(f o,(ps.filter fun x=>Nat.beq x.1 p).map (·.2))::attach ps f r (p+1)
theorem rW {ps:List (Nat×Nat)} {f:Oper→aV} : ∀(l:List (Nat×Oper)) (p j:Nat),(attach ps f l p)[j]? =(l[j]?).map fun x=>(f x.2,(ps.filter fun x=>Nat.beq x.1 (p+j)).map (·.2))
 |[],_,j=>by simp[attach]
 |(_,o)::r,p,j=>by
  cases j with
  |zero=>simp[attach]
  |succ j=>
   simp only[attach,List.getElem?_cons_succ]
   rw[rW r (p+1) j,Nat.add_assoc,Nat.add_comm 1 j]
theorem x6 {ps:List (Nat×Nat)} {f:Oper→aV} : ∀(l:List (Nat×Oper)) (p:Nat),(attach ps f l p).length=l.length
 |[],_=>rfl
 |(_,_)::r,p=>by simp[attach,x6 r]
def qC:List (aV×List Nat):=[({ dst:=none,guard:=none,op:= .bad },[])]
def DB (T:mV) (ng n:Nat) (ops:List Oper) (M A:Tr Nat) (effs ord:List Nat):List (aV×List Nat):=
 match Dr ord 0 .nil,zv ops ord with
 |some Q,some rows=>match xO A M Q effs (aM T ng n ops) rows 0 with
  |some ps=>bif Nat.beq ord.length ops.length&&(List.range ops.length).all (fun i=>(Tr.get Q i).isSome)&&uK .any ops&&uK .text ops&&uK .gc ops&&yS A M Q effs rows 0 then attach ps (aM T ng n ops) rows 0 else qC
  |none=>qC
 |_,_=>qC
def dq (T:mV) (ng n:Nat) (ops:List Oper):List (aV×List Nat):=
 match Ay ops 0 .nil with
 |none=>qC
 |some M=>match tF ops 0 .nil,ops.map (aM T ng n ops) with
  |A,as=>match places (Nat.beq 3) as 0,places (fun k=>Nat.blt k 3) as 0 with
   |effs,others=>DB T ng n ops M A effs (Gk A effs others)
structure ij (T:mV) (ng n:Nat) (ops:Array Oper) (σ:Nat→Nat) (l:List (aV×List Nat)):Prop where
 any:uK .any ops.toList=true
 text:uK .text ops.toList=true
 gc:uK .gc ops.toList=true
 bound: ∀p,p<ops.size→σ p<ops.size
 LD: ∀i,i<ops.size→ ∃p,p<ops.size∧σ p=i
 inj: ∀p q,p<ops.size→q<ops.size→σ p=σ q→p=q
 get: ∀(p:Nat) (o:Oper),p<ops.size→ops[σ p]? =some o→ ∃chk,l[p]? =some (aM T ng n ops.toList o,chk)
 len:l.length=ops.size
 lower: ∀(p:Nat) (o:Oper),p<ops.size→ops[σ p]? =some o→ ∀k∈fe .any o,∃pk,pk<p∧σ pk=k
 guard: ∀(j:Nat) (o:Oper) (g:Nat) (b:Bool),ops[j]? =some o→o.guard=some (g,b)→wv ops j g
 reads: ∀(j:Nat) (o:Oper) (t:Nat),ops[j]? =some o→Operand.tmp t∈o.op.operands.toList→ ∀(i:Nat) (o':Oper),ops[i]? =some o'→o'.dst=some t→wv ops j i∨wv ops i j
 once: ∀(i j:Nat) (o o':Oper) (d:Nat),ops[i]? =some o→ops[j]? =some o'→o.dst=some d→o'.dst=some d→i=j
 eager: ∀(p u:Nat) (o':Oper),u<p→p<ops.size→ops[σ u]? =some o'→(aM T ng n ops.toList o').op.kind=3→wv ops (σ p) (σ u)
 still: ∀(p:Nat) (o:Oper),p<ops.size→ops[σ p]? =some o→((aM T ng n ops.toList o).op.kind=1∨(aM T ng n ops.toList o).op.kind=2)→
  (∀(u:Nat) (o':Oper),p<u→u<ops.size→ops[σ u]? =some o'→(aM T ng n ops.toList o').op.kind=3→wv ops (σ u) (σ p))∨
  ∃(c t:Nat) (ao:aV) (chk:List Nat),p≤c∧c<ops.size∧l[c]? =some (ao,chk)∧t∈chk∧
   (((aM T ng n ops.toList o).op.kind=1∧(aM T ng n ops.toList o).op.through=some (.tmp t)∧ ∀(i:Nat) (o':Oper),ops[i]? =some o'→o'.dst=some t→wv ops (σ p) i)∨
    ((aM T ng n ops.toList o).op.kind=2∧(aM T ng n ops.toList o).dst=some t))∧
   ∀(u:Nat) (o':Oper),p<u→u<ops.size→ops[σ u]? =some o'→(aM T ng n ops.toList o').op.kind=3→ ¬wv ops (σ u) (σ p)→u≤c
theorem D3 {T:mV} {ng n:Nat} {ops:Array Oper} (hb:dq T ng n ops.toList≠qC): ∃σ,ij T ng n ops σ (dq T ng n ops.toList):=by
 revert hb
 unfold dq
 split
 ·intro h;exact absurd rfl h
 ·rename_i M hM
  dsimp only
  unfold DB
  generalize hord:Gk (tF ops.toList 0 .nil) (places (Nat.beq 3) (ops.toList.map (aM T ng n ops.toList)) 0) (places (fun k=>Nat.blt k 3) (ops.toList.map (aM T ng n ops.toList)) 0)=ord
  generalize heffs:places (Nat.beq 3) (ops.toList.map (aM T ng n ops.toList)) 0=effs
  split
  ·rename_i Q rows hQ hrows
   split
   ·rename_i ps hps
    cases hc:(Nat.beq ord.length ops.toList.length&&(List.range ops.toList.length).all (fun i=>(Tr.get Q i).isSome)&&uK .any ops.toList&&uK .text ops.toList&&uK .gc ops.toList&&yS (tF ops.toList 0 .nil) M Q effs rows 0) with
    |false=>intro h;exact absurd rfl h
    |true=>
     intro _
     simp only[cond_true]
     simp only[Bool.and_eq_true] at hc
     obtain⟨⟨⟨⟨⟨c0,c9⟩,c1⟩,c2⟩,c3⟩,c4⟩:=hc
     have hlen:ord.length=ops.size:=by simpa using Nat.eq_of_beq_eq_true c0
     obtain⟨hrl,hrs⟩:=wP ord rows hrows
     obtain⟨_,hQ1,hQ2⟩:=xW ord 0 .nil Q hQ
     have hA: ∀j k,qU (tF ops.toList 0 .nil) j k=true→wv ops j k:=
      yb ops.toList 0 .nil (fun j o h=>by simpa using h) (fun j k h=>by simp[qU,Tr.get] at h)
     have hMs:=(uJ ops.toList 0 .nil M hM).2
     
     have hrow: ∀p,p<ops.size→ ∃i o,rows[p]? =some (i,o)∧ord[p]? =some i∧ops[i]? =some o∧Tr.get Q i=some p:=by
      intro p hp
      have hlt:p<rows.length:=by omega
      have hr:rows[p]? =some (rows[p].1,rows[p].2):=aQ hlt
      obtain⟨h1,h2⟩:=hrs p _ _ hr
      have h3:=hQ1 p _ h1
      rw[Nat.zero_add] at h3
      exact⟨_,_,hr,h1,by simpa using h2,h3⟩
     let σ:Nat→Nat:=fun p=>ord.getD p 0
     have hσ: ∀p i,ord[p]? =some i→σ p=i:=fun p i h=>by simp[σ,List.getD,h]
     have hsize: ∀i o,ops[i]? =some o→i<ops.size:=fun i o h=>(Array.getElem?_eq_some_iff.1 h).1
     
     have hbound: ∀p,p<ops.size→σ p<ops.size:=fun p hp=>by
      obtain⟨i,o,_,h2,h3,_⟩:=hrow p hp
      rw[hσ p i h2];exact hsize i o h3
     have hinj: ∀p q,p<ops.size→q<ops.size→σ p=σ q→p=q:=by
      intro p q hp hq he
      obtain⟨i,o,_,h2,_,h4⟩:=hrow p hp
      obtain⟨j,o',_,g2,_,g4⟩:=hrow q hq
      rw[hσ p i h2,hσ q j g2] at he
      subst he
      rw[h4] at g4
      exact Option.some.inj g4
     have honto: ∀i,i<ops.size→ ∃p,p<ops.size∧σ p=i:=by
      intro i hi
      have h1:=List.all_eq_true.1 c9 i (List.mem_range.2 (by simpa using hi))
      obtain⟨p,hp⟩:=Option.isSome_iff_exists.1 h1
      rcases hQ2 i p hp with h|⟨j,hj,hkj⟩
      ·simp[Tr.get] at h
      ·have hlt:=(bY.1 hj).1
       exact⟨p,by omega,hσ p i (by rw[hkj,Nat.zero_add];exact hj)⟩
     have hrowOk: ∀p i o,p<ops.size→ops[σ p]? =some o→σ p=i→y_ (tF ops.toList 0 .nil) M Q effs p i o=true∧rows[p]? =some (i,o):=by
      intro p i o hp ho hi
      obtain⟨i',o',h1,h2,h3,h4⟩:=hrow p hp
      have:=hσ p i' h2
      rw[this] at ho hi
      subst hi
      rw[h3] at ho;cases ho
      have:=wM rows 0 c4 p _ _ h1
      rw[Nat.zero_add] at this
      exact⟨this,h1⟩
     have hpos: ∀p,p<ops.size→Tr.get Q (σ p)=some p:=by
      intro p hp
      obtain⟨i,o,_,h2,_,h4⟩:=hrow p hp
      rw[hσ p i h2];exact h4
     have heff: ∀i o,ops[i]? =some o→(aM T ng n ops.toList o).op.kind=3→i∈effs:=by
      intro i o h hk
      have hget:(ops.toList.map (aM T ng n ops.toList))[i]? =some (aM T ng n ops.toList o):=by
       have h':ops.toList[i]? =some o:=by simpa using h
       rw[List.getElem?_map,h'];rfl
      have:=xn (p:=Nat.beq 3) _ 0 i _ hget (by rw[hk];rfl)
      rw[Nat.zero_add,heffs] at this
      exact this
     have hat: ∀j o,ops[j]? =some o→ ∃p,p<ops.size∧σ p=j:=fun j o h=>honto j (hsize j o h)
     refine⟨σ,c1,c2,c3,hbound,honto,hinj,?_,?_,?_,?_,?_,?_,?_,?_⟩
     ·intro p o hp ho
      obtain⟨_,h1⟩:=hrowOk p (σ p) o hp ho rfl
      rw[rW,h1]
      exact⟨_,rfl⟩
     ·rw[x6];omega
     ·intro p o hp ho k hk
      have h1:=(hrowOk p (σ p) o hp ho rfl).1
      simp only[y_,Bool.and_eq_true] at h1
      have h2:=List.all_eq_true.1 h1.1.1.1 k hk
      split at h2
      ·rename_i pe hpe
       rcases hQ2 k pe hpe with h|⟨j,hj,hkj⟩
       ·simp[Tr.get] at h
       ·refine⟨pe,qH.1 h2,?_⟩
        rw[hkj,Nat.zero_add]
        exact hσ j k hj
      ·cases h2
     ·intro j o g b h hg
      obtain⟨p,hp,hpj⟩:=hat j o h
      have h1:=(hrowOk p j o hp (by rw[hpj];exact h) hpj).1
      simp only[y_,Bool.and_eq_true,hg] at h1
      exact hA _ _ h1.1.1.2
     ·intro j o t h ht i o' hi hd
      obtain⟨p,hp,hpj⟩:=hat j o h
      have h1:=(hrowOk p j o hp (by rw[hpj];exact h) hpj).1
      simp only[y_,Bool.and_eq_true] at h1
      have h2:=List.all_eq_true.1 h1.1.2 _ ht
      have h3:=hMs i o' t (by simpa using hi) hd
      rw[Nat.zero_add] at h3
      simp only[h3,Bool.or_eq_true] at h2
      exact h2.imp (hA _ _) (hA _ _)
     ·intro i j o o' d hi hj hd hd'
      have h1:=hMs i o d (by simpa using hi) hd
      have h2:=hMs j o' d (by simpa using hj) hd'
      rw[h1] at h2
      simpa using h2
     ·intro p u o' hup hp ho' hk
      have hu:u<ops.size:=by omega
      obtain⟨o,ho⟩: ∃o,ops[σ p]? =some o:=⟨_,Array.getElem?_eq_getElem (hbound p hp)⟩
      have h1:=(hrowOk p (σ p) o hp ho rfl).1
      simp only[y_,Bool.and_eq_true] at h1
      have h2:=List.all_eq_true.1 h1.2 _ (heff _ _ ho' hk)
      rw[hpos u hu] at h2
      simp only[Bool.or_eq_true,qH.2 hup,Bool.not_true,Bool.false_eq_true,false_or] at h2
      exact hA _ _ h2
     ·intro p o hp ho hk
      obtain⟨_,hr⟩:=hrowOk p (σ p) o hp ho rfl
      have hfl: ∀(u:Nat) (o':Oper),p<u→u<ops.size→ops[σ u]? =some o'→(aM T ng n ops.toList o').op.kind=3→ ¬wv ops (σ u) (σ p)→u∈iL (tF ops.toList 0 .nil) Q p (σ p) effs:=by
       intro u o' hpu hu ho' hk' hna
       refine wO (heff _ _ ho' hk') (hpos u hu) hpu ?_
       cases hb:qU (tF ops.toList 0 .nil) (σ u) (σ p) with
       |false=>rfl
       |true=>exact absurd (hA _ _ hb) hna
      rcases uU rows 0 ps hps p _ _ hr hk with h|⟨c,t,h1,h2,h3,h4,h5⟩
      ·left
       rw[Nat.zero_add] at h
       intro u o' hpu hu ho' hk'
       apply Classical.byContradiction
       intro hne
       have:=hfl u o' hpu hu ho' hk' hne
       rw[h] at this;cases this
      ·right
       rw[Nat.zero_add] at h2 h3 h4
       have hcm:c<ops.size:=by
        rcases h4 with rfl|⟨u,_,hu⟩
        ·exact hp
        ·rcases hQ2 u c hu with h|⟨j,hj,hcj⟩
         ·simp[Tr.get] at h
         ·have:=(bY.1 hj).1
          omega
       obtain⟨ic,oc,hrc,_,_,_⟩:=hrow c hcm
       refine⟨c,t,aM T ng n ops.toList oc,(ps.filter fun x=>Nat.beq x.1 (0+c)).map (·.2),h2,hcm,by rw[rW,hrc];rfl,?_,?_,fun u o' hpu hu ho' hk' hna=>h3 u (hfl u o' hpu hu ho' hk' hna)⟩
       ·rw[List.mem_map]
        exact⟨(c,t),List.mem_filter.2 ⟨h5,by simp⟩,rfl⟩
       ·unfold BZ at h1
        rcases hk with hk|hk
        ·left
         rw[hk] at h1
         simp only[Nat.beq_refl,cond_true] at h1
         split at h1
         ·rename_i t' ht'
          split at h1
          ·rename_i hMt
           cases h1
           refine⟨hk,ht',fun i o' hi hd=> ?_⟩
           have:=hMs i o' t (by simpa using hi) hd
           rw[hMt] at this;cases this
          ·rename_i k hMt
           cases hbk:qU (tF ops.toList 0 .nil) (σ p) k<;>rw[hbk] at h1<;>cases h1
           refine⟨hk,ht',fun i o' hi hd=> ?_⟩
           have:=hMs i o' t (by simpa using hi) hd
           rw[hMt,Nat.zero_add] at this
           cases this
           exact hA _ _ hbk
         ·cases h1
        ·right
         rw[hk] at h1
         exact⟨hk,h1⟩
   ·intro h;exact absurd rfl h
  ·intro h;exact absurd rfl h
theorem xu {T:mV} : ∀(fs:List Field) (ps:List (Nat×Operand)) (l:List (Nat×Nat×Operand)),qy T fs ps=some l→l.map (·.2.2)=ps.map (·.2)
 |fs,[],l,h=>by simp only[qy,Option.some.injEq] at h;subst h;rfl
 |fs,(i,x)::r,l,h=>by
  simp only[qy] at h
  split at h
  ·cases h
  ·split at h
   ·rename_i hr
    cases h
    simp[xu fs r _ hr]
   ·cases h
theorem BO {T:mV} {c:Call} {x:Operand} (h:x∈(sZ T c).gY):x∈c.operands.toList:=by
 obtain⟨cal,args,ats⟩:=c
 unfold sZ at h
 dsimp only at h
 have hin: ∀y,y∈args.toList→y∈(Call.operands ⟨cal,args,ats⟩).toList:=by
  intro y hy
  have:=Array.mem_toList_iff.1 hy
  cases cal<;>simp[Call.operands,this]
 split at h
 ·rename_i f
  simp only[ia.gY,List.mem_cons] at h
  rcases h with rfl|h
  ·simp[Call.operands]
  ·exact hin x h
 all_goals
  repeat' split at h
  all_goals first
   |(simp only[ia.gY,List.not_mem_nil] at h;done)
   |(refine hin x ?_;simp only[ia.gY] at h;simp_all;done)
theorem EY {T:mV} {op:Op} {x:Operand} (h:x∈(bC T op).gY):x∈op.operands.toList:=by
 cases op with
 |call c=>exact BO h
 |build t ps=>
  simp only[bC] at h
  split at h
  ·split at h
   ·rename_i fs _
    generalize (fs.toList.all fun f=>(T f.type).isSome)=bb at h
    cases bb<;>simp only[cond_true,cond_false] at h
    ·simp[ia.gY] at h
    ·split at h
     ·rename_i l hl
      simp only[ia.gY] at h
      rw[xu _ _ _ hl] at h
      simpa [Op.operands] using h
     ·simp[ia.gY] at h
   ·split at h
    ·simp only[ia.gY,List.map_map] at h
     simpa [Op.operands,Function.comp_def] using h
    ·simp[ia.gY] at h
   ·simp[ia.gY] at h
  ·simp[ia.gY] at h
 |buildSlice t n ps=>
  simp only[bC] at h
  repeat' split at h
  ·rename_i e _
   generalize (Nat.ble (n*e.size) 1000000&&Nat.beq e.zero.length e.size)=bb at h
   cases bb<;>simp only[cond_true,cond_false] at h
   ·simp[ia.gY] at h
   ·simp only[ia.gY,List.map_map] at h
    simpa [Op.operands,Function.comp_def] using h
  all_goals simp[ia.gY] at h
 |slice t y lo hi mx=>
  simp only[bC] at h
  repeat' split at h
  ·generalize (mx.isSome&&hi.isNone)=bb at h
   cases bb<;>simp only[cond_true,cond_false] at h
   ·simp only[ia.gY,List.mem_cons,List.mem_append] at h
    simp[Op.operands]
    simpa [or_assoc] using h
   ·simp[ia.gY] at h
  all_goals simp[ia.gY] at h
 |makeFunc f first caps=>
  cases f with
  |func g=>
   simp only[bC] at h
   cases hb:first.isEmpty<;>rw[hb] at h<;>simp only[cond_true,cond_false,ia.gY] at h
   ·simp at h
   ·simp[Op.operands];exact .inr (by simpa using h)
  |_=>simp[bC,ia.gY] at h
 |makeMap t r=>cases r<;>simp[bC,ia.gY] at h
 |next it st=>cases st<;>simp[bC,ia.gY] at h<;>simpa [Op.operands] using h
 |fieldAddr t y k=>
  simp only[bC] at h
  repeat' split at h
  ·rename_i fi _
   generalize Nat.beq fi.size 0=bb at h
   cases bb<;>simp only[cond_true,cond_false] at h<;>simp[ia.gY] at h<;>simpa [Op.operands] using h
  all_goals simp[ia.gY] at h
 |binOp op t y z _=>
  simp only[bC] at h
  repeat' split at h
  all_goals first
   |(simp[ia.gY] at h;done)
   |(simp only[ia.gY] at h;simpa [Op.operands] using h)
 |_=>
  simp only[bC] at h
  repeat' split at h
  all_goals first
   |(simp[ia.gY] at h;done)
   |(simp only[ia.gY] at h;simpa [Op.operands] using h)
theorem BE {T:mV} {op:Op} {e:Env} {h:ae} {y:Value×ae} (hv:aZ e h (bC T op)=some y): ∀cs b,op≠ .select cs b:=by
 intro cs b hop
 subst hop
 simp[bC,aZ] at hv
section
variable {P:Program} {T:mV} {ng:Nat} {dr:pU} {F:Nat→Option bA} {ih:aj→Env→ae→R}
theorem tn (hF:zD P T ng dr F) (hT:bQ P T) (hI:qc P T ng dr ih) {n:Nat} {ops:Array Oper} {i:Nat} {o:Oper} (ho:ops[i]? =some o) {e e' e2:Env} {h h':ae}
  (hc:cn F ih (aM T ng n ops.toList o) e h=some (e',h')) {ρ:dp} {w:World} (S:cu (eY T ng dr) ρ h w) (hG:bJ ng ρ) {a a2:Act} (hE:ER ρ e2 a2.tmps) (hn:n≤a.tmps.size)
  (hx: ∀x∈o.op.operands.toList,ev e x=ev e2 x∧a.eval x=a2.eval x) (hwr:Region.wanted o (yielded ops a.tmps)=wanted e (guardOf ops.toList o))
  (b:Frame) (k:List Item) (cs:List Frame) (rest:List Nat):
  ∃ρ' w' c v,Steps P (lone (on b a (.inRegion ops (i::rest)::k)) cs w) (lone (on b (a.put o.dst c) (.inRegion ops rest::k)) cs w')∧e'=dW e o.dst v∧VR ρ' v c∧
   (∀d,o.dst=some d→d<a.tmps.size)∧cu (eY T ng dr) ρ' h' w'∧Ext ρ h w ρ' h' w':=by
 unfold aM at hc
 cases hcond:pL ng n ops.toList o with
 |false=>
  simp only[hcond,cond_false] at hc
  simp[cn,wanted,aZ] at hc
 |true=>
  simp only[hcond,cond_true] at hc
  simp only[pL,Bool.and_eq_true] at hcond
  obtain⟨⟨hd,hg⟩,hopd⟩:=hcond
  have hdst: ∀d,o.dst=some d→d<a.tmps.size:=by
   intro d hd'
   rw[hd'] at hd
   exact Nat.lt_of_lt_of_le (qH.1 hd) hn
  unfold cn at hc
  dsimp only at hc
  rw[←hwr] at hc
  cases hwant:Region.wanted o (yielded ops a.tmps) with
  |false=>
   simp only[hwant,cond_false,Option.some.injEq,Prod.mk.injEq] at hc
   obtain⟨rfl,rfl⟩:=hc
   refine⟨ρ,w,undef,_,.one ?_,rfl,VR.undef,hdst,S,.refl ρ h w⟩
   have:=A8 (P:=P) (b:=b) (a:=a) (k:=k) (cs:=cs) (w:=w) (ops:=ops) (i:=i) (rest:=rest) (by simp[ho,hwant])
   rw[ho] at this
   exact this
  |true=>
   simp only[hwant,cond_true] at hc
   split at hc
   ·rename_i f args hop
    obtain⟨cl,h1,h2,h3⟩:=y4 hop
    split at hc
    ·rename_i v h1' hcv
     cases hc
     have hoks:aR ng f=true∧args.all (aR ng)=true:=by
      rw[h1] at hopd
      simp only[Op.operands,Call.operands,h2] at hopd
      rw[←h3]
      simpa using hopd
     have hmem: ∀x,x∈f::args→x∈o.op.operands.toList:=by
      intro x hx'
      rw[h1]
      simp only[Op.operands,Call.operands,h2]
      rw[←h3] at hx'
      simpa using hx'
     have hvs:=u6 hE hG args hoks.2
     rw[←yG (e:=e) (e':=e2) (fun x hx'=>(hx x (hmem x (List.mem_cons_of_mem _ hx'))).1)] at hvs
     have hvf:=hE.eval hG hoks.1
     rw[←(hx f (hmem f (List.mem_cons_self ..))).1] at hvf
     have hca:cl.args.toList.map a.eval=args.map a2.eval:=by
      rw[h3]
      exact List.map_congr_left fun x hx'=>(hx x (hmem x (List.mem_cons_of_mem _ hx'))).2
     obtain⟨ρ',w',c,q1,q2,q3,q4⟩:=wN (P:=P) hF hT hI hcv S hG hvf hvs ho hwant h1 h2 (hx f (hmem f (List.mem_cons_self ..))).2 hca b k cs (rest:=rest)
     exact⟨ρ',w',c,v,q1,rfl,q2,hdst,q3,q4⟩
    ·cases hc
   ·split at hc
    ·rename_i v h1' hov
     cases hc
     have hov2:aZ e2 h (bC T o.op)=some (v,h'):=by
      rw[←Hv (e:=e) (e':=e2) (bC T o.op) (fun x hx'=>(hx x (EY hx')).1)]
      exact hov
     obtain⟨ρ',w',c,hr,hv,S',E'⟩:=DD (P:=P) (a:=a2) hT S hE hG o hopd hov2
     have hcg:execOp a.eval o=execOp a2.eval o:=execOp_congr o (BE hov) fun x hx'=>(hx x (Array.mem_toList_iff.2 hx')).2
     rw[←hcg] at hr
     have hnd:=AP hov
     rcases hr with hr|⟨rfl,hr⟩
     ·exact⟨ρ',w',c,v,.one (Cs ho hwant hnd hr),rfl,hv,hdst,S',E'⟩
     ·exact⟨ρ',w',undef,v,.one (GL ho hwant hnd hr),rfl,hv,hdst,S',E'⟩
    ·cases hc
end
end Go.AI
