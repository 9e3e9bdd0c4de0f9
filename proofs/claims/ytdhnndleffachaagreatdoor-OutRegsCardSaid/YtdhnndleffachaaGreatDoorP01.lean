/- Parts of the proof. -/
import Derived.Test.YtdhnndleffachaaGreatDoorP00
import Derived.Orders
import Derived.ProofKit
set_option linter.all false
namespace Go.AI
variable{B N b f i id j k n n0 ng p t:Nat}{CC:cn}{D S:Nat->Prop}{F:Nat->Option bZ}{P:Program}{T:r8}{a a2:Act}{args cq cs vs z:List Value}{body:ak}{d:Option Nat}{e e' e2:Env}{fv v:Value}{h h' h0 h1 h₁ h₂:ab}{ih:ak->Env->ab->R}{md:Region.Mode}{o:Oper}{ops:Array Oper}{r:Value×ab}{st:VT}{w w':World}{x:Operand}{α:Type}{ρ ρ':eU}
section
variable{P:Program}{T:r8}{ng:Nat}{dr:u9}{F:Nat->Option bZ}{ih:ak->Env->ab->R}
theorem Rs(B:Nat){CC:cn}{ρ₀ ρ:eU}{h₀ h:ab}{w₀:World}(hB:w₀.heap.size<=B):∀(rs:List Nat)(w:World)(fr:Frame)(cs:List Frame),fr.mode=.returning->fr.defers=rs.map mark->rs.Nodup->(∀r∈rs,B<=r/\w.heap[r]?=some (.deferred (some []))/\L8 ρ h r)->dI CC ρ h w->Ext ρ₀ h₀ w₀ ρ h w->∃w',Steps P (lone fr cs w) (lone {fr with defers:=[]} cs w')/\dI CC ρ h w'/\Ext ρ₀ h₀ w₀ ρ h w':=by
 intro rs;induction rs with
 |nil=>
  intro w fr cs _ hd _ _ S E;refine⟨w,?_,S,E⟩;have:({fr with defers:=[]} :Frame)=fr:=by cases fr;simp at hd;subst hd;rfl
  rw[this];exact Steps.refl P _
 |cons r rs ihr=>
  intro w fr cs hm hd hn oH S E;obtain⟨hBr,hh,hf⟩:=oH r (by simp);have dQ:=Fq hh;have te:=Od (P:=P) (cs:=cs) (ds:=rs.map mark) hm (by rw[hd];rfl) hh;have Qj:∀j,j≠r->(w.heap.setIfInBounds r (.deferred none))[j]?=w.heap[j]? :=fun j hj=>by simp[Ne.symm hj]
  have S':dI CC ρ h {w with heap:=w.heap.setIfInBounds r (.deferred none)} :=by refine⟨fun b rr hb=>⟨(S.low b rr hb).1,by simpa using(S.low b rr hb).2⟩,?_,S.inj,S.wf⟩;intro b rr o hb ho;exact jA.mono ρ.le_refl (Qj _ (hf b rr o hb ho)) (S.obj b rr o hb ho)
  have E':Ext ρ₀ h₀ w₀ ρ h {w with heap:=w.heap.setIfInBounds r (.deferred none)} :=by refine⟨E.le,E.next,by simpa using E.size,E.os,E.tape,E.output,?_,E.own,E.new,E.live⟩;intro k hk hkk;rw[<-E.uQ k hk hkk];exact Qj k (by omega)
  obtain⟨w',Qr,S'',E''⟩:=ihr {w with heap:=w.heap.setIfInBounds r (.deferred none)} {fr with defers:=rs.map mark} cs hm rfl (List.nodup_cons.1 hn).2
   (fun q hq=>by obtain⟨g1,g2,g3⟩:=oH q (by simp[hq]);refine⟨g1,?_,g3⟩;rw[<-g2];exact Qj q (fun e=>(List.nodup_cons.1 hn).1 (e▸hq))) S' E'
  exact⟨w',.head te Qr,S'',E''⟩
theorem xC(hF:Hx P T ng dr F)(hT:dv P T)(hI:vc P T ng dr ih)(hc:uh F ih f args h=some (v,h'))(S:dI (ig T ng dr) ρ h w)(hG:cQ ng ρ)(ha:All2 (VR ρ) args cq)(cs:List Frame):∃fn ρ' w' c fr,P.funcs[f]?=some fn/\fn.body.isSome=true/\(fn.name== "runtime.NumGoroutine")=false/\Steps P (lone (Frame.enter P f ⟨cq⟩ .normal) cs w) (lone fr cs w')/\fr.fn=f/\fr.leaving P w' (.returned c)/\VR ρ' v c/\dI (ig T ng dr) ρ' h' w'/\Ext ρ h w ρ' h' w':=by
 unfold uh pZ at hc;split at hc
 .cases hc
 .rename_i af haf;have hFf:=hF f af haf;split at hc
  .cases hc
  .rename_i p hp heq;rw[heq] at hFf;exact hFf args h v h' hc cq ρ w S hG ha cs
  rename_i heq;rw[heq] at hFf;obtain⟨fn,c,Sx,adn,X4,abD,akJ⟩:=hFf
  let b:Frame:= {(default:Frame) with fn:=f,kind:=.normal}
  let a:Act:= { tmps:=(⟨cq⟩:Array Value)++Array.replicate (fn.ntmps-cq.length) undef,defers:=[] }
  have afw:Frame.enter P f ⟨cq⟩ .normal=on b a [.code c]:=by simp[Frame.enter,on,Sx,adn,b,a];rfl
  have hER:ER ρ (params .nil 0 args) a.tmps:=Ve ha _;have tg:fn.ntmps<=a.tmps.size:=by simp[a];omega
  have Wc:AU w.heap.size ρ h w a.defers:=⟨[],rfl,List.nodup_nil,fun r hr=>by simp at hr⟩;rw[akJ] at hc
  
  have out:∀(e':Env)(h1:ab)(ρ':eU)(w':World)(a':Act),(∃k,Steps P (lone (on b a [.code c]) cs w) (lone {on b a' k with mode:=.returning} cs w'))->zd (ig T ng dr) w.heap.size ρ h w a ρ' e' h1 w' a'->(match results e' h1 af.res with|some vs=>bif jM vs then some (result vs,h1) else none|none=>none)=some (v,h')->∃fn ρ' w' c fr,P.funcs[f]?=some fn/\fn.body.isSome=true/\(fn.name== "runtime.NumGoroutine")=false/\Steps P (lone (Frame.enter P f ⟨cq⟩ .normal) cs w) (lone fr cs w')/\fr.fn=f/\fr.leaving P w' (.returned c)/\VR ρ' v c/\dI (ig T ng dr) ρ' h' w'/\Ext ρ h w ρ' h' w':=by
   intro e' h1 ρ' w' a' ⟨k,Qr⟩ hA hr;split at hr
   .rename_i vs vA;cases eX:jM vs with
    |false=>simp[eX] at hr
    |true=>
     simp only[eX,cond_true,mw,yU] at hr;obtain⟨rfl,rfl⟩:=hr;obtain⟨rs,hds,Wg,oH⟩:=hA.defs;obtain⟨w2,Ar,S2,E2⟩:=Rs (P:=P) w.heap.size (dH _) rs w' {on b a' k with mode:=.returning} cs rfl hds Wg oH hA.Tb hA.ext;obtain⟨cc,dE,hvr⟩:=N9 (P:=P) hT S2 hA.er abD vA eX;refine⟨fn,ρ',w2,cc,_,Sx,by rw[adn];rfl,X4,by rw[afw];exact Qr.trans Ar,rfl,⟨rfl,rfl,rfl,fn,Sx,dE⟩,hvr,S2,E2⟩
   .cases hr
  split at hc
  .rename_i e' h1 dE;obtain⟨ρ',w',a',I6,hA⟩:=hI fn.ntmps c _ h _ e' h1 dE w.heap.size ρ w a b [] cs S hG hER tg (dH _) Wc (.inl rfl);exact out e' h1 ρ' w' a' ⟨[],Steps.trans I6 (.one (amP rfl))⟩ hA hc
  .rename_i e' h1 dE;obtain⟨ρ',w',a',I6,hA⟩:=hI fn.ntmps c _ h _ e' h1 dE w.heap.size ρ w a b [] cs S hG hER tg (dH _) Wc (.inl rfl);obtain⟨k',zw⟩:=I6;exact out e' h1 ρ' w' a' ⟨_,zw.trans (.one (amQ rfl))⟩ hA hc
  .cases hc
theorem D0(S:dI CC ρ h w){l:Nat}{r:zP}{env ap2:Env}{ps Zp:List Nat}{asg apH body ajh:ak}{st st':VT}(hl:ρ l=some r)(hg:h.tr.get l=some (.loop ap2 Zp apH ajh st')){L:Loop}(hh:w.heap[r.aC]?=some (.loop L))(L':Loop)(eX:WD CC ρ r env ps asg body st {w with heap:=w.heap.setIfInBounds r.aC (.loop L')}):dI CC ρ (gM h l env ps asg body st) {w with heap:=w.heap.setIfInBounds r.aC (.loop L')} /\Ext ρ h w ρ (gM h l env ps asg body st) {w with heap:=w.heap.setIfInBounds r.aC (.loop L')} :=
 dI.zc (o':=.loop env ps asg body st) S hl hg rfl (Wu.obj r.aC (.loop L')) eX h.clock
theorem heap_set(w:World){o o':Obj}(h:w.heap[k]?=some o):(w.heap.setIfInBounds k o')[k]?=some o':=by have:=Fq h;simp[this]
theorem Ll(hI:vc P T ng dr ih){l:Nat}(hc:wz ih l args h=some (v,h'))(S:dI (ig T ng dr) ρ h w)(hG:cQ ng ρ)(ha:All2 (VR ρ) args cq){r:zP}(hl:ρ l=some r)(c:Frame)(cs:List Frame):∃L ρ' w' cv,w.heap[r.aC]?=some (.loop L)/\cq.length=L.params.size/\Steps P (lone (Frame.round r.aC L.fn ((L.params.toList.zip cq).foldl (fun(tmps:Array Value) (x:Nat×Value)=>tmps.setIfInBounds x.1 x.2) L.tmps) L.assign L.body .normal) (c::cs) w) (lone (c.finish cv) cs w')/\VR ρ' v cv/\dI (ig T ng dr) ρ' h' w'/\Ext ρ h w ρ' h' w':=by
 unfold wz at hc;split at hc
 .rename_i env ps asg body dW;obtain⟨L,hh,hER,iT,⟨n1,hn1,M6,Sz⟩,⟨n2,LR,OO,Nc⟩,dQ,zw⟩:=S.obj l r _ hl dW;split at hc
  .cases hc
  .rename_i e0 jh;obtain⟨hE0,alL,cj⟩:=Lw ps args cq env e0 L.tmps ha jh hER dQ;rw[<-iT] at hE0 alL;have AN:cq.length=L.params.size:=by have h1:=ha.length;rw[<-iT] at cj;simp at cj;omega
   let b:Frame:= {(default:Frame) with fn:=L.fn,kind:=.normal,roundOf:=some r.aC}
   let a:Act:= { tmps:=(L.params.toList.zip cq).foldl (fun(tmps:Array Value) (x:Nat×Value)=>tmps.setIfInBounds x.1 x.2) L.tmps,defers:=[] }
   have agb:Frame.round r.aC L.fn a.tmps L.assign L.body .normal=on b a [.code L.assign,.beginRound,.code L.body]:=rfl;refine⟨L,?_⟩;have hasz:a.tmps.size=L.tmps.size:=alL;split at hc
   .rename_i e1 h1 adF;rw[M6] at adF;obtain⟨ρ1,w1,a1,arB,XA⟩:=hI n1 L.assign e0 h _ e1 h1 adF w.heap.size ρ w a b [.beginRound,.code L.body] (c::cs) S hG hE0 (by omega) (dH _)
     ⟨[],rfl,List.nodup_nil,fun r hr=>by simp at hr⟩ (.inr Sz)
    have DB:=XA.ext.le l r hl;unfold AE at hc;split at hc
    .rename_i ap3 ps1 apI aji I5;have ak7:=XA.Tb.obj l r _ DB I5;obtain⟨L1,hh1,aqq,hp1,wN,F9,ale,agh,asl⟩:=ak7;have arb:=Ln (P:=P) (b:=b) (a:=a1) (k:=[.code L.body]) (cs:=c::cs) (w:=w1) rfl hh1 agh;obtain⟨S2,E2⟩:=D0 (st:=.busy) XA.Tb DB I5 hh1 {L1 with state:=.busy} ⟨{L1 with state:=.busy},heap_set w1 hh1,aqq,hp1,wN,F9,ale,rfl⟩;have E02:=XA.ext.trans E2;have Ic:=XA.defs.ext E2;have tail:∀(x:aO)(e3:Env)(h3:ab)(st:VT)(bv:Bool)(Vh:Option Code)(lst:LoopState),JM st {L1 with state:=lst,pending:=Vh} ->(∀L3:Loop,JM st {L3 with state:=lst,pending:=Vh})->ih (bX T ng n2 dr L.body) e1 (gM h1 l ap3 ps1 apI aji .busy)=some (x,e3,h3)->pG l h3 st bv=some (v,h')->(∀a3 w3 L3,w3.heap[r.aC]?=some (.loop L3)->HH P b [] (c::cs) (lone (on b a1 [.code L.body]) (c::cs) { w1 with heap:=w1.heap.setIfInBounds r.aC (.loop {L1 with state:=.busy}) }) x a3 w3->Steps P (lone (on b a1 [.code L.body]) (c::cs) { w1 with heap:=w1.heap.setIfInBounds r.aC (.loop {L1 with state:=.busy}) })
         (lone (c.finish (.bool bv)) cs { w3 with heap:=w3.heap.setIfInBounds r.aC (.loop {L3 with state:=lst,pending:=Vh}) }))->∃ρ' w' cv,w.heap[r.aC]?=some (.loop L)/\cq.length=L.params.size/\Steps P (lone (Frame.round r.aC L.fn ((L.params.toList.zip cq).foldl (fun(tmps:Array Value) (x:Nat×Value)=>tmps.setIfInBounds x.1 x.2) L.tmps) L.assign L.body .normal) (c::cs) w) (lone (c.finish cv) cs w')/\VR ρ' v cv/\dI (ig T ng dr) ρ' h' w'/\Ext ρ h w ρ' h' w':=by
      intro x e3 h3 st bv Vh lst _ hj Gd M9 ak9;obtain⟨ρ3,w3,a3,arC,OK⟩:=hI n2 L.body e1 _ x e3 h3 Gd w.heap.size ρ1 _ a1 b [] (c::cs) S2 (hG.mono XA.ext.le) XA.er (by rw[XA.size];omega) (by simpa using XA.ext.size) Ic (.inr Nc);have XY:=OK.ext.le l r DB;unfold pG at M9;split at M9
      .rename_i TY ps3 Tz ID adu;cases M9;obtain⟨L3,Qg,aqr,hp3,hc3,hc4,alf,alJ⟩:=OK.Tb.obj l r _ XY adu;obtain⟨S4,E4⟩:=D0 (st:=st) OK.Tb XY adu Qg {L3 with state:=lst,pending:=Vh} ⟨{L3 with state:=lst,pending:=Vh},heap_set w3 Qg,aqr,hp3,hc3,hc4,alf,hj L3⟩;refine⟨ρ3,_,.bool bv,hh,AN,?_,VR.bool bv,S4,(E02.trans OK.ext).trans E4⟩;rw[agb];exact(Steps.trans arB (.head arb (ak9 a3 w3 L3 Qg arC)))
      .cases M9
     rw[OO] at hc;split at hc
     .rename_i e3 h3 Gd;refine tail .normal e3 h3 .ready true none .ready ⟨rfl,rfl⟩ (fun _=>⟨rfl,rfl⟩) Gd hc ?_;intro a3 w3 L3 Qg I6;exact Steps.trans I6 (.one (Oe rfl rfl Qg))
     .rename_i e3 h3 Gd;refine tail .ret e3 h3 (.done none) false (some .ret) .done ⟨rfl,rfl⟩ (fun _=>⟨rfl,rfl⟩) Gd hc ?_;intro a3 w3 L3 Qg ⟨k',I6⟩;exact Steps.trans I6 (.one (Of rfl rfl Qg))
     .rename_i id e3 h3 Gd;refine tail (.exit id) e3 h3 (.done (some id)) false (some (.exit id)) .done ⟨rfl,rfl⟩ (fun _=>⟨rfl,rfl⟩) Gd hc ?_;intro a3 w3 L3 Qg ⟨k',I6,hex⟩;exact Steps.trans I6 (.one (Lp rfl rfl Qg hex))
     .cases hc
    .cases hc
   .cases hc
 .cases hc
end
theorem Kh{c:Call}{f:Operand}{args:List Operand}(h:yi T c=.call f args):c.callee=.value f/\c.args.toList=args:=by
 obtain⟨cal,cq,ats⟩:=c;unfold yi at h;split at h
 .rename_i g hg;injection h with h1 h2;subst h1;subst h2;exact⟨hg,rfl⟩
 all_goals (try dsimp only at h)
 all_goals (repeat' (first|(cases h;done)|split at h))
theorem FC{op:Op}{f:Operand}{args:List Operand}(h:cI T op=.call f args):∃c,op=.call c/\c.callee=.value f/\c.args.toList=args:=by
 cases op with
 |call c=>exact⟨c,rfl,Kh h⟩
 |build t ps=>
  simp only[cI] at h;split at h
  .split at h
   .rename_i fs _;generalize (fs.toList.all fun f=>(T f.type).isSome)=bb at h;cases bb<;>simp only[cond_true,cond_false] at h<;>repeat' (first|(cases h;done)|split at h)
   .repeat' (first|(cases h;done)|split at h)
   .cases h
  .cases h
 |buildSlice t n ps=>
  simp only[cI] at h
  repeat' (first|(cases h;done)|split at h)
  rename_i e _;cases hb:(n*e.size).ble 1000000&&e.zero.length.beq e.size<;>simp only[hb,cond_true,cond_false] at h<;>cases h
 |slice t x lo hi mx=>
  simp only[cI] at h
  repeat' (first|(cases h;done)|split at h)
  cases hb:mx.isSome&&hi.isNone<;>simp only[hb,cond_true,cond_false] at h<;>cases h
 |fieldAddr t x k=>
  simp only[cI] at h
  repeat' (first|(cases h;done)|split at h)
  rename_i fi _;cases hb:fi.size.beq 0<;>simp only[hb,cond_true,cond_false] at h<;>cases h
 |makeFunc fn first caps=>
  cases fn with
  |func g=>
   simp only[cI] at h;cases hb:first.isEmpty<;>simp only[hb,cond_true,cond_false] at h<;>cases h
  |_=>simp only[cI] at h;cases h
 |makeMap t r=>cases r<;>(simp only[cI] at h;cases h)
 |next it st=>cases st<;>(simp only[cI] at h;cases h)
 |_=>
  simp only[cI] at h
  repeat' (first|(cases h;done)|split at h)
theorem IG{op:Op}{x:Value×ab}(hv:bV e h (cI T op)=some x):Op.uq op=false:=by
 cases op with
 |defer c=>simp[cI,bV] at hv
 |_=>rfl
section
variable{P:Program}{T:r8}{ng:Nat}{dr:u9}{F:Nat->Option bZ}{ih:ak->Env->ab->R}
theorem IT{e_:Array Value}{el:TypeId}(h:w.heap[b]?=some (.cells e_ el (0,0)))(o:Nat):w.frozen? ⟨b,o,none⟩=false:=by simp[World.frozen?,h]
theorem aci(hT:dv P T)(hO:RS P T f)(S:dI CC ρ h w)(ha:All2 (VR ρ) args cq)(Co:∃a oa la ca b ob lb cb csa o1 s1 csb o2 s2,args=[.slice (some ⟨a,oa,none⟩) la ca,.slice (some ⟨b,ob,none⟩) lb cb]/\h.tr.get a=some (.aC csa false o1 s1)/\h.tr.get b=some (.aC csb false o2 s2)/\(la=0\/lb=0\/a≠b)):(callFunc f ⟨cq⟩).run P w=.ok (.value (.bool false)) w:=by
 obtain⟨fn,t,el,i,ei,h1,h2,h3,h4,h5,h6,h7,h8,h9⟩:=hO;obtain⟨a,oa,la,ca,b,ob,lb,cb,csa,o1,s1,csb,o2,s2,rfl,ga,gb,ct⟩:=Co
 match cq,ha with
 |[x,y],.cons hx (.cons hy .nil)=>
 obtain⟨ra,xa,xc,hra,rfl,Qq⟩:=hx.gu;obtain⟨rb,ya,yc,Qn,rfl,CM⟩:=hy.gu;have uj:=(hT t i h7).u;rw[h8] at uj;obtain⟨ti,k1,k2,k3,z,k4,k5⟩:=(hT el ei h9).info;obtain⟨cca,ela,fra,p1,_,_,_,p5,_⟩:=S.obj a ra _ hra ga;obtain⟨ccb,elb,frb,q1,_,_,_,q5,_⟩:=S.obj b rb _ Qn gb;have p5:=p5 rfl;have q5:=q5 rfl;subst p5;subst q5;have hn3:¬(fn.name= "runtime.NumGoroutine"):=by simpa using h3
 have hb:fn.body=none:=by simpa using h2
 have Co:(Extern.SlicesOverlaps.overlaps fn.params fn.resultTypes #[.slice (some xa) la xc,.slice (some ya) lb yc]).run P w=.ok (.bool false) w:=by
  change Sem.run P (α:=Value) (do
   let some t:=fn.params[0]? |stuck "slices.overlaps: no parameter types"
   let .slice elem<-underlying t|stuck "slices.overlaps: slice type expected"
   let size<-sizeOf elem
   match(some xa:Option Addr),(some ya:Option Addr) with
   |some a,some b=>
    if la=0\/lb=0\/size=0 then pure (Value.bool false)
    else if a.block !=b.block&&(<-frozen a)&&(<-frozen b) then unsupported .addressObserved
    else do
     if a.block !=b.block then do
      noView a;noView b
      if<-mayBeOne a b then return Value.bool ((<-choose (.extern "sameAddr.stringBytes" 2))==1)
     pure (Value.bool (a.block==b.block&&a.off<b.off+lb*size&&b.off<a.off+la*size))
   |_,_=>pure (Value.bool false)) w=_
  by_cases h0:la=0\/lb=0\/ei.size=0
  .simp[h6,run_underlying uj,sizeOf,typeInfo,k1,k2,h0]
  .have xN:a≠b:=by
    rcases ct with h|h|h
    .exact absurd (.inl h) h0
    .exact absurd (.inr (.inl h)) h0
    .exact h
   have M6:0<xc:=by
    have:=Qq.2.2;have:=Qq.z9
    omega
   have OO:0<yc:=by
    have:=CM.2.2;have:=CM.z9
    omega
   have H9:ra.aC≠rb.aC:=S.inj a b ra rb _ hra Qn ⟨_,ga,rfl⟩ gb xN;have exa:=Qq.addr M6;have eyb:=CM.addr OO;subst exa;subst eyb;have Nc:(ra.aC !=rb.aC)=true:=by simpa using H9
   have ar3:(ra.aC==rb.aC)=false:=by simpa using H9
   have sa:w.shape? ra.aC=some (ela,cca.size):=by simp[World.shape?,p1]
   have sb:w.shape? rb.aC=some (elb,ccb.size):=by simp[World.shape?,q1]
   have fa:∀o,w.frozen? ⟨ra.aC,o,none⟩=false:=IT p1;have fb:∀o,w.frozen? ⟨rb.aC,o,none⟩=false:=IT q1;simp[h6,run_underlying uj,sizeOf,typeInfo,k1,k2,h0,Nc,ar3,frozen,noView,viewAt,mayBeOne,stringish,shape,Sem.run,sa,sb,fa,fb]
 simp[callFunc,h1,hn3,hb,Go.mark,h4,h5,Co,Sem.run]
theorem Dh(hF:Hx P T ng dr F)(hT:dv P T)(hI:vc P T ng dr ih){fv cfv:Value}(hc:cu F ih fv args h=some (v,h'))(S:dI (ig T ng dr) ρ h w)(hG:cQ ng ρ)(hf:VR ρ fv cfv)(ha:All2 (VR ρ) args cq){bw:List Nat}(ho:ops[i]?=some o)(hw:Region.wanted o (yielded ops a.tmps)=true){cl:Call}{f:Operand}(Aq:o.op=.call cl)(akF:cl.callee=.value f)(hcf:a.eval f=cfv)(M6:cl.args.toList.map a.eval=cq)(b:Frame)(k:List Item)(cs:List Frame):∃ρ' w' c,Steps P (lone (on b a (.inRegion ops (i::bw)::k)) cs w) (lone (on b (a.put o.dst c) (.inRegion ops bw::k)) cs w')/\VR ρ' v c/\dI (ig T ng dr) ρ' h' w'/\Ext ρ h w ρ' h' w':=by
 obtain⟨cal,Se,ats⟩:=cl;dsimp only at akF M6;subst akF;have Wg:Op.uq o.op=false:=by rw[Aq];rfl
 have abq:∀c,(on b a (.inRegion ops (i::bw)::k)).finish c=on b (a.put o.dst c) (.inRegion ops bw::k):=by intro c;rw[yk,ho];rfl
 have afT:Se.map a.eval=⟨cq⟩:=by apply Array.ext';simp[<-M6]
 unfold cu at hc;split at hc
 .rename_i g first caps
  cases hf with
  |val hf=>cases hf with
   |cell hf=>cases hf with
    |cell hf=>cases hf
    | @fn _ l m hlm=>
     have Bv:All2 (VR ρ) ([]++args++l) (cq++m):=ha.app (hlm.mono fun _ _ h=>h.vr);rcases Fz hc with hc|⟨af,haf,alp,hc⟩
     rotate_left 1
     .
      have hFf:=hF g af haf;rw[alp] at hFf;obtain⟨rfl,rfl,Co⟩:=Jx hc;have M7:=aci (P:=P) hT hFf S Bv Co;have dE:(execOp a.eval o).run P w=.ok (.value (.bool false)) w:=by
       simp only[execOp,Aq,resolve,Deferred.ofValue,invoke,hcf,Sem.run_bind,Sem.run_pure,Result.andThen_ok,afT];have:(#[]:Array Value)++(⟨cq⟩:Array Value)++(⟨m⟩:Array Value)=⟨cq++m⟩:=by apply Array.ext';simp
       rw[this];exact M7
      exact⟨ρ,w,.bool false,.one (Ls ho hw Wg dE),VR.bool _,S,.refl ρ _ w⟩
     obtain⟨fn,ρ',w',c,fr,h1,h2,h3,h4,h5,h6,h7,h8,h9⟩:=xC hF hT hI hc S hG Bv (on b a (.inRegion ops (i::bw)::k)::cs);have dE:(execOp a.eval o).run P w=.ok (.enter g ⟨cq++m⟩) w:=by have:=My (P:=P) (w:=w) (args:=Se) (ats:=ats) (ty:=o.type) hcf h1 h2 h3;rw[afT] at this;simp only[execOp,Aq];rw[this];congr 2;apply Array.ext';simp
     refine⟨ρ',w',c,.head (acB ho hw Wg dE) (h4.trans (.one ?_)),h7,h8,h9⟩;rw[step_leave_returned h6,abq]
 .rename_i l _ _;cases hf with
  |val hf=>cases hf with
   |cell hf=>cases hf with
    |cell hf=>cases hf
    | @yield _ r hl=>
     obtain⟨L,ρ',w',cv,h1,h2,h3,h4,h5,h6⟩:=Ll (P:=P) hI hc S hG ha hl (on b a (.inRegion ops (i::bw)::k)) cs;have tg:Se.size=L.params.size:=by rw[<-h2,<-M6];simp
     have dE:(execOp a.eval o).run P w=.ok (.round r.aC L.fn ((L.params.toList.zip cq).foldl (fun(tmps:Array Value) (x:Nat×Value)=>tmps.setIfInBounds x.1 x.2) L.tmps) L.assign L.body) w:=by have:=VS (P:=P) (w:=w) (args:=Se) (ats:=ats) (ty:=o.type) hcf h1 tg;rw[afT] at this;simp only[execOp,Aq];rw[this];congr 2;rw[<-Array.foldl_toList];simp
     refine⟨ρ',w',cv,.head (acD ho hw Wg dE) ?_,h4,h5,h6⟩;rw[abq] at h3;exact h3
 .cases hc
theorem NN(hF:Hx P T ng dr F)(hT:dv P T)(hI:vc P T ng dr ih)(ho:ops[i]?=some o)(hc:cU F ih (aU T ng n ops.toList o) e h=some (e',h'))(S:dI (ig T ng dr) ρ h w)(hG:cQ ng ρ)(hE:ER ρ e a.tmps)(hn:n<=a.tmps.size)(b:Frame)(k:List Item)(cs:List Frame)(bw:List Nat):∃ρ' w' a',Steps P (lone (on b a (.inRegion ops (i::bw)::k)) cs w) (lone (on b a' (.inRegion ops bw::k)) cs w')/\dI (ig T ng dr) ρ' h' w'/\ER ρ' e' a'.tmps/\a'.tmps.size=a.tmps.size/\a'.defers=a.defers/\Ext ρ h w ρ' h' w':=by
 unfold aU at hc;cases vm:uV ng n ops.toList o with
 |false=>
  simp only[vm,cond_false] at hc;simp[cU,wanted,bV] at hc
 |true=>
  simp only[vm,cond_true] at hc;simp only[uV,zr] at vm;obtain⟨⟨hd,hg⟩,CI⟩:=vm;have vn:∀d,o.dst=some d->d<a.tmps.size:=by intro d Sv;rw[Sv] at hd;exact En (vK.1 hd) hn
  have Eu:Region.wanted o (yielded ops a.tmps)=wanted e (guardOf ops.toList o):=by
   unfold guardOf;refine Hu hE ?_;cases I6:o.guard with
   |none=>exact .inl ⟨rfl,rfl⟩
   |some x=>
    obtain⟨j,bb⟩:=x;rw[I6] at hg;obtain⟨t,ht⟩:=Option.isSome_iff_exists.1 hg;exact .inr ⟨j,bb,t,rfl,ht,by dsimp only;rw[ht];rfl⟩
  have EM:∀ {ρ':eU} {w':World} {v c:Value} {hh:ab},VR ρ' v c->Ext ρ h w ρ' hh w'->ER ρ' (fN e o.dst v) (a.put o.dst c).tmps:=by intro ρ' w' v c hh hv E;exact ER.put (hE.mono E.le) vn hv
  unfold cU at hc;dsimp only at hc;rw[<-Eu] at hc;cases vp:Region.wanted o (yielded ops a.tmps) with
  |false=>
   simp only[vp,cond_false,mw,yU] at hc;obtain⟨rfl,rfl⟩:=hc;refine⟨ρ,w,a.put o.dst undef,.one ?_,S,EM VR.undef (.refl ρ h w),vw _ _ _,put_defers _ _ _,.refl ρ h w⟩;have:=JE (P:=P) (b:=b) (a:=a) (k:=k) (cs:=cs) (w:=w) (ops:=ops) (i:=i) (bw:=bw) (by simp[ho,vp]);rw[ho] at this;exact this
  |true=>
   simp only[vp,cond_true] at hc;split at hc
   .rename_i f args Aq;obtain⟨cl,h1,h2,h3⟩:=FC Aq;split at hc
    .rename_i v Kw hcv;cases hc;have kt:bG ng f=true/\args.all (bG ng)=true:=by rw[h1] at CI;simp only[Op.operands,Call.operands,h2] at CI;rw[<-h3];simpa using CI
     obtain⟨ρ',w',c,q1,q2,q3,q4⟩:=Dh (P:=P) hF hT hI hcv S hG (hE.eval hG kt.1) (Ch hE hG args kt.2) ho vp h1 h2 rfl (by rw[h3]) b k cs (bw:=bw);exact⟨ρ',w',a.put o.dst c,q1,q3,EM q2 q4,vw _ _ _,put_defers _ _ _,q4⟩
    .cases hc
   .split at hc
    .rename_i v Kw Co;cases hc;obtain⟨ρ',w',c,hr,hv,S',E'⟩:=NM (P:=P) (a:=a) hT S hE hG o CI Co;have Wg:=IG Co;rcases hr with hr|⟨rfl,hr⟩
     .exact⟨ρ',w',a.put o.dst c,.one (Ls ho vp Wg hr),S',EM hv E',vw _ _ _,put_defers _ _ _,E'⟩
     .exact⟨ρ',w',a.put o.dst undef,.one (S8 ho vp Wg hr),S',EM hv E',vw _ _ _,put_defers _ _ _,E'⟩
    .cases hc
theorem QY(hF:Hx P T ng dr F)(hT:dv P T)(hI:vc P T ng dr ih){n:Nat}{ops:Array Oper}(b:Frame)(k:List Item)(cs:List Frame):∀(m i:Nat),i+m=ops.size->∀(e e':Env)(h h':ab),y7 F ih ((ops.toList.drop i).map (aU T ng n ops.toList)) e h=some (e',h')->∀(ρ:eU)(w:World)(a:Act),dI (ig T ng dr) ρ h w->cQ ng ρ->ER ρ e a.tmps->n<=a.tmps.size->∃ρ' w' a',Steps P (lone (on b a (.inRegion ops ((List.range' i m))::k)) cs w) (lone (on b a' (.inRegion ops []::k)) cs w')/\dI (ig T ng dr) ρ' h' w'/\ER ρ' e' a'.tmps/\a'.tmps.size=a.tmps.size/\a'.defers=a.defers/\Ext ρ h w ρ' h' w':=by
 intro m;induction m with
 |zero=>
  intro i hi e e' h h' hc ρ w a S hG hE hn;rw[Xt (by simp;omega)] at hc;simp only[List.map_nil,y7,mw,yU] at hc;obtain⟨rfl,rfl⟩:=hc;exact⟨ρ,w,a,Steps.refl P _,S,hE,rfl,rfl,.refl ρ h w⟩
 |succ m ihm=>
  intro i hi e e' h h' hc ρ w a S hG hE hn;have dQ:i<ops.toList.length:=by simp;omega
  rw[List.drop_eq_getElem_cons dQ] at hc;simp only[IV,y7] at hc;have ho:ops[i]?=some ops.toList[i]:=by rw[<-Array.getElem?_toList,ff dQ]
  split at hc
  .rename_i e1 h1 Aq;obtain⟨ρ1,w1,a1,s1,S1,E1,z1,d1,X1⟩:=NN (P:=P) hF hT hI ho Aq S hG hE hn b k cs (List.range' (i+1) m);obtain⟨ρ2,w2,a2,s2,S2,E2,z2,d2,X2⟩:=ihm (i+1) (by omega) e1 e' h1 h' hc ρ1 w1 a1 S1 (hG.mono X1.le) E1 (by omega);refine⟨ρ2,w2,a2,?_,S2,E2,z2.trans z1,d2.trans d1,X1.trans X2⟩;rw[List.range'_succ];exact s1.trans s2
  .cases hc
end
def kM.kU:kM->List Operand
 |.mv x=>[x]
 |.pick c a b=>[c,a,b]
 |.alloc _=>[]
 |.box x=>[x]
 |.build _ ps=>ps.map (·.2.2)
 |.gC _ _ ps=>ps.map (·.2.2)
 |.load _ a=>[a]
 |.store _ a v=>[a,v]
 |.xY x=>[x]
 |.bin _ _ x y=>[x,y]
 |.un _ x=>[x]
 |.conv _ x=>[x]
 |.tX _ caps=>caps
 |.gK _ _ l c=>[l,c]
 |.slice _ x lo hi mx=>x::(lo.toList++hi.toList++mx.toList)
 |.ee _ x=>[x]
 |.dx _ _ x i=>[x,i]
 |.index _ x i=>[x,i]
 |.ext _ x=>[x]
 |.call f args=>f::args
 |.tS x=>[x]
 |.Lz x=>[x]
 |.append _ _ _ s x=>[s,x]
 |.copy _ d s=>[d,s]
 |.clear _ x=>[x]
 |.Mi x y=>[x,y]
 |.Pq x=>[x]
 |.bad=>[]
def kM.kind:kM->Nat
 |.mv _|.pick .. |.build .. |.xY _|.bin .. |.un .. |.conv .. |.tX .. |.ee .. |.dx .. |.index .. |.ext .. |.tS _|.Lz _|.Mi .. =>0
 |.load .. |.slice .. =>1
 |.alloc _|.box _|.gC .. |.gK .. =>2
 |_=>3
theorem vO{e e':Env} :∀(ps:List (Nat×Nat×Operand))(cs:List Value),(∀x∈ps.map (·.2.2),ev e x=ev e' x)->uL e cs ps=uL e' cs ps
 |[],_,_=>rfl
 |(off,n,x)::r,cs,h=>by
  have hx:ev e x=ev e' x:=h x (by simp);simp only[uL,hx];split
  .split
   .exact vO r _ (fun y hy=>h y (by simp only[IV,List.mem_cons];exact .inr hy))
   .rfl
  .rfl
theorem Ht{l:List Operand}(h:∀x∈l,ev e x=ev e' x):u4 e l=u4 e' l:=List.map_congr_left h
theorem xu(x:Option Operand)(d t:Nat)(h:∀y∈x.toList,ev e y=ev e' y):bound e x d t=bound e' x d t:=by
 cases x with
 |none=>rfl
 |some y=>simp only[bound,h y (by simp)]
theorem U5(op:kM)(hx:∀x∈op.kU,ev e x=ev e' x):bV e h op=bV e' h op:=by
 cases op with
 |build z ps=>simp only[bV,vO ps z hx]
 |gC n z ps=>simp only[bV,vO ps z hx]
 |tX f caps=>
  simp only[kM.kU] at hx;simp only[bV,Ht hx]
 |slice s x lo hi mx=>
  simp only[kM.kU,List.mem_cons,rM,or_assoc] at hx;have h0:=hx x (.inl rfl);have h1:∀d t,bound e lo d t=bound e' lo d t:=fun d t=>xu lo d t fun y hy=>hx y (.inr (.inl hy));have h2:∀d t,bound e hi d t=bound e' hi d t:=fun d t=>xu hi d t fun y hy=>hx y (.inr (.inr (.inl hy)));have h3:∀d t,bound e mx d t=bound e' mx d t:=fun d t=>xu mx d t fun y hy=>hx y (.inr (.inr (.inr hy)));simp only[bV,h0,h1,h2,h3]
 |pick c a b=>
  simp only[kM.kU,List.mem_cons,FQ,or_false,forall_eq_or_imp,forall_eq] at hx;simp only[bV,hx.1,hx.2.1,hx.2.2]
 |alloc|call|bad=>rfl
 |store _ x y|bin _ _ x y|gK _ _ x y|dx _ _ x y|index _ x y|append _ _ _ x y|copy _ x y|Mi x y=>
  simp only[kM.kU,List.mem_cons,FQ,or_false,forall_eq_or_imp,forall_eq] at hx;simp only[bV,hx.1,hx.2]
 |mv x|box x|load _ x|xY x|un _ x|conv _ x|ee _ x|ext _ x|tS x|Pq x|Lz x|clear _ x=>
  simp only[kM.kU,List.mem_cons,FQ,or_false,forall_eq] at hx;simp only[bV,hx]
def leads:Value->Option Nat
 |.pointer (some ⟨b,_,_⟩)=>some b
 |.slice (some ⟨b,_,_⟩) _ _=>some b
 |.map (some b)=>some b
 |_=>none
def kM.through:kM->Option Operand
 |.load _ a=>some a
 |.slice _ x _ _ _=>some x
 |_=>none
theorem GK{op:kM}(hk:op.kind=0)(hv:bV e h op=some (v,h')):h'=h/\∀h2,bV e h2 op=some (v,h2):=by
 cases op with
 |tX f caps=>
  simp only[bV] at hv⊢;cases hb:(u4 e caps).all simple<;>simp only[hb,cond_true,cond_false] at hv⊢ <;>cases hv;exact⟨rfl,fun h2=>rfl⟩
 |Mi x y=>
  simp only[bV] at hv⊢;split at hv
  .by_cases hkk: ‹IntKind› = ‹IntKind› <;>skip
   all_goals
    split at hv
    .cases hv;refine⟨rfl,fun h2=>?_⟩;simp_all
    .cases hv
  .cases hv
 |_=>
  simp only[kM.kind] at hk
  first
   |(exact absurd hk (by decide))
   |(simp only[bV] at hv⊢
     repeat' split at hv
     all_goals first
      |(cases hv;refine⟨rfl,fun h2=>?_⟩;first|rfl|(simp_all;done))
      |(cases hv;done))
theorem AB{op:kM}(hk:op.kind=1)(hv:bV e h op=some (v,h')):h'=h/\∃x,op.through=some x/\(∀h2,(∀b,leads (ev e x)=some b->h2.tr.get b=h.tr.get b)->bV e h2 op=some (v,h2))/\(∀b,leads (ev e x)=some b->∃cs ro o s,h.tr.get b=some (.aC cs ro o s)):=by
 cases op<;>simp only[kM.kind] at hk<;>first|(exact absurd hk (by decide))|skip
 case load n a=>
  simp only[bV] at hv;split at hv
  .rename_i b off heq;split at hv
   .rename_i cs hr;split at hv
    .rename_i v' hg;cases hv;refine⟨rfl,a,rfl,?_,?_⟩
     .intro h2 hb;have:=hb b (by rw[heq];rfl);have uP:aV h2 b off (width n)=some cs:=by unfold aV at hr⊢;rw[this];exact hr
      simp only[bV,heq,uP,hg]
     .intro b' jf;rw[heq] at jf;cases jf;unfold aV at hr;split at hr
      .exact⟨_,_,_,_,by assumption⟩
      .cases hr
    .cases hv
   .cases hv
  .cases hv
 case slice sz x lo hi mx=>
  simp only[bV] at hv;split at hv
  .rename_i a len cap heq;split at hv
   .cases hv
   .rename_i m hm;split at hv
    .cases hv
    .rename_i hh hhi;split at hv
     .cases hv
     .rename_i l hl;split at hv
      .cases hv;refine⟨rfl,x,rfl,fun h2 _=>?_,fun b hb=>?_⟩
       .simp only[bV,heq,hm,hhi,hl]
       .rw[heq] at hb;cases hb
      .rename_i b off;split at hv
       .rename_i cs ro o s hg;cases hc:(Nat.beq o 0||Nat.beq o sz) with
        |false=>rw[hc] at hv;cases hv
        |true=>
         rw[hc] at hv;cases hv;refine⟨rfl,x,rfl,fun h2 hb=>?_,fun b' hb=>?_⟩
         .have:=hb b (by rw[heq];rfl);simp only[bV,heq,hm,hhi,hl,this,hg,hc,cond_true]
         .rw[heq] at hb;cases hb;exact⟨_,_,_,_,hg⟩
       .cases hv
      .cases hv
  .cases hv
theorem dN.refl(h:ab):dN h h:=⟨dH _,dH _,fun _ _ _ _ _ _ h _=>h,id,fun _ _ h=>h⟩
theorem dN.trans{h h1 h2:ab}(x:dN h h1)(y:dN h1 h2):dN h h2:=
 ⟨xf x.next y.next,xf x.clock y.clock,fun b cs ro o s hb hg hs=>x.bE b cs ro o s hb (y.bE b cs ro o s (En hb x.next) hg (En hs x.clock)) hs,y.wf∘x.wf,fun b hb hg=>x.mp b hb (y.mp b (En hb x.next) hg)⟩
theorem dN.new(h:ab)(o:rV):dN h (h.new o):=by
 refine⟨by simp[ab.new],dH _,fun b cs ro op s hb hg _=>?_,fun hw b x hb=>?_,fun b hb hg=>?_⟩
 .simp only[ab.new,Tr.aW] at hg;rwa [bc (by omega)] at hg
 .simp only[ab.new,Tr.aW] at hb⊢;by_cases e:b=h.next
  .omega
  .rw[bc e] at hb;have:=hw b x hb;omega
 .simp only[ab.new,Tr.aW] at hg;rwa [bc (by omega)] at hg
theorem dN.del(h:ab)(l:Nat):dN h {h with tr:=h.tr.del l} :=by
 refine⟨dH _,dH _,fun b cs ro op s hb hg _=>?_,fun hw b x hb=>?_,fun b hb hg=>?_⟩
 .simp only[Tr.nq] at hg;by_cases e:b=l
  .rw[aY e] at hg;cases hg
  .rwa [bc e] at hg
 .simp only[Tr.nq] at hb;by_cases e:b=l
  .rw[aY e] at hb;cases hb
  .rw[bc e] at hb;exact hw b x hb
 .simp only[Tr.nq] at hg;by_cases e:b=l
  .rw[aY e] at hg;cases hg
  .rwa [bc e] at hg
theorem dN.other{o:rV}(l:Nat)(c:Nat)(hc:h.clock<=c)(hl:∃x,h.tr.get l=some x)(ho:∀cs ro op s,o=.aC cs ro op s->h.clock<=s)(hm:o≠ .map []):dN h {h with clock:=c,tr:=h.tr.set l o} :=by
 refine⟨dH _,hc,fun b cs ro op s hb hg hs=>?_,fun hw b x hb=>?_,fun b hb hg=>?_⟩
 .simp only[Tr.aW] at hg;by_cases e:b=l
  .rw[aY e] at hg;cases hg;have:=ho _ _ _ _ rfl;omega
  .rwa [bc e] at hg
 .simp only[Tr.aW] at hb;by_cases e:b=l
  .obtain⟨y,hy⟩:=hl;rw[e];exact hw l y hy
  .rw[bc e] at hb;exact hw b x hb
 .simp only[Tr.aW] at hg;by_cases e:b=l
  .rw[aY e] at hg;cases hg;exact absurd rfl hm
  .rwa [bc e] at hg
theorem dN.write{b off:Nat}(hw:jz h b off vs=some h'):dN h h':=by
 unfold jz at hw;split at hw
 .rename_i hg;split at hw
  .cases hw;exact dN.other b (h.clock+1) (Nat.le_succ _) ⟨_,hg⟩ (fun cs ro op s e=>by cases e;exact dH _) (fun e=>by cases e)
  .cases hw
 .cases hw
inductive Mk where
 |ptr
 |sl (l c:Nat)
 |mp
def mkA:Mk->Nat->Value
 |.ptr,N=>.pointer (some ⟨N,0,none⟩)
 |.sl l c,N=>.slice (some ⟨N,0,none⟩) l c
 |.mp,N=>.map (some N)
def mkO:Mk->List Value->rV
 |.mp,_=>.map []
 |_,cells=>.aC cells false 0 0
theorem yA{op:kM}(hk:op.kind=2)(hv:bV e h op=some (v,h')):∃s cells,v=mkA s h.next/\h'=h.new (mkO s cells)/\∀h2,bV e h2 op=some (mkA s h2.next,h2.new (mkO s cells)):=by
 cases op with
 |alloc z=>
  simp only[bV,mw,yU] at hv;exact⟨.ptr,z,hv.1.symm,hv.2.symm,fun h2=>rfl⟩
 |box x=>
  simp only[bV] at hv;split at hv
  .rename_i vs hf;cases hv;exact⟨.ptr,vs,rfl,rfl,fun h2=>by simp only[bV,hf];rfl⟩
  .cases hv
 |gC n z ps=>
  simp only[bV] at hv;split at hv
  .rename_i cs hf;cases hv;exact⟨.sl n n,cs,rfl,rfl,fun h2=>by simp only[bV,hf];rfl⟩
  .cases hv
 |gK z n l c=>
  simp only[bV] at hv;split at hv
  .rename_i ll cc h1 h2;split at hv
   .rename_i hb;cases hv;exact⟨.sl ll cc,iP z cc,rfl,rfl,fun h3=>by simp only[bV,h1,h2,hb,if_true];rfl⟩
   .cases hv
  .cases hv
 |_=>simp only[kM.kind] at hk;cases hk
theorem JR{bytes:Nat}{s:Value}(hv:eA h z bytes s n cs=some (v,h')):dN h h':=by
 unfold eA at hv;dsimp only at hv
 repeat' split at hv
 all_goals first
  |(cases hv;done)
  |(cases hv;exact dN.refl _)
  |(cases hv;exact dN.new _ _)
  |(rename_i hw;cases hv;exact dN.write hw)
  |(cases hv;exact(dN.del _ _).trans (dN.new _ _))
  |skip
theorem U6{op:kM}(hv:bV e h op=some (v,h')):dN h h':=by
 by_cases h0:op.kind=0
 .rw[(GK h0 hv).1];exact .refl h
 by_cases h1:op.kind=1
 .rw[(AB h1 hv).1];exact .refl h
 by_cases h2:op.kind=2
 .obtain⟨_,cs,_,rfl,_⟩:=yA h2 hv;exact .new h _
 cases op with
 |store n a x=>
  simp only[bV] at hv
  repeat' split at hv
  all_goals first
   |(cases hv;done)
   |(rename_i hw;cases hv;exact dN.write hw)
 |append z bytes zs s x=>
  simp only[bV] at hv;split at hv
  .exact JR hv
  .cases hv
 |copy sz d s=>
  simp only[bV] at hv
  repeat' split at hv
  all_goals first
   |(cases hv;done)
   |(cases hv;exact .refl h)
   |(rename_i hw;cases hv;exact dN.write hw)
 |clear z x=>
  simp only[bV] at hv
  repeat' split at hv
  all_goals first
   |(cases hv;done)
   |(cases hv;exact .refl h)
   |(rename_i hw;cases hv;exact dN.write hw)
 |Pq x=>
  simp only[bV] at hv
  repeat' split at hv
  all_goals first
   |(cases hv;done)
   |(cases hv;exact .refl h)
 |call f args=>simp[bV] at hv
 |bad=>simp[bV] at hv
 |_=>first|exact absurd rfl h0|exact absurd rfl h1|exact absurd rfl h2
section
variable{F:Nat->Option bZ}{ih:ak->Env->ab->R}
def ij(ih:ak->Env->ab->R):Prop:=∀c e h x e' h',ih c e h=some (x,e',h')->dN h h'
theorem Dg(hK:ij ih)(hc:uh F ih f args h=some (v,h')):dN h h':=by
 unfold uh pZ at hc;split at hc
 .cases hc
 .split at hc
  .cases hc
  .rename_i hp _;exact hp _ _ _ _ hc
  split at hc
  all_goals first
   |(cases hc;done)
   |(rename_i hr
     split at hc
     .rename_i vs _;cases hb:jM vs<;>simp only[hb,cond_true,cond_false] at hc<;>cases hc;exact hK _ _ _ _ _ _ hr
     .cases hc)
theorem zK{l:Nat}{x:rV}(hx:h.tr.get l=some x)(env:Env)(ps:List Nat)(asg body:ak)(st:VT):dN h (gM h l env ps asg body st):=
 dN.other l h.clock (dH _) ⟨x,hx⟩ (fun _ _ _ _ e=>by cases e) (fun e=>by cases e)
theorem Lj{l:Nat}{b:Bool}(hc:pG l h st b=some (v,h')):dN h h':=by
 unfold pG at hc;split at hc
 .rename_i hg;cases hc;exact zK hg ..
 .cases hc
theorem Lk(hK:ij ih){l:Nat}(hc:wz ih l args h=some (v,h')):dN h h':=by
 unfold wz at hc;split at hc
 .split at hc
  .cases hc
  .split at hc
   .rename_i hr;refine(hK _ _ _ _ _ _ hr).trans ?_;unfold AE at hc;split at hc
    .rename_i hg;split at hc
     all_goals first
      |(cases hc;done)
      |(rename_i uP;exact(zK hg _ _ _ _ _).trans ((hK _ _ _ _ _ _ uP).trans (Lj hc)))
    .cases hc
   .cases hc
 .cases hc
theorem Mx(hK:ij ih)(hc:cu F ih fv args h=some (v,h')):dN h h':=by
 unfold cu at hc;split at hc
 .rcases Fz hc with hc|⟨_,_,_,hc⟩
  .exact Dg hK hc
  .rw[(Jx hc).2.1];exact .refl h
 .exact Lk hK hc
 .cases hc
theorem x4(hK:ij ih){o:bm}(hc:cU F ih o e h=some (e',h')):dN h h':=by
 unfold cU at hc;cases hw:wanted e o.guard<;>simp only[hw,cond_true,cond_false] at hc
 .cases hc;exact .refl h
 .split at hc
  .split at hc
   .rename_i hv;cases hc;exact Mx hK hv
   .cases hc
  .split at hc
   .rename_i hv;cases hc;exact U6 hv
   .cases hc
theorem GS(hK:ij ih):∀(l:List bm){e e':Env}{h h':ab},y7 F ih l e h=some (e',h')->dN h h'
 |[],_,_,_,_,hc=>by simp only[y7] at hc;cases hc;exact .refl _
 |o::r,_,_,_,_,hc=>by
  simp only[y7] at hc;split at hc
  .rename_i ho;exact(x4 hK ho).trans (GS hK r hc)
  .cases hc
theorem Dl(hK:ij ih)(c:Nat):∀(l:List (bm×List Nat)){e e':Env}{h h':ab},oM F ih c l e h=some (e',h')->dN h h'
 |[],_,_,_,_,hc=>by simp only[oM] at hc;cases hc;exact .refl _
 |(o,mU)::r,_,_,_,_,hc=>by
  simp only[oM] at hc;split at hc
  .rename_i e1 h1 ho;cases hs:still e1 h1 c mU<;>simp only[hs,cond_true,cond_false] at hc
   .cases hc
   .exact(x4 hK ho).trans (Dl hK c r hc)
  .cases hc
theorem Ok(hK:ij ih):ij (cm F ih):=by
 intro c e h x e' h' hc;cases c with
 |skip|exit|ret=>simp only[cm] at hc;cases hc;exact .refl h
 |ops l=>
  simp only[cm] at hc;split at hc
  .rename_i ho;cases hc;exact GS hK l ho
  .cases hc
 |draw l=>
  simp only[cm] at hc;split at hc
  .rename_i ho;cases hc;have h1:dN h {h with clock:=h.clock+1} :=⟨dH _,Nat.le_succ _,fun _ _ _ _ _ _ q _=>q,id,fun _ _ q=>q⟩;exact h1.trans (Dl hK _ l ho)
  .cases hc
 |seq a b=>
  simp only[cm] at hc;split at hc
  .rename_i ho;exact(hK _ _ _ _ _ _ ho).trans (hK _ _ _ _ _ _ hc)
  .exact hK _ _ _ _ _ _ hc
 |cond q a b=>
  simp only[cm] at hc;split at hc
  .exact hK _ _ _ _ _ _ hc
  .exact hK _ _ _ _ _ _ hc
  .cases hc
 |block id a=>
  simp only[cm] at hc;split at hc
  .rename_i i _ _ ho;cases hb:Nat.beq i id<;>simp only[hb,cond_true,cond_false] at hc<;>cases hc<;>exact hK _ _ _ _ _ _ ho
  .exact hK _ _ _ _ _ _ hc
 |loop a=>
  simp only[cm] at hc;split at hc
  .rename_i ho;exact(hK _ _ _ _ _ _ ho).trans (hK _ _ _ _ _ _ hc)
  .exact hK _ _ _ _ _ _ hc
 |ET f ps asg body=>
  simp only[cm] at hc;split at hc
  .split at hc
   .rename_i M7;have h1:=(dN.new h (.loop e ps asg body .ready)).trans (Dg hK M7);split at hc
    all_goals first
     |(cases hc;done)
     |(cases hc;exact h1.trans (dN.del _ _))
   .cases hc
  .cases hc
 |bad=>simp[cm] at hc
theorem Vw:∀fuel,ij (run F fuel):=by
 intro fuel;induction fuel with
 |zero=>intro c e h x e' h' hc;cases hc
 |succ m ihm=>exact Ok ihm
end
def JL(P:Program)(T:r8)(ng:Nat)(dr:u9)(F:Nat->Option bZ):Prop:=
 ∀(ih:ak->Env->ab->R),ij ih->vc P T ng dr ih->∀(n:Nat)(ops:Array Oper)(e:Env)(h:ab)(e':Env)(h':ab),oM F ih h.clock (dr n ops.toList) e {h with clock:=h.clock+1} =some (e',h')->∀(mixed:Bool)(t:Nat)(ρ:eU)(w:World)(a:Act)(b:Frame)(k:List Item)(cs:List Frame),dI (ig T ng dr) ρ h w->cQ ng ρ->ER ρ e a.tmps->n<=a.tmps.size->∃ρ' w' a',Steps P (lone (on b a (.inRegion ops (Region.schedule mixed ops t)::k)) cs w) (lone (on b a' (.inRegion ops []::k)) cs w')/\dI (ig T ng dr) ρ' h' w'/\ER ρ' e' a'.tmps/\a'.tmps.size=a.tmps.size/\a'.defers=a.defers/\Ext ρ h w ρ' h' w'
theorem AG{m m1 t:Machine}(h:Steps P m t)(hs:step P m=.next m1)(ct:t≠m):Steps P m1 t:=by
 obtain⟨n,hn⟩:=h;cases n with
 |zero=>simp only[runN] at hn;cases hn;exact absurd rfl ct
 |succ n=>simp only[runN,hs] at hn;exact⟨n,hn⟩
theorem UT{b b':Frame}{cs TR:List Frame}(h:lone b cs w=lone b' TR w'):b.todo=b'.todo:=by have h2:=congrArg (fun m:Machine=>(m.gs[0]?).map (fun g=>g.frame.todo)) h;simpa [lone] using h2
section
variable{P:Program}{T:r8}{ng:Nat}{dr:u9}{F:Nat->Option bZ}{ih:ak->Env->ab->R}
theorem dI.hidden(S:dI CC ρ h w)(o:Obj):dI CC ρ h (w.alloc o)/\Ext ρ h w ρ h (w.alloc o):=by
 have tg:(w.alloc o).heap.size=w.heap.size+1:=Array.size_push _;have hold:∀k,k<w.heap.size->(w.alloc o).heap[k]?=w.heap[k]? :=by intro k hk;show(w.heap.push o)[k]?=_;rw[Array.getElem?_push,bc (by omega)]
 refine⟨⟨fun b r hb=>⟨(S.low b r hb).1,by have:=(S.low b r hb).2;omega⟩,fun b r x hb hx=>jA.mono ρ.le_refl (hold _ (S.low b r hb).2) (S.obj b r x hb hx),S.inj,S.wf⟩,⟨ρ.le_refl,dH _,by omega,rfl,rfl,rfl,fun k hk _=>hold k hk,fun b r hb hw=>.inr ⟨b,r,hb,hw,rfl⟩,fun b r h h'=>(by rw[h] at h';cases h'),fun b r x hb hx=>.inr ⟨b,r,x,hb,hx,rfl⟩⟩⟩
theorem Fj(w:World)(o:Obj):(w.alloc o).heap.size=w.heap.size+1:=Array.size_push _
theorem zd.same(S:dI CC ρ h w)(hE:ER ρ e a.tmps)(hd:AU B ρ h w a.defers):zd CC B ρ h w a ρ e h w a:=
 ⟨S,hE,rfl,.refl ρ h w,hd⟩
theorem zd.trans{CC:cn}{B:Nat}{ρ ρ1 ρ2:eU}{e1 e2:Env}{h h1 h2:ab}{w w1 w2:World}{a a1 a2:Act}(x:zd CC B ρ h w a ρ1 e1 h1 w1 a1)(y:zd CC B ρ1 h1 w1 a1 ρ2 e2 h2 w2 a2):zd CC B ρ h w a ρ2 e2 h2 w2 a2:=⟨y.Tb,y.er,y.size.trans x.size,x.ext.trans y.ext,y.defs⟩
theorem VR.fnv{g:FuncId}{first caps:Array Value}{c:Value}(h:VR ρ (.func (.func g) first caps) c):∃l m,first= #[]/\caps=⟨l⟩/\c=.func (.func g) #[] ⟨m⟩/\All2 (CR ρ) l m:=by
 cases h with
 |val h=>cases h with
  |cell h=>cases h with
   |cell h=>cases h
   |fn g h=>exact⟨_,_,rfl,rfl,rfl,h⟩
theorem dI.off(S:dI CC ρ h w){r:zP}{o:rV}(hb:ρ b=some r)(ho:h.tr.get b=some o)(hrw:o.rw=true)(ha:Wu r.aC w w'):dI CC ρ {h with tr:=h.tr.del b} w'/\Ext ρ h w ρ {h with tr:=h.tr.del b} w':=by
 have Eu:eH h b:=⟨o,ho,hrw⟩;have dW:∀x p,({h with tr:=h.tr.del b} :ab).tr.get x=some p->x≠b/\h.tr.get x=some p:=by
  intro x p hx;simp only[Tr.nq] at hx;by_cases e:x=b
  .rw[aY e] at hx;cases hx
  .rw[bc e] at hx;exact⟨e,hx⟩
 have I1:∀x,eH {h with tr:=h.tr.del b} x->eH h x:=fun x ⟨p,hp,Wi⟩=>⟨p,(dW x p hp).2,Wi⟩;refine⟨⟨fun x rx hx=>⟨(S.low x rx hx).1,by rw[ha.size];exact(S.low x rx hx).2⟩,?_,?_,fun x p hp=>S.wf x p (dW x p hp).2⟩,⟨ρ.le_refl,dH _,Nat.le_of_eq ha.size.symm,ha.os,ha.tape,ha.output,?_,?_,?_,?_⟩⟩
 .intro x rx p hx hp;obtain⟨ct,hp⟩:=dW x p hp;exact jA.mono ρ.le_refl (ha.other _ (S.inj b x r rx p hb hx Eu hp (Ne.symm ct)).symm) (S.obj x rx p hx hp)
 .intro x y rx ry p hx hy hw hp ct;exact S.inj x y rx ry p hx hy (I1 x hw) (dW y p hp).2 ct
 .intro k _ hk;exact ha.other k (fun e=>hk b r hb Eu e.symm)
 .intro x rx hx hw;exact .inr ⟨x,rx,hx,I1 x hw,rfl⟩
 .intro x rx h1 h2;rw[h1] at h2;cases h2
 .intro x rx p hx hp;exact .inr ⟨x,rx,p,hx,(dW x p hp).2,rfl⟩
theorem Sk{r:Nat}(hh:w.heap[r]?=some (.deferred (some [])))(hf:L8 ρ h r)(E:Ext ρ h w ρ' h' w'):w'.heap[r]?=some (.deferred (some []))/\L8 ρ' h' r:=by have dQ:=Fq hh;refine⟨?_,hf.ext E dQ⟩;rw[E.uQ r dQ,hh];rintro x rx hx⟨o,ho,_⟩;exact hf x rx o hx ho
theorem Vp(hF:Hx P T ng dr F)(hT:dv P T)(hI:vc P T ng dr ih){f:Operand}{ps:Array Tmp}{asg body:Code}(asf:bG ng f=true)(iT:ps.toList.all (Nat.blt · n)=true)(Sz:j6 asg=true)(Nc:j6 body=true){x:aO}(hc:cm F ih (.ET f ps.toList (bX T ng n dr asg) (bX T ng n dr body)) e h=some (x,e',h'))(b:Frame)(k:List Item)(cs:List Frame)(S:dI (ig T ng dr) ρ h w)(hG:cQ ng ρ)(hE:ER ρ e a.tmps)(hn:n<=a.tmps.size)(hB:B<=w.heap.size)(hD:AU B ρ h w a.defers)(hr:b.roundOf=none):∃ρ' w' a',HH P b k cs (lone (on b a (.code (.rangeFunc f ps asg body)::k)) cs w) x a' w'/\zd (ig T ng dr) B ρ h w a ρ' e' h' w' a':=by
 simp only[cm] at hc;split at hc
 .rename_i g first caps hev
  have hvf:=hE.eval hG asf;rw[hev] at hvf;obtain⟨l,m,rfl,rfl,hcf,hlm⟩:=hvf.fnv;split at hc
  .rename_i v h1 M7
   
   obtain⟨S1,E1⟩:=S.hidden (.deferred (some []))
   let L:Loop:= { state:=.ready,pending:=none,fn:=b.fn,tmps:=a.tmps,params:=ps,assign:=asg,body:=body,defers:=w.heap.size }
   let im:zP:= { aC:=w.heap.size+1,base:=0,len:=0,GR:=0,room:=0 }
   have eX:jA (ig T ng dr) (ka ρ h.next im) im (.loop e ps.toList (bX T ng n dr asg) (bX T ng n dr body) .ready) ((w.alloc (.deferred (some []))).alloc (.loop L)):=by
    refine⟨L,?_,hE.mono (uE S.fresh),rfl,⟨n,hn,rfl,Sz⟩,⟨n,hn,rfl,Nc⟩,?_,rfl,rfl⟩
    .show((w.alloc (.deferred (some []))).heap.push (.loop L))[w.heap.size+1]?=_;rw[<-Fj w (.deferred (some [])),Array.getElem?_push,aY rfl]
    .intro t ht;have:=List.all_eq_true.1 iT t ht;exact En (vK.1 this) hn
   obtain⟨S2,E2⟩:=S1.add (im:=im) (Fj w _).symm eX;have E02:=E1.trans E2;have hG2:=hG.mono E02.le;have Dx:ka ρ h.next im h.next=some im:=by simp[ka]
   have Bv:All2 (VR (ka ρ h.next im)) ([]++[.func (.yield h.next) #[] #[]]++l) ([.func (.yield (w.heap.size+1)) #[] #[]]++m):=by refine All2.cons (.val (.cell (.yield Dx))) ?_;exact hlm.mono fun _ _ q=>(q.mono E02.le).vr
   have afq:uh F ih g ([]++[.func (.yield h.next) #[] #[]]++l) (h.new (.loop e ps.toList (bX T ng n dr asg) (bX T ng n dr body) .ready))=some (v,h1):=M7
   let a2:Act:= {a with defers:=mark w.heap.size::a.defers}
   let bb:Frame:=on b a2 (.inRangeFunc (w.heap.size+1)::k)
   obtain⟨fn,ρ3,w3,c,fr,q1,q2,q3,q4,q5,q6,q7,q8,q9⟩:=xC hF hT hI afq S2 hG2 Bv (bb::cs);have dE:=My (P:=P) (ρ:=a.eval) (w:=(w.alloc (.deferred (some []))).alloc (.loop L)) (args:= #[.const (.func (.yield (w.heap.size+1)) #[] #[])]) (ats:= #[]) (ty:=0) hcf q1 q2 q3;have I6:=amR (P:=P) (b:=b) (a:=a) (k:=k) (cs:=cs) (w:=w) (f:=f) (ps:=ps) (asg:=asg) (body:=body) hr dE;have afo:(#[]++(#[Operand.const (.func (.yield (w.heap.size+1)) #[] #[])]:Array Operand).map a.eval++⟨m⟩:Array Value)=⟨[.func (.yield (w.heap.size+1)) #[] #[]]++m⟩:=by apply Array.ext';simp[Act.eval]
   rw[afo] at I6;have alJ:Steps P (lone (on b a (.code (.rangeFunc f ps asg body)::k)) cs w) (lone (on b a2 (.endRangeFunc (w.heap.size+1)::k)) cs w3):=by refine .head I6 (q4.trans (.one ?_));rw[step_leave_returned q6];rfl
   have E03:=E02.trans q9
   
   have XY:ρ3 h.next=some im:=q9.le _ _ Dx
   
   have hDn:AU B ρ3 h1 w3 a2.defers:=by
    obtain⟨rs,h4,h5,h6⟩:=hD;have jg:∀r∈rs,r<w.heap.size:=fun r hr=>Fq (h6 r hr).2.1;refine⟨w.heap.size::rs,by simp[a2,h4],List.nodup_cons.2 ⟨fun hm=>by have:=jg _ hm;omega,h5⟩,?_⟩;intro r hr;rcases List.mem_cons.1 hr with rfl|hr
    .have afA:L8 (ka ρ h.next im) (h.new (.loop e ps.toList (bX T ng n dr asg) (bX T ng n dr body) .ready)) w.heap.size:=by
      intro y ry o hy _ he;unfold ka at hy;by_cases hyn:y=h.next
      .rw[aY hyn] at hy;cases hy;simp[im] at he
      .rw[bc hyn] at hy;have:=(S.low y ry hy).2;omega
     refine⟨hB,Sk ?_ afA q9⟩;show((w.heap.push (.deferred (some []))).push (.loop L))[w.heap.size]?=_;rw[Array.getElem?_push,bc (by simp),Array.getElem?_push,aY rfl]
    .exact⟨(h6 r hr).1,Sk (h6 r hr).2.1 (h6 r hr).2.2 E03⟩
   
   have fin:∀(TY:Env)(ps3:List Nat)(Tz ID:ak)(st:VT),h1.tr.get h.next=some (.loop TY ps3 Tz ID st)->st≠ .busy->∃w',(∃L3:Loop,JM st L3/\Steps P (lone (on b a (.code (.rangeFunc f ps asg body)::k)) cs w) (lone (on b a2 ((L3.pending.map Item.code).toList++k)) cs w'))/\zd (ig T ng dr) B ρ h w a ρ3 e {h1 with tr:=h1.tr.del h.next} w' a2:=by
    intro TY ps3 Tz ID st dW zw;obtain⟨L3,Qg,hE3,hp3,hc3,hc4,alf,hj3⟩:=q8.obj h.next im _ XY dW;have ar4:(L3.state==.busy)=false:=by
     cases st with
     |ready=>rw[hj3.1];rfl
     |busy=>exact absurd rfl zw
     |done j=>cases j<;>(rw[hj3.1];rfl)
    have te:=ZK (P:=P) (b:=b) (a:=a2) (k:=k) (cs:=cs) Qg ar4;obtain⟨S4,E4⟩:=q8.off XY dW rfl (Wu.obj im.aC (.loop {L3 with state:=.exhausted}));have E04:=E03.trans E4;exact⟨_,⟨L3,hj3,alJ.trans (.one te)⟩,⟨S4,hE.mono E04.le,rfl,E04,hDn.ext E4⟩⟩
   split at hc
   .rename_i TY ps3 Tz ID dW;cases hc;obtain⟨w',⟨L3,hj,hs⟩,hA⟩:=fin _ _ _ _ _ dW (by simp);refine⟨ρ3,w',a2,?_,hA⟩;rw[hj.2] at hs;exact hs
   .rename_i TY ps3 Tz ID dW;cases hc;obtain⟨w',⟨L3,hj,hs⟩,hA⟩:=fin _ _ _ _ _ dW (by simp);refine⟨ρ3,w',a2,⟨k,?_⟩,hA⟩;rw[hj.2] at hs;exact hs
   .rename_i TY ps3 Tz ID id dW;cases hc;obtain⟨w',⟨L3,hj,hs⟩,hA⟩:=fin _ _ _ _ _ dW (by simp);refine⟨ρ3,w',a2,⟨k,?_,rfl⟩,hA⟩;rw[hj.2] at hs;exact hs
   .cases hc
  .cases hc
 .cases hc
end
section
variable{P:Program}{T:r8}{ng:Nat}{dr:u9}{F:Nat->Option bZ}{ih:ak->Env->ab->R}
theorem ZI{y:aO×Env×ab}(hc:cm F ih .bad e h=some y):False:=by simp[cm] at hc
theorem KV{b:Frame}{a a':Act}{cs:List Frame}{t t':List Item}(h:t≠t'):lone (on b a t) cs w≠lone (on b a' t') cs w':=by intro e;exact h (UT e)
theorem Ol(hF:Hx P T ng dr F)(hT:dv P T)(hD:JL P T ng dr F)(hK:ij ih)(hI:vc P T ng dr ih):vc P T ng dr (cm F ih):=by
 intro n c;induction c with
 |skip=>
  intro e h x e' h' hc B ρ w a b k cs S hG hE hn hB Dt hr;simp only[bX,cm,mw,yU] at hc;obtain⟨rfl,rfl,rfl⟩:=hc;exact⟨ρ,w,a,.one ahq,.same S hE Dt⟩
 |label l=>
  intro e h x e' h' hc B ρ w a b k cs S hG hE hn hB Dt hr;simp only[bX,cm,mw,yU] at hc;obtain⟨rfl,rfl,rfl⟩:=hc;exact⟨ρ,w,a,.one acC,.same S hE Dt⟩
 |region id ops draw=>
  intro e h x e' h' hc B ρ w a b k cs S hG hE hn hB Dt hr;cases draw with
  |false=>
   simp only[bX,cm] at hc;split at hc
   .rename_i e1 h1 ho;cases hc;obtain⟨ρ1,w1,a1,s1,S1,E1,z1,d1,X1⟩:=QY hF hT hI b k cs ops.size 0 (by omega) e e' h h' ho ρ w a S hG hE hn;refine⟨ρ1,w1,a1,?_,⟨S1,E1,z1,X1,by rw[d1];exact Dt.ext X1⟩⟩;rw[<-List.range_eq_range'] at s1;exact Steps.head ZM (Steps.trans s1 (.one B7))
   .cases hc
  |true=>
   simp only[bX,cm] at hc;split at hc
   .rename_i e1 h1 ho;cases hc;obtain⟨ρ1,w1,a1,s1,S1,E1,z1,d1,X1⟩:=hD ih hK hI n ops e h e' h' ho (P.follows .mixedOrders) (w.tape w.drawn (.order b.fn id)) ρ {w with drawn:=w.drawn+1} a b k cs (S.drawn _) hG hE hn;have X:=(Ext.drawn (ρ:=ρ) (h:=h) (w:=w) (w.drawn+1)).trans X1;refine⟨ρ1,w1,a1,?_,⟨S1,E1,z1,X,by rw[d1];exact Dt.ext X⟩⟩;exact Steps.head aho (Steps.trans s1 (.one B7))
   .cases hc
 |seq c1 c2 _ _=>
  intro e h x e' h' hc B ρ w a b k cs S hG hE hn hB Dt hr;have qM:b.roundOf=none\/j6 c1=true:=hr.imp_right fun q=>by simp only[j6,zr] at q;exact q.1
  have uP:b.roundOf=none\/j6 c2=true:=hr.imp_right fun q=>by simp only[j6,zr] at q;exact q.2
  simp only[bX,cm] at hc;split at hc
  .rename_i e1 h1 ho;obtain⟨ρ1,w1,a1,g1,A1⟩:=hI n c1 e h _ e1 h1 ho B ρ w a b (.code c2::k) cs S hG hE hn hB Dt qM;obtain⟨ρ2,w2,a2,g2,A2⟩:=hI n c2 e1 h1 _ e' h' hc B ρ1 w1 a1 b k cs A1.Tb (hG.mono A1.ext.le) A1.er (by rw[A1.size];exact hn) (xf hB A1.ext.size) A1.defs uP;exact⟨ρ2,w2,a2,HH.of_steps (.head ZN g1) g2,A1.trans A2⟩
  .rename_i ct;obtain⟨ρ1,w1,a1,g1,A1⟩:=hI n c1 e h _ e' h' hc B ρ w a b (.code c2::k) cs S hG hE hn hB Dt qM;refine⟨ρ1,w1,a1,?_,A1⟩;cases x with
   |normal=>exact absurd hc (ct e' h')
   |exit id=>
    obtain⟨k',h1,h2⟩:=g1;exact⟨k',.head ZN h1,h2.trans rfl⟩
   |ret=>
    obtain⟨k',h1⟩:=g1;exact⟨k',.head ZN h1⟩
 |cond c c1 c2 _ _=>
  intro e h x e' h' hc B ρ w a b k cs S hG hE hn hB Dt hr;have qM:b.roundOf=none\/j6 c1=true:=hr.imp_right fun q=>by simp only[j6,zr] at q;exact q.1
  have uP:b.roundOf=none\/j6 c2=true:=hr.imp_right fun q=>by simp only[j6,zr] at q;exact q.2
  simp only[bX] at hc;cases ho:bG ng c with
  |false=>rw[ho] at hc;exact(ZI hc).elim
  |true=>
   simp only[ho,cond_true,cm] at hc;have hv:=hE.eval hG ho;split at hc
   .rename_i hev;rw[hev] at hv;obtain⟨ρ1,w1,a1,g1,A1⟩:=hI n c1 e h _ e' h' hc B ρ w a b k cs S hG hE hn hB Dt qM;exact⟨ρ1,w1,a1,HH.of_steps (.one (ZJ hv.nh)) g1,A1⟩
   .rename_i hev;rw[hev] at hv;obtain⟨ρ1,w1,a1,g1,A1⟩:=hI n c2 e h _ e' h' hc B ρ w a b k cs S hG hE hn hB Dt uP;exact⟨ρ1,w1,a1,HH.of_steps (.one (ZJ hv.nh)) g1,A1⟩
   .cases hc
 |block id c _=>
  intro e h x e' h' hc B ρ w a b k cs S hG hE hn hB Dt hr;simp only[bX,cm] at hc;split at hc
  .rename_i i e1 h1 ho;obtain⟨ρ1,w1,a1,g1,A1⟩:=hI n c e h _ e1 h1 ho B ρ w a b (.inBlock id::k) cs S hG hE hn hB Dt hr;obtain⟨k',q1,q2⟩:=g1;cases hi:Nat.beq i id with
   |true=>
    have:=qW hi;subst this;simp only[hi,cond_true,mw,yU] at hc;obtain⟨rfl,rfl,rfl⟩:=hc;refine⟨ρ1,w1,a1,?_,A1⟩;refine Steps.head EU (q1.trans (.one (ahp ?_)));rw[q2];simp[exitTo]
   |false=>
    simp only[hi,cond_false,mw,yU] at hc;obtain⟨rfl,rfl,rfl⟩:=hc;refine⟨ρ1,w1,a1,⟨k',.head EU q1,?_⟩,A1⟩;rw[q2];have:(id==i)=false:=by
     cases hx:id==i with
     |false=>rfl
     |true=>
      have:=eq_of_beq hx;subst this;rw[Nat.beq_refl] at hi;cases hi
    simp[exitTo,this]
  .rename_i ct;obtain⟨ρ1,w1,a1,g1,A1⟩:=hI n c e h _ e' h' hc B ρ w a b (.inBlock id::k) cs S hG hE hn hB Dt hr;refine⟨ρ1,w1,a1,?_,A1⟩;cases x with
   |normal=>exact Steps.head EU (Steps.trans g1 (.one VC))
   |exit i=>exact absurd hc (ct i e' h')
   |ret=>
    obtain⟨k',h1⟩:=g1;exact⟨k',.head EU h1⟩
 |loop c _=>
  intro e h x e' h' hc B ρ w a b k cs S hG hE hn hB Dt hr;simp only[bX,cm] at hc;split at hc
  .rename_i e1 h1 ho;obtain⟨ρ1,w1,a1,g1,A1⟩:=hI n c e h _ e1 h1 ho B ρ w a b (.inLoop c::k) cs S hG hE hn hB Dt hr;obtain⟨ρ2,w2,a2,g2,A2⟩:=hI n (.loop c) e1 h1 _ e' h' hc B ρ1 w1 a1 b k cs A1.Tb (hG.mono A1.ext.le) A1.er (by rw[A1.size];exact hn) (xf hB A1.ext.size) A1.defs hr;refine⟨ρ2,w2,a2,?_,A1.trans A2⟩;have yr:Steps P (lone (on b a (.code (.loop c)::k)) cs w) (lone (on b a1 (.code c:: .inLoop c::k)) cs w1):=.head Lo (Steps.trans g1 (.one ZL));refine HH.of_steps yr ?_;have hs:=Lo (P:=P) (b:=b) (a:=a1) (k:=k) (cs:=cs) (w:=w1) (c:=c);cases x with
   |normal=>exact AG g2 hs (KV fun q=>by have:=congrArg List.length q;simp at this)
   |exit i=>
    obtain⟨k',q1,q2⟩:=g2;exact⟨k',AG q1 hs (KV fun q=>by cases q),q2⟩
   |ret=>
    obtain⟨k',q1⟩:=g2;exact⟨k',AG q1 hs (KV fun q=>by cases q)⟩
  .rename_i ct;obtain⟨ρ1,w1,a1,g1,A1⟩:=hI n c e h _ e' h' hc B ρ w a b (.inLoop c::k) cs S hG hE hn hB Dt hr;refine⟨ρ1,w1,a1,?_,A1⟩;cases x with
   |normal=>exact absurd hc (ct e' h')
   |exit id=>
    obtain⟨k',h1,h2⟩:=g1;exact⟨k',.head Lo h1,h2.trans rfl⟩
   |ret=>
    obtain⟨k',h1⟩:=g1;exact⟨k',.head Lo h1⟩
 |scope c ihc=>
  intro e h x e' h' hc B ρ w a b k cs S hG hE hn hB Dt hr;simp only[bX] at hc;obtain⟨ρ1,w1,a1,g1,A1⟩:=ihc e h x e' h' hc B ρ w a b (.inScope c::k) cs S hG hE hn hB Dt hr;refine⟨ρ1,w1,a1,?_,A1⟩;cases x with
  |normal=>exact Steps.head Lq (Steps.trans g1 (.one VD))
  |exit id=>
   obtain⟨k',h1,h2⟩:=g1;exact⟨k',.head Lq h1,h2.trans rfl⟩
  |ret=>
   obtain⟨k',h1⟩:=g1;exact⟨k',.head Lq h1⟩
 |exit id=>
  intro e h x e' h' hc B ρ w a b k cs S hG hE hn hB Dt hr;simp only[bX,cm,mw,yU] at hc;obtain⟨rfl,rfl,rfl⟩:=hc;exact⟨ρ,w,a,⟨k,Steps.refl P _,rfl⟩,.same S hE Dt⟩
 |ret=>
  intro e h x e' h' hc B ρ w a b k cs S hG hE hn hB Dt hr;simp only[bX,cm,mw,yU] at hc;obtain⟨rfl,rfl,rfl⟩:=hc;exact⟨ρ,w,a,⟨k,Steps.refl P _⟩,.same S hE Dt⟩
 |rangeFunc f ps asg body _ _=>
  intro e h x e' h' hc B ρ w a b k cs S hG hE hn hB Dt hr;simp only[bX] at hc;cases eX:(bG ng f&&ps.toList.all (Nat.blt · n)&&j6 asg&&j6 body) with
  |false=>rw[eX] at hc;exact(ZI hc).elim
  |true=>
   rw[eX] at hc;simp only[zr] at eX;obtain⟨⟨⟨h1,h2⟩,h3⟩,h4⟩:=eX;have Yh:b.roundOf=none:=by
    rcases hr with q|q
    .exact q
    .simp[j6] at q
   exact Vp hF hT hI h1 h2 h3 h4 hc b k cs S hG hE hn hB Dt Yh
 |_=>
  intro e h x e' h' hc;exact(ZI hc).elim
theorem Vx(hF:Hx P T ng dr F)(hT:dv P T)(hD:JL P T ng dr F):∀fuel,vc P T ng dr (run F fuel):=by
 intro fuel;induction fuel with
 |zero=>intro n c e h x e' h' hc;cases hc
 |succ m ihm=>exact Ol hF hT hD (Vw m) ihm
end
def iS(md:Region.Mode)(o:Oper):List Nat:=(o.after.toList.filter (Region.binds md)).map (·.on)
def pass:List (List Nat)->Nat->Nat->Nat
 |[],_,mask=>mask
 |e::r,i,mask=>pass r (i+1) (bif e.all (Nat.testBit mask) then mask ||| (1 <<< i) else mask)
def ack(full:Nat)(es:List (List Nat)):Nat->Nat->Bool
 |0,_=>false
 |f+1,mask=>bif Nat.beq mask full then true else ack full es f (pass es 0 mask)
def AK(md:Region.Mode)(ops:List Oper):Bool:=ack (2^ops.length-1) (ops.map (iS md)) (ops.length+1) 0
theorem Sg{mask i j:Nat} :Nat.testBit (mask ||| (1 <<< i)) j=true↔Nat.testBit mask j=true\/j=i:=by rw[Nat.testBit_or,Bool.or_eq_true,Nat.one_shiftLeft,Nat.testBit_two_pow,decide_eq_true_eq];exact⟨Or.imp_right Eq.symm,Or.imp_right Eq.symm⟩
theorem G0{D:Nat->Prop} :∀(es:List (List Nat))(i mask:Nat),(∀j e,es[j]?=some e->(∀k∈e,D k)->D (i+j))->(∀k,Nat.testBit mask k=true->D k)->∀k,Nat.testBit (pass es i mask) k=true->D k
 |[],_,_,_,hm=>hm
 |e::r,i,mask,hD,hm=>by
  refine G0 r (i+1) _ (fun j e' hj hk=>by have:=hD (j+1) e' (by simpa using hj) hk;rwa [AL,Nat.add_comm 1 j]) ?_;intro k hk;cases hb:e.all (Nat.testBit mask)<;>simp only[hb,cond_true,cond_false] at hk
  .exact hm k hk
  .rcases Sg.1 hk with h|rfl
   .exact hm k h
   .exact hD 0 e rfl fun q hq=>hm q (List.all_eq_true.1 hb q hq)
theorem G1{D:Nat->Prop}{full:Nat}{es:List (List Nat)}(hD:∀j e,es[j]?=some e->(∀k∈e,D k)->D j):∀(f mask:Nat),ack full es f mask=true->(∀k,Nat.testBit mask k=true->D k)->∀k,Nat.testBit full k=true->D k
 |0,_,h,_=>by cases h
 |f+1,mask,h,hm=>by
  simp only[ack] at h;cases hb:Nat.beq mask full with
  |true=>rw[qW hb] at hm;exact hm
  |false=>
   rw[hb] at h;exact G1 hD f _ h (G0 es 0 mask (fun j e hj hk=>by rw[Ek];exact hD j e hj hk) hm)
theorem Rq{ops:List Oper}(h:AK md ops=true)(hD:∀(j:Nat)(o:Oper),ops[j]?=some o->(∀k∈iS md o,D k)->D j):∀k,k<ops.length->D k:=by
 intro k hk;refine G1 (D:=D) (fun j e hj hke=>?_) _ _ h (fun q hq=>by simp at hq) k ?_
 .rw[tV] at hj;cases ho:ops[j]? with
  |none=>rw[ho] at hj;cases hj
  |some o=>rw[ho] at hj;cases hj;exact hD j o ho hke
 .rw[Nat.testBit_two_pow_sub_one];simpa using hk
inductive Ord(ops:Array Oper):(Nat->Prop)->List Nat->Prop
 |nil {D:Nat->Prop} (h:∀i,i<ops.size->D i):Ord ops D []
 |cons {D:Nat->Prop} {i:Nat} {L:List Nat} {o:Oper} (ho:ops[i]?=some o) (hn:¬D i) (he:∀k∈iS .any o,D k) (hl:Ord ops (fun j=>D j\/j=i) L):Ord ops D (i::L)
theorem TW(h:k∈iS .any o):k∈iS md o:=by unfold iS at h⊢;simp only[j_,VX] at h⊢;obtain⟨e,⟨h1,h2⟩,h3⟩:=h;refine⟨e,⟨h1,?_⟩,h3⟩;unfold Region.binds at h2⊢;split at h2<;>simp_all
theorem aeO(ht:AK md ops.toList=true):∀(fuel t:Nat)(jr:Array Bool)(D:Nat->Prop),jr.size=ops.size->(∀i,D i↔jr.getD i false=true)->jr.toList.count false=fuel->Ord ops D (Region.linearise.go md ops fuel t jr []):=by
 intro fuel;induction fuel with
 |zero=>
  intro t jr D hs hD hc;refine .nil fun i hi=>(hD i).2 ?_;have dQ:i<jr.size:=by omega
  rw[List.count_eq_zero] at hc;cases hv:jr[i] with
  |true=>simp[Array.getD,dQ,hv]
  |false=>exact absurd (Array.mem_toList_iff.2 (hv▸Array.getElem_mem dQ)) hc
 |succ f ihf=>
  intro t jr D hs hD hc;simp only[Region.linearise.go];generalize Qp:((List.range ops.size).filter fun i=> !jr.getD i true&&((ops[i]?).map (·.after.all fun e=> !Region.binds md e||jr.getD e.on false)).getD false)=rs;have re:∀i,i∈rs↔i<ops.size/\jr.getD i true=false/\((ops[i]?).map (·.after.all fun e=> !Region.binds md e||jr.getD e.on false)).getD false=true:=by intro i;rw[<-Qp];simp[and_assoc]
  have ct:rs≠[]:=by
   intro afV;have oH:∀k,k<ops.toList.length->D k:=by
    refine Rq ht fun j o hj hk=>?_;have hjo:ops[j]?=some o:=by simpa using hj
    have dQ:j<ops.size:=(Array.getElem?_eq_some_iff.1 hjo).1;cases hv:jr.getD j true with
    |true=>
     refine(hD j).2 ?_;have afR:j<jr.size:=by omega
     simpa [Array.getD,afR] using hv
    |false=>
     have:j∈rs:=by
      refine(re j).2 ⟨dQ,hv,?_⟩;rw[hjo];simp only[EF,Option.getD_some,Array.all_eq_true'];intro e he;cases hb:Region.binds md e with
      |false=>rfl
      |true=>
       refine(hD e.on).1 (hk e.on ?_);unfold iS;simp only[j_,VX];exact⟨e,⟨by simpa using he,hb⟩,rfl⟩
     rw[afV] at this;cases this
   have:jr.toList.count false=0:=by
    rw[List.count_eq_zero];intro hm;obtain⟨i,hi,hv⟩:=List.getElem_of_mem hm;have Dz:i<jr.size:=by simpa using hi
    have:=(hD i).1 (oH i (by simp;omega));simp[Array.getD,Dz] at this;simp at hv;rw[this] at hv;cases hv
   omega
  have cj:0<rs.length:=List.length_pos_iff.2 ct;have dW:rs[t%rs.length]?=some (rs[t%rs.length]'(Nat.mod_lt _ cj)):=ff _;rw[dW];dsimp only;generalize hi:rs[t%rs.length]'(Nat.mod_lt _ cj)=i;have KE:i∈rs:=hi▸Ai _;obtain⟨h1,h2,h3⟩:=(re i).1 KE;rw[linearise_go_acc,List.reverse_singleton,List.singleton_append];have ho:ops[i]?=some ops[i]:=Array.getElem?_eq_getElem h1;have EH:i<jr.size:=by omega
  have hvi:jr[i]=false:=by simpa [Array.getD,EH] using h2
  refine .cons ho ?_ ?_ (ihf _ _ _ (by simp[hs]) ?_ ?_)
  .intro hd;have:=(hD i).1 hd;simp[Array.getD,EH,hvi] at this
  .intro k hk;rw[ho] at h3;simp only[EF,Option.getD_some,Array.all_eq_true'] at h3;have CH:=TW (md:=md) hk;unfold iS at CH;simp only[j_,VX] at CH;obtain⟨e,⟨q1,q2⟩,q3⟩:=CH;have:=h3 e (by simpa using q1);rw[q2] at this;rw[<-q3];exact(hD e.on).2 (by simpa using this)
  .intro j;constructor
   .rintro(hj|rfl)
    .have:=(hD j).1 hj;by_cases Us:j=i
     .subst Us;simp[Array.getD,EH]
     .simp only[Array.getD_eq_getD_getElem?] at this⊢;rw[Array.getElem?_setIfInBounds_ne (Ne.symm Us)];exact this
    .simp[Array.getD,EH]
   .intro hj;by_cases Us:j=i
    .exact .inr Us
    .refine .inl ((hD j).2 ?_);simp only[Array.getD_eq_getD_getElem?] at hj⊢;rwa [Array.getElem?_setIfInBounds_ne (Ne.symm Us)] at hj
  .rw[Array.toList_setIfInBounds,List.count_set (by simpa using EH)];simp[hvi,hc]
theorem Lt(h0:AK .any ops.toList=true)(h1:AK .text ops.toList=true)(h2:AK .gc ops.toList=true)(mixed:Bool)(t:Nat):Ord ops (fun _=>False) (Region.schedule mixed ops t):=by
 have key:∀(md:Region.Mode)(t:Nat),AK md ops.toList=true->Ord ops (fun _=>False) (Region.linearise md ops t):=by intro md t ht;refine aeO ht _ _ _ _ (by simp) (fun i=>?_) (by simp);simp[Array.getD_eq_getD_getElem?,Array.getElem?_replicate];split<;>simp
 unfold Region.schedule;split
 .exact key _ _ h0
 .split
  .exact key _ _ h1
  .exact key _ _ h2
def Gu(A:Tr Nat):List Nat->Nat
 |[]=>0
 |j::r=>(Gu A r ||| (1 <<< j)) ||| (Tr.get A j).getD 0
def zf:List Oper->Nat->Tr Nat->Tr Nat
 |[],_,A=>A
 |o::r,i,A=>zf r (i+1) (A.set i (Gu A (iS .any o)))
def xd(A:Tr Nat)(j i:Nat):Bool:=Nat.testBit ((Tr.get A j).getD 0) i
inductive D7(ops:Array Oper):Nat->Nat->Prop
 |HY {i k:Nat} {o:Oper} (ho:ops[i]?=some o) (h:k∈iS .any o):D7 ops i k
 |p7 {i k j:Nat} {o:Oper} (ho:ops[i]?=some o) (h:k∈iS .any o) (hj:D7 ops k j):D7 ops i j
theorem DI{A:Tr Nat} :∀ {es:List Nat} {k:Nat},Nat.testBit (Gu A es) k=true->∃e∈es,k=e\/xd A e k=true
 |[],k,h=>by simp[Gu] at h
 |j::r,k,h=>by
  rw[Gu,Nat.testBit_or,Bool.or_eq_true] at h;rcases h with h|h
  .rcases Sg.1 h with h|h
   .obtain⟨e,he,hk⟩:=DI h;exact⟨e,EE _ he,hk⟩
   .exact⟨j,Dq ..,.inl h⟩
  .exact⟨j,Dq ..,.inr h⟩
theorem Fk{ops:Array Oper} :∀(l:List Oper)(i:Nat)(A:Tr Nat),(∀j o,l[j]?=some o->ops[i+j]?=some o)->(∀j k,xd A j k=true->D7 ops j k)->∀j k,xd (zf l i A) j k=true->D7 ops j k
 |[],_,_,_,hA=>hA
 |o::r,i,A,hl,hA=>by
  refine Fk r (i+1) _ (fun j o' ho=>by have:=hl (j+1) o' (by simpa using ho);rwa [AL,Nat.add_comm 1 j]) ?_;intro j k hb;unfold xd at hb;rw[Tr.aW] at hb;by_cases e:j=i
  .subst e;rw[aY rfl] at hb;obtain⟨q,hq,hk⟩:=DI hb;have ho:=hl 0 o rfl;rcases hk with rfl|hk
   .exact .HY ho hq
   .exact .p7 ho hq (hA _ _ hk)
  .rw[bc e] at hb;exact hA j k hb
theorem D7.closed(hD:∀i o,ops[i]?=some o->D i->∀k∈iS .any o,D k)(h:D7 ops i j):(∀o,ops[i]?=some o->∀k∈iS .any o,D k)->D j:=by
 induction h with
 |HY ho h=>intro hi;exact hi _ ho _ h
 |p7 ho h _ ih=>
  intro hi;have hk:=hi _ ho _ h;exact ih fun o' Jb k' CH=>hD _ o' Jb hk k' CH
def IK:List Oper->Nat->Tr Nat->Option (Tr Nat)
 |[],_,M=>some M
 |o::r,i,M=>match o.dst with
  |none=>IK r (i+1) M
  |some d=>match Tr.get M d with
   |none=>IK r (i+1) (M.set d i)
   |some _=>none
theorem Ab:∀(l:List Oper)(i:Nat)(M M':Tr Nat),IK l i M=some M'->(∀d k,Tr.get M d=some k->Tr.get M' d=some k)/\∀j o d,l[j]?=some o->o.dst=some d->Tr.get M' d=some (i+j)
 |[],_,M,M',h=>by simp only[IK,mw] at h;subst h;exact⟨fun _ _ h=>h,fun j o d h=>by simp at h⟩
 |o::r,i,M,M',h=>by
  simp only[IK] at h;split at h
  .rename_i hn;obtain⟨h1,h2⟩:=Ab r (i+1) M M' h;refine⟨h1,fun j o' d hj hd=>?_⟩;cases j with
   |zero=>simp only[List.getElem?_cons_zero,mw] at hj;subst hj;rw[hn] at hd;cases hd
   |succ j=>rw[h2 j o' d (by simpa using hj) hd];congr 1;omega
  .rename_i d0 hs;split at h
   .rename_i hg;obtain⟨h1,h2⟩:=Ab r (i+1) _ M' h;refine⟨fun d k hk=>h1 d k ?_,fun j o' d hj hd=>?_⟩
    .rw[Tr.aW];by_cases e:d=d0
     .subst e;rw[hg] at hk;cases hk
     .rw[bc e];exact hk
    .cases j with
     |zero=>
      simp only[List.getElem?_cons_zero,mw] at hj;subst hj;rw[hs] at hd;cases hd;exact h1 _ _ (by rw[Tr.aW,aY rfl];rfl)
     |succ j=>rw[h2 j o' d (by simpa using hj) hd];congr 1;omega
   .cases h
def places(p:Nat->Bool):List bm->Nat->List Nat
 |[],_=>[]
 |o::r,i=>bif p o.op.kind then i::places p r (i+1) else places p r (i+1)
theorem DR{p:Nat->Bool} :∀(l:List bm)(i j:Nat)(o:bm),l[j]?=some o->p o.op.kind=true->i+j∈places p l i
 |[],_,j,o,h,_=>by simp at h
 |o::r,i,j,o',hj,hp=>by
  simp only[places];cases j with
  |zero=>
   simp only[List.getElem?_cons_zero,mw] at hj;subst hj;rw[hp];exact Dq ..
  |succ j=>
   have:=DR r (i+1) j o' (by simpa using hj) hp;rw[AL,Nat.add_comm 1 j] at this;cases p o.op.kind
   .exact this
   .exact EE _ this
def level(A:Tr Nat)(i:Nat):List Nat->Nat
 |[]=>0
 |u::r=>bif xd A i u then level A i r+1 else level A i r
def SS(A:Tr Nat)(kg bw:List Nat):List Nat->Nat->List Nat
 |[],s=>bw.filter fun i=>Nat.beq (level A i kg) s
 |u::r,s=>(bw.filter fun i=>Nat.beq (level A i kg) s)++u::SS A kg bw r (s+1)
def SU(A:Tr Nat)(kg others:List Nat):List Nat:=SS A kg others kg 0
def NU:List Nat->Nat->Tr Nat->Option (Tr Nat)
 |[],_,Q=>some Q
 |i::r,p,Q=>match Tr.get Q i with
  |none=>NU r (p+1) (Q.set i p)
  |some _=>none
theorem G7:∀(l:List Nat)(p:Nat)(Q Q':Tr Nat),NU l p Q=some Q'->(∀i k,Tr.get Q i=some k->Tr.get Q' i=some k)/\(∀j i,l[j]?=some i->Tr.get Q' i=some (p+j))/\(∀i k,Tr.get Q' i=some k->Tr.get Q i=some k\/∃j,l[j]?=some i/\k=p+j)
 |[],_,Q,Q',h=>by simp only[NU,mw] at h;subst h;exact⟨fun _ _ h=>h,fun j i h=>by simp at h,fun i k h=>.inl h⟩
 |i0::r,p,Q,Q',h=>by
  simp only[NU] at h;split at h
  .rename_i hn;obtain⟨h1,h2,h3⟩:=G7 r (p+1) _ Q' h;refine⟨fun i k hk=>h1 i k ?_,fun j i hj=>?_,fun i k hk=>?_⟩
   .rw[Tr.aW];by_cases e:i=i0
    .subst e;rw[hn] at hk;cases hk
    .rw[bc e];exact hk
   .cases j with
    |zero=>
     simp only[List.getElem?_cons_zero,mw] at hj;subst hj;exact h1 _ _ (by rw[Tr.aW,aY rfl];rfl)
    |succ j=>rw[h2 j i (by simpa using hj)];congr 1;omega
   .rcases h3 i k hk with h|⟨j,hj,hkj⟩
    .rw[Tr.aW] at h;by_cases e:i=i0
     .rw[aY e] at h;cases h;exact .inr ⟨0,by simp[e],rfl⟩
     .rw[bc e] at h;exact .inl h
    .exact .inr ⟨j+1,by simpa using hj,by omega⟩
  .cases h
def Hi(ops:List Oper):List Nat->Option (List (Nat×Oper))
 |[]=>some []
 |i::r=>match ops[i]?,Hi ops r with
  |some o,some l=>some ((i,o)::l)
  |_,_=>none
theorem DY{ops:List Oper} :∀(l:List Nat)(rows:List (Nat×Oper)),Hi ops l=some rows->rows.length=l.length/\∀(p i:Nat)(o:Oper),rows[p]?=some (i,o)->l[p]?=some i/\ops[i]?=some o
 |[],rows,h=>by simp only[Hi,mw] at h;subst h;exact⟨rfl,fun p i o h=>by simp at h⟩
 |i::r,rows,h=>by
  simp only[Hi] at h;split at h
  .rename_i o l ho hl;cases h;obtain⟨h1,h2⟩:=DY r l hl;refine⟨by simp[h1],fun p i' o' hp=>?_⟩;cases p with
   |zero=>
    simp only[List.getElem?_cons_zero,mw,yU] at hp;obtain⟨rfl,rfl⟩:=hp;exact⟨rfl,ho⟩
   |succ p=>simpa using h2 p i' o' (by simpa using hp)
  .cases h
def Hh(A M Q:Tr Nat)(kg:List Nat)(p i:Nat)(o:Oper):Bool:=
 (iS .any o).all (fun e=>match Tr.get Q e with|some pe=>Nat.blt pe p|none=>false)&&
 (match o.guard with|none=>true|some (g,_)=>xd A i g)&&
 o.op.operands.toList.all (fun x=>match x with
  |.tmp t=>match Tr.get M t with
   |none=>true
   |some k=>xd A i k||xd A k i
  |_=>true)&&
 kg.all fun u=>match Tr.get Q u with
  |some pu=> !Nat.blt pu p||xd A i u
  |none=>false
def Hj(A M Q:Tr Nat)(kg:List Nat):List (Nat×Oper)->Nat->Bool
 |[],_=>true
 |(i,o)::r,p=>Hh A M Q kg p i o&&Hj A M Q kg r (p+1)
theorem DZ{A M Q:Tr Nat}{kg:List Nat} :∀(l:List (Nat×Oper))(p:Nat),Hj A M Q kg l p=true->∀j i o,l[j]?=some (i,o)->Hh A M Q kg (p+j) i o=true
 |[],_,_,j,i,o,h=>by simp at h
 |(i,o)::r,p,h,j,i',o',hj=>by
  simp only[Hj,zr] at h;cases j with
  |zero=>
   simp only[List.getElem?_cons_zero,mw,yU] at hj;obtain⟨rfl,rfl⟩:=hj;exact h.1
  |succ j=>have:=DZ r (p+1) h.2 j i' o' (by simpa using hj);rwa [AL,Nat.add_comm 1 j] at this
def lv(A Q:Tr Nat)(p i:Nat):List Nat->List Nat
 |[]=>[]
 |u::r=>match Tr.get Q u with
  |some pu=>bif Nat.blt p pu&& !xd A u i then pu::lv A Q p i r else lv A Q p i r
  |none=>lv A Q p i r
theorem Dp{A Q:Tr Nat}{p i:Nat} :∀ {l:List Nat} {u pu:Nat},u∈l->Tr.get Q u=some pu->p<pu->xd A u i=false->pu∈lv A Q p i l
 |[],u,pu,h,_,_,_=>by simp at h
 |v::r,u,pu,h,hq,hp,hb=>by
  have Nh:u∈r->pu∈lv A Q p i (v::r):=fun hr=>by
   have:=Dp hr hq hp hb;simp only[lv];split
   .rename_i pv _;cases(Nat.blt p pv&& !xd A v i)
    .exact this
    .exact EE _ this
   .exact this
  rcases List.mem_cons.1 h with rfl|hr
  .simp only[lv,hq];rw[vK.2 hp,hb];exact Dq ..
  .exact Nh hr
def LA(A M:Tr Nat)(i:Nat)(o:bm):Option Nat:=
 bif Nat.beq o.op.kind 1 then match o.op.through with
  |some (.tmp t)=>match Tr.get M t with
   |none=>some t
   |some k=>bif xd A i k then some t else none
  |_=>none
 else o.dst
def EL(A M Q:Tr Nat)(kg:List Nat)(f:Oper->bm):List (Nat×Oper)->Nat->Option (List (Nat×Nat))
 |[],_=>some []
 |(i,o)::r,p=>match EL A M Q kg f r (p+1) with
  |none=>none
  |some ps=>bif Nat.beq (f o).op.kind 1||Nat.beq (f o).op.kind 2 then match lv A Q p i kg with
    |[]=>some ps
    |u::us=>match LA A M i (f o) with
     |some t=>some (((u::us).foldl Nat.max p,t)::ps)
     |none=>none
   else some ps
theorem foldl_max:∀(l:List Nat)(i:Nat),i<=l.foldl Nat.max i/\(∀u∈l,u<=l.foldl Nat.max i)/\(l.foldl Nat.max i=i\/l.foldl Nat.max i∈l)
 |[],i=>⟨dH _,fun _ h=>by simp at h,.inl rfl⟩
 |u::l,i=>by
  obtain⟨h1,h2,h3⟩:=foldl_max l (Nat.max i u);simp only[List.foldl_cons];refine⟨xf (Nat.le_max_left i u) h1,?_,?_⟩
  .intro x hx;rcases List.mem_cons.1 hx with rfl|hx
   .exact xf (Nat.le_max_right i x) h1
   .exact h2 x hx
  .rcases h3 with h3|h3
   .rw[h3];rcases Nat.le_total i u with h|h
    .right;rw[show Nat.max i u=u from Nat.max_eq_right h];exact Dq ..
    .left;exact Nat.max_eq_left h
   .exact .inr (EE _ h3)
theorem FP{A Q:Tr Nat}{p i:Nat} :∀ {l:List Nat} {x:Nat},x∈lv A Q p i l->∃u∈l,Tr.get Q u=some x
 |[],x,h=>by simp[lv] at h
 |v::r,x,h=>by
  simp only[lv] at h;have hr:x∈lv A Q p i r->∃u∈v::r,Tr.get Q u=some x:=fun h=>by obtain⟨u,hu,hq⟩:=FP h;exact⟨u,EE _ hu,hq⟩
  split at h
  .rename_i pv hpv;cases hb:(Nat.blt p pv&& !xd A v i)<;>rw[hb] at h
   .exact hr h
   .rcases List.mem_cons.1 h with rfl|h
    .exact⟨v,Dq ..,hpv⟩
    .exact hr h
  .exact hr h
theorem BS{A M Q:Tr Nat}{kg:List Nat}{f:Oper->bm} :∀(l:List (Nat×Oper))(p:Nat)(ps:List (Nat×Nat)),EL A M Q kg f l p=some ps->∀j i o,l[j]?=some (i,o)->((f o).op.kind=1\/(f o).op.kind=2)->lv A Q (p+j) i kg=[]\/∃c t,LA A M i (f o)=some t/\p+j<=c/\(∀u∈lv A Q (p+j) i kg,u<=c)/\(c=p+j\/∃u∈kg,Tr.get Q u=some c)/\(c,t)∈ps
 |[],_,_,_,j,i,o,h,_=>by simp at h
 |(i,o)::r,p,ps,h,j,i',o',hj,hk=>by
  simp only[EL] at h;split at h
  .cases h
  .rename_i Zp hr;cases j with
   |succ j=>
    have:=BS r (p+1) Zp hr j i' o' (by simpa using hj) hk;rw[AL,Nat.add_comm 1 j] at this;refine this.imp_right fun⟨c,t,h1,h2,h3,h4,h5⟩=>⟨c,t,h1,h2,h3,h4,?_⟩;cases hb:(Nat.beq (f o).op.kind 1||Nat.beq (f o).op.kind 2)<;>rw[hb] at h
    .cases h;exact h5
    .simp only[cond_true] at h;split at h
     .cases h;exact h5
     .split at h
      .cases h;exact EE _ h5
      .cases h
   |zero=>
    simp only[List.getElem?_cons_zero,mw,yU] at hj;obtain⟨rfl,rfl⟩:=hj;have hb:(Nat.beq (f o).op.kind 1||Nat.beq (f o).op.kind 2)=true:=by rcases hk with hk|hk<;>rw[hk]<;>rfl
    rw[hb] at h;simp only[cond_true] at h;split at h
    .rename_i hf;exact .inl hf
    .rename_i u us hf;split at h
     .rename_i t ht;cases h;obtain⟨h1,h2,h3⟩:=foldl_max (u::us) p;refine .inr ⟨_,t,ht,h1,by rw[IW,hf];exact h2,h3.imp_right fun q=>?_,Dq ..⟩;have q':∀x,x∈u::us->∃v∈kg,Tr.get Q v=some x:=fun x hx=>FP (hf▸hx:x∈lv A Q p i kg);exact q' _ q
     .cases h
def attach(ps:List (Nat×Nat))(f:Oper->bm):List (Nat×Oper)->Nat->List (bm×List Nat)
 |[],_=>[]
 |(_,o)::r,p=>(f o,(ps.filter fun x=>Nat.beq x.1 p).map (·.2))::attach ps f r (p+1)
theorem xm{ps:List (Nat×Nat)}{f:Oper->bm} :∀(l:List (Nat×Oper))(p j:Nat),(attach ps f l p)[j]?=(l[j]?).map fun x=>(f x.2,(ps.filter fun x=>Nat.beq x.1 (p+j)).map (·.2))
 |[],_,j=>by simp[attach]
 |(_,o)::r,p,j=>by
  cases j with
  |zero=>simp[attach]
  |succ j=>
   simp only[attach,List.getElem?_cons_succ];rw[xm r (p+1) j,AL,Nat.add_comm 1 j]
theorem Fl{ps:List (Nat×Nat)}{f:Oper->bm} :∀(l:List (Nat×Oper))(p:Nat),(attach ps f l p).length=l.length
 |[],_=>rfl
 |(_,_)::r,p=>by simp[attach,Fl r]
def vI:List (bm×List Nat):=[({ dst:=none,guard:=none,op:=.bad },[])]
def ML(T:r8)(ng n:Nat)(ops:List Oper)(M A:Tr Nat)(kg aQ:List Nat):List (bm×List Nat):=
 match NU aQ 0 .nil,Hi ops aQ with
 |some Q,some rows=>match EL A M Q kg (aU T ng n ops) rows 0 with
  |some ps=>bif Nat.beq aQ.length ops.length&&(List.range ops.length).all (fun i=>(Tr.get Q i).isSome)&&AK .any ops&&AK .text ops&&AK .gc ops&&Hj A M Q kg rows 0 then attach ps (aU T ng n ops) rows 0 else vI
  |none=>vI
 |_,_=>vI
def eI(T:r8)(ng n:Nat)(ops:List Oper):List (bm×List Nat):=
 match IK ops 0 .nil with
 |none=>vI
 |some M=>match zf ops 0 .nil,ops.map (aU T ng n ops) with
  |A,aus=>match places (Nat.beq 3) aus 0,places (fun k=>Nat.blt k 3) aus 0 with
   |kg,others=>ML T ng n ops M A kg (SU A kg others)
structure kc(T:r8)(ng n:Nat)(ops:Array Oper)(σ:Nat->Nat)(l:List (bm×List Nat)):Prop where
 any:AK .any ops.toList=true
 text:AK .text ops.toList=true
 gc:AK .gc ops.toList=true
 bound:∀p,p<ops.size->σ p<ops.size
 ab9:∀i,i<ops.size->∃p,p<ops.size/\σ p=i
 inj:∀p q,p<ops.size->q<ops.size->σ p=σ q->p=q
 get:∀(p:Nat)(o:Oper),p<ops.size->ops[σ p]?=some o->∃mU,l[p]?=some (aU T ng n ops.toList o,mU)
 len:l.length=ops.size
 lower:∀(p:Nat)(o:Oper),p<ops.size->ops[σ p]?=some o->∀k∈iS .any o,∃pk,pk<p/\σ pk=k
 guard:∀(j:Nat)(o:Oper)(g:Nat)(b:Bool),ops[j]?=some o->o.guard=some (g,b)->D7 ops j g
 reads:∀(j:Nat)(o:Oper)(t:Nat),ops[j]?=some o->Operand.tmp t∈o.op.operands.toList->∀(i:Nat)(o':Oper),ops[i]?=some o'->o'.dst=some t->D7 ops j i\/D7 ops i j
 once:∀(i j:Nat)(o o':Oper)(d:Nat),ops[i]?=some o->ops[j]?=some o'->o.dst=some d->o'.dst=some d->i=j
 eager:∀(p u:Nat)(o':Oper),u<p->p<ops.size->ops[σ u]?=some o'->(aU T ng n ops.toList o').op.kind=3->D7 ops (σ p) (σ u)
 still:∀(p:Nat)(o:Oper),p<ops.size->ops[σ p]?=some o->((aU T ng n ops.toList o).op.kind=1\/(aU T ng n ops.toList o).op.kind=2)->(∀(u:Nat)(o':Oper),p<u->u<ops.size->ops[σ u]?=some o'->(aU T ng n ops.toList o').op.kind=3->D7 ops (σ u) (σ p))\/∃(c t:Nat) (ao:bm) (mU:List Nat),p<=c/\c<ops.size/\l[c]?=some (ao,mU)/\t∈mU/\(((aU T ng n ops.toList o).op.kind=1/\(aU T ng n ops.toList o).op.through=some (.tmp t)/\∀(i:Nat)(o':Oper),ops[i]?=some o'->o'.dst=some t->D7 ops (σ p) i)\/((aU T ng n ops.toList o).op.kind=2/\(aU T ng n ops.toList o).dst=some t))/\∀(u:Nat)(o':Oper),p<u->u<ops.size->ops[σ u]?=some o'->(aU T ng n ops.toList o').op.kind=3->¬D7 ops (σ u) (σ p)->u<=c
theorem MK(hb:eI T ng n ops.toList≠vI):∃σ,kc T ng n ops σ (eI T ng n ops.toList):=by
 revert hb;unfold eI;split
 .intro h;exact absurd rfl h
 .rename_i M hM;dsimp only;unfold ML;generalize af2:SU (zf ops.toList 0 .nil) (places (Nat.beq 3) (ops.toList.map (aU T ng n ops.toList)) 0) (places (fun k=>Nat.blt k 3) (ops.toList.map (aU T ng n ops.toList)) 0)=aQ;generalize heffs:places (Nat.beq 3) (ops.toList.map (aU T ng n ops.toList)) 0=kg;split
  .rename_i Q rows hQ alz;split
   .rename_i ps iT;cases hc:(Nat.beq aQ.length ops.toList.length&&(List.range ops.toList.length).all (fun i=>(Tr.get Q i).isSome)&&AK .any ops.toList&&AK .text ops.toList&&AK .gc ops.toList&&Hj (zf ops.toList 0 .nil) M Q kg rows 0) with
    |false=>intro h;exact absurd rfl h
    |true=>
     intro _;simp only[cond_true];simp only[zr] at hc;obtain⟨⟨⟨⟨⟨c0,c9⟩,c1⟩,c2⟩,c3⟩,c4⟩:=hc;have cj:aQ.length=ops.size:=by simpa using qW c0
     obtain⟨rh,Qp⟩:=DY aQ rows alz;obtain⟨_,hQ1,hQ2⟩:=G7 aQ 0 .nil Q hQ;have hA:∀j k,xd (zf ops.toList 0 .nil) j k=true->D7 ops j k:=
      Fk ops.toList 0 .nil (fun j o h=>by simpa using h) (fun j k h=>by simp[xd,Tr.get] at h)
     have hMs:=(Ab ops.toList 0 .nil M hM).2
     
     have rp:∀p,p<ops.size->∃i o,rows[p]?=some (i,o)/\aQ[p]?=some i/\ops[i]?=some o/\Tr.get Q i=some p:=by
      intro p hp;have dQ:p<rows.length:=by omega
      have hr:rows[p]?=some (rows[p].1,rows[p].2):=ff dQ;obtain⟨h1,h2⟩:=Qp p _ _ hr;have h3:=hQ1 p _ h1;rw[Ek] at h3;exact⟨_,_,hr,h1,by simpa using h2,h3⟩
     let σ:Nat->Nat:=fun p=>aQ.getD p 0
     have hσ:∀p i,aQ[p]?=some i->σ p=i:=fun p i h=>by simp[σ,List.getD,h]
     have adH:∀i o,ops[i]?=some o->i<ops.size:=fun i o h=>(Array.getElem?_eq_some_iff.1 h).1
     
     have hbound:∀p,p<ops.size->σ p<ops.size:=fun p hp=>by obtain⟨i,o,_,h2,h3,_⟩:=rp p hp;rw[hσ p i h2];exact adH i o h3
     have arH:∀p q,p<ops.size->q<ops.size->σ p=σ q->p=q:=by intro p q hp hq he;obtain⟨i,o,_,h2,_,h4⟩:=rp p hp;obtain⟨j,o',_,g2,_,g4⟩:=rp q hq;rw[hσ p i h2,hσ q j g2] at he;subst he;rw[h4] at g4;exact Option.some.inj g4
     have adz:∀i,i<ops.size->∃p,p<ops.size/\σ p=i:=by
      intro i hi;have h1:=List.all_eq_true.1 c9 i (PY.2 (by simpa using hi));obtain⟨p,hp⟩:=Option.isSome_iff_exists.1 h1;rcases hQ2 i p hp with h|⟨j,hj,hkj⟩
      .simp[Tr.get] at h
      .have dQ:=(bK.1 hj).1;exact⟨p,by omega,hσ p i (by rw[hkj,Ek];exact hj)⟩
     have CL:∀p i o,p<ops.size->ops[σ p]?=some o->σ p=i->Hh (zf ops.toList 0 .nil) M Q kg p i o=true/\rows[p]?=some (i,o):=by intro p i o hp ho hi;obtain⟨i',o',h1,h2,h3,h4⟩:=rp p hp;have:=hσ p i' h2;rw[this] at ho hi;subst hi;rw[h3] at ho;cases ho;have:=DZ rows 0 c4 p _ _ h1;rw[Ek] at this;exact⟨this,h1⟩
     have Ep:∀p,p<ops.size->Tr.get Q (σ p)=some p:=by intro p hp;obtain⟨i,o,_,h2,_,h4⟩:=rp p hp;rw[hσ p i h2];exact h4
     have akN:∀i o,ops[i]?=some o->(aU T ng n ops.toList o).op.kind=3->i∈kg:=by
      intro i o h hk;have dW:(ops.toList.map (aU T ng n ops.toList))[i]?=some (aU T ng n ops.toList o):=by
       have h':ops.toList[i]?=some o:=by simpa using h
       rw[tV,h'];rfl
      have:=DR (p:=Nat.beq 3) _ 0 i _ dW (by rw[hk];rfl);rw[Ek,heffs] at this;exact this
     have Dx:∀j o,ops[j]?=some o->∃p,p<ops.size/\σ p=j:=fun j o h=>adz j (adH j o h);refine⟨σ,c1,c2,c3,hbound,adz,arH,?_,?_,?_,?_,?_,?_,?_,?_⟩
     .intro p o hp ho;obtain⟨_,h1⟩:=CL p (σ p) o hp ho rfl;rw[xm,h1];exact⟨_,rfl⟩
     .rw[Fl];omega
     .intro p o hp ho k hk;have h1:=(CL p (σ p) o hp ho rfl).1;simp only[Hh,zr] at h1;have h2:=List.all_eq_true.1 h1.1.1.1 k hk;split at h2
      .rename_i pe hpe;rcases hQ2 k pe hpe with h|⟨j,hj,hkj⟩
       .simp[Tr.get] at h
       .refine⟨pe,vK.1 h2,?_⟩;rw[hkj,Ek];exact hσ j k hj
      .cases h2
     .intro j o g b h hg;obtain⟨p,hp,Qk⟩:=Dx j o h;have h1:=(CL p j o hp (by rw[Qk];exact h) Qk).1;simp only[Hh,zr,hg] at h1;exact hA _ _ h1.1.1.2
     .intro j o t h ht i o' hi hd;obtain⟨p,hp,Qk⟩:=Dx j o h;have h1:=(CL p j o hp (by rw[Qk];exact h) Qk).1;simp only[Hh,zr] at h1;have h2:=List.all_eq_true.1 h1.1.2 _ ht;have h3:=hMs i o' t (by simpa using hi) hd;rw[Ek] at h3;simp only[h3,Bool.or_eq_true] at h2;exact h2.imp (hA _ _) (hA _ _)
     .intro i j o o' d hi hj hd Sv;have h1:=hMs i o d (by simpa using hi) hd;have h2:=hMs j o' d (by simpa using hj) Sv;rw[h1] at h2;simpa using h2
     .intro p u o' hup hp Jb hk;have hu:u<ops.size:=by omega
      obtain⟨o,ho⟩:∃o,ops[σ p]?=some o:=⟨_,Array.getElem?_eq_getElem (hbound p hp)⟩;have h1:=(CL p (σ p) o hp ho rfl).1;simp only[Hh,zr] at h1;have h2:=List.all_eq_true.1 h1.2 _ (akN _ _ Jb hk);rw[Ep u hu] at h2;simp only[Bool.or_eq_true,vK.2 hup,Bool.not_true,Sp,false_or] at h2;exact hA _ _ h2
     .intro p o hp ho hk;obtain⟨_,hr⟩:=CL p (σ p) o hp ho rfl;have mV:∀(u:Nat)(o':Oper),p<u->u<ops.size->ops[σ u]?=some o'->(aU T ng n ops.toList o').op.kind=3->¬D7 ops (σ u) (σ p)->u∈lv (zf ops.toList 0 .nil) Q p (σ p) kg:=by
       intro u o' SE hu Jb CH Sz;refine Dp (akN _ _ Jb CH) (Ep u hu) SE ?_;cases hb:xd (zf ops.toList 0 .nil) (σ u) (σ p) with
       |false=>rfl
       |true=>exact absurd (hA _ _ hb) Sz
      rcases BS rows 0 ps iT p _ _ hr hk with h|⟨c,t,h1,h2,h3,h4,h5⟩
      .left;rw[Ek] at h;intro u o' SE hu Jb CH;apply Classical.byContradiction;intro ct;have:=mV u o' SE hu Jb CH ct;rw[h] at this;cases this
      .right;rw[Ek] at h2 h3 h4;have hcm:c<ops.size:=by
        rcases h4 with rfl|⟨u,_,hu⟩
        .exact hp
        .rcases hQ2 u c hu with h|⟨j,hj,hcj⟩
         .simp[Tr.get] at h
         .have:=(bK.1 hj).1;omega
       obtain⟨ic,oc,hrc,_,_,_⟩:=rp c hcm;refine⟨c,t,aU T ng n ops.toList oc,(ps.filter fun x=>Nat.beq x.1 (0+c)).map (·.2),h2,hcm,by rw[xm,hrc];rfl,?_,?_,fun u o' SE hu Jb CH Sz=>h3 u (mV u o' SE hu Jb CH Sz)⟩
       .rw[j_];exact⟨(c,t),VX.2 ⟨h5,by simp⟩,rfl⟩
       .unfold LA at h1;rcases hk with hk|hk
        .left;rw[hk] at h1;simp only[Nat.beq_refl,cond_true] at h1;split at h1
         .rename_i t' AP;split at h1
          .rename_i hMt;cases h1;refine⟨hk,AP,fun i o' hi hd=>?_⟩;have:=hMs i o' t (by simpa using hi) hd;rw[hMt] at this;cases this
          .rename_i k hMt;cases HD:xd (zf ops.toList 0 .nil) (σ p) k<;>rw[HD] at h1<;>cases h1;refine⟨hk,AP,fun i o' hi hd=>?_⟩;have:=hMs i o' t (by simpa using hi) hd;rw[hMt,Ek] at this;cases this;exact hA _ _ HD
         .cases h1
        .right;rw[hk] at h1;exact⟨hk,h1⟩
   .intro h;exact absurd rfl h
  .intro h;exact absurd rfl h
theorem DQ{T:r8} :∀(fs:List Field)(ps:List (Nat×Operand))(l:List (Nat×Nat×Operand)),v9 T fs ps=some l->l.map (·.2.2)=ps.map (·.2)
 |fs,[],l,h=>by simp only[v9,mw] at h;subst h;rfl
 |fs,(i,x)::r,l,h=>by
  simp only[v9] at h;split at h
  .cases h
  .split at h
   .rename_i hr;cases h;simp[DQ fs r _ hr]
   .cases h
theorem Ki{c:Call}(h:x∈(yi T c).kU):x∈c.operands.toList:=by
 obtain⟨cal,args,ats⟩:=c;unfold yi at h;dsimp only at h;have oJ:∀y,y∈args.toList->y∈(Call.operands ⟨cal,args,ats⟩).toList:=by intro y hy;have:=Array.mem_toList_iff.1 hy;cases cal<;>simp[Call.operands,this]
 split at h
 .rename_i f;simp only[kM.kU,List.mem_cons] at h;rcases h with rfl|h
  .simp[Call.operands]
  .exact oJ x h
 all_goals
  repeat' split at h
  all_goals first
   |(simp only[kM.kU,FQ] at h;done)
   |(refine oJ x ?_;simp only[kM.kU] at h;simp_all;done)
theorem PN{op:Op}(h:x∈(cI T op).kU):x∈op.operands.toList:=by
 cases op with
 |call c=>exact Ki h
 |build t ps=>
  simp only[cI] at h;split at h
  .split at h
   .rename_i fs _;generalize (fs.toList.all fun f=>(T f.type).isSome)=bb at h;cases bb<;>simp only[cond_true,cond_false] at h
    .simp[kM.kU] at h
    .split at h
     .rename_i l hl;simp only[kM.kU] at h;rw[DQ _ _ _ hl] at h;simpa [Op.operands] using h
     .simp[kM.kU] at h
   .split at h
    .simp only[kM.kU,List.map_map] at h;simpa [Op.operands,Function.comp_def] using h
    .simp[kM.kU] at h
   .simp[kM.kU] at h
  .simp[kM.kU] at h
 |buildSlice t n ps=>
  simp only[cI] at h
  repeat' split at h
  .rename_i e _;generalize (Nat.ble (n*e.size) 1000000&&Nat.beq e.zero.length e.size)=bb at h;cases bb<;>simp only[cond_true,cond_false] at h
   .simp[kM.kU] at h
   .simp only[kM.kU,List.map_map] at h;simpa [Op.operands,Function.comp_def] using h
  all_goals simp[kM.kU] at h
 |slice t y lo hi mx=>
  simp only[cI] at h
  repeat' split at h
  .generalize (mx.isSome&&hi.isNone)=bb at h;cases bb<;>simp only[cond_true,cond_false] at h
   .simp only[kM.kU,List.mem_cons,rM] at h;simp[Op.operands];simpa [or_assoc] using h
   .simp[kM.kU] at h
  all_goals simp[kM.kU] at h
 |makeFunc f first caps=>
  cases f with
  |func g=>
   simp only[cI] at h;cases hb:first.isEmpty<;>rw[hb] at h<;>simp only[cond_true,cond_false,kM.kU] at h
   .simp at h
   .simp[Op.operands];exact .inr (by simpa using h)
  |_=>simp[cI,kM.kU] at h
 |makeMap t r=>cases r<;>simp[cI,kM.kU] at h
 |next it st=>cases st<;>simp[cI,kM.kU] at h<;>simpa [Op.operands] using h
 |fieldAddr t y k=>
  simp only[cI] at h
  repeat' split at h
  .rename_i fi _;generalize Nat.beq fi.size 0=bb at h;cases bb<;>simp only[cond_true,cond_false] at h<;>simp[kM.kU] at h<;>simpa [Op.operands] using h
  all_goals simp[kM.kU] at h
 |binOp op t y z _=>
  simp only[cI] at h
  repeat' split at h
  all_goals first
   |(simp[kM.kU] at h;done)
   |(simp only[kM.kU] at h;simpa [Op.operands] using h)
 |_=>
  simp only[cI] at h
  repeat' split at h
  all_goals first
   |(simp[kM.kU] at h;done)
   |(simp only[kM.kU] at h;simpa [Op.operands] using h)
theorem Kk{op:Op}{y:Value×ab}(hv:bV e h (cI T op)=some y):∀cs b,op≠ .select cs b:=by intro cs b Aq;subst Aq;simp[cI,bV] at hv
section
variable{P:Program}{T:r8}{ng:Nat}{dr:u9}{F:Nat->Option bZ}{ih:ak->Env->ab->R}
theorem yB(hF:Hx P T ng dr F)(hT:dv P T)(hI:vc P T ng dr ih)(ho:ops[i]?=some o)(hc:cU F ih (aU T ng n ops.toList o) e h=some (e',h'))(S:dI (ig T ng dr) ρ h w)(hG:cQ ng ρ)(hE:ER ρ e2 a2.tmps)(hn:n<=a.tmps.size)(hx:∀x∈o.op.operands.toList,ev e x=ev e2 x/\a.eval x=a2.eval x)(Eu:Region.wanted o (yielded ops a.tmps)=wanted e (guardOf ops.toList o))(b:Frame)(k:List Item)(cs:List Frame)(bw:List Nat):∃ρ' w' c v,Steps P (lone (on b a (.inRegion ops (i::bw)::k)) cs w) (lone (on b (a.put o.dst c) (.inRegion ops bw::k)) cs w')/\e'=fN e o.dst v/\VR ρ' v c/\(∀d,o.dst=some d->d<a.tmps.size)/\dI (ig T ng dr) ρ' h' w'/\Ext ρ h w ρ' h' w':=by
 unfold aU at hc;cases vm:uV ng n ops.toList o with
 |false=>
  simp only[vm,cond_false] at hc;simp[cU,wanted,bV] at hc
 |true=>
  simp only[vm,cond_true] at hc;simp only[uV,zr] at vm;obtain⟨⟨hd,hg⟩,CI⟩:=vm;have vn:∀d,o.dst=some d->d<a.tmps.size:=by intro d Sv;rw[Sv] at hd;exact En (vK.1 hd) hn
  unfold cU at hc;dsimp only at hc;rw[<-Eu] at hc;cases vp:Region.wanted o (yielded ops a.tmps) with
  |false=>
   simp only[vp,cond_false,mw,yU] at hc;obtain⟨rfl,rfl⟩:=hc;refine⟨ρ,w,undef,_,.one ?_,rfl,VR.undef,vn,S,.refl ρ h w⟩;have:=JE (P:=P) (b:=b) (a:=a) (k:=k) (cs:=cs) (w:=w) (ops:=ops) (i:=i) (bw:=bw) (by simp[ho,vp]);rw[ho] at this;exact this
  |true=>
   simp only[vp,cond_true] at hc;split at hc
   .rename_i f args Aq;obtain⟨cl,h1,h2,h3⟩:=FC Aq;split at hc
    .rename_i v Kw hcv;cases hc;have kt:bG ng f=true/\args.all (bG ng)=true:=by rw[h1] at CI;simp only[Op.operands,Call.operands,h2] at CI;rw[<-h3];simpa using CI
     have re:∀x,x∈f::args->x∈o.op.operands.toList:=by intro x qm;rw[h1];simp only[Op.operands,Call.operands,h2];rw[<-h3] at qm;simpa using qm
     have vA:=Ch hE hG args kt.2;rw[<-Ht (e:=e) (e':=e2) (fun x qm=>(hx x (re x (EE _ qm))).1)] at vA;have hvf:=hE.eval hG kt.1;rw[<-(hx f (re f (Dq ..))).1] at hvf;have M6:cl.args.toList.map a.eval=args.map a2.eval:=by rw[h3];exact List.map_congr_left fun x qm=>(hx x (re x (EE _ qm))).2
     obtain⟨ρ',w',c,q1,q2,q3,q4⟩:=Dh (P:=P) hF hT hI hcv S hG hvf vA ho vp h1 h2 (hx f (re f (Dq ..))).2 M6 b k cs (bw:=bw);exact⟨ρ',w',c,v,q1,rfl,q2,vn,q3,q4⟩
    .cases hc
   .split at hc
    .rename_i v Kw Co;cases hc;have af3:bV e2 h (cI T o.op)=some (v,h'):=by rw[<-U5 (e:=e) (e':=e2) (cI T o.op) (fun x qm=>(hx x (PN qm)).1)];exact Co
     obtain⟨ρ',w',c,hr,hv,S',E'⟩:=NM (P:=P) (a:=a2) hT S hE hG o CI af3;have hcg:execOp a.eval o=execOp a2.eval o:=execOp_congr o (Kk Co) fun x qm=>(hx x (Array.mem_toList_iff.2 qm)).2;rw[<-hcg] at hr;have Wg:=IG Co;rcases hr with hr|⟨rfl,hr⟩
     .exact⟨ρ',w',c,v,.one (Ls ho vp Wg hr),rfl,hv,vn,S',E'⟩
     .exact⟨ρ',w',undef,v,.one (S8 ho vp Wg hr),rfl,hv,vn,S',E'⟩
    .cases hc
end
theorem IJ{F:Nat->Option bZ}{ih:ak->Env->ab->R}(c:Nat):∀(l:List (bm×List Nat))(e:Env)(h:ab)(e':Env)(h':ab),oM F ih c l e h=some (e',h')->∃(E:Nat->Env) (H:Nat->ab),E 0=e/\H 0=h/\E l.length=e'/\H l.length=h'/\∀(k:Nat)(o:bm)(mU:List Nat),l[k]?=some (o,mU)->cU F ih o (E k) (H k)=some (E (k+1),H (k+1))/\still (E (k+1)) (H (k+1)) c mU=true
 |[],e,h,e',h',hc=>by simp only[oM,mw,yU] at hc;obtain⟨rfl,rfl⟩:=hc;exact⟨fun _=>e,fun _=>h,rfl,rfl,rfl,rfl,fun k o mU hk=>by simp at hk⟩
 |(o,mU)::r,e,h,e',h',hc=>by
  simp only[oM] at hc;split at hc
  .rename_i e1 h1 ho;cases hs:still e1 h1 c mU with
   |false=>simp[hs] at hc
   |true=>
    simp only[hs,cond_true] at hc;obtain⟨E,H,q1,q2,q3,q4,q5⟩:=IJ c r e1 h1 e' h' hc;refine⟨fun k=>match k with|0=>e|k+1=>E k,fun k=>match k with|0=>h|k+1=>H k,rfl,rfl,q3,q4,?_⟩;intro k o' apS hk;cases k with
    |zero=>
     simp only[List.getElem?_cons_zero,mw,yU] at hk;obtain⟨rfl,rfl⟩:=hk;dsimp only;rw[q1,q2];exact⟨ho,hs⟩
    |succ k=>exact q5 k o' apS (by simpa using hk)
  .cases hc
theorem Va{o:bm}(hc:cU F ih o e h=some (e',h')):∃v,e'=fN e o.dst v:=by
 unfold cU at hc;cases hw:wanted e o.guard<;>simp only[hw,cond_true,cond_false] at hc
 .cases hc;exact⟨_,rfl⟩
 .split at hc
  .split at hc
   .cases hc;exact⟨_,rfl⟩
   .cases hc
  .split at hc
   .cases hc;exact⟨_,rfl⟩
   .cases hc
theorem me{o:kM}(hk:o.kind<=2):∀f args,o≠ .call f args:=by intro f args e;subst e;simp[kM.kind] at hk
theorem Jv{o:bm}(hk:o.op.kind<=1)(hc:cU F ih o e h=some (e',h')):h'=h:=by
 unfold cU at hc;cases hw:wanted e o.guard<;>simp only[hw,cond_true,cond_false] at hc
 .cases hc;rfl
 .split at hc
  .rename_i f args Aq;exact absurd Aq (me (by omega) f args)
  .split at hc
   .rename_i hv;cases hc;rcases Nat.le_one_iff_eq_zero_or_eq_one.1 hk with h0|h1
    .exact(GK h0 hv).1
    .exact(AB h1 hv).1
   .cases hc
theorem GO{o:bm}(hk:o.op.kind<=2)(hc:cU F ih o e h=some (e',h')):h'=h\/∃x,h'=h.new x:=by
 by_cases h1:o.op.kind<=1
 .exact .inl (Jv h1 hc)
 .have h2:o.op.kind=2:=by omega
  unfold cU at hc;cases hw:wanted e o.guard<;>simp only[hw,cond_true,cond_false] at hc
  .cases hc;exact .inl rfl
  .split at hc
   .rename_i f args Aq;exact absurd Aq (me (by omega) f args)
   .split at hc
    .rename_i hv;cases hc;obtain⟨_,cs,_,h,_⟩:=yA h2 hv;exact .inr ⟨_,h⟩
    .cases hc
theorem abR(o:kM):o.kind<=3:=by cases o<;>simp[kM.kind]
def Rest(c:Nat)(o:rV):Prop:=(∃cs ro op s,o=.aC cs ro op s/\s<=c)\/o=.map []
theorem kK{e:Env}{h:ab}{c:Nat} :∀ {l:List Nat},still e h c l=true->∀t∈l,∀b,leads (ai e t)=some b->∃o,h.tr.get b=some o/\Rest c o
 |[],_,t,ht,_,_=>by simp at ht
 |u::r,hs,t,ht,b,hb=>by
  unfold still at hs;rcases List.mem_cons.1 ht with rfl|ht
  .split at hs
   .rename_i heq;rw[heq] at hb;cases hb;split at hs
    .rename_i cs ro o s hg;rw[zr] at hs;exact⟨_,hg,.inl ⟨cs,ro,o,s,rfl,OJ hs.1⟩⟩
    .cases hs
   .rename_i heq;rw[heq] at hb;cases hb;split at hs
    .rename_i cs ro o s hg;rw[zr] at hs;exact⟨_,hg,.inl ⟨cs,ro,o,s,rfl,OJ hs.1⟩⟩
    .cases hs
   .rename_i heq;rw[heq] at hb;cases hb;split at hs
    .rename_i hg;exact⟨_,hg,.inr rfl⟩
    .cases hs
   .rename_i heq;rw[heq] at hb;cases hb
   .rename_i heq;rw[heq] at hb;cases hb
   .rename_i heq;rw[heq] at hb;cases hb
   .rename_i heq;rw[heq] at hb;cases hb
   .cases hs
  .split at hs
   .split at hs
    .rw[zr] at hs;exact kK hs.2 t ht b hb
    .cases hs
   .split at hs
    .rw[zr] at hs;exact kK hs.2 t ht b hb
    .cases hs
   .split at hs
    .exact kK hs t ht b hb
    .cases hs
   .exact kK hs t ht b hb
   .exact kK hs t ht b hb
   .exact kK hs t ht b hb
   .exact kK hs t ht b hb
   .cases hs
def Jl(l:List Nat)(e:Env):Env:=l.foldl Tr.del e
def Gt(l:List Nat)(tmps:Array Value):Array Value:=l.foldl (fun x t=>x.setIfInBounds t undef) tmps
theorem yx:∀(l:List Nat)(e:Env)(t:Nat),ai (Jl l e) t=if t∈l then .tuple #[] else ai e t
 |[],e,t=>by simp[Jl]
 |u::l,e,t=>by
  rw[Jl,List.foldl_cons,<-Jl,yx l];by_cases h1:t∈l
  .simp[h1]
  .rw[bc h1];unfold ai;rw[Tr.nq];by_cases h2:t=u
   .subst h2;simp
   .simp[h1,h2]
theorem yw:∀(l:List Nat)(a:Array Value)(t:Nat),(Gt l a).getD t undef=if t∈l then undef else a.getD t undef
 |[],a,t=>by simp[Gt]
 |u::l,a,t=>by
  rw[Gt,List.foldl_cons,<-Gt,yw l];by_cases h1:t∈l
  .simp[h1]
  .rw[bc h1];by_cases h2:t=u
   .subst h2;simp only[List.mem_cons,true_or,if_true];rw[Array.getD_eq_getD_getElem?,Array.getElem?_setIfInBounds];simp only[if_true];split<;>rfl
   .simp[h1,h2,Array.getD_eq_getD_getElem?,Array.getElem?_setIfInBounds,Ne.symm h2]
theorem dI.grow(S:dI CC ρ h w)(o:rV):dI CC ρ (h.new o) w/\Ext ρ h w ρ (h.new o) w:=by
 have dW:∀b r,ρ b=some r->(h.new o).tr.get b=h.tr.get b:=by intro b r hb;have:=(S.low b r hb).1;simp only[ab.new,Tr.aW];rw[bc (by omega)]
 have Eu:∀b r,ρ b=some r->eH (h.new o) b->eH h b:=fun b r hb ⟨x,hx,hr⟩=>⟨x,by rwa [dW b r hb] at hx,hr⟩;refine⟨⟨fun b r hb=>⟨?_,(S.low b r hb).2⟩,fun b r x hb hx=>S.obj b r x hb (by rwa [dW b r hb] at hx),fun b b' r r' x hb jf hw hx ct=>S.inj b b' r r' x hb jf (Eu b r hb hw) (by rwa [dW b' r' jf] at hx) ct,?_⟩,⟨ρ.le_refl,by simp[ab.new],dH _,rfl,rfl,rfl,fun _ _ _=>rfl,fun b r hb hw=>.inr ⟨b,r,hb,Eu b r hb hw,rfl⟩,fun b r h1 h2=>(by rw[h1] at h2;cases h2),fun b r x hb hx=>.inr ⟨b,r,x,hb,by rwa [dW b r hb] at hx,rfl⟩⟩⟩
 .have:=(S.low b r hb).1;simp only[ab.new];omega
 .intro b x hx;simp only[ab.new,Tr.aW] at hx⊢;by_cases e:b=h.next
  .omega
  .rw[bc e] at hx;have:=S.wf b x hx;omega
section
variable{P:Program}{T:r8}{ng:Nat}{dr:u9}{F:Nat->Option bZ}{ih:ak->Env->ab->R}{n c:Nat}{ops:Array Oper}{σ:Nat->Nat}{l:List (bm×List Nat)}{E:Nat->Env}{H:Nat->ab}
def Fe(F:Nat->Option bZ)(ih:ak->Env->ab->R)(T:r8)(ng n:Nat)(ops:Array Oper)(σ:Nat->Nat)(E:Nat->Env)(H:Nat->ab):Prop:=
 ∀(p:Nat)(o:Oper),p<ops.size->ops[σ p]?=some o->cU F ih (aU T ng n ops.toList o) (E p) (H p)=some (E (p+1),H (p+1))
theorem Di{d:Nat}(h:(aU T ng n ops.toList o).dst=some d):o.dst=some d:=by
 unfold aU at h;cases hb:uV ng n ops.toList o<;>rw[hb] at h
 .cases h
 .exact h
theorem kc.op(hg:kc T ng n ops σ l)(hp:p<ops.size):∃o,ops[σ p]?=some o:=⟨_,Array.getElem?_eq_getElem (hg.bound p hp)⟩
theorem kc.Pn(hg:kc T ng n ops σ l)(h:D7 ops i j):∀p,p<ops.size->σ p=i->∃q,q<p/\σ q=j:=by
 induction h with
 |HY ho h=>intro p hp hi;subst hi;exact hg.lower p _ hp ho _ h
 |p7 ho h _ ih=>
  intro p hp hi;subst hi;obtain⟨pk,dQ,hk⟩:=hg.lower p _ hp ho _ h;obtain⟨q,hq,hj⟩:=ih pk (by omega) hk;exact⟨q,by omega,hj⟩
theorem wC(hq:Fe F ih T ng n ops σ E H)(hg:kc T ng n ops σ l){a t:Nat} :∀(b:Nat),a<=b->b<=ops.size->(∀(k:Nat)(o:Oper),a<=k->k<b->ops[σ k]?=some o->o.dst≠some t)->ai (E b) t=ai (E a) t:=by
 intro b;induction b with
 |zero=>intro h _ _;rw[Nat.le_zero.1 h]
 |succ b ihb=>
  intro xN hb hn;by_cases he:a=b+1
  .rw[he]
  .obtain⟨o,ho⟩:=hg.op (p:=b) (by omega);obtain⟨v,hv⟩:=Va (hq b _ (by omega) ho);rw[hv,<-ihb (by omega) (by omega) (fun k o h1 h2 h3=>hn k o h1 (by omega) h3)];cases hd:(aU T ng n ops.toList o).dst with
   |none=>rfl
   |some d=>
    simp only[fN,Env.aW];have:=hn b _ (by omega) (by omega) ho;rw[Di hd] at this;rw[bc (fun(e:t=d)=>this (by rw[e]))]
def L9(T:r8)(ng n:Nat)(ops:Array Oper)(σ:Nat->Nat)(a b:Nat):Prop:=
 ∀(k:Nat)(o:Oper),a<=k->k<b->ops[σ k]?=some o->(aU T ng n ops.toList o).op.kind≠3
theorem KN{o:kM}(h:o.kind≠3):o.kind<=2:=by have:=abR o;omega
theorem Oh(hq:Fe F ih T ng n ops σ E H)(hg:kc T ng n ops σ l){a x:Nat}(hx:x<(H a).next):∀(b:Nat),a<=b->b<=ops.size->L9 T ng n ops σ a b->(H b).tr.get x=(H a).tr.get x/\(H a).next<=(H b).next:=by
 intro b;induction b with
 |zero=>intro h _ _;rw[Nat.le_zero.1 h];exact⟨rfl,dH _⟩
 |succ b ihb=>
  intro xN hb hn;by_cases he:a=b+1
  .rw[he];exact⟨rfl,dH _⟩
  .obtain⟨o,ho⟩:=hg.op (p:=b) (by omega);obtain⟨h1,h2⟩:=ihb (by omega) (by omega) (fun k o h1 h2 h3=>hn k o h1 (by omega) h3);rcases GO (KN (hn b _ (by omega) (by omega) ho)) (hq b _ (by omega) ho) with hh|⟨y,hh⟩
   .rw[hh];exact⟨h1,h2⟩
   .rw[hh,<-h1];simp only[ab.new,Tr.aW];rw[bc (by omega)];exact⟨rfl,by omega⟩
theorem Lv(hq:Fe F ih T ng n ops σ E H)(hg:kc T ng n ops σ l){a:Nat}(S:dI CC ρ (H a) w):∀(b:Nat),a<=b->b<=ops.size->L9 T ng n ops σ a b->dI CC ρ (H b) w/\Ext ρ (H a) w ρ (H b) w:=by
 intro b;induction b with
 |zero=>intro h _ _;rw[<-Nat.le_zero.1 h];exact⟨S,.refl _ _ _⟩
 |succ b ihb=>
  intro xN hb hn;by_cases he:a=b+1
  .rw[<-he];exact⟨S,.refl _ _ _⟩
  .obtain⟨o,ho⟩:=hg.op (p:=b) (by omega);obtain⟨S1,X1⟩:=ihb (by omega) (by omega) (fun k o h1 h2 h3=>hn k o h1 (by omega) h3);rcases GO (KN (hn b _ (by omega) (by omega) ho)) (hq b _ (by omega) ho) with hh|⟨y,hh⟩
   .rw[hh];exact⟨S1,X1⟩
   .rw[hh];obtain⟨S2,X2⟩:=S1.grow y;exact⟨S2,X1.trans X2⟩
theorem rS(hK:ij ih)(hq:Fe F ih T ng n ops σ E H)(hg:kc T ng n ops σ l){a:Nat} :∀(b:Nat),a<=b->b<=ops.size->dN (H a) (H b):=by
 intro b;induction b with
 |zero=>intro h _;rw[Nat.le_zero.1 h];exact .refl _
 |succ b ihb=>
  intro xN hb;by_cases he:a=b+1
  .rw[he];exact .refl _
  .obtain⟨o,ho⟩:=hg.op (p:=b) (by omega);exact(ihb (by omega) (by omega)).trans (x4 hK (hq b _ (by omega) ho))
theorem Fs(hK:ij ih)(hq:Fe F ih T ng n ops σ E H)(hg:kc T ng n ops σ l)(KJ:∀(k:Nat)(ao:bm)(mU:List Nat),l[k]?=some (ao,mU)->still (E (k+1)) (H (k+1)) c mU=true)(Dy:c<(H 0).clock){p q:Nat}(hp:p<q)(Nf:q<=ops.size)(ho:ops[σ p]?=some o)(hk:(aU T ng n ops.toList o).op.kind=1\/(aU T ng n ops.toList o).op.kind=2)(Sz:∀(u:Nat)(o':Oper),p<u->u<q->ops[σ u]?=some o'->(aU T ng n ops.toList o').op.kind=3->¬D7 ops (σ u) (σ p))(h1:(aU T ng n ops.toList o).op.kind=1->∀t,(aU T ng n ops.toList o).op.through=some (.tmp t)->(∀(i:Nat)(o':Oper),ops[i]?=some o'->o'.dst=some t->D7 ops (σ p) i)->leads (ai (E p) t)=some b)(h2:(aU T ng n ops.toList o).op.kind=2->∀t,(aU T ng n ops.toList o).dst=some t->leads (ai (E (p+1)) t)=some b)(hb:b<(H (p+1)).next):(H q).tr.get b=(H (p+1)).tr.get b:=by
 by_cases Ja:L9 T ng n ops σ (p+1) q
 .exact(Oh hq hg hb q (by omega) Nf Ja).1
 .have hex:∃(u:Nat) (o':Oper),p<u/\u<q/\ops[σ u]?=some o'/\(aU T ng n ops.toList o').op.kind=3:=by apply Classical.byContradiction;intro ct;exact Ja fun u o' g1 g2 g3 g4=>ct ⟨u,o',by omega,g2,g3,g4⟩
  obtain⟨u,o',g1,g2,g3,g4⟩:=hex;rcases hg.still p o (by omega) ho hk with oH|⟨cc,t,ao,mU,k1,k2,k3,k4,k5,k6⟩
  .exact absurd (oH u o' g1 (by omega) g3 g4) (Sz u o' g1 g2 g3 g4)
  .have alG:leads (ai (E (cc+1)) t)=some b:=by
    rcases k5 with⟨kk,ht,hw⟩|⟨kk,hd⟩
    .rw[wC hq hg (a:=p) (cc+1) (by omega) (by omega) (fun k ok hk1 Cn eX hd=>?_)]
     .exact h1 kk t ht hw
     .obtain⟨q',hq',he⟩:=hg.Pn (hw (σ k) ok eX hd) p (by omega) rfl;have:=hg.inj q' k (by omega) (by omega) he;omega
    .rw[wC hq hg (a:=p+1) (cc+1) (by omega) (by omega) (fun k ok hk1 Cn eX Sv=>?_)]
     .exact h2 kk t hd
     .have:=hg.inj p k (by omega) (by omega) (hg.once (σ p) (σ k) o ok t ho eX (Di hd) Sv);omega
   obtain⟨ob,hs1,hs2⟩:=kK (KJ cc ao mU k3) t k4 b alG;have back:∀a,a<=cc+1->b<(H a).next->(H a).tr.get b=some ob:=by
    intro a ha hba;have hka:=rS hK hq hg (a:=a) (cc+1) ha (by omega);have hk0:=rS hK hq hg (a:=0) a (by omega) (by omega);rcases hs2 with⟨cs,ro,op,s,rfl,hs2⟩|rfl
    .exact hka.bE b cs ro op s hba hs1 (by have:=hk0.clock;omega)
    .exact hka.mp b hba hs1
   rw[back (p+1) (by omega) hb];have SB:∀a,p+1<=a->a<=ops.size->b<(H a).next:=fun a h1 h2=>by
    have:=(rS hK hq hg (a:=p+1) a h1 h2).next
    omega
   by_cases hqc:q<=cc+1
   .exact back q hqc (SB q (by omega) Nf)
   .have:=(Oh hq hg (SB (cc+1) (by omega) (by omega)) q (by omega) Nf (fun k o'' h6 h7 h8 h9=>by have:=k6 k o'' (by omega) (by omega) h8 h9 (Sz k o'' (by omega) h7 h8 h9);omega)).1
    rw[this,hs1]
def Ou:Value->Nat
 |.pointer (some ⟨b,_,_⟩)=>b+1
 |.slice (some ⟨b,_,_⟩) _ _=>b+1
 |.map (some m)=>m+1
 |_=>0
def Rp:Value->Nat
 |.func (.yield l) _ _=>l+1
 |.func _ _ caps=>(caps.toList.map Ou).foldl (· + ·) 0
 |v=>Ou v
theorem foldl_add:∀(l:List Nat)(a:Nat),a<=l.foldl (· + ·) a/\∀x∈l,x<=l.foldl (· + ·) a
 |[],a=>⟨dH _,fun _ h=>by simp at h⟩
 |y::l,a=>by
  obtain⟨h1,h2⟩:=foldl_add l (a+y);simp only[List.foldl_cons];refine⟨by omega,fun x hx=>?_⟩;rcases List.mem_cons.1 hx with rfl|hx
  .omega
  .exact h2 x hx
theorem CR.off{ρ1 ρ2:eU}(hr:∀x,x≠N->ρ1 x=ρ2 x){v c:Value}(hN:Ou v<=N)(h:CR ρ1 v c):CR ρ2 v c:=by
 cases h with
 |bool=>exact .bool _
 |int=>exact .int _ _
 |str=>exact .str _
 |GH=>exact .GH
 |ptr h=>simp only[Ou] at hN;exact .ptr (by rw[<-hr _ (by omega)];exact h)
 |qb=>exact .qb _ _
 |slice h hs=>simp only[Ou] at hN;exact .slice (by rw[<-hr _ (by omega)];exact h) hs
 |CU=>exact .CU
 |map h=>simp only[Ou] at hN;exact .map (by rw[<-hr _ (by omega)];exact h)
 |BU=>exact .BU
 |xZ=>exact .xZ
theorem KR.off{ρ1 ρ2:eU}{N:Nat}(hr:∀x,x≠N->ρ1 x=ρ2 x){v c:Value}(hN:Rp v<=N)(h:KR ρ1 v c):KR ρ2 v c:=by
 cases h with
 |cell h=>
  refine .cell (h.off hr ?_);cases h<;>first|exact hN|exact Nat.zero_le _
 | @fn f l m h=>
  simp only[Rp] at hN;refine .fn f ?_;have hb:∀x∈l,Ou x<=N:=fun x hx=>xf ((foldl_add (l.map Ou) 0).2 _ (j_.2 ⟨x,hx,rfl⟩)) hN;clear hN;induction h with
  |nil=>exact .nil
  |cons h1 _ ih=>exact .cons (h1.off hr (hb _ (Dq ..))) (ih fun x hx=>hb x (EE _ hx))
 |yield h=>simp only[Rp] at hN;exact .yield (by rw[<-hr _ (by omega)];exact h)
end
theorem VR.abX{s:Mk}{c:Value}(h:VR ρ (mkA s N) c):∃im,ρ N=some im/\∀(ρ2:eU)(M:Nat),ρ2 M=some im->VR ρ2 (mkA s M) c:=by
 cases s with
 |ptr=>
  cases h with
  |val h=>cases h with
   |cell h=>cases h with
    |cell h=>cases h with
     | @ptr _ _ r h=>exact⟨r,h,fun ρ2 M hM=>.val (.cell (.cell (.ptr hM)))⟩
 |sl l cp=>
  cases h with
  |val h=>cases h with
   |cell h=>cases h with
    |cell h=>cases h with
     | @slice _ _ _ _ _ _ r h hs=>exact⟨r,h,fun ρ2 M hM=>.val (.cell (.cell (.slice hM hs)))⟩
 |mp=>
  cases h with
  |val h=>cases h with
   |cell h=>cases h with
    |cell h=>cases h with
     | @map _ r h=>exact⟨r,h,fun ρ2 M hM=>.val (.cell (.cell (.map hM)))⟩
theorem UP(s:Mk)(N:Nat):leads (mkA s N)=some N:=by cases s<;>rfl
structure Stood(w w':World):Prop where
 size:w.heap.size<=w'.heap.size
 os:w'.os=w.os
 tape:w'.tape=w.tape
 output:w'.output=w.output
 uQ:∀k,k<w.heap.size->w'.heap[k]?=w.heap[k]?
theorem dI.stood(S:dI CC ρ h w)(W:Stood w w'):dI CC ρ h w':=
 ⟨fun b r hb=>⟨(S.low b r hb).1,En (S.low b r hb).2 W.size⟩,fun b r o hb ho=>jA.mono ρ.le_refl (W.uQ _ (S.low b r hb).2) (S.obj b r o hb ho),S.inj,S.wf⟩
theorem Ext.stood{ρ0 ρ ρ':eU}{w0 w w':World}(X:Ext ρ0 h0 w0 ρ h w)(W:Stood w w')(hl:ρ.le ρ')(Nd:∀x r,ρ' x=some r->ρ x=none->x=N/\w.heap.size<=r.aC)(hN:h0.next<=N):Ext ρ0 h0 w0 ρ' h w':=by
 have gh:∀x r,ρ' x=some r->ρ x=some r\/(x=N/\w.heap.size<=r.aC):=by
  intro x r hx;cases hp:ρ x with
  |none=>exact .inr (Nd x r hx hp)
  |some r'=>have:=hl x r' hp;rw[hx] at this;exact .inl this.symm
 refine⟨eU.le_trans X.le hl,X.next,xf X.size W.size,W.os.trans X.os,W.tape.trans X.tape,W.output.trans X.output,?_,?_,?_,?_⟩
 .intro k hk hkk;rw[W.uQ k (En hk X.size)];exact X.uQ k hk hkk
 .intro x r hx hw;rcases gh x r hx with h|⟨_,h⟩
  .exact X.own x r h hw
  .exact .inl (xf X.size h)
 .intro x r hx hn;rcases gh x r hx with h|⟨rfl,_⟩
  .exact X.new x r h hn
  .exact hN
 .intro x r o hx ho;rcases gh x r hx with h|⟨_,h⟩
  .exact X.live x r o h ho
  .exact .inl (xf X.size h)
section
variable{P:Program}{T:r8}{ng:Nat}{dr:u9}{F:Nat->Option bZ}{ih:ak->Env->ab->R}
theorem Kl{ops:List Oper}(hk:(aU T ng n ops o).op.kind≠3):aU T ng n ops o= { dst:=o.dst,guard:=guardOf ops o,op:=cI T o.op } :=by
 unfold aU at hk⊢;cases hb:uV ng n ops o with
 |true=>rfl
 |false=>rw[hb] at hk;exact absurd rfl hk
theorem Pk(hF:Hx P T ng dr F)(hT:dv P T)(hI:vc P T ng dr ih)(ho:ops[i]?=some o){h0 h1 hq:ab}(hk:(aU T ng n ops.toList o).op.kind=2)(hc:cU F ih (aU T ng n ops.toList o) e h0=some (e',h1))(S:dI (ig T ng dr) ρ hq w)(hG:cQ ng ρ)(hE:ER ρ e2 a2.tmps)(hn:n<=a.tmps.size)(hx:∀x∈o.op.operands.toList,ev e x=ev e2 x/\a.eval x=a2.eval x)(Eu:Region.wanted o (yielded ops a.tmps)=wanted e (guardOf ops.toList o))(Nb:h0.next<h1.next->ρ h0.next=none)(xP:o.dst.isSome=true->h0.next<h1.next->hq.tr.get h0.next=h1.tr.get h0.next)(hle:h1.next<=hq.next)(b:Frame)(k:List Item)(cs:List Frame)(bw:List Nat):∃ρ' w' c v,Steps P (lone (on b a (.inRegion ops (i::bw)::k)) cs w) (lone (on b (a.put o.dst c) (.inRegion ops bw::k)) cs w')/\e'=fN e o.dst v/\VR ρ' v c/\(∀d,o.dst=some d->d<a.tmps.size)/\dI (ig T ng dr) ρ' hq w'/\ρ.le ρ'/\(∀x,ρ x=none->(h0.next<h1.next->x≠h0.next)->ρ' x=none)/\(∀(ρ0:eU)(hh:ab)(w0:World),hh.next<=h0.next->Ext ρ0 hh w0 ρ hq w->Ext ρ0 hh w0 ρ' hq w'):=by
 have hcm:=Kl (T:=T) (ng:=ng) (n:=n) (ops:=ops.toList) (o:=o) (by rw[hk];decide);have hnc:=me (o:=(aU T ng n ops.toList o).op) (by omega);cases hw:wanted e (aU T ng n ops.toList o).guard with
 |false=>
  have F9:cU F ih (aU T ng n ops.toList o) e hq=some (e',hq):=by unfold cU at hc⊢;simp only[hw,cond_false,mw,yU] at hc⊢;exact⟨hc.1,trivial⟩
  obtain⟨ρ1,w1,cv,v,s1,Ub,Wk,vn,S1,X1⟩:=yB hF hT hI ho F9 S hG (a:=a) (a2:=a2) hE hn hx Eu b k cs bw;refine⟨ρ1,w1,cv,v,s1,Ub,Wk,vn,S1,X1.le,?_,fun ρ0 hh w0 _ X=>X.trans X1⟩;intro x hx _;cases hp:ρ1 x with
  |none=>rfl
  |some r=>
   have g1:=X1.new x r hp hx;have g2:=(S1.low x r hp).1;omega
 |true=>
  have Ib:=hc;unfold cU at Ib;simp only[hw,cond_true] at Ib;split at Ib
  .rename_i v0 Kw Co;simp only[mw,yU] at Ib;obtain⟨Ul,rfl⟩:=Ib;obtain⟨s,cells,rfl,rfl,afG⟩:=yA hk Co;have dQ:h0.next<(h0.new (mkO s cells)).next:=by simp[ab.new]
   have Ja:=Nb dQ
   let N:=hq.next+(cells.map Rp).foldl (· + ·) 0
   let Z:ab:=⟨N,0,.nil⟩
   have SZ:dI (ig T ng dr) ρ Z w:=by
    refine⟨fun x r hb=>⟨?_,(S.low x r hb).2⟩,fun x r y _ hy=>?_,fun x y r r' z _ _ _ hz _=>?_,fun x y hy=>?_⟩
    .have:=(S.low x r hb).1;show x<hq.next+_;omega
    .simp[Z,Tr.get] at hy
    .simp[Z,Tr.get] at hz
    .simp[Z,Tr.get] at hy
   have hcZ:cU F ih (aU T ng n ops.toList o) e Z=some (fN e (aU T ng n ops.toList o).dst (mkA s N),Z.new (mkO s cells)):=by unfold cU;simp only[hw,cond_true];rw[afG Z]
   obtain⟨ρ1,w1,cv,v,s1,Ub,Wk,vn,S1,X1⟩:=yB hF hT hI ho hcZ SZ hG (a:=a) (a2:=a2) hE hn hx Eu b k cs bw;have hWS:Stood w w1:=⟨X1.size,X1.os,X1.tape,X1.output,fun j hj=>X1.uQ j hj (fun x r _ ⟨y,hy,_⟩=>by simp[Z,Tr.get] at hy)⟩;have OQ:(aU T ng n ops.toList o).dst=o.dst:=by rw[hcm]
   rw[OQ] at Ub Ul;cases hd:o.dst with
   |none=>
    rw[hd] at s1 Ul;refine⟨ρ,w1,undef,.tuple #[],s1,Ul.symm,VR.undef,fun d h=>(by cases h),S.stood hWS,ρ.le_refl,fun x hx _=>hx,?_⟩;intro ρ0 hh w0 afN X;exact X.stood hWS (N:=h0.next) ρ.le_refl (fun x r g1 g2=>by rw[g1] at g2;cases g2) afN
   |some d=>
    rw[hd] at s1 Ul Ub;have hvN:v=mkA s N:=by have:=congrArg (fun en:Env=>ai en d) Ub;simp only[fN,Env.aW,if_true] at this;exact this.symm
    rw[hvN] at Wk;obtain⟨im,KE,hmk⟩:=Wk.abX;have Bz:=uE (r:=im) Ja;have adv:(Z.new (mkO s cells)).tr.get N=some (mkO s cells):=by simp only[ab.new,Tr.aW];rw[aY rfl]
    have akW:hq.tr.get h0.next=some (mkO s cells):=by rw[xP (by rw[hd];rfl) dQ];simp only[ab.new,Tr.aW,if_true]
    have H9:w.heap.size<=im.aC:=by
     rcases X1.live N im _ KE adv with h|⟨_,_,_,_,h,_⟩
     .exact h
     .simp[Z,Tr.get] at h
    have hρ1:∀x,x≠N->ρ1 x=ρ x:=by
     intro x hxN;cases hp:ρ x with
     |some r=>exact X1.le x r hp
     |none=>
      cases hq1:ρ1 x with
      |none=>rfl
      |some r=>
       have g1:=X1.new x r hq1 hp;have g2:=(S1.low x r hq1).1;simp only[ab.new,Z] at g1 g2;omega
    have X7:jA (ig T ng dr) (ka ρ h0.next im) im (mkO s cells) w1:=by
     have hO:=S1.obj N im _ KE adv;have hB:jA (ig T ng dr) ρ1 im (.aC cells false 0 0) w1->jA (ig T ng dr) (ka ρ h0.next im) im (.aC cells false 0 0) w1:=by rintro⟨e_,el,fr,q1,q2,q3,q5,q6,q7⟩;refine⟨e_,el,fr,q1,q2,q3,q5,q6,fun j v' hj=>?_⟩;obtain⟨c',Ib,DD⟩:=q7 j v' hj;refine⟨c',Ib,KR.mono Bz (DD.off hρ1 ?_)⟩;have:=(foldl_add (cells.map Rp) 0).2 (Rp v') (j_.2 ⟨v',bU hj,rfl⟩);show Rp v'<=hq.next+_;omega
     cases s with
     |ptr=>exact hB hO
     |sl l c=>exact hB hO
     |mp=>
      obtain⟨ces,cl,q1,q2,q3⟩:=hO;refine⟨ces,cl,q1,?_,q3⟩;generalize ces.toList=L at q2⊢;cases q2;exact .nil
    have gh:∀x r,ka ρ h0.next im x=some r->(x=h0.next/\r=im)\/(x≠h0.next/\ρ x=some r):=by
     intro x r hx;unfold ka at hx;by_cases e:x=h0.next
     .rw[aY e] at hx;cases hx;exact .inl ⟨e,rfl⟩
     .rw[bc e] at hx;exact .inr ⟨e,hx⟩
    refine⟨ka ρ h0.next im,w1,cv,mkA s h0.next,s1,Ul.symm,hmk _ _ (by simp[ka]),fun d' h=>vn d' (by rw[hd];exact h),?_,Bz,?_,?_⟩
    .refine⟨fun x r hb=>?_,fun x r y hb hy=>?_,fun x y r r' z hb jf hwz hz ct=>?_,S.wf⟩
     .rcases gh x r hb with⟨rfl,rfl⟩|⟨_,hb⟩
      .exact⟨by omega,(S1.low N r KE).2⟩
      .exact⟨(S.low x r hb).1,En (S.low x r hb).2 hWS.size⟩
     .rcases gh x r hb with⟨rfl,rfl⟩|⟨_,hb⟩
      .rw[akW] at hy;cases hy;exact X7
      .exact jA.mono Bz (hWS.uQ _ (S.low x r hb).2) (S.obj x r y hb hy)
     .rcases gh x r hb with⟨ex,er⟩|⟨_,hb⟩<;>rcases gh y r' jf with⟨ey,er'⟩|⟨_,jf⟩
      .exact absurd (ex.trans ey.symm) ct
      .have:=(S.low y r' jf).2;rw[er];omega
      .have:=(S.low x r hb).2;rw[er'];omega
      .exact S.inj x y r r' z hb jf hwz hz ct
    .intro x hx Jd;unfold ka;rw[bc (Jd dQ)];exact hx
    .intro ρ0 hh w0 afN X;refine X.stood hWS (N:=h0.next) Bz (fun x r g1 g2=>?_) afN;rcases gh x r g1 with⟨ex,er⟩|⟨_,g3⟩
     .exact⟨ex,by rw[er];exact H9⟩
     .rw[g3] at g2;cases g2
  .cases Ib
end
section
variable{P:Program}{T:r8}{ng:Nat}{dr:u9}{F:Nat->Option bZ}{ih:ak->Env->ab->R}{n c:Nat}{ops:Array Oper}{σ:Nat->Nat}{l:List (bm×List Nat)}{E:Nat->Env}{H:Nat->ab}
theorem Ck{tmps:Array Value}(ho:ops[j]?=some o)(hd:o.dst=some t):yielded ops tmps j=match tmps.getD t undef with|.bool b=>some b|_=>none:=by
 simp only[yielded,ho,Option.bind_some,hd];rw[Array.getD_eq_getD_getElem?];cases tmps[t]? with
 |none=>rfl
 |some v=>cases v<;>rfl
theorem Pl{ao:bm}(hk:ao.op.kind=2)(hc:cU F ih ao e h0=some (e',h1))(dQ:h0.next<h1.next):∀t,ao.dst=some t->leads (ai e' t)=some h0.next:=by
 intro t ht;have hnc:=me (o:=ao.op) (by omega);unfold cU at hc;cases hw:wanted e ao.guard with
 |false=>
  simp only[hw,cond_false,mw,yU] at hc;rw[hc.2] at dQ;omega
 |true=>
  simp only[hw,cond_true] at hc;split at hc
  .rename_i v0 Kw Co;simp only[mw,yU] at hc;obtain⟨Ul,_⟩:=hc;obtain⟨s,cells,hv,_,_⟩:=yA hk Co;rw[<-Ul,ht,hv];simp only[fN,Env.aW,if_true];exact UP s _
  .cases hc
theorem ahm(hc:cU F ih (aU T ng n ops.toList o) e h=some (e',h')):uV ng n ops.toList o=true:=by
 unfold aU at hc;cases eX:uV ng n ops.toList o with
 |false=>rw[eX] at hc;simp[cU,wanted,bV] at hc
 |true=>rfl
open Classical in
theorem Xh(hF:Hx P T ng dr F)(hT:dv P T)(hI:vc P T ng dr ih)(hK:ij ih)(hq:Fe F ih T ng n ops σ E H)(hg:kc T ng n ops σ l)(KJ:∀(k:Nat)(ao:bm)(mU:List Nat),l[k]?=some (ao,mU)->still (E (k+1)) (H (k+1)) c mU=true)(Dy:c<(H 0).clock)(hwf:WF (H 0))(b:Frame)(kk:List Item)(cs:List Frame)(ρ0:eU)(w0:World):∀(D:Nat->Prop)(L:List Nat),Ord ops D L->(∀i o,ops[i]?=some o->D i->∀k∈iS .any o,D k)->∀(ρ:eU)(w:World)(a:Act)(q:Nat),q<=ops.size->(∀(p:Nat)(o':Oper),p<ops.size->ops[σ p]?=some o'->(aU T ng n ops.toList o').op.kind=3->(D (σ p)↔p<q))->dI (ig T ng dr) ρ (H q) w->cQ ng ρ->n<=a.tmps.size->Ext ρ0 (H 0) w0 ρ (H q) w->(∀(p:Nat)(o:Oper)(t:Nat),p<ops.size->ops[σ p]?=some o->o.dst=some t->D (σ p)->VR ρ (ai (E (p+1)) t) (a.tmps.getD t undef))->(∀t,(∀(i:Nat)(o:Oper),ops[i]?=some o->o.dst=some t->¬D i)->VR ρ (ai (E 0) t) (a.tmps.getD t undef))->(∀(p:Nat)(o:Oper),p<ops.size->ops[σ p]?=some o->(aU T ng n ops.toList o).op.kind=2->¬D (σ p)->(H p).next<(H (p+1)).next->ρ (H p).next=none)->∃ρ' w' a',Steps P (lone (on b a (.inRegion ops L::kk)) cs w) (lone (on b a' (.inRegion ops []::kk)) cs w')/\dI (ig T ng dr) ρ' (H ops.size) w'/\ER ρ' (E ops.size) a'.tmps/\a'.tmps.size=a.tmps.size/\a'.defers=a.defers/\Ext ρ0 (H 0) w0 ρ' (H ops.size) w':=by
 have DC:∀a b,a<=b->b<=ops.size->(H a).next<=(H b).next:=fun a b h1 h2=>(rS hK hq hg b h1 h2).next
 intro D L hO;induction hO with
 | @nil D oH=>
  intro hDc ρ w a q Nf hDq S hG hn X hv hv0 Nb;have ct:L9 T ng n ops σ q ops.size:=by intro k o h1 h2 h3 h4;have:=(hDq k o h2 h3 h4).1 (oH _ (hg.bound k h2));omega
  obtain⟨S1,X1⟩:=Lv hq hg S ops.size Nf (dH _) ct;refine⟨ρ,w,a,Steps.refl P _,S1,?_,rfl,rfl,X.trans X1⟩;intro t;by_cases hex:∃(i:Nat) (o:Oper),ops[i]?=some o/\o.dst=some t
  .obtain⟨i,o,ho,hd⟩:=hex;obtain⟨p,hp,rfl⟩:=hg.ab9 i (Array.getElem?_eq_some_iff.1 ho).1;have:=hv p o t hp ho hd (oH _ (hg.bound p hp));rwa [<-wC hq hg ops.size (a:=p+1) (by omega) (dH _) (fun k ok h1 h2 h3 h4=>by have:=hg.inj p k hp h2 (hg.once (σ p) (σ k) o ok t ho h3 hd h4);omega)] at this
  .have:=hv0 t (fun i o h1 h2=>absurd ⟨i,o,h1,h2⟩ hex);rwa [<-wC hq hg ops.size (a:=0) (by omega) (dH _) (fun k ok h1 h2 h3 h4=>hex ⟨σ k,ok,h3,h4⟩)] at this
 | @cons D i L o ho qk he hl ihl=>
  intro hDc ρ w a q Nf hDq S hG hn X hv hv0 Nb;have KE:i<ops.size:=(Array.getElem?_eq_some_iff.1 ho).1;obtain⟨p,hp,hpi⟩:=hg.ab9 i KE;subst hpi;have WS:∀j,D7 ops (σ p) j->D j:=fun j hj=>hj.closed hDc (fun o' Jb=>by rw[ho] at Jb;cases Jb;exact he);have Sc:∀j,D7 ops j (σ p)->¬D j:=by
   intro j hj hDj;have hjm:∃oj,ops[j]?=some oj:=by
    cases hj with
    |HY h _=>exact⟨_,h⟩
    |p7 h _ _=>exact⟨_,h⟩
   obtain⟨oj,hoj⟩:=hjm;exact qk (hj.closed hDc (fun o' Jb=>hDc j o' Jb hDj))
  
  have LB:∀t,(∀(j:Nat)(oj:Oper),ops[j]?=some oj->oj.dst=some t->D7 ops (σ p) j\/D7 ops j (σ p))->VR ρ (ai (E p) t) (a.tmps.getD t undef):=by
   intro t ht;by_cases hex:∃(j:Nat) (oj:Oper),ops[j]?=some oj/\oj.dst=some t
   .obtain⟨j,oj,hoj,hdj⟩:=hex;obtain⟨pj,Qk,rfl⟩:=hg.ab9 j (Array.getElem?_eq_some_iff.1 hoj).1;rcases ht _ oj hoj hdj with hj|hj
    .obtain⟨pj',dQ,Ul⟩:=hg.Pn hj p hp rfl;have:=hg.inj pj' pj (by omega) Qk Ul;subst this;have:=hv pj' oj t Qk hoj hdj (WS _ hj);rwa [<-wC hq hg p (a:=pj'+1) (by omega) (by omega) (fun k ok h1 h2 h3 h4=>by have:=hg.inj pj' k Qk (by omega) (hg.once _ _ oj ok t hoj h3 hdj h4);omega)] at this
    .obtain⟨pp,dQ,Ul⟩:=hg.Pn hj pj Qk rfl;have hpp:=hg.inj pp p (by omega) hp Ul;subst hpp;have:=hv0 t (fun j' oj' h1 h2=>by rw[hg.once j' (σ pj) oj' oj t h1 hoj h2 hdj];exact Sc _ hj);rwa [<-wC hq hg pp (a:=0) (by omega) (by omega) (fun k ok h1 h2 h3 h4=>by have:=hg.inj pj k Qk (by omega) (hg.once _ _ oj ok t hoj h3 hdj h4);omega)] at this
   .have:=hv0 t (fun j oj h1 h2=>absurd ⟨j,oj,h1,h2⟩ hex);rwa [<-wC hq hg p (a:=0) (by omega) (by omega) (fun k ok h1 h2 h3 h4=>hex ⟨σ k,ok,h3,h4⟩)] at this
  
  let Me:List Nat:=(ops.toList.filterMap (·.dst)).filter fun t=>decide (¬VR ρ (ai (E p) t) (a.tmps.getD t undef))
  have ara:∀t,t∉Me->VR ρ (ai (E p) t) (a.tmps.getD t undef):=by
   intro t ht;by_cases hex:∃(j:Nat) (oj:Oper),ops[j]?=some oj/\oj.dst=some t
   .obtain⟨j,oj,hoj,hdj⟩:=hex;apply Classical.byContradiction;intro ct;refine ht (VX.2 ⟨List.mem_filterMap.2 ⟨oj,?_,hdj⟩,by simpa using ct⟩);exact bU (i:=j) (by simpa using hoj)
   .exact LB t (fun j oj h1 h2=>absurd ⟨j,oj,h1,h2⟩ hex)
  have adw:∀t,VR ρ (ai (E p) t) (a.tmps.getD t undef)->t∉Me:=by intro t ht hm;have:=(VX.1 hm).2;simp only[decide_eq_true_eq] at this;exact this ht
  let e2:=Jl Me (E p)
  let a2:Act:= {a with tmps:=Gt Me a.tmps}
  have hE2:ER ρ e2 a2.tmps:=by
   intro t;show VR ρ (ai (Jl Me (E p)) t) ((Gt Me a.tmps).getD t undef);rw[yx,yw];by_cases ht:t∈Me
   .rw[aY ht,aY ht];exact VR.undef
   .rw[bc ht,bc ht];exact ara t ht
  have CI:∀x∈o.op.operands.toList,ev (E p) x=ev e2 x/\a.eval x=a2.eval x:=by
   intro x hx;cases x with
   |tmp t=>
    have ht:=adw t (LB t (fun j oj h1 h2=>hg.reads (σ p) o t ho hx j oj h1 h2));simp only[ev,Act.eval,e2,a2];rw[yx,yw,bc ht,bc ht];exact⟨rfl,rfl⟩
   |_=>exact⟨rfl,rfl⟩
  have Uj:=hq p o hp ho;have eX:=ahm Uj;have Eu:Region.wanted o (yielded ops a.tmps)=wanted (E p) (guardOf ops.toList o):=by
   unfold guardOf;cases I6:o.guard with
   |none=>simp[Region.wanted,I6,wanted]
   |some x=>
    obtain⟨g,bb⟩:=x;dsimp only;have hgs:(C0 ops.toList g).isSome=true:=by simp only[uV,zr,I6] at eX;exact eX.1.2
    obtain⟨t,ht⟩:=Option.isSome_iff_exists.1 hgs;have aq9:=hg.guard (σ p) o g bb ho I6;have vn:∃og,ops[g]?=some og/\og.dst=some t:=by
     unfold C0 at ht;split at ht
     .rename_i og hog;exact⟨og,by simpa using hog,ht⟩
     .cases ht
    obtain⟨og,hog,hdg⟩:=vn;have asc:=LB t (fun j oj h1 h2=>by rw[<-hg.once g j og oj t hog h1 hdg h2];exact .inl aq9);have Nc:=adw t asc;have h1:=Hu (a:=a2) hE2 (ops:=ops) (o:=o) (g:=some (t,bb)) (.inr ⟨g,bb,t,I6,ht,rfl⟩);have h2:yielded ops a.tmps g=yielded ops a2.tmps g:=by
     have hmk:(Gt Me a.tmps).getD t undef=a.tmps.getD t undef:=by rw[yw,bc Nc]
     rw[Ck hog hdg,Ck hog hdg];simp only[a2,hmk]
    rw[ht];have h3:wanted (E p) (some (t,bb))=wanted e2 (some (t,bb)):=by simp only[wanted,e2];rw[yx,bc Nc]
    show Region.wanted o (yielded ops a.tmps)=wanted (E p) (some (t,bb));rw[h3,<-h1];simp only[Region.wanted,I6,h2]
  have abp:∀(k:Nat)(ok:Oper),k<p->ops[σ k]?=some ok->(aU T ng n ops.toList ok).op.kind=3->k<q:=fun k ok h1 h2 h3=>
   (hDq k ok (by omega) h2 h3).1 (WS _ (hg.eager p k ok h1 hp h2 h3))
  
  have te:∃q' ρ1 w1 cv v,q'<=ops.size/\Steps P (lone (on b a (.inRegion ops (σ p::L)::kk)) cs w) (lone (on b (a.put o.dst cv) (.inRegion ops L::kk)) cs w1)/\E (p+1)=fN (E p) o.dst v/\VR ρ1 v cv/\(∀d,o.dst=some d->d<a.tmps.size)/\dI (ig T ng dr) ρ1 (H q') w1/\ρ.le ρ1/\Ext ρ0 (H 0) w0 ρ1 (H q') w1/\(∀(k:Nat)(o':Oper),k<ops.size->ops[σ k]?=some o'->(aU T ng n ops.toList o').op.kind=3->((D (σ k)\/σ k=σ p)↔k<q'))/\(∀(k:Nat),k<ops.size->k≠p->(H k).next<(H (k+1)).next->ρ (H k).next=none->ρ1 (H k).next=none):=by
   by_cases hk3:(aU T ng n ops.toList o).op.kind=3
   .have hqp:q<=p:=by apply Classical.byContradiction;intro h;exact qk ((hDq p o hp ho hk3).2 (by omega))
    obtain⟨S1,X1⟩:=Lv hq hg S p hqp (by omega) (fun k ok h1 h2 h3 h4=>by have:=abp k ok h2 h3 h4;omega);obtain⟨ρ1,w1,cv,v,s1,Ub,Wk,vn,S2,X2⟩:=yB hF hT hI ho Uj S1 hG (a:=a) (a2:=a2) hE2 hn CI Eu b kk cs L;refine⟨p+1,ρ1,w1,cv,v,by omega,s1,Ub,Wk,vn,S2,X2.le,(X.trans X1).trans X2,?_,?_⟩
    .intro k o' h1 h2 h3;have:=hDq k o' h1 h2 h3;constructor
     .rintro(h|h)
      .have:=this.1 h;omega
      .have:=hg.inj k p h1 hp h;omega
     .intro h;by_cases hkp:k=p
      .exact .inr (by rw[hkp])
      .exact .inl (this.2 (abp k o' (by omega) h2 h3))
    .intro k h1 h2 h3 h4;cases hr:ρ1 (H k).next with
     |none=>rfl
     |some r=>
      have g1:=X2.new _ r hr h4;have g2:=(S2.low _ r hr).1;rcases Ae k p with h|h
      .have:=DC (k+1) p (by omega) (by omega);omega
      .have:=DC (p+1) k (by omega) (by omega);omega
   .have arR:=KN hk3
    
    obtain⟨q1,Yb,CJ,S1,X1,ajW⟩:∃q1,q1<=ops.size/\p<q1/\dI (ig T ng dr) ρ (H q1) w/\Ext ρ0 (H 0) w0 ρ (H q1) w/\(∀(k:Nat)(o':Oper),k<ops.size->ops[σ k]?=some o'->(aU T ng n ops.toList o').op.kind=3->(D (σ k)↔k<q1)):=by
     by_cases hqp:p<q
     .exact⟨q,Nf,hqp,S,X,hDq⟩
     .have ct:L9 T ng n ops σ q (p+1):=by
       intro k ok h1 h2 h3 h4;by_cases hkp:k=p
       .subst hkp;rw[ho] at h3;cases h3;exact hk3 h4
       .have:=abp k ok (by omega) h3 h4;omega
      obtain⟨S1,X1⟩:=Lv hq hg S (p+1) (by omega) (by omega) ct;refine⟨p+1,by omega,by omega,S1,X.trans X1,fun k ok h1 h2 h3=>?_⟩;rw[hDq k ok h1 h2 h3];constructor
      .intro h;omega
      .intro h;by_cases hkp:k=p
       .subst hkp;rw[ho] at h2;cases h2;exact absurd h3 hk3
       .exact abp k ok (by omega) h2 h3
    have Sz:∀(u:Nat)(o':Oper),p<u->u<q1->ops[σ u]?=some o'->(aU T ng n ops.toList o').op.kind=3->¬D7 ops (σ u) (σ p):=
     fun u o' h1 h2 h3 h4 ha=>Sc _ ha ((ajW u o' (by omega) h3 h4).2 h2)
    have abb:∀(k:Nat)(o':Oper),k<ops.size->ops[σ k]?=some o'->(aU T ng n ops.toList o').op.kind=3->((D (σ k)\/σ k=σ p)↔k<q1):=by
     intro k o' h1 h2 h3;have:=ajW k o' h1 h2 h3;constructor
     .rintro(h|h)
      .exact this.1 h
      .rw[h,ho] at h2;cases h2;exact absurd h3 hk3
     .intro h;exact .inl (this.2 h)
    by_cases Cn:(aU T ng n ops.toList o).op.kind=2
    .obtain⟨ρ1,w1,cv,v,s1,Ub,Wk,vn,S2,hle,hfr,hX⟩:=Pk hF hT hI ho Cn Uj S1 hG (a:=a) (a2:=a2) hE2 hn CI Eu (Nb p o hp ho Cn qk)
      (fun _ dQ=>Fs hK hq hg KJ Dy CJ Yb ho (.inr Cn) Sz (fun h=>by rw[Cn] at h;cases h) (fun _ t ht=>Pl Cn Uj dQ t ht) dQ)
      (DC (p+1) q1 CJ Yb) b kk cs L
     refine⟨q1,ρ1,w1,cv,v,Yb,s1,Ub,Wk,vn,S2,hle,hX ρ0 (H 0) w0 (DC 0 p (by omega) (by omega)) X1,abb,?_⟩;intro k h1 h2 h3 h4;refine hfr _ h4 fun dQ heq=>?_;rcases Ae k p with h|h
     .have:=DC (k+1) p (by omega) (by omega);omega
     .have:=DC (p+1) k (by omega) (by omega);omega
    .
     have jg:=Jv (by omega) Uj;have dE:cU F ih (aU T ng n ops.toList o) (E p) (H q1)=some (E (p+1),H q1):=by
      have Bw:=Uj;rw[jg] at Bw;have hnc:=me (o:=(aU T ng n ops.toList o).op) arR;unfold cU at Bw⊢;cases hw:wanted (E p) (aU T ng n ops.toList o).guard with
      |false=>
       simp only[hw,cond_false,mw,yU] at Bw⊢;exact⟨Bw.1,trivial⟩
      |true=>
       simp only[hw,cond_true] at Bw⊢;split at Bw
       .rename_i v h1 Co;simp only[mw,yU] at Bw;obtain⟨wN,F9⟩:=Bw;subst F9;have af3:bV (E p) (H q1) (aU T ng n ops.toList o).op=some (v,H q1):=by
         by_cases hk0:(aU T ng n ops.toList o).op.kind=0
         .exact(GK hk0 Co).2 (H q1)
         .have hk1:(aU T ng n ops.toList o).op.kind=1:=by omega
          obtain⟨_,x,hx,afG,alo⟩:=AB hk1 Co;refine afG (H q1) fun bb hbb=>?_;obtain⟨TR,ro,op',s,hgt⟩:=alo bb hbb;have as0:WF (H p):=(rS hK hq hg (a:=0) p (by omega) (by omega)).wf hwf;have:=Fs hK hq hg KJ Dy CJ Yb ho (.inl hk1) Sz (b:=bb) (fun _ t ht _=>by rw[hx] at ht;cases ht;exact hbb) (fun h=>by rw[hk1] at h;cases h)
           (by rw[jg];exact as0 bb _ hgt)
          rw[this,jg]
        rw[af3];simp only[mw,yU];exact⟨wN,trivial⟩
       .cases Bw
     obtain⟨ρ1,w1,cv,v,s1,Ub,Wk,vn,S2,X2⟩:=yB hF hT hI ho dE S1 hG (a:=a) (a2:=a2) hE2 hn CI Eu b kk cs L;refine⟨q1,ρ1,w1,cv,v,Yb,s1,Ub,Wk,vn,S2,X2.le,X1.trans X2,abb,?_⟩;intro k h1 h2 h3 h4;cases hr:ρ1 (H k).next with
     |none=>rfl
     |some r=>
      have g1:=X2.new _ r hr h4;have g2:=(S2.low _ r hr).1;omega
  obtain⟨q',ρ1,w1,cv,v,ass,s1,Ub,Wk,vn,S1,Bz,X1,abb,arz⟩:=te;have Ya:∀t,o.dst≠some t->(a.put o.dst cv).tmps.getD t undef=a.tmps.getD t undef:=by
   intro t ht;cases hd:o.dst with
   |none=>rfl
   |some d=>
    have:d≠t:=fun e=>ht (by rw[hd,e]);simp[Act.put,Array.getD_eq_getD_getElem?,Array.getElem?_setIfInBounds,this]
  obtain⟨ρ2,w2,a2',s2,S2,E2,z2,d2,X2⟩:=ihl
   (by
    intro j oj hj hDj k hk;rcases hDj with h|h
    .exact .inl (hDc j oj hj h k hk)
    .subst h;rw[ho] at hj;cases hj;exact .inl (he k hk))
   ρ1 w1 (a.put o.dst cv) q' ass abb S1 (hG.mono Bz) (by rw[vw];exact hn) X1
   (by
    intro pj oj t Qk hj hd hDj;by_cases Us:pj=p
    .subst Us;rw[ho] at hj;cases hj;rw[Ub,hd];have dQ:=vn t hd;simp only[fN,Env.aW,if_true,Act.put];simp[Array.getD_eq_getD_getElem?,dQ,Wk]
    .have aqp:D (σ pj):=hDj.resolve_right (fun h=>Us (hg.inj pj p Qk hp h));rw[Ya t (fun h=>Us (hg.inj pj p Qk hp (hg.once (σ pj) (σ p) oj o t hj ho hd h)))];exact(hv pj oj t Qk hj hd aqp).mono Bz)
   (by intro t ht;have mW:o.dst≠some t:=fun h=>ht (σ p) o ho h (.inr rfl);rw[Ya t mW];exact(hv0 t (fun j oj h1 h2 h3=>ht j oj h1 h2 (.inl h3))).mono Bz)
   (by intro k ok h1 h2 h3 h4 h5;have hnD:¬D (σ k):=fun h=>h4 (.inl h);have hkp:k≠p:=fun h=>h4 (.inr (by rw[h]));exact arz k h1 hkp h5 (Nb k ok h1 h2 h3 hnD h5))
  exact⟨ρ2,w2,a2',s1.trans s2,S2,E2,z2.trans (vw _ _ _),d2.trans (put_defers _ _ _),X2⟩
end
theorem Xi(hF:Hx P T ng (eI T ng) F)(hT:dv P T):JL P T ng (eI T ng) F:=by
 intro ih hK hI n ops e h e' h' hc mixed t ρ w a b k cs S hG hE hn;have ct:eI T ng n ops.toList≠vI:=by intro he;rw[he] at hc;simp[vI,oM,cU,wanted,bV] at hc
 obtain⟨σ,hg⟩:=MK ct;obtain⟨E,H,q1,q2,q3,q4,q5⟩:=IJ _ _ _ _ _ _ hc;rw[hg.len] at q3 q4;have hq:Fe F ih T ng n ops σ E H:=by intro p o hp ho;obtain⟨mU,hk⟩:=hg.get p o hp ho;exact(q5 p _ mU hk).1
 have hO:=Lt hg.any hg.text hg.gc mixed t;have S0:dI (ig T ng (eI T ng)) ρ (H 0) w:=by rw[q2];exact S.clock _
 obtain⟨ρ',w',a',s,S',E',z,d,X⟩:=Xh hF hT hI hK hq hg (fun k ao mU hk=>(q5 k ao mU hk).2) (c:=h.clock) (by rw[q2];exact Nat.lt_succ_self _) S0.wf b k cs ρ w
  (fun _=>False) _ hO (fun _ _ _ h=>h.elim) ρ w a 0 (Nat.zero_le _) (fun j o' _ _ _=>⟨fun h=>h.elim,fun h=>by omega⟩) S0 hG hn (.refl _ _ _)
  (fun _ _ _ _ _ _ h=>h.elim) (fun t _=>by rw[q1];exact hE t)
  (fun p o hp _ _ _ _=>by
   cases hr:ρ (H p).next with
   |none=>rfl
   |some r=>
    have g1:=(S0.low _ r hr).1;have g2:=(rS hK hq hg (a:=0) p (by omega) (by omega)).next
    omega)
 rw[q3] at E';rw[q4] at S' X;refine⟨ρ',w',a',s,S',E',z,d,?_⟩;rw[q2] at X;exact(Ext.clock (ρ:=ρ) (h:=h) (w:=w) (h.clock+1)).trans X
def Kj(T:r8)(ng:Nat)(f:Func):Option bZ:=
 match f.body with
 |none=>none
 |some c=>match f.results.toList.mapM (Aa T) with
  |none=>none
  |some rs=>bif f.name== "runtime.NumGoroutine" then none else some { res:=rs,body:=bX T ng f.ntmps (eI T ng) c }
theorem Jk{α β:Type}{f:α->Option β} :∀ {l:List α} {r:List β},l.mapM f=some r->All2 (fun a b=>f a=some b) l r
 |[],r,h=>by simp only[List.mapM_nil] at h;cases h;exact .nil
 |a::l,r,h=>by
  rw[List.mapM_cons] at h;cases ha:f a with
  |none=>simp[ha] at h
  |some b=>
   cases hl:l.mapM f with
   |none=>simp[ha,hl] at h
   |some bs=>
    simp[ha,hl] at h;subst h;exact .cons ha (Jk hl)
theorem PM(h:∀f af,F f=some af->∃fn,P.funcs[f]?=some fn/\Kj T ng fn=some af):Hx P T ng (eI T ng) F:=by
 intro f af hf;obtain⟨fn,Sx,hc⟩:=h f af hf
 suffices hs:af.CW=.no/\∃fn c,P.funcs[f]?=some fn/\fn.body=some c/\(fn.name== "runtime.NumGoroutine")=false/\All2 (fun r ar=>Aa T r=some ar) fn.results.toList af.res/\af.body=bX T ng fn.ntmps (eI T ng) c by
  rw[hs.1];exact hs.2
 unfold Kj at hc;split at hc
 .cases hc
 .rename_i c hb;split at hc
  .cases hc
  .rename_i rs Qp;cases hn:fn.name== "runtime.NumGoroutine" with
   |true=>rw[hn] at hc;cases hc
   |false=>
    rw[hn] at hc;cases hc;exact⟨rfl,fn,c,Sx,hb,hn,Jk Qp,rfl⟩
section
variable{P:Program}{T:r8}{ng:Nat}{F:Nat->Option bZ}
theorem z7(hF:Hx P T ng (eI T ng) F)(hT:dv P T){fuel f:Nat}(hc:call F fuel f args h=some (v,h'))(S:dI (ig T ng (eI T ng)) ρ h w)(hG:cQ ng ρ)(ha:All2 (VR ρ) args cq)(cs:List Frame):∃fn ρ' w' c fr,P.funcs[f]?=some fn/\fn.body.isSome=true/\(fn.name== "runtime.NumGoroutine")=false/\Steps P (lone (Frame.enter P f ⟨cq⟩ .normal) cs w) (lone fr cs w')/\fr.fn=f/\fr.leaving P w' (.returned c)/\VR ρ' v c/\dI (ig T ng (eI T ng)) ρ' h' w'/\Ext ρ h w ρ' h' w':=
 xC hF hT (Vx hF hT (Xi hF hT) fuel) hc S hG ha cs
end
def Qf(P:Program)(t:Nat):TypeDesc->Bool
 |.struct _=> !P.stoodInHeld t
 |_=>true
def tP(P:Program)(t:Nat):Option TI:=
 match P.info? t,P.underlying t with
 |some ti,some u=>match ti.zero with
  |none=>none
  |some z=>
   bif z.cells.toList.all cr&&(qt u||Nat.beq ti.size 1)&&Nat.beq z.cells.toList.length ti.size&&Qf P t u&&(qt u||plain z)
   then some { u:=u,size:=ti.size,bytes:=ti.bytes,zero:=z.cells.toList,agg:=qt u } else none
 |_,_=>none
theorem Oq(P:Program):dv P (tP P):=by
 intro t i h;unfold tP at h;split at h
 .rename_i ti u mW hu;split at h
  .cases h
  .rename_i z hz;cases hb:(z.cells.toList.all cr&&(qt u||Nat.beq ti.size 1)&&Nat.beq z.cells.toList.length ti.size&&Qf P t u&&(qt u||plain z)) with
   |false=>rw[hb] at h;cases h
   |true=>
    rw[hb] at h;cases h;simp only[zr] at hb;obtain⟨⟨⟨⟨h1,h2⟩,h3⟩,h4⟩,h5⟩:=hb;refine⟨hu,⟨ti,mW,rfl,rfl,z,hz,rfl⟩,rfl,h1,?_,qW h3,?_,?_⟩
    .intro ha;dsimp only at ha;rw[ha] at h2;exact qW (by simpa using h2)
    .intro fs hfs;dsimp only at hfs;rw[hfs] at h4;simpa [Qf] using h4
    .intro ha ti' z' Qs Wm;dsimp only at ha;rw[mW] at Qs;cases Qs;rw[hz] at Wm;cases Wm;rw[ha] at h5;simpa using h5
 .cases h
theorem acm{x fn:Func}{bw:Option Func}(h:(bif Nat.beq f k then some x else bw)=some fn)(hx:P.funcs[k]?=some x):P.funcs[f]?=some fn\/bw=some fn:=by
 cases hb:Nat.beq f k with
 |true=>
  rw[hb] at h;cases h;rw[qW hb];exact .inl hx
 |false=>rw[hb] at h;exact .inr h
def Ku(P:Program)(ng:Nat)(G:Nat->Option Func)(f:Nat):Option bZ:=match G f with
 |some fn=>Kj (tP P) ng fn
 |none=>none
theorem PX{G:Nat->Option Func}(hG:∀f fn,G f=some fn->P.funcs[f]?=some fn):Hx P (tP P) ng (eI (tP P) ng) (Ku P ng G):=by
 refine PM fun f af hf=>?_;unfold Ku at hf;split at hf
 .rename_i fn Sx;exact⟨fn,hG f fn Sx,hf⟩
 .cases hf
def I2(cs:List Value):ab:=⟨1,0,.node (some (.aC cs true 0 0)) .nil .nil⟩
section
open Go.ChangeShapes Go.WideShapes Go.ChangeAt
variable{H:Type}{enc:TypeId×Value->H}{P:Program}
end
def VU(ih Jf:ak->Env->ab->R):Prop:=∀c e h r,ih c e h=some r->Jf c e h=some r
section
variable{F:Nat->Option bZ}{ih Jf:ak->Env->ab->R}
theorem Mw(H:VU ih Jf){o:Bool}(hc:pZ F ih o f args h=some r):pZ F Jf o f args h=some r:=by
 unfold pZ at hc⊢;cases hf:F f with
 |none=>rw[hf] at hc;cases hc
 |some fn=>
  rw[hf] at hc;dsimp only at hc⊢;cases hp:fn.CW with
  |Q1=>rw[hp] at hc;exact hc
  |run p k=>rw[hp] at hc;exact hc
  |no=>
   rw[hp] at hc;dsimp only at hc⊢;cases hb:ih fn.body (params .nil 0 args) h with
   |none=>rw[hb] at hc;cases hc
   |some x=>rw[hb] at hc;rw[H _ _ _ _ hb];exact hc
theorem W2(H:VU ih Jf)(hc:uh F ih f args h=some r):uh F Jf f args h=some r:=Mw H hc
theorem Vr(H:VU ih Jf){l:Nat}{code:ak}(hc:AE ih l code e h=some r):AE Jf l code e h=some r:=by
 unfold AE at hc⊢;split at hc
 .rename_i env ps asg body hg;cases hb:ih code e (gM h l env ps asg body .busy) with
  |none=>rw[hb] at hc;cases hc
  |some x=>rw[hb] at hc;rw[H _ _ _ _ hb];exact hc
 .cases hc
theorem Vs(H:VU ih Jf){l:Nat}(hc:wz ih l args h=some r):wz Jf l args h=some r:=by
 unfold wz at hc⊢;split at hc
 .rename_i env ps asg body hg;cases hs:jb env ps args with
  |none=>rw[hs] at hc;cases hc
  |some e=>
   rw[hs] at hc;dsimp only at hc⊢;cases hb:ih asg e h with
   |none=>rw[hb] at hc;cases hc
   |some x=>
    obtain⟨x,e1,h1⟩:=x;rw[hb] at hc;rw[H _ _ _ _ hb];cases x with
    |normal=>exact Vr H hc
    |exit id=>cases hc
    |ret=>cases hc
 .cases hc
theorem W8(H:VU ih Jf)(hc:cu F ih fv args h=some r):cu F Jf fv args h=some r:=by
 unfold cu at hc⊢;split at hc
 .exact Mw H hc
 .exact Vs H hc
 .cases hc
theorem BX(H:VU ih Jf){o:bm}{r:Env×ab}(hc:cU F ih o e h=some r):cU F Jf o e h=some r:=by
 unfold cU at hc⊢;cases hw:wanted e o.guard with
 |false=>rw[hw] at hc;exact hc
 |true=>
  rw[hw] at hc;simp only[cond_true] at hc⊢;split at hc
  .rename_i f args Aq;cases hb:cu F ih (ev e f) (u4 e args) h with
   |none=>rw[hb] at hc;cases hc
   |some x=>rw[hb] at hc;rw[W8 H hb];exact hc
  .exact hc
theorem KY(H:VU ih Jf):∀ {l:List bm} {e:Env} {h:ab} {r:Env×ab},y7 F ih l e h=some r->y7 F Jf l e h=some r
 |[],_,_,_,hc=>hc
 |o::l,e,h,r,hc=>by
  unfold y7 at hc⊢;cases hb:cU F ih o e h with
  |none=>rw[hb] at hc;cases hc
  |some x=>rw[hb] at hc;rw[BX H hb];exact KY H hc
theorem FH(H:VU ih Jf){k:Nat} :∀ {l:List (bm×List Nat)} {e:Env} {h:ab} {r:Env×ab},oM F ih k l e h=some r->oM F Jf k l e h=some r
 |[],_,_,_,hc=>hc
 |(o,mU)::l,e,h,r,hc=>by
  unfold oM at hc⊢;cases hb:cU F ih o e h with
  |none=>rw[hb] at hc;cases hc
  |some x=>
   obtain⟨e1,h1⟩:=x;rw[hb] at hc;rw[BX H hb];dsimp only at hc⊢;cases hs:still e1 h1 k mU with
   |false=>rw[hs] at hc;cases hc
   |true=>rw[hs] at hc;exact FH H hc
theorem Z1(H:VU ih Jf):VU (cm F ih) (cm F Jf):=by
 intro c e h r hc;cases c with
 |skip=>exact hc
 |ret=>exact hc
 |bad=>exact hc
 |exit id=>exact hc
 |ops l=>
  unfold cm at hc⊢;cases hb:y7 F ih l e h with
  |none=>simp only[hb] at hc;cases hc
  |some x=>simp only[hb] at hc;simp only[KY H hb];exact hc
 |draw l=>
  unfold cm at hc⊢;cases hb:oM F ih h.clock l e {h with clock:=h.clock+1} with
  |none=>simp only[hb] at hc;cases hc
  |some x=>simp only[hb] at hc;simp only[FH H hb];exact hc
 |seq a b=>
  unfold cm at hc⊢;cases hb:ih a e h with
  |none=>simp only[hb] at hc;cases hc
  |some x=>
   obtain⟨x,e1,h1⟩:=x;simp only[hb] at hc;simp only[H _ _ _ _ hb];cases x with
   |normal=>exact H _ _ _ _ hc
   |exit id=>exact hc
   |ret=>exact hc
 |cond cc a b=>
  unfold cm at hc⊢;dsimp only at hc⊢;split at hc
  .first|exact H _ _ _ _ hc|(rename_i hv;rw[hv];exact H _ _ _ _ hc)
  .first|exact H _ _ _ _ hc|(rename_i hv;rw[hv];exact H _ _ _ _ hc)
  .cases hc
 |block id c=>
  unfold cm at hc⊢;cases hb:ih c e h with
  |none=>simp only[hb] at hc;cases hc
  |some x=>simp only[hb] at hc;simp only[H _ _ _ _ hb];exact hc
 |loop c=>
  unfold cm at hc⊢;cases hb:ih c e h with
  |none=>simp only[hb] at hc;cases hc
  |some x=>
   obtain⟨x,e1,h1⟩:=x;simp only[hb] at hc;simp only[H _ _ _ _ hb];cases x with
   |normal=>exact H _ _ _ _ hc
   |exit id=>exact hc
   |ret=>exact hc
 |ET f ps asg body=>
  unfold cm at hc⊢;dsimp only at hc⊢;split at hc
  .rename_i g first caps hv
   cases hb:uh F ih g (first.toList++[Value.func (.yield h.next) #[] #[]]++caps.toList) (h.new (.loop e ps asg body .ready)) with
   |none=>rw[hb] at hc;cases hc
   |some x=>rw[hb] at hc;rw[W2 H hb];exact hc
  .cases hc
theorem dR(n:Nat):run F (n+1)=cm F (run F n):=rfl
theorem S7:∀n,VU (run F n) (run F (n+1))
 |0=>fun _ _ _ _ h=>by cases h
 |n+1=>Z1 (S7 n)
theorem u0{n m:Nat}(h:n<=m):VU (run F n) (run F m):=by
 induction h with
 |refl=>exact fun _ _ _ _ h=>h
 |step _ ih=>exact fun c e h r hr=>S7 _ c e h r (ih c e h r hr)
end
section
variable(F:Nat->Option bZ)
def az(c:ak)(e:Env)(h:ab)(Q:aO->Env->ab->Prop):Prop:=∃n x e' h',run F n c e h=some (x,e',h')/\Q x e' h'
def aF(l:List bm)(e:Env)(h:ab)(Q:Env->ab->Prop):Prop:=∃n e' h',y7 F (run F n) l e h=some (e',h')/\Q e' h'
def aZ(k:Nat)(l:List (bm×List Nat))(e:Env)(h:ab)(Q:Env->ab->Prop):Prop:=∃n e' h',oM F (run F n) k l e h=some (e',h')/\Q e' h'
def aE(f:Nat)(args:List Value)(h:ab)(Q:Value->ab->Prop):Prop:=∃n v h',uh F (run F n) f args h=some (v,h')/\Q v h'
def cP(fv:Value)(args:List Value)(h:ab)(Q:Value->ab->Prop):Prop:=∃n v h',cu F (run F n) fv args h=some (v,h')/\Q v h'
end
def Fg(F:Nat->Option bZ)(b:ak)(Q:aO->Env->ab->Prop):aO->Env->ab->Prop
 |.normal=>fun e h=>az F b e h Q
 |.exit id=>Q (.exit id)
 |.ret=>Q .ret
@[simp] theorem ad7(F b Q e h):Fg F b Q .normal e h=az F b e h Q:=rfl
@[simp] theorem aiz(F b Q id e h):Fg F b Q (.exit id) e h=Q (.exit id) e h:=rfl
@[simp] theorem amX(F b Q e h):Fg F b Q .ret e h=Q .ret e h:=rfl
def Fc(I:Env->ab->Prop)(Q:aO->Env->ab->Prop):aO->Env->ab->Prop
 |.normal=>I
 |.exit id=>Q (.exit id)
 |.ret=>Q .ret
@[simp] theorem acy(I Q e h):Fc I Q .normal e h=I e h:=rfl
@[simp] theorem ahj(I Q id e h):Fc I Q (.exit id) e h=Q (.exit id) e h:=rfl
@[simp] theorem aix(I Q e h):Fc I Q .ret e h=Q .ret e h:=rfl
def HI(id:Nat)(Q:aO->Env->ab->Prop):aO->Env->ab->Prop
 |.normal=>Q .normal
 |.exit i=>bif Nat.beq i id then Q .normal else Q (.exit i)
 |.ret=>Q .ret
@[simp] theorem Q0(id Q e h):HI id Q .normal e h=Q .normal e h:=rfl
@[simp] theorem aaA(id Q e h):HI id Q (.exit id) e h=Q .normal e h:=by simp[HI]
theorem GY(id Q i e h):HI id Q (.exit i) e h=(bif Nat.beq i id then Q .normal else Q (.exit i)) e h:=rfl
theorem tx(id Q i e h)(hn:¬i=id):HI id Q (.exit i) e h=Q (.exit i) e h:=by
 have hb:Nat.beq i id=false:=by
  cases hb:Nat.beq i id with
  |true=>exact absurd (qW hb) hn
  |false=>rfl
 rw[GY,hb];rfl
@[simp] theorem aoo(id Q e h):HI id Q .ret e h=Q .ret e h:=rfl
section
variable{F:Nat->Option bZ}{Q:aO->Env->ab->Prop}{e:Env}{h:ab}
theorem az.mono{c:ak}{Q':aO->Env->ab->Prop}(H:az F c e h Q)(hQ:∀x e h,Q x e h->Q' x e h):az F c e h Q':=by obtain⟨n,x,e',h',hr,hq⟩:=H;exact⟨n,x,e',h',hr,hQ _ _ _ hq⟩
theorem aE.mono{R R':Value->ab->Prop}(H:aE F f args h R)(hQ:∀v h,R v h->R' v h):aE F f args h R':=by obtain⟨n,v,h',hr,hq⟩:=H;exact⟨n,v,h',hr,hQ _ _ hq⟩
theorem cP.mono{R R':Value->ab->Prop}(H:cP F fv args h R)(hQ:∀v h,R v h->R' v h):cP F fv args h R':=by obtain⟨n,v,h',hr,hq⟩:=H;exact⟨n,v,h',hr,hQ _ _ hq⟩
theorem VB:az F .skip e h Q↔Q .normal e h:=by
 constructor
 .rintro⟨n,x,e',h',hr,hq⟩;cases n with
  |zero=>cases hr
  |succ n=>cases hr;exact hq
 .intro hq;exact⟨1,.normal,e,h,rfl,hq⟩
theorem ZE:az F .ret e h Q↔Q .ret e h:=by
 constructor
 .rintro⟨n,x,e',h',hr,hq⟩;cases n with
  |zero=>cases hr
  |succ n=>cases hr;exact hq
 .intro hq;exact⟨1,.ret,e,h,rfl,hq⟩
theorem Vz :az F (.exit id) e h Q↔Q (.exit id) e h:=by
 constructor
 .rintro⟨n,x,e',h',hr,hq⟩;cases n with
  |zero=>cases hr
  |succ n=>cases hr;exact hq
 .intro hq;exact⟨1,.exit id,e,h,rfl,hq⟩
theorem ZF{a b:ak} :az F (.seq a b) e h Q↔az F a e h (Fg F b Q):=by
 constructor
 .rintro⟨n,x,e',h',hr,hq⟩;cases n with
  |zero=>cases hr
  |succ n=>
   rw[dR] at hr;unfold cm at hr;dsimp only at hr;cases hb:run F n a e h with
   |none=>simp only[hb] at hr;cases hr
   |some y=>
    obtain⟨y,e1,h1⟩:=y;simp only[hb] at hr;refine⟨n,y,e1,h1,hb,?_⟩;cases y with
    |normal=>exact⟨n,x,e',h',hr,hq⟩
    |exit id=>cases hr;exact hq
    |ret=>cases hr;exact hq
 .rintro⟨n,x,e',h',hr,hq⟩;cases x with
  |normal=>
   obtain⟨m,y,e2,h2,hm,hq⟩:=hq;refine⟨max n m+1,y,e2,h2,?_,hq⟩;rw[dR];unfold cm;dsimp only;simp only[u0 (Nat.le_max_left n m) _ _ _ _ hr];exact u0 (Nat.le_max_right n m) _ _ _ _ hm
  |exit id=>
   refine⟨n+1,_,_,_,?_,hq⟩;rw[dR];unfold cm;dsimp only;simp only[hr]
  |ret=>
   refine⟨n+1,_,_,_,?_,hq⟩;rw[dR];unfold cm;dsimp only;simp only[hr]
theorem yH{c:Operand}{a b:ak}{t:Bool}(hc:ev e c=.bool t):az F (.cond c a b) e h Q↔az F (bif t then a else b) e h Q:=by
 constructor
 .rintro⟨n,x,e',h',hr,hq⟩;cases n with
  |zero=>cases hr
  |succ n=>
   rw[dR] at hr;unfold cm at hr;dsimp only at hr;rw[hc] at hr;cases t<;>exact⟨n,x,e',h',hr,hq⟩
 .rintro⟨n,x,e',h',hr,hq⟩;refine⟨n+1,x,e',h',?_,hq⟩;rw[dR];unfold cm;dsimp only;rw[hc];cases t<;>exact hr
theorem Rg{c:ak} :az F (.block id c) e h Q↔az F c e h (HI id Q):=by
 constructor
 .rintro⟨n,x,e',h',hr,hq⟩;cases n with
  |zero=>cases hr
  |succ n=>
   rw[dR] at hr;unfold cm at hr;dsimp only at hr;cases hb:run F n c e h with
   |none=>simp only[hb] at hr;cases hr
   |some y=>
    obtain⟨y,e1,h1⟩:=y;simp only[hb] at hr;refine⟨n,y,e1,h1,hb,?_⟩;cases y with
    |normal=>cases hr;exact hq
    |ret=>cases hr;exact hq
    |exit i=>
     rw[GY];dsimp only at hr;cases hi:Nat.beq i id<;>rw[hi] at hr<;>cases hr<;>exact hq
 .rintro⟨n,x,e',h',hr,hq⟩;cases x with
  |normal=>
   refine⟨n+1,_,_,_,?_,hq⟩;rw[dR];unfold cm;dsimp only;simp only[hr]
  |ret=>
   refine⟨n+1,_,_,_,?_,hq⟩;rw[dR];unfold cm;dsimp only;simp only[hr]
  |exit i=>
   rw[GY] at hq;cases hi:Nat.beq i id with
   |true=>
    rw[hi] at hq;refine⟨n+1,.normal,e',h',?_,hq⟩;rw[dR];unfold cm;dsimp only;simp only[hr,hi,cond_true]
   |false=>
    rw[hi] at hq;refine⟨n+1,.exit i,e',h',?_,hq⟩;rw[dR];unfold cm;dsimp only;simp only[hr,hi,cond_false]
theorem pH{c:ak} :az F (.loop c) e h Q↔az F c e h (Fg F (.loop c) Q):=by
 constructor
 .rintro⟨n,x,e',h',hr,hq⟩;cases n with
  |zero=>cases hr
  |succ n=>
   rw[dR] at hr;unfold cm at hr;dsimp only at hr;cases hb:run F n c e h with
   |none=>simp only[hb] at hr;cases hr
   |some y=>
    obtain⟨y,e1,h1⟩:=y;simp only[hb] at hr;refine⟨n,y,e1,h1,hb,?_⟩;cases y with
    |normal=>exact⟨n,x,e',h',hr,hq⟩
    |exit id=>cases hr;exact hq
    |ret=>cases hr;exact hq
 .rintro⟨n,x,e',h',hr,hq⟩;cases x with
  |normal=>
   obtain⟨m,y,e2,h2,hm,hq⟩:=hq;refine⟨max n m+1,y,e2,h2,?_,hq⟩;rw[dR];unfold cm;dsimp only;simp only[u0 (Nat.le_max_left n m) _ _ _ _ hr];exact u0 (Nat.le_max_right n m) _ _ _ _ hm
  |exit id=>
   refine⟨n+1,_,_,_,?_,hq⟩;rw[dR];unfold cm;dsimp only;simp only[hr]
  |ret=>
   refine⟨n+1,_,_,_,?_,hq⟩;rw[dR];unfold cm;dsimp only;simp only[hr]
theorem az.loop{c:ak}(I:Nat->Env->ab->Prop)(hI:∀n e h,I n e h->az F c e h (Fc (fun e h=>∃m,m<n/\I m e h) Q)){n:Nat}(h0:I n e h):az F (.loop c) e h Q:=by
 induction n using Nat.strongRecOn generalizing e h with
 |ind n ih=>
  rw[pH];refine(hI n e h h0).mono fun x e h hq=>?_;cases x with
  |normal=>obtain⟨m,hm,hi⟩:=hq;exact ih m hm hi
  |exit id=>exact hq
  |ret=>exact hq
theorem ZD{l:List bm} :az F (.ops l) e h Q↔aF F l e h (Q .normal):=by
 constructor
 .rintro⟨n,x,e',h',hr,hq⟩;cases n with
  |zero=>cases hr
  |succ n=>
   rw[dR] at hr;unfold cm at hr;dsimp only at hr;cases hb:y7 F (run F n) l e h with
   |none=>simp only[hb] at hr;cases hr
   |some y=>simp only[hb] at hr;cases hr;exact⟨n,_,_,hb,hq⟩
 .rintro⟨n,e',h',hr,hq⟩;refine⟨n+1,.normal,e',h',?_,hq⟩;rw[dR];unfold cm;dsimp only;simp only[hr]
def tick(h:ab):ab:= {h with clock:=h.clock+1}
theorem Vy{l:List (bm×List Nat)} :az F (.draw l) e h Q↔aZ F h.clock l e (tick h) (Q .normal):=by
 constructor
 .rintro⟨n,x,e',h',hr,hq⟩;cases n with
  |zero=>cases hr
  |succ n=>
   rw[dR] at hr;unfold cm at hr;dsimp only at hr;cases hb:oM F (run F n) h.clock l e {h with clock:=h.clock+1} with
   |none=>simp only[hb] at hr;cases hr
   |some y=>simp only[hb] at hr;cases hr;exact⟨n,_,_,hb,hq⟩
 .rintro⟨n,e',h',hr,hq⟩;refine⟨n+1,.normal,e',h',?_,hq⟩;rw[dR];unfold cm;dsimp only;rw[show({h with clock:=h.clock+1} :ab)=tick h from rfl];simp only[hr]
theorem Y7{R:Env->ab->Prop} :aF F [] e h R↔R e h:=by
 constructor
 .rintro⟨n,e',h',hr,hq⟩;cases hr;exact hq
 .intro hq;exact⟨0,e,h,rfl,hq⟩
theorem TU{R:Env->ab->Prop} :aZ F k [] e h R↔R e h:=by
 constructor
 .rintro⟨n,e',h',hr,hq⟩;cases hr;exact hq
 .intro hq;exact⟨0,e,h,rfl,hq⟩
def AY(F:Nat->Option bZ)(o:bm)(e:Env)(h:ab)(R:Env->ab->Prop):Prop:=∃n e' h',cU F (run F n) o e h=some (e',h')/\R e' h'
theorem rR{o:bm}{l:List bm}{R:Env->ab->Prop} :aF F (o::l) e h R↔AY F o e h (fun e h=>aF F l e h R):=by
 constructor
 .rintro⟨n,e',h',hr,hq⟩;unfold y7 at hr;cases hb:cU F (run F n) o e h with
  |none=>rw[hb] at hr;cases hr
  |some y=>rw[hb] at hr;exact⟨n,_,_,hb,n,_,_,hr,hq⟩
 .rintro⟨n,e1,h1,hb,m,e',h',hr,hq⟩;refine⟨max n m,e',h',?_,hq⟩;unfold y7;rw[BX (u0 (Nat.le_max_left n m)) hb];exact KY (u0 (Nat.le_max_right n m)) hr
theorem pb{o:bm}{mU:List Nat}{l:List (bm×List Nat)}{R:Env->ab->Prop} :aZ F k ((o,mU)::l) e h R↔AY F o e h (fun e h=>still e h k mU=true/\aZ F k l e h R):=by
 constructor
 .rintro⟨n,e',h',hr,hq⟩;unfold oM at hr;cases hb:cU F (run F n) o e h with
  |none=>rw[hb] at hr;cases hr
  |some y=>
   rw[hb] at hr;dsimp only at hr;cases hs:still y.1 y.2 k mU with
   |false=>rw[hs] at hr;cases hr
   |true=>rw[hs] at hr;exact⟨n,_,_,hb,hs,n,_,_,hr,hq⟩
 .rintro⟨n,e1,h1,hb,hs,m,e',h',hr,hq⟩;refine⟨max n m,e',h',?_,hq⟩;unfold oM;rw[BX (u0 (Nat.le_max_left n m)) hb];dsimp only;rw[hs];exact FH (u0 (Nat.le_max_right n m)) hr
def calls:kM->Bool
 |.call _ _=>true
 |_=>false
theorem NO{op:kM}{R:Env->ab->Prop}(hn:calls op=false):AY F ⟨d,none,op⟩ e h R↔ ∃v h1,bV e h op=some (v,h1)/\R (fN e d v) h1:=by
 have key:∀n,cU F (run F n) ⟨d,none,op⟩ e h=(match bV e h op with|some (v,h')=>some (fN e d v,h')|none=>none):=by
  intro n;unfold cU;simp only[wanted,cond_true];split
  .cases hn
  .rfl
 constructor
 .rintro⟨n,e',h',hr,hq⟩;rw[key] at hr;cases ho:bV e h op with
  |none=>rw[ho] at hr;cases hr
  |some y=>rw[ho] at hr;cases hr;exact⟨_,_,rfl,hq⟩
 .rintro⟨v,h1,ho,hq⟩;exact⟨0,_,_,by rw[key,ho],hq⟩
theorem v8{b c:Bool}{op:kM}{R:Env->ab->Prop}(hg:ai e t=.bool c):AY F ⟨d,some (t,b),op⟩ e h R↔(bif c==b then AY F ⟨d,none,op⟩ e h R else R (fN e d (.tuple #[])) h):=by
 have hw:wanted e (some (t,b))=(c==b):=by simp[wanted,hg]
 cases OO:(c==b) with
 |true=>
  have key:∀n,cU F (run F n) ⟨d,some (t,b),op⟩ e h=cU F (run F n) ⟨d,none,op⟩ e h:=by intro n;unfold cU;dsimp only;rw[hw,OO];rfl
  simp only[AY,key,cond_true]
 |false=>
  have key:∀n,cU F (run F n) ⟨d,some (t,b),op⟩ e h=some (fN e d (.tuple #[]),h):=by intro n;unfold cU;dsimp only;rw[hw,OO];rfl
  simp only[AY,key,cond_false];constructor
  .rintro⟨n,e',h',hr,hq⟩;cases hr;exact hq
  .intro hq;exact⟨0,_,_,rfl,hq⟩
theorem GQ{f:Operand}{args:List Operand}{R:Env->ab->Prop} :AY F ⟨d,none,.call f args⟩ e h R↔cP F (ev e f) (u4 e args) h (fun v h=>R (fN e d v) h):=by
 have key:∀n,cU F (run F n) ⟨d,none,.call f args⟩ e h=(match cu F (run F n) (ev e f) (u4 e args) h with|some (v,h')=>some (fN e d v,h')|none=>none):=by intro n;rfl
 constructor
 .rintro⟨n,e',h',hr,hq⟩;rw[key] at hr;cases ho:cu F (run F n) (ev e f) (u4 e args) h with
  |none=>rw[ho] at hr;cases hr
  |some y=>rw[ho] at hr;cases hr;exact⟨n,_,_,ho,hq⟩
 .rintro⟨n,v,h1,ho,hq⟩;exact⟨n,_,_,by rw[key,ho],hq⟩
theorem cP.func{f:Nat}{first caps:Array Value}{args:List Value}{R:Value->ab->Prop}(H:aE F f (first.toList++args++caps.toList) h R):cP F (.func (.func f) first caps) args h R:=by obtain⟨n,v,h',hr,hq⟩:=H;exact⟨n,v,h',xD hr,hq⟩
theorem cP.Q1{f:Nat}{fn:bZ}{first caps:Array Value}{args:List Value}{R:Value->ab->Prop}(hf:F f=some fn)(hp:fn.CW=.Q1){v:Value}{h':ab}(hv:Vd (first.toList++args++caps.toList) h=some (v,h'))(H:R v h'):cP F (.func (.func f) first caps) args h R:=
 ⟨0,v,h',(by simp only[AI.cu,pZ,hf,hp,cond_true];exact hv),H⟩
def ze(rs:List EY)(R:Value->ab->Prop):aO->Env->ab->Prop
 |.normal,e,h=>∃vs,results e h rs=some vs/\jM vs=true/\R (result vs) h
 |.ret,e,h=>∃vs,results e h rs=some vs/\jM vs=true/\R (result vs) h
 |.exit _,_,_=>False
@[simp] theorem MO{rs R} :ze rs R .normal e h↔ ∃vs,results e h rs=some vs/\jM vs=true/\R (result vs) h:=Iff.rfl
@[simp] theorem Xm{rs R} :ze rs R .ret e h↔ ∃vs,results e h rs=some vs/\jM vs=true/\R (result vs) h:=Iff.rfl
@[simp] theorem ahH{rs R id} :ze rs R (.exit id) e h↔False:=Iff.rfl
theorem aE.ofP{fn:bZ}{R:Value->ab->Prop}(hf:F f=some fn)(hp:fn.CW=.no)(H:az F fn.body (params .nil 0 args) h (ze fn.res R)):aE F f args h R:=by
 obtain⟨n,x,e',h',hr,hq⟩:=H;cases x with
 |exit id=>exact hq.elim
 |normal=>
  obtain⟨vs,hv,ho,hq⟩:=hq;refine⟨n,_,h',?_,hq⟩;unfold uh pZ;rw[hf];dsimp only;rw[hp];dsimp only;rw[hr];dsimp only;rw[hv];dsimp only;rw[ho];rfl
 |ret=>
  obtain⟨vs,hv,ho,hq⟩:=hq;refine⟨n,_,h',?_,hq⟩;unfold uh pZ;rw[hf];dsimp only;rw[hp];dsimp only;rw[hr];dsimp only;rw[hv];dsimp only;rw[ho];rfl
theorem aE.of{rs:List EY}{R:Value->ab->Prop}(hf:F f=some ⟨rs,body,.no⟩)(H:az F body (params .nil 0 args) h (ze rs R)):aE F f args h R:=
 aE.ofP hf rfl H
end
structure bl(h:ab):Prop where
 wf:∀b o,h.tr.get b=some o->b<h.next
 st:∀b cs ro o s,h.tr.get b=some (.aC cs ro o s)->s<=h.clock
structure aa(S:Nat->Prop)(h h':ab):Prop where
 next:h.next<=h'.next
 clock:h.clock<=h'.clock
 same:∀b,b<h.next->¬S b->h'.tr.get b=h.tr.get b
 ok:bl h'
def aG:Nat->Prop:=fun _=>False
theorem aa.refl(ok:bl h):aa S h h:=⟨dH _,dH _,fun _ _ _=>rfl,ok⟩
theorem aa.trans'{S S₁ S₂:Nat->Prop}(a:aa S₁ h h₁)(b:aa S₂ h₁ h₂)(h1:∀b,b<h.next->S₁ b->S b)(h2:∀b,b<h.next->S₂ b->S b):aa S h h₂:=
 ⟨xf a.next b.next,xf a.clock b.clock,fun x hx hn=>by rw[b.same x (En hx a.next) (fun hs=>hn (h2 x hx hs)),a.same x hx (fun hs=>hn (h1 x hx hs))],b.ok⟩
theorem aa.trans(a:aa S h h₁)(b:aa S h₁ h₂):aa S h h₂:=a.trans' b (fun _ _ h=>h) (fun _ _ h=>h)
theorem aa.bH{S S':Nat->Prop}(a:aa S h h₁)(hs:∀b,b<h.next->S b->S' b):aa S' h h₁:=
 ⟨a.next,a.clock,fun b hb hn=>a.same b hb (fun h=>hn (hs b hb h)),a.ok⟩
theorem aa.aX(a:aa aG h h₁):aa S h h₁:=a.bH fun _ _ h=>h.elim
theorem aa.get{S:Nat->Prop}{h h':ab}(g:aa S h h')(ok:bl h){b:Nat}{o:rV}(hb:h.tr.get b=some o)(hs:¬S b:=by exact fun h=>h):h'.tr.get b=some o:=by rw[g.same b (ok.wf b o hb) hs,hb]
theorem aS(ok:bl h):aa aG h (tick h):=
 ⟨dH _,Nat.le_succ _,fun _ _ _=>rfl,⟨ok.wf,fun b cs ro o s hb=>Nat.le_succ_of_le (ok.st b cs ro o s hb)⟩⟩
theorem aH(ok:bl h)(cs:List Value)(o:Nat):aa aG h (aD h cs o):=by
 refine⟨Nat.le_succ _,dH _,fun b hb _=>?_,⟨fun b ob hb=>?_,fun b TR ro o' s hb=>?_⟩⟩
 .simp only[aD,ab.new,Tr.aW];rw[bc (by omega)]
 .simp only[aD,ab.new,Tr.aW] at hb⊢;by_cases e:b=h.next
  .omega
  .rw[bc e] at hb;exact Nat.lt_succ_of_lt (ok.wf b ob hb)
 .simp only[aD,ab.new,Tr.aW] at hb⊢;by_cases e:b=h.next
  .rw[aY e] at hb;cases hb;exact Nat.zero_le _
  .rw[bc e] at hb;exact ok.st b TR ro o' s hb
@[simp] theorem bq(h:ab)(cs:List Value)(o:Nat):(aD h cs o).tr.get h.next=some (.aC cs false o 0):=by simp[aD,ab.new,Tr.aW]
@[simp] theorem NL(h:ab)(cs:List Value)(o:Nat):(aD h cs o).next=h.next+1:=rfl
@[simp] theorem Kg(h:ab)(cs:List Value)(o:Nat):(aD h cs o).clock=h.clock:=rfl
@[simp] theorem aik(h:ab):(tick h).next=h.next:=rfl
@[simp] theorem Ti(h:ab):(tick h).tr=h.tr:=rfl
theorem cx{b off n:Nat}{ro:Bool}{o s:Nat}(hb:h.tr.get b=some (.aC cs ro o s))(hl:off+n<=cs.length):aV h b off n=some ((cs.drop off).take n):=by
 unfold aV;rw[hb];have:((cs.drop off).take n).length=n:=by simp;omega
 simp[this]
theorem aB(h:ab)(b off n:Nat):aV (tick h) b off n=aV h b off n:=rfl
def put(h:ab)(b off:Nat)(cs vs:List Value)(o:Nat):ab:= {h with clock:=h.clock+1,tr:=h.tr.set b (.aC (aR cs off vs) false o h.clock)}
theorem RH{b off:Nat}{o s:Nat}(hb:h.tr.get b=some (.aC cs false o s))(hl:off+vs.length<=cs.length):jz h b off vs=some (put h b off cs vs o):=by
 unfold jz;rw[hb];simp[hl,put]
@[simp] theorem aA(h:ab)(b off:Nat)(cs vs:List Value)(o:Nat):(put h b off cs vs o).tr.get b=some (.aC (aR cs off vs) false o h.clock):=by simp[put,Tr.aW]
theorem aJ(ok:bl h){b off:Nat}{o s:Nat}(hb:h.tr.get b=some (.aC cs false o s)):aa (· =b) h (put h b off cs vs o):=by
 refine⟨dH _,Nat.le_succ _,fun x hx hn=>?_,⟨fun x ob hx=>?_,fun x TR ro o' s' hx=>?_⟩⟩
 .simp only[put,Tr.aW];rw[bc hn]
 .simp only[put,Tr.aW] at hx⊢;by_cases e:x=b
  .subst e;exact ok.wf _ _ hb
  .rw[bc e] at hx;exact ok.wf x ob hx
 .simp only[put,Tr.aW] at hx⊢;by_cases e:x=b
  .rw[aY e] at hx;cases hx;exact Nat.le_succ _
  .rw[bc e] at hx;exact Nat.le_succ_of_le (ok.st x TR ro o' s' hx)
theorem kq(ok:bl h)(b:Nat):aa (· =b) h {h with tr:=h.tr.del b} :=by
 refine⟨dH _,dH _,fun x hx hn=>?_,⟨fun x ob hx=>?_,fun x TR ro o' s' hx=>?_⟩⟩
 .simp only[Tr.nq];rw[bc hn]
 .simp only[Tr.nq] at hx⊢;by_cases e:x=b
  .rw[aY e] at hx;cases hx
  .rw[bc e] at hx;exact ok.wf x ob hx
 .simp only[Tr.nq] at hx⊢;by_cases e:x=b
  .rw[aY e] at hx;cases hx
  .rw[bc e] at hx;exact ok.st x TR ro o' s' hx
structure Enc(α:Type) where
 enc:α->List Value
 sz:Nat
 len:∀x,(enc x).length=sz
 pos:0<sz
 plain:∀x,(enc x).all plain=true
namespace Enc
variable{α:Type}(E:Enc α)
def flat(xs:List α):List Value:=xs.flatMap E.enc
@[simp] theorem Xp:E.flat []=[]:=rfl
@[simp] theorem eo(x:α)(xs:List α):E.flat (x::xs)=E.enc x++E.flat xs:=by simp[flat]
@[simp] theorem dG(xs ys:List α):E.flat (xs++ys)=E.flat xs++E.flat ys:=by simp[flat]
@[simp] theorem bh(xs:List α):(E.flat xs).length=xs.length*E.sz:=by
 induction xs with
 |nil=>simp
 |cons x xs ih=>simp[E.len,ih,tW,Nat.add_comm]
theorem jP(xs:List α)(i:Nat):(E.flat xs).drop (i*E.sz)=E.flat (xs.drop i):=by
 induction xs generalizing i with
 |nil=>simp
 |cons x xs ih=>
  cases i with
  |zero=>simp
  |succ i=>
   rw[eo,List.drop_succ_cons,<-ih i,List.drop_append,E.len,show(i+1)*E.sz-E.sz=i*E.sz by rw[tW];omega];have:(E.enc x).drop ((i+1)*E.sz)=[]:=by apply Xt;rw[E.len,tW];omega
   rw[this,List.nil_append]
theorem fE(xs:List α)(i:Nat):(E.flat xs).take (i*E.sz)=E.flat (xs.take i):=by
 induction xs generalizing i with
 |nil=>simp
 |cons x xs ih=>
  cases i with
  |zero=>simp
  |succ i=>
   rw[eo,List.take_succ_cons,eo,<-ih i,List.take_append,E.len,show(i+1)*E.sz-E.sz=i*E.sz by rw[tW];omega];have:(E.enc x).take ((i+1)*E.sz)=E.enc x:=by apply gJ_;rw[E.len,tW];omega
   rw[this]
theorem pJ(xs:List α)(i:Nat)(x:α)(h:xs[i]?=some x):((E.flat xs).drop (i*E.sz)).take E.sz=E.enc x:=by rw[jP];have hl:=(bK.mp h).1;rw[List.drop_eq_getElem_cons hl,eo,List.take_append,E.len,Nat.sub_self,List.take_zero,List.append_nil,(bK.mp h).2];exact gJ_ (by rw[E.len];exact dH _)
theorem jQ(xs:List α)(i off n:Nat)(x:α)(h:xs[i]?=some x)(hn:off+n<=E.sz):((E.flat xs).drop (i*E.sz+off)).take n=((E.enc x).drop off).take n:=by rw[<-pJ E xs i x h,<-List.drop_drop,List.drop_take,List.take_take,Nat.min_eq_left (by omega)]
theorem dS(xs:List α)(i:Nat)(x:α)(h:i<xs.length):aR (E.flat xs) (i*E.sz) (E.enc x)=E.flat (xs.set i x):=by unfold aR;rw[fE,E.len,show i*E.sz+E.sz=(i+1)*E.sz by rw[tW];omega,jP,List.set_eq_take_append_cons_drop,aY h,dG,eo,Af]
end Enc
def aL{α:Type}(E:Enc α)(h:ab)(v:Value)(xs:List α):Prop:=
 ∃a cap,v=.slice a xs.length cap/\((xs=[]/\(a=none\/∃b off,a=some ⟨b,off,none⟩))\/∃b off cs ro o s,a=some ⟨b,off,none⟩/\h.tr.get b=some (.aC cs ro o s)/\off+xs.length*E.sz<=cs.length/\(cs.drop off).take (xs.length*E.sz)=E.flat xs)
def aw(v:Value)(b:Nat):Prop:=∃off n cap,v=.slice (some ⟨b,off,none⟩) n cap
theorem aL.grow{E:Enc α}{xs:List α}(s:aL E h v xs)(ok:bl h)(g:aa S h h')(hs:∀b,aw v b->¬S b):aL E h' v xs:=by
 obtain⟨a,cap,rfl,s⟩:=s;refine⟨a,cap,rfl,?_⟩;rcases s with s|⟨b,off,cs,ro,o,st,rfl,hb,hl,hc⟩
 .exact .inl s
 .exact .inr ⟨b,off,cs,ro,o,st,rfl,g.get ok hb (hs b ⟨_,_,_,rfl⟩),hl,hc⟩
theorem aL.aX{E:Enc α}{xs:List α}(s:aL E h v xs)(ok:bl h)(g:aa aG h h'):aL E h' v xs:=s.grow ok g fun _ _ h=>h
theorem aL.nil{α:Type}(E:Enc α)(h:ab)(cap:Nat):aL E h (.slice none 0 cap) []:=⟨none,cap,rfl,.inl ⟨rfl,.inl rfl⟩⟩
theorem aL.aty(E:Enc α)(h:ab)(b off cap:Nat):aL E h (.slice (some ⟨b,off,none⟩) 0 cap) []:=⟨_,cap,rfl,.inl ⟨rfl,.inr ⟨b,off,rfl⟩⟩⟩
theorem aL.read{E:Enc α}{xs:List α}(s:aL E h v xs){x:α}(hi:xs[i]?=some x):∃b off cap,v=.slice (some ⟨b,off,none⟩) xs.length cap/\i<xs.length/\(∃cs ro o s,h.tr.get b=some (.aC cs ro o s))/\∀o n,o+n<=E.sz->aV h b (off+i*E.sz+o) n=some (((E.enc x).drop o).take n):=by
 obtain⟨a,cap,rfl,s⟩:=s;have hl:=(bK.mp hi).1;rcases s with s|⟨b,off,cs,ro,o,st,rfl,hb,cj,hc⟩
 .rw[s.1] at hl;simp at hl
 .refine⟨b,off,cap,rfl,hl,⟨_,_,_,_,hb⟩,fun o' n hn=>?_⟩;have h1:(i+1)*E.sz<=xs.length*E.sz:=FW _ hl;rw[tW] at h1;rw[cx hb (by omega)];congr 1;rw[<-E.jQ xs i o' n x hi hn,<-hc,List.drop_take,List.take_take,List.drop_drop,Nat.min_eq_left (by omega),AL]
def bJ{α:Type}(E:Enc α)(n0:Nat)(h:ab)(v:Value)(xs:List α):Prop:=
 (xs=[]/\v=.slice none 0 0)\/∃b s,v=.slice (some ⟨b,0,none⟩) xs.length xs.length/\h.tr.get b=some (.aC (E.flat xs) false E.sz s)/\xs≠[]/\n0<=b
theorem bJ.sl{E:Enc α}{xs:List α}(a:bJ E n0 h v xs):aL E h v xs:=by
 rcases a with⟨rfl,rfl⟩|⟨b,s,rfl,hb,_,_⟩
 .exact .nil E h _
 .exact⟨_,_,rfl,.inr ⟨b,0,_,_,_,_,rfl,hb,by simp,by simp[gJ_]⟩⟩
theorem bJ.grow{E:Enc α}{xs:List α}(a:bJ E n0 h v xs)(ok:bl h)(g:aa S h h')(hs:∀b,aw v b->¬S b):bJ E n0 h' v xs:=by
 rcases a with a|⟨b,s,rfl,hb,hx,hn⟩
 .exact .inl a
 .exact .inr ⟨b,s,rfl,g.get ok hb (hs b ⟨_,_,_,rfl⟩),hx,hn⟩
theorem bJ.of{E:Enc α}{xs:List α}(a:bJ E n0 h v xs)(o:aw v b):n0<=b:=by
 obtain⟨off,n,cap,rfl⟩:=o;rcases a with⟨_,h⟩|⟨b',s,h,_,_,hn⟩
 .cases h
 .cases h;exact hn
theorem v5{E:Enc α}{ys:List α}(hz:z.length=E.sz)(s:aL E h v ys):news h z false v=some (ys.length,E.flat ys):=by
 obtain⟨a,cap,rfl,s⟩:=s;rcases s with⟨rfl,rfl|⟨b,off,rfl⟩⟩|⟨b,off,cs,ro,o,st,rfl,hb,cj,hc⟩
 .simp[news]
 .simp[news]
 .cases ys with
  |nil=>simp[news]
  |cons y ys=>
   unfold news;dsimp only;rw[show Nat.beq (y::ys).length 0=false from rfl,hz,cx hb cj,hc];rfl
end Go.AI
namespace Go.AI
variable{F:Nat->Option bZ}{S:Nat->Prop}{Tn cs vs z:List Value}{To b bytes f fo fs i id k len o off s t xs:Nat}{V:Value->ab->Prop}{args:List Operand}{c v:Value}{fov:bZ}{h h' h1 h₁:ab}{rs:List EY}{ρ:eU}
section
variable(F:Nat->Option bZ)
def RQ(d:Option Nat)(l:List bm)(e:Env)(R:Env->ab->Prop):Option (Value×ab)->Prop
 |some (v,h)=>aF F l (fN e d v) h R
 |none=>False
def RO(k:Nat)(mU:List Nat)(d:Option Nat)(l:List (bm×List Nat))(e:Env)(R:Env->ab->Prop):Option (Value×ab)->Prop
 |some (v,h)=>still (fN e d v) h k mU=true/\aZ F k l (fN e d v) h R
 |none=>False
def WA(R:Value->ab->Prop)(h:ab):Option (List Value)->Prop
 |some vs=>jM vs=true/\R (result vs) h
 |none=>False
def aea(d:Option Nat)(l:List bm)(e:Env)(R:Env->ab->Prop):Value->ab->Prop:=fun v h=>aF F l (fN e d v) h R
def aaI(k:Nat)(mU:List Nat)(d:Option Nat)(l:List (bm×List Nat))(e:Env)(R:Env->ab->Prop):Value->ab->Prop:=fun v h=>still (fN e d v) h k mU=true/\aZ F k l (fN e d v) h R
end
section
variable{F:Nat->Option bZ}{Q:aO->Env->ab->Prop}{R:Env->ab->Prop}{e:Env}{h:ab}{d:Option Nat}{l:List bm}{k:Nat}{mU:List Nat}{m:List (bm×List Nat)}
@[simp] theorem agI(v:Value)(h:ab):RQ F d l e R (some (v,h))=aF F l (fN e d v) h R:=rfl
@[simp] theorem agG(v:Value)(h:ab):RO F k mU d m e R (some (v,h))=(still (fN e d v) h k mU=true/\aZ F k m (fN e d v) h R):=rfl
@[simp] theorem agH:RQ F d l e R none=False:=rfl
@[simp] theorem agF:RO F k mU d m e R none=False:=rfl
@[simp] theorem ahG(V:Value->ab->Prop)(vs:List Value):WA V h (some vs)=(jM vs=true/\V (result vs) h):=rfl
@[simp ↓] theorem aug:az F .skip e h Q↔Q .normal e h:=VB
@[simp ↓] theorem axq:az F .ret e h Q↔Q .ret e h:=ZE
@[simp ↓] theorem auf :az F (.exit id) e h Q↔Q (.exit id) e h:=Vz
@[simp ↓] theorem axr{a b:ak} :az F (.seq a b) e h Q↔az F a e h (Fg F b Q):=ZF
@[simp ↓] theorem aot{c:ak} :az F (.block id c) e h Q↔az F c e h (HI id Q):=Rg
@[simp ↓] theorem axp{l:List bm} :az F (.ops l) e h Q↔aF F l e h (Q .normal):=ZD
@[simp ↓] theorem aue{l:List (bm×List Nat)} :az F (.draw l) e h Q↔aZ F h.clock l e (tick h) (Q .normal):=Vy
@[simp ↓] theorem auh{c:Operand}{a b:ak}(hc:ev e c=.bool true):az F (.cond c a b) e h Q↔az F a e h Q:=yH hc
@[simp ↓] theorem aov{c:Operand}{a b:ak}(hc:ev e c=.bool false):az F (.cond c a b) e h Q↔az F b e h Q:=yH hc
@[simp ↓] theorem axn:aF F [] e h R↔R e h:=Y7
@[simp ↓] theorem aub:aZ F k [] e h R↔R e h:=TU
@[simp ↓] theorem q_op{op:kM}(hn:calls op=false):aF F (⟨d,none,op⟩::l) e h R↔RQ F d l e R (bV e h op):=by
 rw[rR,NO hn];constructor
 .rintro⟨v,h1,ho,hr⟩;rw[ho];exact hr
 .intro hr;cases ho:bV e h op with
  |none=>rw[ho] at hr;exact hr.elim
  |some x=>rw[ho] at hr;exact⟨_,_,rfl,hr⟩
@[simp ↓] theorem q_do{op:kM}{b:Bool}(hg:ai e t=.bool b):aF F (⟨d,some (t,b),op⟩::l) e h R↔aF F (⟨d,none,op⟩::l) e h R:=by rw[rR,v8 hg,rR];simp
@[simp ↓] theorem aud{op:kM}{b:Bool}(hg:ai e t=.bool (!b)):aF F (⟨d,some (t,b),op⟩::l) e h R↔aF F l (fN e d (.tuple #[])) h R:=by rw[rR,v8 hg];cases b<;>rfl
@[simp ↓] theorem axl{op:kM}{b:Bool}(hg:ai e t=.bool b):aZ F k ((⟨d,some (t,b),op⟩,mU)::m) e h R↔aZ F k ((⟨d,none,op⟩,mU)::m) e h R:=by rw[pb,v8 hg,pb];simp
@[simp ↓] theorem aou{op:kM}{b:Bool}(hg:ai e t=.bool (!b)):aZ F k ((⟨d,some (t,b),op⟩,mU)::m) e h R↔(still (fN e d (.tuple #[])) h k mU=true/\aZ F k m (fN e d (.tuple #[])) h R):=by rw[pb,v8 hg];cases b<;>rfl
@[simp ↓] theorem axm{op:kM}(hn:calls op=false):aZ F k ((⟨d,none,op⟩,mU)::m) e h R↔RO F k mU d m e R (bV e h op):=by
 rw[pb,NO hn];constructor
 .rintro⟨v,h1,ho,hr⟩;rw[ho];exact hr
 .intro hr;cases ho:bV e h op with
  |none=>rw[ho] at hr;exact hr.elim
  |some x=>rw[ho] at hr;exact⟨_,_,rfl,hr⟩
theorem Zu{f:Operand} :aF F (⟨d,none,.call f args⟩::l) e h R↔cP F (ev e f) (u4 e args) h (aea F d l e R):=by rw[rR,GQ];rfl
theorem S5{f:Operand} :aZ F k ((⟨d,none,.call f args⟩,mU)::m) e h R↔cP F (ev e f) (u4 e args) h (aaI F k mU d m e R):=by rw[pb,GQ];rfl
theorem aF.call{f:Nat}{args:List Operand}{V:Value->ab->Prop}(H:aE F f (u4 e args) h V)(K:∀v h',V v h'->aF F l (fN e d v) h' R):aF F (⟨d,none,.call (.func f) args⟩::l) e h R:=by rw[Zu];obtain⟨n,v,h',hr,hv⟩:=H;refine⟨n,v,h',?_,K v h' hv⟩;have:=xD hr;simpa [ev,AI.cu] using this
theorem aF.cu{f:Operand}(H:cP F (ev e f) (u4 e args) h V)(K:∀v h',V v h'->aF F l (fN e d v) h' R):aF F (⟨d,none,.call f args⟩::l) e h R:=by rw[Zu];exact H.mono K
@[simp] theorem aaE :ze rs V .normal e h↔WA V h (results e h rs):=by rw[MO];cases results e h rs<;>simp[WA]
@[simp] theorem ahf :ze rs V .ret e h↔WA V h (results e h rs):=by rw[Xm];cases results e h rs<;>simp[WA]
@[simp] theorem aiq(t:Nat)(v:Value):fN e (some t) v=Tr.set e t v:=rfl
@[simp] theorem aip(v:Value):fN e none v=e:=rfl
@[simp] theorem ap5(t:Nat):ev e (.tmp t)=ai e t:=rfl
@[simp] theorem ajz(v:Value):ev e (.const v)=v:=rfl
@[simp] theorem ahI(g:Nat):ev e (.global g)=.pointer (some ⟨g,0,none⟩):=rfl
@[simp] theorem anl(f:Nat):ev e (.func f)=.func (.func f) #[] #[]:=rfl
attribute [simp] Env.aW
@[simp] theorem ade(t:Nat):ai .nil t=.tuple #[]:=rfl
@[simp] theorem ag2(i:Nat):params e i []=e:=rfl
@[simp] theorem adZ(i:Nat)(v:Value)(r:List Value):params e i (v::r)=params (Tr.set e i v) (i+1) r:=rfl
@[simp] theorem am1:u4 e []=[]:=rfl
@[simp] theorem aiB(x:Operand)(xs:List Operand):u4 e (x::xs)=ev e x::u4 e xs:=rfl
@[simp] theorem ahC(op:kM):calls op=(match op with|.call _ _=>true|_=>false):=by cases op<;>rfl
attribute [simp] bV agg width Dm cy mu gD WY unV flat cellsOf plain uL bound results result jM yz simple still
def iQ(h:ab)(z:List Value)(bytes:Nat)(qT:Bool)(s x:Value):Option (Value×ab):=
 match news h z qT x with
 |some (n,cs)=>eA h z bytes s n cs
 |none=>none
@[simp ↓ high] theorem agR(z:List Value)(bytes:Nat)(qT:Bool)(s x:Operand):bV e h (.append z bytes qT s x)=iQ h z bytes qT (ev e s) (ev e x):=rfl
@[simp] theorem ad6(cs vs:List Value):aR cs 0 vs=vs++cs.drop vs.length:=by simp[aR]
@[simp] theorem ad5(c:Value)(cs vs:List Value)(k:Nat):aR (c::cs) (k+1) vs=c::aR cs k vs:=by simp[aR,Nat.add_right_comm k 1]
@[simp] theorem Oz(h:ab)(b off:Nat)(vs:List Value):jz h b off vs=match h.tr.get b with
  |some (.aC cs false o _)=>if off+vs.length<=cs.length then some (put h b off cs vs o) else none
  |_=>none:=by
 unfold jz;cases h.tr.get b with
 |none=>rfl
 |some x=>
  cases x with
  |aC cs ro o s=>
   cases ro with
   |true=>rfl
   |false=>
    dsimp only;by_cases hl:off+vs.length<=cs.length<;>simp[hl,put]
  |loop=>rfl
  |map=>rfl
  |itr=>rfl
@[simp] theorem ae(h:ab)(b off n:Nat):aV h b off n=match h.tr.get b with
  |some (.aC cs _ _ _)=>if off+n<=cs.length then some ((cs.drop off).take n) else if n=0 then some [] else none
  |_=>none:=by
 unfold aV;cases h.tr.get b with
 |none=>rfl
 |some x=>
  cases x with
  |aC cs ro o s=>
   dsimp only;have he:((cs.drop off).take n).length=min n (cs.length-off):=by simp
   by_cases hl:off+n<=cs.length
   .have:((cs.drop off).take n).length=n:=by omega
    simp[hl,this]
   .simp only[hl,if_false];by_cases hn:n=0
    .subst hn;simp
    .have:¬((cs.drop off).take n).length=n:=by omega
     have hb:Nat.beq ((cs.drop off).take n).length n=false:=by
      cases hb:Nat.beq ((cs.drop off).take n).length n with
      |true=>exact absurd (qW hb) this
      |false=>rfl
     simp only[hb,hn,if_false,Sp]
  |loop=>rfl
  |map=>rfl
  |itr=>rfl
theorem xJ(h:ab)(cs:List Value)(o b:Nat):(aD h cs o).tr.get b=if b=h.next then some (.aC cs false o 0) else h.tr.get b:=by simp[aD,ab.new,Tr.aW]
theorem nr(h:ab)(b off:Nat)(cs vs:List Value)(o j:Nat):(put h b off cs vs o).tr.get j=if j=b then some (.aC (aR cs off vs) false o h.clock) else h.tr.get j:=by simp[put,Tr.aW]
attribute [simp] xJ nr
@[simp] theorem amd(h:ab)(b off:Nat)(cs vs:List Value)(o:Nat):(put h b off cs vs o).next=h.next:=rfl
@[simp] theorem ahD(h:ab)(b off:Nat)(cs vs:List Value)(o:Nat):(put h b off cs vs o).clock=h.clock+1:=rfl
@[simp] theorem aew(h:ab):(tick h).clock=h.clock+1:=rfl
theorem aa.new(g:aa S h h₁)(cs:List Value)(o:Nat):aa S h (aD h₁ cs o):=g.trans (aH g.ok cs o).aX
theorem aa.tick{S:Nat->Prop}{h h₁:ab}(g:aa S h h₁):aa S h (tick h₁):=g.trans (aS g.ok).aX
theorem aa.put{S:Nat->Prop}{h h₁:ab}{b off:Nat}{cs vs:List Value}{o:Nat}(g:aa S h h₁)(hb:∃s,h₁.tr.get b=some (.aC cs false o s))(hn:h.next<=b\/S b):aa S h (put h₁ b off cs vs o):=by
 obtain⟨s,hb⟩:=hb;refine g.trans' (aJ g.ok hb) (fun _ _ h=>h) fun x hx e=>?_;rcases hn with hn|hn
 .omega
 .rw[e];exact hn
@[simp] theorem ajb(p:Value->Bool):([]:List Value).all p=true:=rfl
end
section
variable{F:Nat->Option bZ}{Q:aO->Env->ab->Prop}{e:Env}{h:ab}
def zq(h:ab)(l:Nat):ab:= {h with tr:=h.tr.del l}
def rZ(l:Nat)(e:Env)(Q:aO->Env->ab->Prop)(h:ab):Prop:=
 match h.tr.get l with
 |some (.loop _ _ _ _ .ready)=>Q .normal e (zq h l)
 |some (.loop _ _ _ _ (.done none))=>Q .ret e (zq h l)
 |some (.loop _ _ _ _ (.done (some id)))=>Q (.exit id) e (zq h l)
 |_=>False
theorem az.ET{f:Operand}{ps:List Nat}{asg body:ak}{g:Nat}{first caps:Array Value}(hf:ev e f=.func (.func g) first caps)(H:aE F g (first.toList++[.func (.yield h.next) #[] #[]]++caps.toList) (h.new (.loop e ps asg body .ready)) (fun _ h'=>rZ h.next e Q h')):az F (.ET f ps asg body) e h Q:=by
 obtain⟨n,v,h',hr,hq⟩:=H;have dE:run F (n+1) (.ET f ps asg body) e h=(match h'.tr.get h.next with
    |some (.loop _ _ _ _ .ready)=>some (.normal,e,{h' with tr:=h'.tr.del h.next})
    |some (.loop _ _ _ _ (.done none))=>some (.ret,e,{h' with tr:=h'.tr.del h.next})
    |some (.loop _ _ _ _ (.done (some id)))=>some (.exit id,e,{h' with tr:=h'.tr.del h.next})
    |_=>none):=by
  rw[dR];unfold cm;dsimp only;rw[hf];dsimp only;rw[hr];rfl
 unfold rZ at hq;split at hq
 .rename_i hg;rw[hg] at dE;exact⟨n+1,_,_,_,dE,hq⟩
 .rename_i hg;rw[hg] at dE;exact⟨n+1,_,_,_,dE,hq⟩
 .rename_i hg;rw[hg] at dE;exact⟨n+1,_,_,_,dE,hq⟩
 .exact hq.elim
def WO(l:Nat)(env:Env)(ps:List Nat)(asg body:ak)(R:Value->ab->Prop):aO->Env->ab->Prop
 |.normal,_,h=>(∃a b c d,h.tr.get l=some (.loop a b c d .busy)/\a=env/\b=ps/\c=asg/\d=body)/\R (.bool true) (gM h l env ps asg body .ready)
 |.ret,_,h=>(∃a b c d,h.tr.get l=some (.loop a b c d .busy)/\a=env/\b=ps/\c=asg/\d=body)/\R (.bool false) (gM h l env ps asg body (.done none))
 |.exit id,_,h=>(∃a b c d,h.tr.get l=some (.loop a b c d .busy)/\a=env/\b=ps/\c=asg/\d=body)/\R (.bool false) (gM h l env ps asg body (.done (some id)))
theorem cP.yield{l:Nat}{env:Env}{ps:List Nat}{asg body:ak}{a b:Array Value}{args:List Value}{R:Value->ab->Prop}{e1:Env}(hl:h.tr.get l=some (.loop env ps asg body .ready))(hs:jb env ps args=some e1)(H:az F asg e1 h (fun x e2 h2=>x=.normal/\h2.tr.get l=some (.loop env ps asg body .ready)/\az F body e2 (gM h2 l env ps asg body .busy) (WO l env ps asg body R))):cP F (.func (.yield l) a b) args h R:=by
 obtain⟨n,x,e2,h2,hr,rfl,uO,m,y,e3,h3,hr3,hq⟩:=H;have hra:=u0 (Nat.le_max_left n m) _ _ _ _ hr;have Qn:=u0 (Nat.le_max_right n m) _ _ _ _ hr3;have key:cu F (run F (max n m)) (.func (.yield l) a b) args h=(match(y,e3,h3) with
   |(.normal,_,h)=>pG l h .ready true
   |(.ret,_,h)=>pG l h (.done none) false
   |(.exit id,_,h)=>pG l h (.done (some id)) false:Option (Value×ab)):=by
  clear hq;unfold cu;dsimp only;unfold wz;rw[hl];dsimp only;rw[hs];dsimp only;rw[hra];dsimp only;unfold AE;rw[uO];dsimp only;simp only[Qn];cases y<;>rfl
 cases y with
 |normal=>
  obtain⟨⟨_,_,_,_,hg,rfl,rfl,rfl,rfl⟩,hq⟩:=hq;exact⟨max n m,_,_,by rw[key];dsimp only;unfold pG;rw[hg],hq⟩
 |ret=>
  obtain⟨⟨_,_,_,_,hg,rfl,rfl,rfl,rfl⟩,hq⟩:=hq;exact⟨max n m,_,_,by rw[key];dsimp only;unfold pG;rw[hg],hq⟩
 |exit id=>
  obtain⟨⟨_,_,_,_,hg,rfl,rfl,rfl,rfl⟩,hq⟩:=hq;exact⟨max n m,_,_,by rw[key];dsimp only;unfold pG;rw[hg],hq⟩
end
theorem wrap_i64(n:Int)(h: -9223372036854775808<=n)(h':n<9223372036854775808):IntKind.i64.wrap n=n:=by simp only[IntKind.wrap,IntKind.signed,IntKind.bits];simp;omega
theorem Cv{α:Type}{E:Enc α}{n0:Nat}{xs:List α}(ok:bl h)(a:bJ E n0 h v xs)(o:aw v b):b<h.next:=by
 obtain⟨off,n,cap,rfl⟩:=o;rcases a with⟨_,e⟩|⟨b',s,e,hb,_,_⟩
 .cases e
 .cases e;exact ok.wf _ _ hb
def Old(b:Nat)(h:ab):Prop:=b<h.next
theorem Old.lt(o:Old b h):b<h.next:=o
@[simp] theorem Wo(h:ab)(cs:List Value)(o:Nat):Old h.next (aD h cs o):=Nat.lt_succ_self _
@[simp] theorem U4(h:ab)(cs:List Value)(o:Nat):Old h.next (aD h cs o)=True:=by simp
@[simp] theorem aon(b:Nat)(h:ab)(c off:Nat)(cs vs:List Value)(o:Nat):Old b (put h c off cs vs o)↔Old b h:=Iff.rfl
@[simp] theorem amo(b:Nat)(h:ab):Old b (tick h)↔Old b h:=Iff.rfl
@[simp] theorem agO(H:Old b h):Old b (aD h cs o):=Nat.lt_succ_of_lt H
@[simp] theorem atI(H:Old b h):(b=h.next)=False:=by have:b<h.next:=H;exact propext ⟨fun e=>by omega,False.elim⟩
@[simp] theorem aol(H:Old b h):(h.next=b)=False:=by have:b<h.next:=H;exact propext ⟨fun e=>by omega,False.elim⟩
@[simp] theorem aom(H:Old b h):(b=h.next+k)=False:=by have:b<h.next:=H;exact propext ⟨fun e=>by omega,False.elim⟩
@[simp] theorem amn(H:Old b h):(h.next+k=b)=False:=by have:b<h.next:=H;exact propext ⟨fun e=>by omega,False.elim⟩
theorem aa.bE(g:aa S h h')(H:Old b h):Old b h':=En H g.next
theorem aa.got(g:aa aG h h')(H:Old b h):h'.tr.get b=h.tr.get b:=g.same b H (fun h=>h)
theorem bl.bE(ok:bl h){o:rV}(hb:h.tr.get b=some o):Old b h:=ok.wf _ _ hb
theorem aa.var(g:aa S h h₁)(zs vs:List Value):aa S h (AI.put (AI.aD h₁ zs 0) h₁.next 0 zs vs 0):=
 (g.new zs 0).put ⟨_,bq _ _ _⟩ (.inl g.next)
theorem FT(H:Old b h)(cs:List Value)(o:Nat):(aD h cs o).tr.get b=h.tr.get b:=by rw[xJ,bc (by intro e;have:=H.lt;omega)]
theorem aN(H:Old b h)(cs:List Value)(o off n:Nat):aV (aD h cs o) b off n=aV h b off n:=by unfold aV;rw[xJ,bc (by intro e;have:=H.lt;omega)]
theorem bj{b c:Nat}(H:¬b=c)(cs vs:List Value)(o off QU n:Nat):aV (put h c QU cs vs o) b off n=aV h b off n:=by unfold aV;rw[nr,bc H]
theorem aq{ro:Bool}(hb:h.tr.get b=some (.aC cs ro o s))(off n:Nat):aV h b off n=if off+n<=cs.length then some ((cs.drop off).take n) else if n=0 then some [] else none:=by rw[ae,hb]
theorem au(h:ab)(b QU:Nat)(cs vs:List Value)(o off n:Nat):aV (put h b QU cs vs o) b off n=if off+n<=(aR cs QU vs).length then some (((aR cs QU vs).drop off).take n) else if n=0 then some [] else none:=
 aq (aA h b QU cs vs o) off n
theorem jx(h:ab)(cs:List Value)(o off n:Nat):aV (aD h cs o) h.next off n=if off+n<=cs.length then some ((cs.drop off).take n) else if n=0 then some [] else none:=
 aq (bq h cs o) off n
theorem FU(o:rV)(H:Old b h):(h.new o).tr.get b=h.tr.get b:=by simp only[ab.new,Tr.aW];rw[bc (by intro e;have:=H.lt;omega)]
theorem rZ.ready{l:Nat}{e:Env}{QQ:aO->Env->ab->Prop}{h:ab}{a:Env}{b:List Nat}{c d:ak}(hl:h.tr.get l=some (.loop a b c d .ready))(H:QQ .normal e (zq h l)):rZ l e QQ h:=by unfold rZ;rw[hl];exact H
section
variable{F:Nat->Option bZ}{Q:aO->Env->ab->Prop}{R:Env->ab->Prop}{e:Env}{h:ab}{l:List bm}{k:Nat}{m:List (bm×List Nat)}
theorem az.cut{c:ak}(P:ab->Prop)(hp:P h1)(K:∀h',P h'->az F c e h' Q):az F c e h1 Q:=K h1 hp
theorem aF.cut(P:ab->Prop)(hp:P h1)(K:∀h',P h'->aF F l e h' R):aF F l e h1 R:=K h1 hp
theorem aZ.cut(P:ab->Prop)(hp:P h1)(K:∀h',P h'->aZ F k m e h' R):aZ F k m e h1 R:=K h1 hp
theorem aZ.call{d:Option Nat}{f:Nat}{args:List Operand}{mU:List Nat}{V:Value->ab->Prop}(H:aE F f (u4 e args) h V)(K:∀v h',V v h'->still (fN e d v) h' k mU=true/\aZ F k m (fN e d v) h' R):aZ F k ((⟨d,none,.call (.func f) args⟩,mU)::m) e h R:=by rw[S5];obtain⟨n,v,h',hr,hv⟩:=H;refine⟨n,v,h',?_,K v h' hv⟩;have:=xD hr;simpa [ev,AI.cu] using this
theorem aZ.cu{d:Option Nat}{f:Operand}{mU:List Nat}(H:cP F (ev e f) (u4 e args) h V)(K:∀v h',V v h'->still (fN e d v) h' k mU=true/\aZ F k m (fN e d v) h' R):aZ F k ((⟨d,none,.call f args⟩,mU)::m) e h R:=by rw[S5];exact H.mono K
end
def uk(z:List Value)(o bytes fo fs:Nat):ak:=(G_ [o_ 6 (.mv (.const (.slice none 0 0)))] (G_ [m_ 10 0,m_ 11 1,o_ 12 (.slice o (t_ 10) (some (t_ 11)) none none)] (G_ [m_ 13 2,z_ 14 13,m_ 7 14] (J_ (G_ [m_ 15 7,o_ 16 (.bin .eql [1] (t_ 15) (i_ 0))] (I_ 16 (G_ [m_ 17 0,m_ 6 17] .ret) .skip)) (G_ [m_ 18 0,z_ 19 18,m_ 8 19] (J_ (G_ [m_ 20 1,m_ 21 8,o_ 22 (.bin .eql [1] (t_ 20) (t_ 21))] (I_ 22 (G_ [m_ 23 0,m_ 24 2,o_ 25 (.append z bytes false (t_ 23) (t_ 24)),m_ 6 25] .ret) .skip)) (J_ (G_ [m_ 26 8,m_ 27 7,B_ 28 .add 26 27,m_ 29 0,o_ 30 (.Pq (t_ 29)),B_ 31 .gtr 28 30] (I_ 31 (G_ [m_ 32 0,m_ 33 1,o_ 34 (.slice o (t_ 32) none (some (t_ 33)) none),m_ 35 8,m_ 36 7,B_ 37 .add 35 36,m_ 38 1,B_ 39 .sub 37 38,o_ 40 (.append z bytes true (t_ 34) (t_ 39)),m_ 9 40] (G_ [m_ 41 9,m_ 42 1,o_ 43 (.slice o (t_ 41) (some (t_ 42)) none none),m_ 44 2,o_ 45 (.copy o (t_ 43) (t_ 44))] (J_ (V_ [D_ (m_ 46 9),D_ (m_ 47 1),D_ (m_ 48 7),D_ (B_ 49 .add 47 48),(o_ 50 (.slice o (t_ 46) (some (t_ 49)) none none),[]),D_ (m_ 51 0),D_ (m_ 52 1),(o_ 53 (.slice o (t_ 51) (some (t_ 52)) none none),[]),(o_ 54 (.copy o (t_ 50) (t_ 53)),[])]) (G_ [m_ 55 9,m_ 6 55] .ret)))) .skip)) (G_ [m_ 56 0,m_ 57 8,m_ 58 7,B_ 59 .add 57 58,o_ 60 (.slice o (t_ 56) none (some (t_ 59)) none),m_ 0 60] (J_ (G_ [m_ 61 2,m_ 62 0,m_ 63 1,m_ 64 7,B_ 65 .add 63 64,o_ 66 (.slice o (t_ 62) (some (t_ 65)) none none),o_ 67 (.call (.func fo) [t_ 61,t_ 66]),o_ 68 (.un .not (t_ 67))] (I_ 68 (J_ (V_ [D_ (m_ 69 0),D_ (m_ 70 1),D_ (m_ 71 7),D_ (B_ 72 .add 70 71),(o_ 73 (.slice o (t_ 69) (some (t_ 72)) none none),[]),D_ (m_ 74 0),D_ (m_ 75 1),(o_ 76 (.slice o (t_ 74) (some (t_ 75)) none none),[]),(o_ 77 (.copy o (t_ 73) (t_ 76)),[])]) (G_ [m_ 78 0,m_ 79 1,o_ 80 (.slice o (t_ 78) (some (t_ 79)) none none),m_ 81 2,o_ 82 (.copy o (t_ 80) (t_ 81))] (G_ [m_ 83 0,m_ 6 83] .ret))) .skip)) (G_ [m_ 84 0,m_ 85 8,o_ 86 (.slice o (t_ 84) (some (t_ 85)) none none),m_ 87 2,o_ 88 (.copy o (t_ 86) (t_ 87))] (G_ [m_ 89 0,m_ 90 1,o_ 91 (.slice o (t_ 89) (some (t_ 90)) none none),m_ 92 7,o_ 93 (.call (.func fs) [t_ 91,t_ 92])] (G_ [m_ 94 0,m_ 6 94] .ret))))))))))))
def aK(cs vs:List Value)(off i len o:Nat):List Value:=(cs.drop off).take (i*o)++vs++(cs.drop (off+i*o)).take ((len-i)*o)
theorem agv(hv:vs.length=o)(hi:i<len)(hl:off+(len+1)*o<=cs.length):aR (aR cs (off+(i+1)*o) ((cs.drop (off+i*o)).take ((len-i)*o))) (off+i*o) vs=cs.take off++aK cs vs off i len o++cs.drop (off+(len+1)*o):=by
 have e2:(i+1)*o=i*o+o:=by rw[tW];omega
 have e3:(len+1)*o=len*o+o:=by rw[tW];omega
 have e4:i*o+(len-i)*o=len*o:=by rw[<-tW];congr 1;omega
 have hT:((cs.drop (off+i*o)).take ((len-i)*o)).length=(len-i)*o:=by simp;omega
 unfold aR aK;rw[hT,hv];have a1:(cs.take (off+(i+1)*o)++(cs.drop (off+i*o)).take ((len-i)*o)++cs.drop (off+(i+1)*o+(len-i)*o)).take (off+i*o)=cs.take off++(cs.drop off).take (i*o):=by rw[Af,List.take_append_of_le_length (by simp;omega),List.take_take,Nat.min_eq_left (by omega),List.take_add]
 have a2:(cs.take (off+(i+1)*o)++(cs.drop (off+i*o)).take ((len-i)*o)++cs.drop (off+(i+1)*o+(len-i)*o)).drop (off+i*o+o)=(cs.drop (off+i*o)).take ((len-i)*o)++cs.drop (off+(len+1)*o):=by
  rw[Af,List.drop_append,List.length_take,Nat.min_eq_left (by omega),show off+i*o+o-(off+(i+1)*o)=0 by omega,List.drop_zero,Xt (by simp;omega),List.nil_append,show off+(i+1)*o+(len-i)*o=off+(len+1)*o by omega]
 rw[a1,a2];simp only[Af]
theorem Yz(hf:F f=some ⟨[.tmp 6],uk z o bytes fo fs,.no⟩)(Up:F fo=some fov)(Co:fov.CW=.Q1)(ho:0<o){b off len cap i x xo xc:Nat}(hi:i<len)(CF:len<cap)(cj:len<1000000)(hb:h.tr.get b=some (.aC cs false 0 s))(hl:off+cap*o<=cs.length)(hx:h.tr.get x=some (.aC Tn false To xs))(vA:aV h x xo o=some vs)(Wb:b≠x):aE F f [.slice (some ⟨b,off,none⟩) len cap,.int .i64 i,.slice (some ⟨x,xo,none⟩) 1 xc] h (fun v h'=>v=.slice (some ⟨b,off,none⟩) (len+1) cap/\h'.next=h.next/\h.clock<=h'.clock/\(∀y,y<h.next->y≠b->h'.tr.get y=h.tr.get y)/\∃s',h'.tr.get b=some (.aC (cs.take off++aK cs vs off i len o++cs.drop (off+(len+1)*o)) false 0 s')):=by
 obtain⟨L,hL⟩:∃L,L=len+1:=⟨_,rfl⟩;obtain⟨I,hI⟩:∃I,I=i+1:=⟨_,rfl⟩;rw[<-hL];have w1:IntKind.i64.wrap ((len:Int)+1)=(L:Int):=by rw[wrap_i64 _ (by omega) (by omega)];omega
 have w3:IntKind.i64.wrap ((i:Int)+1)=(I:Int):=by rw[wrap_i64 _ (by omega) (by omega)];omega
 have q1:((i:Int)==(len:Int))=false:=by simp;omega
 have q2:¬cap<L:=by omega
 have q2':L<=cap:=by omega
 have q3:i<=len:=by omega
 have q6:i<=L:=by omega
 have q7:I<=L:=by omega
 have q8:Nat.min 1 (L-i)=1:=by show min 1 (L-i)=1;omega
 have q9:Nat.min (L-i) (L-I)=len-i:=by show min (L-i) (L-I)=len-i;omega
 have AQ:¬len-i=0:=by omega
 have m1:i*o+(len-i)*o=len*o:=by rw[<-tW];congr 1;omega
 have m2:L*o=len*o+o:=by rw[hL,tW];omega
 have m3:I*o=i*o+o:=by rw[hI,tW];omega
 have m4:L*o<=cap*o:=FW _ q2';have hlv:vs.length=o:=by
  unfold aV at vA;rw[hx] at vA;dsimp only at vA;split at vA
  .rename_i hh;cases vA;exact qW hh
  .cases vA
 have JA:aV h b (off+i*o) ((len-i)*o)=some ((cs.drop (off+i*o)).take ((len-i)*o)):=cx hb (by omega);have yE:((cs.drop (off+i*o)).take ((len-i)*o)).length=(len-i)*o:=by simp;omega
 have wX:min ((len-i)*o) (cs.length-(off+i*o))=(len-i)*o:=by omega
 have Ha:off+I*o+(len-i)*o<=cs.length:=by omega
 have Wp:(aR cs (off+I*o) ((cs.drop (off+i*o)).take ((len-i)*o))).length=cs.length:=by simp[aR];omega
 have Zs:off+i*o+o<=cs.length:=by omega
 have NY:¬x=b:=fun e=>Wb e.symm;refine aE.of hf ?_;unfold uk;simp[w1,w3,q1,q2,q2',q3,q6,q7,q8,q9,AQ,hb];refine aF.cu (V:=fun v h'=>v=.bool false/\h'=h) (cP.Q1 Up Co (v:=.bool false) (h':=h) ?_ ⟨rfl,rfl⟩) ?_
 .have Gg:Nat.beq x b=false:=by
   cases e:Nat.beq x b with
   |true=>exact absurd (qW e) NY
   |false=>rfl
  simp[Vd,hx,hb,Gg]
 rintro _ h'⟨rfl,e⟩;subst e;simp[w1,w3,q1,q2,q2',q3,q6,q7,q8,q9,AQ,hb,JA,aB,bj,vA,hlv,yE,wX,Ha,Wp,Zs,NY,-ae];refine⟨by omega,fun y _ hy=>by simp[hy],?_⟩;rw[hI,hL,agv hlv hi (by rw[<-hL];omega)];simp only[Af]
section
variable{P:Program}{CC:cn}{ρ ρ₂:eU}{h h₂:ab}{w w₂:World}
theorem Xf(k:KR ρ v c)(hv:cr v=true):cr c=true:=by
 cases k with
 |cell k=>cases k<;>first|exact hv|cases hv
 |fn=>cases hv
 |yield=>cases hv
end
section
variable{P:Program}{T:r8}{ng:Nat}{F:Nat->Option bZ}
theorem Pj{a b c:Value}{l:List Value}(h:All2 (VR ρ) [a,b,c] l):∃x y z,l=[x,y,z]/\VR ρ a x/\VR ρ b y/\VR ρ c z:=by
 cases h with
 |cons h1 h=>cases h with
  |cons h2 h=>cases h with
   |cons h3 h=>cases h with
    |nil=>exact⟨_,_,_,rfl,h1,h2,h3⟩
theorem gu{b o len cap:Nat}(h:VR ρ (.slice (some ⟨b,o,none⟩) len cap) c):∃r ca ccap,ρ b=some r/\ua r o len cap ca ccap/\c=.slice (some ca) len ccap:=by
 have:=CR.Js h rfl;cases this with
 |slice h' hs=>exact⟨_,_,_,h',hs,rfl⟩
end
def LK(F:Nat->Option bZ)(fo:Nat)(f:Nat):Option bZ:=bif Nat.beq f fo then some ⟨[],.bad,.Q1⟩ else F f
section
variable{P:Program}{T:r8}{ng:Nat}{F:Nat->Option bZ}
theorem RE{dr:u9}(hF:Hx P T ng dr F)(ho:RS P T fo):Hx P T ng dr (LK F fo):=by
 intro f af h;unfold LK at h;cases hb:Nat.beq f fo with
 |true=>
  rw[hb] at h;cases h;rw[qW hb];exact ho
 |false=>rw[hb] at h;exact hF f af h
end
theorem abL(hf:F f=some ⟨[.tmp 6],uk z o bytes fo fs,.no⟩)(hz:z.length=o)(ho:0<o)(Eo:bytes<=1000){b off len cap x xo xc:Nat}(CF:len<cap)(cj:len<1000000)(hb:h.tr.get b=some (.aC cs false 0 s))(hl:off+cap*o<=cs.length)(hx:h.tr.get x=some (.aC Tn false To xs))(vA:aV h x xo o=some vs):aE F f [.slice (some ⟨b,off,none⟩) len cap,.int .i64 len,.slice (some ⟨x,xo,none⟩) 1 xc] h (fun v h'=>v=.slice (some ⟨b,off,none⟩) (len+1) cap/\h'.next=h.next/\h.clock<=h'.clock/\(∀y,y<h.next->y≠b->h'.tr.get y=h.tr.get y)/\∃s',h'.tr.get b=some (.aC (aR cs (off+len*o) vs) false 0 s')):=by
 obtain⟨L,hL⟩:∃L,L=len+1:=⟨_,rfl⟩;rw[<-hL];have q2:L<=cap:=by omega
 have m2:L*o=len*o+o:=by rw[hL,tW];omega
 have m4:L*o<=cap*o:=FW _ q2;have hlv:vs.length=o:=by
  unfold aV at vA;rw[hx] at vA;dsimp only at vA;split at vA
  .rename_i hh;cases vA;exact qW hh
  .cases vA
 have r1:roomy L=true:=by simp[roomy];omega
 have r2:roomy (L*bytes)=true:=by have:L*bytes<=1000000*1000:=Nat.mul_le_mul (by omega) Eo;simp[roomy];omega
 have q5:off+len*o+o<=cs.length:=by omega
 refine aE.of hf ?_;unfold uk;simp[hz,ho,hb,hx,vA,iQ,news,eA,<-hL,r1,r2,q2,jz,hlv,q5,-ae];exact⟨fun y _ hy=>by simp[Tr.aW,hy],h.clock,by simp[Tr.aW]⟩
theorem Jg(hf:F f=some ⟨[.tmp 6],uk z o bytes fo fs,.no⟩)(Up:F fo=some fov)(Co:fov.CW=.Q1)(hz:z.length=o)(ho:0<o)(Eo:bytes<=1000){b off len cap i x xo xc:Nat}(hi:i<=len)(CF:len<cap)(cj:len<1000000)(hb:h.tr.get b=some (.aC cs false 0 s))(hl:off+cap*o<=cs.length)(hx:h.tr.get x=some (.aC Tn false To xs))(vA:aV h x xo o=some vs)(Wb:b≠x):aE F f [.slice (some ⟨b,off,none⟩) len cap,.int .i64 i,.slice (some ⟨x,xo,none⟩) 1 xc] h (fun v h'=>v=.slice (some ⟨b,off,none⟩) (len+1) cap/\h'.next=h.next/\h.clock<=h'.clock/\(∀y,y<h.next->y≠b->h'.tr.get y=h.tr.get y)/\∃s',h'.tr.get b=some (.aC (cs.take off++aK cs vs off i len o++cs.drop (off+(len+1)*o)) false 0 s')):=by
 rcases Ae i len with h1|h1
 .exact Yz hf Up Co ho h1 CF cj hb hl hx vA Wb
 .have:i=len:=by omega
  subst this;have m2:(i+1)*o=i*o+o:=by rw[tW];omega
  have m4:(i+1)*o<=cap*o:=FW _ (by omega);have hlv:vs.length=o:=by
   unfold aV at vA;rw[hx] at vA;dsimp only at vA;split at vA
   .rename_i hh;cases vA;exact qW hh
   .cases vA
  have e:cs.take off++aK cs vs off i i o++cs.drop (off+(i+1)*o)=aR cs (off+i*o) vs:=by unfold aK aR;rw[Nat.sub_self,Nat.zero_mul,List.take_zero,List.append_nil,<-Af,<-List.take_add,hlv,m2,AL]
  rw[e];exact abL hf hz ho Eo CF cj hb hl hx vA
def rmV(o:Nat)(args:List Value)(h:ab):Option (Value×ab):=
 match args with
 |[.slice (some ⟨b,off,none⟩) len cap,.int .i64 (.ofNat i),.slice (some ⟨x,xo,none⟩) m _]=>
  match h.tr.get b,h.tr.get x with
  |some (.aC cs false op _),some (.aC _ false _ _)=>
   if Nat.ble i len&&Nat.blt len cap&&Nat.beq m 1&&(Nat.beq op o||Nat.beq op 0)&&Nat.ble (off+cap*o) cs.length&& !(Nat.beq b x)&&Nat.blt len 1000000 then
    match aV h x xo o with
    |some vs=>some (.slice (some ⟨b,off,none⟩) (len+1) cap,{put h b off cs (aK cs vs off i len o) op with next:=h.next+8})
    |none=>none
   else none
  |_,_=>none
 |_=>none
theorem S6{args:List Value}(hv:rmV o args h=some (v,h')):∃b off len cap i x xo xc cs op s Tn To xs vs,args=[.slice (some ⟨b,off,none⟩) len cap,.int .i64 (.ofNat i),.slice (some ⟨x,xo,none⟩) 1 xc]/\h.tr.get b=some (.aC cs false op s)/\h.tr.get x=some (.aC Tn false To xs)/\i<=len/\len<cap/\(op=o\/op=0)/\off+cap*o<=cs.length/\b≠x/\len<1000000/\aV h x xo o=some vs/\v=.slice (some ⟨b,off,none⟩) (len+1) cap/\h'= {put h b off cs (aK cs vs off i len o) op with next:=h.next+8} :=by
 unfold rmV at hv;split at hv
 .rename_i b off len cap i x xo m xc;split at hv
  .rename_i cs op s Tn To xs hb hx;split at hv
   .rename_i hc;simp only[zr,Bool.not_eq_true',Bool.or_eq_true] at hc;obtain⟨⟨⟨⟨⟨⟨h1,h2⟩,h3⟩,h4⟩,h5⟩,h6⟩,h7⟩:=hc;split at hv
    .rename_i vs vA;cases hv;have e3:=qW h3;subst e3;refine⟨b,off,len,cap,i,x,xo,xc,cs,op,s,Tn,To,xs,vs,rfl,hb,hx,OJ h1,by simpa [Nat.blt_eq] using h2,h4.imp qW qW,OJ h5,?_,by simpa [Nat.blt_eq] using h7,vA,rfl,rfl⟩;rintro rfl;rw[Nat.beq_refl] at h6;cases h6
    .cases hv
   .cases hv
  .cases hv
 .cases hv
theorem JC{args:List Value}(hv:rmV o args h=some (v,h')):dN h h':=by
 obtain⟨b,off,len,cap,i,x,xo,xc,cs,op,s,Tn,To,xs,vs,_,hb,_,_,_,_,_,_,_,_,_,rfl⟩:=S6 hv;have dW:∀y,({put h b off cs (aK cs vs off i len o) op with next:=h.next+8} :ab).tr.get y=if y=b then some (.aC (aR cs off (aK cs vs off i len o)) false op h.clock) else h.tr.get y:=by intro y;simp only[put,Tr.aW]
 refine⟨Nat.le_add_right _ _,Nat.le_succ _,?_,?_,?_⟩
 .intro y TR ro o' s' hy hg hs;rw[dW] at hg;by_cases e:y=b
  .rw[aY e] at hg;cases hg;omega
  .rwa [bc e] at hg
 .intro hwf y ob hg;rw[dW] at hg;show y<h.next+8;by_cases e:y=b
  .have:=hwf b _ hb;omega
  .rw[bc e] at hg;have:=hwf y ob hg;omega
 .intro y hy hg;rw[dW] at hg;by_cases e:y=b
  .rw[aY e] at hg;cases hg
  .rwa [bc e] at hg
section
variable{CC:cn}{ρ:eU}{h h':ab}{w:World}
theorem dI.swap(S:dI CC ρ h w){r rk:zP}{ok ob:rV}(hk:ρ k=some rk)(eX:h.tr.get k=some ok)(hrw:ok.rw=true)(hb:ρ b=some r)(HD:r.aC=rk.aC)(hob:h'.tr.get b=some ob)(hO:jA CC ρ r ob w)(hn:h.next<=h'.next)(hs:∀y o,y≠b->h'.tr.get y=some o->y≠k/\∃o',h.tr.get y=some o'/\o=o'):dI CC ρ h' w/\Ext ρ h w ρ h' w:=by
 have UA:eH h k:=⟨ok,eX,hrw⟩;refine⟨⟨fun x rx hx=>⟨En (S.low x rx hx).1 hn,(S.low x rx hx).2⟩,?_,?_,?_⟩,⟨ρ.le_refl,hn,dH _,rfl,rfl,rfl,fun _ _ _=>rfl,?_,fun x r h1 h2=>(by rw[h1] at h2;cases h2),?_⟩⟩
 .intro x rx o hx ho;by_cases e:x=b
  .subst e;rw[hb] at hx;cases hx;rw[hob] at ho;cases ho;exact hO
  .obtain⟨_,o',h1,rfl⟩:=hs x o e ho;exact S.obj x rx o hx h1
 .intro x y rx ry o hx hy ⟨q,hq,Ng⟩ ho ct;by_cases e1:x=b
  .subst e1;rw[hb] at hx;cases hx;obtain⟨h2,o',h1,rfl⟩:=hs y o (Ne.symm ct) ho;rw[HD];exact S.inj k y rk ry o hk hy UA h1 (Ne.symm h2)
  .obtain⟨h3,q',h4,rfl⟩:=hs x q e1 hq;by_cases e2:y=b
   .subst e2;rw[hb] at hy;cases hy;rw[HD];exact S.inj x k rx rk ok hx hk ⟨q,h4,Ng⟩ eX h3
   .obtain⟨h2,o',h1,rfl⟩:=hs y o e2 ho;exact S.inj x y rx ry o hx hy ⟨q,h4,Ng⟩ h1 ct
 .intro x o hx;by_cases e:x=b
  .subst e;exact En (S.low x r hb).1 hn
  .obtain⟨_,o',h1,rfl⟩:=hs x o e hx;exact En (S.wf x o h1) hn
 .intro x rx hx ⟨q,hq,Ng⟩;by_cases e:x=b
  .subst e;rw[hb] at hx;cases hx;exact .inr ⟨k,rk,hk,UA,HD.symm⟩
  .obtain⟨_,o',h1,rfl⟩:=hs x q e hq;exact .inr ⟨x,rx,hx,⟨q,h1,Ng⟩,rfl⟩
 .intro x rx o hx ho;by_cases e:x=b
  .subst e;rw[hb] at hx;cases hx;exact .inr ⟨k,rk,ok,hk,eX,HD.symm⟩
  .obtain⟨_,o',h1,rfl⟩:=hs x o e ho;exact .inr ⟨x,rx,o,hx,h1,rfl⟩
end
theorem Qv(hi:i<=len)(hv:vs.length=o)(hl:off+len*o<=cs.length):cs.take off++aK cs vs off i len o++cs.drop (off+(len+1)*o)=aR cs off (aK cs vs off i len o)/\(aK cs vs off i len o).length=(len+1)*o:=by
 have h1:i*o+(len-i)*o=len*o:=by rw[<-tW];congr 1;omega
 have h2:(aK cs vs off i len o).length=(len+1)*o:=by simp only[aK,IZ,List.length_take,List.length_drop,hv,tW];omega
 exact⟨by unfold aR;rw[h2],h2⟩
section
variable{P:Program}{T:r8}{ng:Nat}{F:Nat->Option bZ}
theorem Vq(hF:Hx P T ng (eI T ng) F)(hT:dv P T)(hf:F f=some ⟨[.tmp 6],uk z o bytes fo fs,.no⟩)(Up:F fo=some fov)(Co:fov.CW=.Q1)(hz:z.length=o)(ho:0<o)(Eo:bytes<=1000):WL P T ng (eI T ng) f (rmV o):=by
 intro args h v h' hv cq ρ w S hG ha e_;obtain⟨b,off,len,cap,i,x,xo,xc,cs,op,s,Tn,To,xs,vs,rfl,hb,hx,hi,CF,Aq,cj,Wb,hsm,vA,rfl,rfl⟩:=S6 hv;obtain⟨c0,c1,c2,rfl,h0,h1,h2⟩:=Pj ha;obtain⟨r,ca,ccap,hρ,y5,rfl⟩:=gu h0;have Jc:vs.length=o:=by
  unfold aV at vA;rw[hx] at vA;dsimp only at vA;split at vA
  .rename_i hh;cases vA;exact qW hh
  .cases vA
 have X3:len*o+o=(len+1)*o:=by rw[tW];omega
 have hm2:(len+1)*o<=cap*o:=FW _ CF;obtain⟨vo,fu⟩:=Qv (cs:=cs) (off:=off) hi Jc (by omega);have mc:=S.wf _ _ hb;have Jd:=S.wf _ _ hx;have hB:=S.obj b r _ hρ hb;rcases uM op with rfl|Ep
 .obtain⟨n,v2,LN,hr,rfl,LR,F9,xP,s',Cn⟩:=Jg (F:=F) hf Up Co hz ho Eo (h:=h) (b:=b) (off:=off) (xc:=xc) hi CF hsm hb cj hx vA Wb;obtain⟨fn,ρ2,w2,c,fr2,g1,g2,g3,g4,g5,g6,g7,S2,E2⟩:=z7 hF hT hr S hG ha e_;rw[vo] at Cn;have hρ2:=E2.le b r hρ;have hO:jA (ig T ng (eI T ng)) ρ2 r (.aC (aR cs off (aK cs vs off i len o)) false 0 h.clock) w2:=by have:=S2.obj b r _ hρ2 Cn;exact this
  obtain⟨S3,E3⟩:=S2.swap (h':= {put h b off cs (aK cs vs off i len o) 0 with next:=h.next+8}) hρ2 Cn rfl hρ2 rfl (by simp[put,Tr.aW]) hO (by rw[LR];exact Nat.le_add_right _ _) (fun y o' hy EI=>by simp only[put,Tr.aW] at EI;rw[bc hy] at EI;exact⟨hy,o',by rw[xP y (S.wf y _ EI) hy];exact EI,rfl⟩)
  exact⟨fn,ρ2,w2,c,fr2,g1,g2,g3,g4,g5,g6,g7,S3,E2.trans E3⟩
 .have ase:op=o:=by omega
  subst ase;obtain⟨JG,el,fr,hw,rh,LV,⟨mK,agf⟩,hfr,CG⟩:=hB;have hrr:r.len<=r.room:=by obtain⟨c,hc,_⟩:=CG (cs.length-1) _ (ff (by omega));have:=(Array.getElem?_eq_some_iff.mp hc).1;omega
  have adI:(JG.toList.drop (r.base+r.len)).length=r.room-r.len:=by simp;omega
  have akP:(cs++JG.toList.drop (r.base+r.len)).length=r.room:=by rw[IZ,adI];omega
  have alI:∀j v,(JG.toList.drop (r.base+r.len))[j]?=some v->cr v=true/\JG[r.base+(r.len+j)]?=some v:=by
   intro j v hj;rw[List.getElem?_drop] at hj;have Uq:JG[r.base+(r.len+j)]?=some v:=by rw[<-AL];simpa using hj
   exact⟨agf (by omega) (r.len+j) v (by omega) Uq,Uq⟩
  let im:zP:=⟨r.aC,r.base,r.room,0,r.room⟩
  have Bz:=uE (r:=im) S.fresh;have asb:jA (ig T ng (eI T ng)) (ka ρ h.next im) im (.aC (cs++JG.toList.drop (r.base+r.len)) false 0 0) w:=by
   refine⟨JG,el,fr,hw,akP.symm,rfl,⟨mK,fun h=>absurd rfl h⟩,hfr,fun j v hj=>?_⟩;by_cases aM:j<cs.length
   .rw[FX aM] at hj;obtain⟨c,hc,hk⟩:=CG j v hj;exact⟨c,hc,hk.mono Bz⟩
   .rw[HA (by omega)] at hj;obtain⟨hc,ht⟩:=alI _ _ hj;refine⟨v,?_,.cell (pK hc)⟩;rw[<-ht];show JG[r.base+j]?=_;congr 1;omega
  obtain⟨S1,E1⟩:=S.move (im:=im) hρ hb rfl rfl ⟨rfl,rfl,rfl,rfl,fun _ _=>rfl⟩ asb;have I5:∀y,(({h with tr:=h.tr.del b} :ab).new (.aC (cs++JG.toList.drop (r.base+r.len)) false 0 0)).tr.get y=if y=h.next then some (.aC (cs++JG.toList.drop (r.base+r.len)) false 0 0) else if y=b then none else h.tr.get y:=by intro y;simp only[ab.new,Tr.aW,Tr.nq]
  have hn1:(({h with tr:=h.tr.del b} :ab).new (.aC (cs++JG.toList.drop (r.base+r.len)) false 0 0)).next=h.next+1:=rfl
  generalize hh1:({h with tr:=h.tr.del b} :ab).new (.aC (cs++JG.toList.drop (r.base+r.len)) false 0 0)=Kw at*;have FZ:Kw.tr.get h.next=some (.aC (cs++JG.toList.drop (r.base+r.len)) false 0 0):=by rw[I5,aY rfl]
  have hx1:Kw.tr.get x=some (.aC Tn false To xs):=by rw[I5,bc (by omega),bc (Ne.symm Wb)];exact hx
  have asW:aV Kw x xo op=some vs:=by rw[<-vA];unfold aV;rw[hx1,hx]
  have M6:ca=⟨r.aC,r.base+off,none⟩:=by
   rcases y5.1 with e|⟨_,e⟩
   .exact e
   .omega
  have Uk:cap<=ccap:=by
   rcases y5.2.1 with e|e
   .omega
   .omega
  have abo:off+ccap*op<=r.room:=by
   rcases y5.2.1 with e|⟨_,_,_,e⟩
   .rw[e];omega
   .rw[LV] at e;exact e
  have Bv:All2 (VR (ka ρ h.next im)) [.slice (some ⟨h.next,off,none⟩) len ccap,.int .i64 (.ofNat i),.slice (some ⟨x,xo,none⟩) 1 xc] [.slice (some ca) len ccap,c1,c2]:=by refine .cons (CR.vr (.slice (r:=im) (by simp[ka]) ⟨.inl M6,.inl rfl,by omega⟩)) (.cons (h1.mono Bz) (.cons (h2.mono Bz) .nil))
  have hG1:=hG.mono Bz;obtain⟨n,v2,LN,hr,rfl,LR,F9,xP,s',Cn⟩:=Jg (F:=F) hf Up Co hz ho Eo (h:=Kw) (b:=h.next) (off:=off) (i:=i) (xc:=xc) hi (show len<ccap by omega) hsm FZ (by rw[akP];exact abo) hx1 asW (by omega);obtain⟨fn,ρ2,w2,c,fr2,g1,g2,g3,g4,g5,g6,g7,S2,E2⟩:=z7 hF hT hr S1 hG1 Bv e_;obtain⟨r2,ca2,ajk,hρ2,alF,rfl⟩:=gu g7;have uP:r2=im:=by have:=E2.le h.next im (by simp[ka]);rw[this] at hρ2;cases hρ2;rfl
  subst uP;have oJ:aK (cs++JG.toList.drop (r.base+r.len)) vs off i len op=aK cs vs off i len op:=by
   have e4:i*op+(len-i)*op=len*op:=by rw[<-tW];congr 1;omega
   unfold aK;rw[List.drop_append_of_le_length (by omega),List.drop_append_of_le_length (by omega),List.take_append_of_le_length (by simp;omega),List.take_append_of_le_length (by simp;omega)]
  have akA:(cs++JG.toList.drop (r.base+r.len)).take off++aK (cs++JG.toList.drop (r.base+r.len)) vs off i len op++(cs++JG.toList.drop (r.base+r.len)).drop (off+(len+1)*op)=aR cs off (aK cs vs off i len op)++JG.toList.drop (r.base+r.len):=by rw[oJ,<-vo,List.take_append_of_le_length (by omega),List.drop_append_of_le_length (by omega)];simp only[Af]
  rw[akA] at Cn;have XZ:(aR cs off (aK cs vs off i len op)).length=cs.length:=by rw[<-vo];simp only[IZ,List.length_take,List.length_drop,fu];omega
  obtain⟨ahs,el2,ap9,hw2,uO,_,⟨Yj,_⟩,hfr2,hcells2⟩:=S2.obj _ _ _ hρ2 Cn;have hρb:ρ2 b=some r:=E2.le b r (Bz b r hρ);have hO:jA (ig T ng (eI T ng)) ρ2 r (.aC (aR cs off (aK cs vs off i len op)) false op h.clock) w2:=by
   refine⟨ahs,el2,ap9,hw2,by omega,LV,⟨Yj,fun _ j c hj hc=>?_⟩,hfr2,fun j v hj=>?_⟩
   .have tg:=(Array.getElem?_eq_some_iff.mp hc).1;have an_:r.base+r.room=ahs.size:=Yj;obtain⟨v,hv⟩:=ay (JG.toList.drop (r.base+r.len)) (j-cs.length) (by rw[adI];omega);have hC:(aR cs off (aK cs vs off i len op)++JG.toList.drop (r.base+r.len))[j]?=some v:=by rw[HA (by omega),XZ];exact hv
    obtain⟨c',Ib,CH⟩:=hcells2 _ _ hC;have akE:ahs[r.base+j]?=some c':=Ib;rw[hc] at akE;cases akE;exact Xf CH (alI _ _ hv).1
   .have aM:=(bK.mp hj).1;exact hcells2 j v (by rw[FX aM];exact hj)
  obtain⟨S3,E3⟩:=S2.swap (h':= {put h b off cs (aK cs vs off i len op) op with next:=h.next+8}) hρ2 Cn rfl hρb rfl (by simp[put,Tr.aW]) hO (by rw[LR,hn1];show h.next+1<=h.next+8;omega) (fun y o' hy EI=>by simp only[put,Tr.aW] at EI;rw[bc hy] at EI;have dQ:=S.wf y _ EI;exact⟨by omega,o',by rw[xP y (by omega) (by omega),I5,bc (by omega),bc hy];exact EI,rfl⟩)
  refine⟨fn,ρ2,w2,_,fr2,g1,g2,g3,g4,g5,g6,CR.vr (.slice (r:=r) hρb ⟨?_,?_,CF⟩),S3,(E1.trans E2).trans E3⟩
  .rcases alF.1 with e|⟨_,e⟩
   .exact .inl e
   .omega
  .have:ajk=ccap:=by
    rcases alF.2.1 with e|⟨e,_⟩
    .exact e
    .exact absurd rfl e
   rw[this];exact y5.2.1
def Hv(F:Nat->Option bZ)(fi o:Nat)(f:Nat):Option bZ:=bif Nat.beq f fi then some ⟨[],.bad,.run (rmV o) fun _ _ _ _=>JC⟩ else F f
theorem Oy(hF:Hx P T ng (eI T ng) F)(hT:dv P T)(hf:F f=some ⟨[.tmp 6],uk z o bytes fo fs,.no⟩)(Up:F fo=some fov)(Co:fov.CW=.Q1)(hz:z.length=o)(ho:0<o)(Eo:bytes<=1000):Hx P T ng (eI T ng) (Hv F f o):=by
 intro g af h;unfold Hv at h;cases hb:Nat.beq g f with
 |true=>
  rw[hb] at h;cases h;rw[qW hb];exact Vq hF hT hf Up Co hz ho Eo
 |false=>rw[hb] at h;exact hF g af h
theorem aE.run{F:Nat->Option bZ}{f:Nat}{rs:List EY}{body:ak}{p:List Value->ab->Option (Value×ab)}{k:∀args h v h',p args h=some (v,h')->dN h h'}{args:List Value}{h h':ab}{v:Value}{R:Value->ab->Prop}(hf:F f=some ⟨rs,body,.run p k⟩)(hp:p args h=some (v,h'))(H:R v h'):aE F f args h R:=
 ⟨0,v,h',by simp only[uh,pZ,hf];exact hp,H⟩
end
end Go.AI
