/- Parts of the proof. -/
import Derived.Test.YtdhnndleffachaaGreatDoorP00
import Derived.Orders
import Derived.ProofKit
set_option linter.all false
set_option maxHeartbeats 1000000
namespace Go.AI
variable{B N b f i j k n n0 ng p t:Nat}{CC:dx}{D S:Nat->Prop}{F:Nat->Option cV}{P:Program}{T:ta}{a a2:Act}{args cs dF vs z:List Value}{body:aG}{d:Option Nat}{e e' e2:Env}{fv v:Value}{h h' h0 h1 h₁ h₂:az}{ih:aG->Env->az->R}{md:Region.Mode}{o:Oper}{ops:Array Oper}{r:Value×az}{st:Tc}{w w':World}{x:Operand}{α:Type}{ρ ρ':fJ}
section
variable{P:Program}{T:ta}{ng:Nat}{dr:tB}{F:Nat->Option cV}{ih:aG->Env->az->R}
def Vw(B:Nat){CC:dx}{J ρ:fJ}{O h:az}{G:World}(hB:G.heap.size<=B):∀(rs:List Nat)(w:World)(u:Frame)(cs:List Frame),u.mode=.returning->u.defers=rs.map mark->rs.Nodup->(∀r∈rs,B<=r/\w.heap[r]?=some (.deferred (some []))/\Pz ρ h r)->eM CC ρ h w->Ext J O G ρ h w->∃w',Steps P (lone u cs w) (lone {u with defers:=[]} cs w')/\eM CC ρ h w'/\Ext J O G ρ h w':=by
 intro rs;induction rs with
 |nil=>
  intro w u cs _ C _ _ S E;refine⟨w,?_,S,E⟩;have:({u with defers:=[]} :Frame)=u:=by cases u;simp at C;subst C;rfl
  rw[this];exact Steps.refl P _
 |cons r rs U=>
  intro w u cs hm C hn pq S E;obtain⟨hBr,hh,hf⟩:=pq r ae;have gX:=HR hh;have Gm:=R0 (P:=P) (cs:=cs) (ds:=rs.map mark) hm (by rw[C];rfl) hh;have M:∀j,j≠r->(w.heap.setIfInBounds r (.deferred none))[j]?=w.heap[j]? :=fun j hj=>by simp[Ne.symm hj]
  have S':eM CC ρ h {w with heap:=w.heap.setIfInBounds r (.deferred none)} :=by refine⟨fun b A y=>⟨(S.low b A y).1,by simpa using(S.low b A y).2⟩,?_,S.inj,S.wf⟩;intro b A o y Z;exact iT.mono ρ.le_refl (M _ (hf b A o y Z)) (S.obj b A o y Z)
  have E':Ext J O G ρ h {w with heap:=w.heap.setIfInBounds r (.deferred none)} :=by refine⟨E.le,E.aw,aj E.size,E.os,E.tape,E.output,?_,E.own,E.new,E.live⟩;intro k hk K;rw[<-E.xj k hk K];exact M k ab
  obtain⟨w',Uq,W,I⟩:=U {w with heap:=w.heap.setIfInBounds r (.deferred none)} {u with defers:=rs.map mark} cs hm rfl (List.nodup_cons.1 hn).2
   (fun q Y=>by obtain⟨g1,g2,g3⟩:=pq q (au Y);refine⟨g1,?_,g3⟩;rw[<-g2];exact M q (fun e=>(List.nodup_cons.1 hn).1 (e▸Y))) S' E'
  exact⟨w',.head Gm Uq,W,I⟩
def zv(hF:GO P T ng dr F)(hT:eE P T)(hI:wO P T ng dr ih)(q:su F ih f args h=some (v,h'))(S:eM (ik T ng dr) ρ h w)(hG:dX ng ρ)(ha:All2 (VR ρ) args dF)(cs:List Frame):∃fn ρ' w' c G,P.funcs[f]?=some fn/\fn.body.isSome=true/\(fn.name== "runtime.NumGoroutine")=false/\Steps P (lone (Frame.enter P f ⟨dF⟩ .normal) cs w) (lone G cs w')/\G.fn=f/\G.leaving P w' (.returned c)/\VR ρ' v c/\eM (ik T ng dr) ρ' h' w'/\Ext ρ h w ρ' h' w':=by
 unfold su mW at q;split at q;cases q
 .rename_i af U;have u:=hF f af U;split at q
  cases q;rename_i p hp C;rw[C] at u;exact u args h v h' q dF ρ w S hG ha cs;rename_i C;rw[C] at u;obtain⟨fn,c,Mb,M,ab6,afA,an6⟩:=u
  let b:Frame:= {(default:Frame) with fn:=f,kind:=.normal}
  let a:Act:= { tmps:=(⟨dF⟩:Array Value)++Array.replicate (fn.ntmps-dF.length) undef,defers:=[] }
  have aiW:Frame.enter P f ⟨dF⟩ .normal=on b a [.code c]:=by simp[Frame.enter,on,Mb,M,b,a];rfl
  have O:ER ρ (params .nil 0 args) a.tmps:=Za ha _;have vy:fn.ntmps<=a.tmps.size:=by simp[a];omega
  have Oc:C8 w.heap.size ρ h w a.defers:=⟨[],rfl,List.nodup_nil,fun r I=>by simp at I⟩;rw[an6] at q;have J:∀(e':Env)(h1:az)(ρ':fJ)(w':World)(y:Act),(∃k,Steps P (lone (on b a [.code c]) cs w) (lone {on b y k with mode:=.returning} cs w'))->Bo (ik T ng dr) w.heap.size ρ h w a ρ' e' h1 w' y->(match results e' h1 af.res with|some vs=>bif fZ vs then some (result vs,h1) else none|none=>none)=some (v,h')->∃fn ρ' w' c G,P.funcs[f]?=some fn/\fn.body.isSome=true/\(fn.name== "runtime.NumGoroutine")=false/\Steps P (lone (Frame.enter P f ⟨dF⟩ .normal) cs w) (lone G cs w')/\G.fn=f/\G.leaving P w' (.returned c)/\VR ρ' v c/\eM (ik T ng dr) ρ' h' w'/\Ext ρ h w ρ' h' w':=by
   intro e' h1 ρ' w' y ⟨k,Uq⟩ A I;split at I
   .rename_i vs xg;cases fO:fZ vs with
    |false=>simp[fO] at I
    |true=>
     simp only[fO,kA,mL,Aj] at I;obtain⟨rfl,rfl⟩:=I;obtain⟨rs,W,QI,pq⟩:=A.defs;obtain⟨w2,IK,S2,E2⟩:=Vw (P:=P) w.heap.size (fh _) rs w' {on b y k with mode:=.returning} cs rfl W QI pq A.S8 A.ext;obtain⟨cc,K,Z⟩:=RJ (P:=P) hT S2 A.er afA xg fO;refine⟨fn,ρ',w2,cc,_,Mb,by rw[M];rfl,ab6,by rw[aiW];exact Uq.trans IK,rfl,⟨rfl,rfl,rfl,fn,Mb,K⟩,Z,S2,E2⟩
   cases I
  split at q;rename_i e' h1 K;obtain⟨ρ',w',y,Y,A⟩:=hI fn.ntmps c _ h _ e' h1 K w.heap.size ρ w a b [] cs S hG O vy (fh _) Oc (.inl rfl);exact J e' h1 ρ' w' y ⟨[],Steps.trans Y (.one (apU rfl))⟩ A q;rename_i e' h1 K;obtain⟨ρ',w',y,Y,A⟩:=hI fn.ntmps c _ h _ e' h1 K w.heap.size ρ w a b [] cs S hG O vy (fh _) Oc (.inl rfl);obtain⟨k',Ho⟩:=Y;exact J e' h1 ρ' w' y ⟨_,Ho.trans (.one (apV rfl))⟩ A q;cases q
def GC(S:eM CC ρ h w){l:Nat}{r:BS}{q K:Env}{ps y:List Nat}{asg A body C:aG}{st u:Tc}(I:ρ l=some r)(J:h.tr.get l=some (.loop K y A C u)){L:Loop}(M:w.heap[r.bZ]?=some (.loop L))(L':Loop)(G:aaI CC ρ r q ps asg body st {w with heap:=w.heap.setIfInBounds r.bZ (.loop L')}):eM CC ρ (fT h l q ps asg body st) {w with heap:=w.heap.setIfInBounds r.bZ (.loop L')} /\Ext ρ h w ρ (fT h l q ps asg body st) {w with heap:=w.heap.setIfInBounds r.bZ (.loop L')} :=
 eM.tz (o':=.loop q ps asg body st) S I J rfl (At1.obj r.bZ (.loop L')) G h.clock
def heap_set(w:World){o o':Obj}(h:w.heap[k]?=some o):(w.heap.setIfInBounds k o')[k]?=some o':=by have:=HR h;simp[this]
def OP(hI:wO P T ng dr ih){l:Nat}(y:rJ ih l args h=some (v,h'))(S:eM (ik T ng dr) ρ h w)(hG:dX ng ρ)(ha:All2 (VR ρ) args dF){r:BS}(hl:ρ l=some r)(c:Frame)(cs:List Frame):∃L ρ' w' cv,w.heap[r.bZ]?=some (.loop L)/\dF.length=L.params.size/\Steps P (lone (Frame.round r.bZ L.fn ((L.params.toList.zip dF).foldl (fun(q:Array Value) (x:Nat×Value)=>q.setIfInBounds x.1 x.2) L.tmps) L.assign L.body .normal) (c::cs) w) (lone (c.finish cv) cs w')/\VR ρ' v cv/\eM (ik T ng dr) ρ' h' w'/\Ext ρ h w ρ' h' w':=by
 unfold rJ at y;split at y
 .rename_i env ps asg body fq;obtain⟨L,hh,hER,ju,⟨n1,hn1,KS,Wr⟩,⟨n2,QH,SP,Ug⟩,gX,Ho⟩:=S.obj l r _ hl fq;split at y;cases y
  .rename_i e0 fu;obtain⟨hE0,aoQ,dJ⟩:=O1 ps args dF env e0 L.tmps ha fu hER gX;rw[<-ju] at hE0 aoQ;have Gj:dF.length=L.params.size:=by have h1:=ha.length;rw[<-ju] at dJ;simp at dJ;omega
   let b:Frame:= {(default:Frame) with fn:=L.fn,kind:=.normal,roundOf:=some r.bZ}
   let a:Act:= { tmps:=(L.params.toList.zip dF).foldl (fun(q:Array Value) (x:Nat×Value)=>q.setIfInBounds x.1 x.2) L.tmps,defers:=[] }
   have ajp:Frame.round r.bZ L.fn a.tmps L.assign L.body .normal=on b a [.code L.assign,.beginRound,.code L.body]:=rfl;refine⟨L,?_⟩;have hasz:a.tmps.size=L.tmps.size:=aoQ;split at y
   .rename_i e1 h1 ahe;rw[KS] at ahe;obtain⟨ρ1,W,a1,ave,u⟩:=hI n1 L.assign e0 h _ e1 h1 ahe w.heap.size ρ w a b [.beginRound,.code L.body] (c::cs) S hG hE0 ab (fh _)
     ⟨[],rfl,List.nodup_nil,fun r hr=>by simp at hr⟩ (.inr Wr)
    have QG:=u.ext.le l r hl;unfold wH at y;split at y
    .rename_i atI ps1 atn amz Mc;have aol:=u.S8.obj l r _ QG Mc;obtain⟨L1,O,at6,hp1,Kh,Po,aoq,awg,avQ⟩:=aol;have auY:=OQ (P:=P) (b:=b) (a:=a1) (k:=[.code L.body]) (cs:=c::cs) (w:=W) rfl O awg;obtain⟨S2,E2⟩:=GC (st:=.busy) u.S8 QG Mc O {L1 with state:=.busy} ⟨{L1 with state:=.busy},heap_set W O,at6,hp1,Kh,Po,aoq,rfl⟩;have E02:=u.ext.trans E2;have Gk:=u.defs.ext E2;have G:∀(x:bK)(M:Env)(I:az)(st:Tc)(bv:Bool)(Z:Option Code)(A:LoopState),Nb st {L1 with state:=A,pending:=Z} ->(∀C:Loop,Nb st {C with state:=A,pending:=Z})->ih (dv T ng n2 dr L.body) e1 (fT h1 l atI ps1 atn amz .busy)=some (x,M,I)->lY l I st bv=some (v,h')->(∀Y J C,J.heap[r.bZ]?=some (.loop C)->Kr P b [] (c::cs) (lone (on b a1 [.code L.body]) (c::cs) { W with heap:=W.heap.setIfInBounds r.bZ (.loop {L1 with state:=.busy}) }) x Y J->Steps P (lone (on b a1 [.code L.body]) (c::cs) { W with heap:=W.heap.setIfInBounds r.bZ (.loop {L1 with state:=.busy}) })
         (lone (c.finish (.bool bv)) cs { J with heap:=J.heap.setIfInBounds r.bZ (.loop {C with state:=A,pending:=Z}) }))->∃ρ' w' cv,w.heap[r.bZ]?=some (.loop L)/\dF.length=L.params.size/\Steps P (lone (Frame.round r.bZ L.fn ((L.params.toList.zip dF).foldl (fun(q:Array Value) (x:Nat×Value)=>q.setIfInBounds x.1 x.2) L.tmps) L.assign L.body .normal) (c::cs) w) (lone (c.finish cv) cs w')/\VR ρ' v cv/\eM (ik T ng dr) ρ' h' w'/\Ext ρ h w ρ' h' w':=by
      intro x M I st bv Z A _ hj U QC aom;obtain⟨ρ3,J,Y,avf,Hk⟩:=hI n2 L.body e1 _ x M I U w.heap.size ρ1 _ a1 b [] (c::cs) S2 (hG.mono u.ext.le) u.er (by rw[u.size];omega) (aj u.ext.size) Gk (.inr Ug);have hl3:=Hk.ext.le l r QG;unfold lY at QC;split at QC
      rename_i XA ps3 Xi LA ag4;cases QC;obtain⟨C,K,at7,hp3,hc3,hc4,aor,aoM⟩:=Hk.S8.obj l r _ hl3 ag4;obtain⟨S4,E4⟩:=GC (st:=st) Hk.S8 hl3 ag4 K {C with state:=A,pending:=Z} ⟨{C with state:=A,pending:=Z},heap_set J K,at7,hp3,hc3,hc4,aor,hj C⟩;refine⟨ρ3,_,.bool bv,hh,Gj,?_,VR.bool bv,S4,(E02.trans Hk.ext).trans E4⟩;rw[ajp];exact(Steps.trans ave (.head auY (aom Y J C K avf)));cases QC
     rw[SP] at y;split at y;rename_i M I U;refine G .normal M I .ready true none .ready ⟨rfl,rfl⟩ (fun _=>⟨rfl,rfl⟩) U y ?_;intro Y J C K Me;exact Steps.trans Me (.one (R3 rfl rfl K));rename_i M I U;refine G .ret M I (.done none) false (some .ret) .done ⟨rfl,rfl⟩ (fun _=>⟨rfl,rfl⟩) U y ?_;intro Y J C K ⟨k',Me⟩;exact Steps.trans Me (.one (R7 rfl rfl K));rename_i id M I U;refine G (.exit id) M I (.done (some id)) false (some (.exit id)) .done ⟨rfl,rfl⟩ (fun _=>⟨rfl,rfl⟩) U y ?_;intro Y J C K ⟨k',Me,hex⟩;exact Steps.trans Me (.one (OT rfl rfl K hex));cases y
    cases y
   cases y
 cases y
end
def NG{c:Call}{f:Operand}{args:List Operand}(h:Af T c=.call f args):c.callee=.value f/\c.args.toList=args:=by
 obtain⟨y,dF,u⟩:=c;unfold Af at h;split at h;rename_i g q;injection h with h1 h2;subst h1;subst h2;exact⟨q,rfl⟩
 all_goals (try dsimp only at h)
 all_goals (repeat' (first|(cases h;done)|split at h))
def H9{op:Op}{f:Operand}{args:List Operand}(h:dR T op=.call f args):∃c,op=.call c/\c.callee=.value f/\c.args.toList=args:=by
 cases op with
 |call c=>exact⟨c,rfl,NG h⟩
 |build t y=>
  simp only[dR] at h;split at h
  .split at h
   .rename_i fs _;generalize (fs.toList.all fun f=>(T f.type).isSome)=bb at h;cases bb<;>simp only[kA,xY] at h<;>repeat' (first|(cases h;done)|split at h)
   .repeat' (first|(cases h;done)|split at h)
   cases h
  cases h
 |buildSlice t n y=>
  simp only[dR] at h
  repeat' (first|(cases h;done)|split at h)
  rename_i e _;cases q:(n*e.size).ble 1000000&&e.zero.length.beq e.size<;>simp only[q,kA,xY] at h<;>cases h
 |slice t x J C A=>
  simp only[dR] at h
  repeat' (first|(cases h;done)|split at h)
  cases q:A.isSome&&C.isNone<;>simp only[q,kA,xY] at h<;>cases h
 |fieldAddr t x k=>
  simp only[dR] at h
  repeat' (first|(cases h;done)|split at h)
  rename_i G _;cases q:G.size.beq 0<;>simp only[q,kA,xY] at h<;>cases h
 |makeFunc fn first u=>
  cases fn with
  |func g=>
   simp only[dR] at h;cases q:first.isEmpty<;>simp only[q,kA,xY] at h<;>cases h
  |_=>simp only[dR] at h;cases h
 |makeMap t r=>cases r<;>(simp only[dR] at h;cases h)
 |next I st=>cases st<;>(simp only[dR] at h;cases h)
 |_=>
  simp only[dR] at h
  repeat' (first|(cases h;done)|split at h)
def LG{op:Op}{x:Value×az}(q:c_ e h (dR T op)=some x):Op.vC op=false:=by
 cases op with
 |defer c=>simp[dR,c_] at q
 |_=>rfl
section
variable{P:Program}{T:ta}{ng:Nat}{dr:tB}{F:Nat->Option cV}{ih:aG->Env->az->R}
def LU{q:Array Value}{el:TypeId}(h:w.heap[b]?=some (.cells q el (0,0)))(o:Nat):w.frozen? ⟨b,o,none⟩=false:=by simp[World.frozen?,h]
def af1(hT:eE P T)(hO:VO P T f)(S:eM CC ρ h w)(ha:All2 (VR ρ) args dF)(U:∃a oa C ca b ob G cb K o1 s1 J o2 s2,args=[.slice (some ⟨a,oa,none⟩) C ca,.slice (some ⟨b,ob,none⟩) G cb]/\h.tr.get a=some (.bZ K false o1 s1)/\h.tr.get b=some (.bZ J false o2 s2)/\(C=0\/G=0\/a≠b)):(callFunc f ⟨dF⟩).run P w=.ok (.value (.bool false)) w:=by
 obtain⟨fn,t,el,i,ei,h1,h2,h3,h4,h5,h6,h7,h8,h9⟩:=hO;obtain⟨a,oa,C,ca,b,ob,G,cb,K,o1,s1,J,o2,s2,rfl,ga,gb,eQ⟩:=U
 match dF,ha with
 |[x,y],.cons hx (.cons hy .nil)=>
 obtain⟨u,xa,xc,I,rfl,Uo⟩:=hx.gm;obtain⟨A,ya,yc,Ff,rfl,Z⟩:=hy.gm;have O:=(hT t i h7).u;rw[h8] at O;obtain⟨ti,k1,k2,k3,z,k4,k5⟩:=(hT el ei h9).info;obtain⟨cca,ela,fra,p1,_,_,_,M,_⟩:=S.obj a u _ I ga;obtain⟨ccb,elb,frb,q1,_,_,_,q5,_⟩:=S.obj b A _ Ff gb;have M:=M rfl;have q5:=q5 rfl;subst M;subst q5;have hn3:¬(fn.name= "runtime.NumGoroutine"):=aj h3
 have hb:fn.body=none:=aj h2
 have U:(Extern.SlicesOverlaps.overlaps fn.params fn.resultTypes #[.slice (some xa) C xc,.slice (some ya) G yc]).run P w=.ok (.bool false) w:=by
  change Sem.run P (α:=Value) (do
   let some t:=fn.params[0]? |stuck "slices.overlaps: no parameter types"
   let .slice elem<-underlying t|stuck "slices.overlaps: slice type expected"
   let size<-sizeOf elem
   match(some xa:Option Addr),(some ya:Option Addr) with
   |some a,some b=>
    if C=0\/G=0\/size=0 then pure (Value.bool false)
    else if a.block !=b.block&&(<-frozen a)&&(<-frozen b) then unsupported .addressObserved
    else do
     if a.block !=b.block then do
      noView a;noView b
      if<-mayBeOne a b then return Value.bool ((<-choose (.extern "sameAddr.stringBytes" 2))==1)
     pure (Value.bool (a.block==b.block&&a.off<b.off+G*size&&b.off<a.off+C*size))
   |_,_=>pure (Value.bool false)) w=_
  by_cases h0:C=0\/G=0\/ei.size=0;simp[h6,rq O,sizeOf,typeInfo,k1,k2,h0]
  .have W:a≠b:=by rcases eQ with h|h|h;exact absurd (.inl h) h0;exact absurd (.inr (.inl h)) h0;exact h
   have KS:0<xc:=by
    have:=Uo.2.2;have:=Uo.Cr
    omega
   have SP:0<yc:=by
    have:=Z.2.2;have:=Z.Cr
    omega
   have q:u.bZ≠A.bZ:=S.inj a b u A _ I Ff ⟨_,ga,rfl⟩ gb W;have Y:=Uo.addr KS;have eyb:=Z.addr SP;subst Y;subst eyb;have Ug:(u.bZ !=A.bZ)=true:=aj q
   have avC:(u.bZ==A.bZ)=false:=aj q
   have sa:w.shape? u.bZ=some (ela,cca.size):=by simp[World.shape?,p1]
   have sb:w.shape? A.bZ=some (elb,ccb.size):=by simp[World.shape?,q1]
   have fa:∀o,w.frozen? ⟨u.bZ,o,none⟩=false:=LU p1;have fb:∀o,w.frozen? ⟨A.bZ,o,none⟩=false:=LU q1;simp[h6,rq O,sizeOf,typeInfo,k1,k2,h0,Ug,avC,frozen,noView,viewAt,mayBeOne,stringish,shape,Sem.run,sa,sb,fa,fb]
 simp[callFunc,h1,hn3,hb,Go.mark,h4,h5,U,Sem.run]
def F9(hF:GO P T ng dr F)(hT:eE P T)(hI:wO P T ng dr ih){fv O:Value}(u:e_ F ih fv args h=some (v,h'))(S:eM (ik T ng dr) ρ h w)(hG:dX ng ρ)(q:VR ρ fv O)(ha:All2 (VR ρ) args dF){cj:List Nat}(Y:ops[i]?=some o)(hw:Region.wanted o (yielded ops a.tmps)=true){cl:Call}{f:Operand}(U:o.op=.call cl)(I:cl.callee=.value f)(C:a.eval f=O)(KS:cl.args.toList.map a.eval=dF)(b:Frame)(k:List Item)(cs:List Frame):∃ρ' w' c,Steps P (lone (on b a (.inRegion ops (i::cj)::k)) cs w) (lone (on b (a.put o.dst c) (.inRegion ops cj::k)) cs w')/\VR ρ' v c/\eM (ik T ng dr) ρ' h' w'/\Ext ρ h w ρ' h' w':=by
 obtain⟨cal,W,y⟩:=cl;dsimp only at I KS;subst I;have QI:Op.vC o.op=false:=by rw[U];rfl
 have M:∀c,(on b a (.inRegion ops (i::cj)::k)).finish c=on b (a.put o.dst c) (.inRegion ops cj::k):=by intro c;rw[Ah,Y];rfl
 have A:W.map a.eval=⟨dF⟩:=by apply Array.ext';simp[<-KS]
 unfold e_ at u;split at u
 .rename_i g first caps
  cases q with
  |val q=>cases q with
   |cell q=>cases q with
    |cell q=>cases q
    | @fn _ l m hlm=>
     have py:All2 (VR ρ) ([]++args++l) (dF++m):=ha.app (hlm.mono fun _ _ h=>h.vr);rcases H8 u with u|⟨af,haf,aoy,u⟩
     rotate_left 1
     .
      have G:=hF g af haf;rw[aoy] at G;obtain⟨rfl,rfl,EC⟩:=MF u;have QA:=af1 (P:=P) hT G S py EC;have J:(execOp a.eval o).run P w=.ok (.value (.bool false)) w:=by
       simp only[execOp,U,resolve,Deferred.ofValue,invoke,C,sy,xE,rm,A];have:(#[]:Array Value)++(⟨dF⟩:Array Value)++(⟨m⟩:Array Value)=⟨dF++m⟩:=by apply Array.ext';simp
       rw[this];exact QA
      exact⟨ρ,w,.bool false,.one (OV Y hw QI J),VR.bool _,S,.refl ρ _ w⟩
     obtain⟨fn,ρ',w',c,fr,h1,h2,Z,h4,h5,h6,h7,h8,h9⟩:=zv hF hT hI u S hG py (on b a (.inRegion ops (i::cj)::k)::cs);have J:(execOp a.eval o).run P w=.ok (.enter g ⟨dF++m⟩) w:=by have:=Qa (P:=P) (w:=w) (args:=W) (ats:=y) (ty:=o.type) C h1 h2 Z;rw[A] at this;simp only[execOp,U];rw[this];congr 2;apply Array.ext';simp
     refine⟨ρ',w',c,.head (age Y hw QI J) (h4.trans (.one ?_)),h7,h8,h9⟩;rw[step_leave_returned h6,M]
 .rename_i l _ _;cases q with
  |val q=>cases q with
   |cell q=>cases q with
    |cell q=>cases q
    | @yield _ r hl=>
     obtain⟨L,ρ',w',cv,h1,h2,Z,h4,h5,h6⟩:=OP (P:=P) hI u S hG ha hl (on b a (.inRegion ops (i::cj)::k)) cs;have vy:W.size=L.params.size:=by rw[<-h2,<-KS];simp
     have J:(execOp a.eval o).run P w=.ok (.round r.bZ L.fn ((L.params.toList.zip dF).foldl (fun(K:Array Value) (x:Nat×Value)=>K.setIfInBounds x.1 x.2) L.tmps) L.assign L.body) w:=by have:=Z4 (P:=P) (w:=w) (args:=W) (ats:=y) (ty:=o.type) C h1 vy;rw[A] at this;simp only[execOp,U];rw[this];congr 2;rw[<-Array.foldl_toList];simp
     refine⟨ρ',w',cv,.head (agh Y hw QI J) ?_,h4,h5,h6⟩;rw[M] at Z;exact Z
 cases u
def Rs(hF:GO P T ng dr F)(hT:eE P T)(hI:wO P T ng dr ih)(A:ops[i]?=some o)(q:dM F ih (bY T ng n ops.toList o) e h=some (e',h'))(S:eM (ik T ng dr) ρ h w)(M:dX ng ρ)(y:ER ρ e a.tmps)(hn:n<=a.tmps.size)(b:Frame)(k:List Item)(cs:List Frame)(cj:List Nat):∃ρ' w' I,Steps P (lone (on b a (.inRegion ops (i::cj)::k)) cs w) (lone (on b I (.inRegion ops cj::k)) cs w')/\eM (ik T ng dr) ρ' h' w'/\ER ρ' e' I.tmps/\I.tmps.size=a.tmps.size/\I.defers=a.defers/\Ext ρ h w ρ' h' w':=by
 unfold bY at q;cases J:wB ng n ops.toList o with
 |false=>
  simp only[J,xY] at q;simp[dM,wanted,c_] at q
 |true=>
  simp only[J,kA] at q;simp only[wB,oD] at J;obtain⟨⟨Z,hg⟩,K⟩:=J;have xf:∀d,o.dst=some d->d<a.tmps.size:=by intro d W;rw[W] at Z;exact Kf (xQ.1 Z) hn
  have Hb:Region.wanted o (yielded ops a.tmps)=wanted e (guardOf ops.toList o):=by
   unfold guardOf;refine J9 y ?_;cases Me:o.guard with
   |none=>exact .inl ⟨rfl,rfl⟩
   |some x=>
    obtain⟨j,bb⟩:=x;rw[Me] at hg;obtain⟨t,ht⟩:=Option.isSome_iff_exists.1 hg;exact .inr ⟨j,bb,t,rfl,ht,by dsimp only;rw[ht];rfl⟩
  have U:∀ {ρ':fJ} {w':World} {v c:Value} {hh:az},VR ρ' v c->Ext ρ h w ρ' hh w'->ER ρ' (gy e o.dst v) (a.put o.dst c).tmps:=by intro ρ' w' v c hh O E;exact ER.put (y.mono E.le) xf O
  unfold dM at q;dsimp only at q;rw[<-Hb] at q;cases u:Region.wanted o (yielded ops a.tmps) with
  |false=>
   simp only[u,xY,mL,Aj] at q;obtain⟨rfl,rfl⟩:=q;refine⟨ρ,w,a.put o.dst undef,.one ?_,S,U VR.undef (.refl ρ h w),xv _ _ _,put_defers _ _ _,.refl ρ h w⟩;have:=MS (P:=P) (b:=b) (a:=a) (k:=k) (cs:=cs) (w:=w) (ops:=ops) (i:=i) (cj:=cj) (by simp[A,u]);rw[A] at this;exact this
  |true=>
   simp only[u,kA] at q;split at q
   .rename_i f args yX;obtain⟨cl,h1,h2,h3⟩:=H9 yX;split at q
    .rename_i v my Y;cases q;have mM:cS ng f=true/\args.all (cS ng)=true:=by rw[h1] at K;simp only[Op.operands,Call.operands,h2] at K;rw[<-h3];simpa using K
     obtain⟨ρ',w',c,q1,q2,q3,q4⟩:=F9 (P:=P) hF hT hI Y S M (y.eval M mM.1) (Es y M args mM.2) A u h1 h2 rfl (by rw[h3]) b k cs (cj:=cj);exact⟨ρ',w',a.put o.dst c,q1,q3,U q2 q4,xv _ _ _,put_defers _ _ _,q4⟩
    cases q
   .split at q
    .rename_i v my EC;cases q;obtain⟨ρ',w',c,C,O,S',G⟩:=Rp (P:=P) (a:=a) hT S y M o K EC;have QI:=LG EC;rcases C with C|⟨rfl,C⟩
     exact⟨ρ',w',a.put o.dst c,.one (OV A u QI C),S',U O G,xv _ _ _,put_defers _ _ _,G⟩;exact⟨ρ',w',a.put o.dst undef,.one (WU A u QI C),S',U O G,xv _ _ _,put_defers _ _ _,G⟩
    cases q
def UX(hF:GO P T ng dr F)(Z:eE P T)(hI:wO P T ng dr ih){n:Nat}{ops:Array Oper}(b:Frame)(k:List Item)(cs:List Frame):∀(m i:Nat),i+m=ops.size->∀(e e':Env)(h h':az),xu F ih ((ops.toList.drop i).map (bY T ng n ops.toList)) e h=some (e',h')->∀(ρ:fJ)(w:World)(a:Act),eM (ik T ng dr) ρ h w->dX ng ρ->ER ρ e a.tmps->n<=a.tmps.size->∃ρ' w' u,Steps P (lone (on b a (.inRegion ops ((List.range' i m))::k)) cs w) (lone (on b u (.inRegion ops []::k)) cs w')/\eM (ik T ng dr) ρ' h' w'/\ER ρ' e' u.tmps/\u.tmps.size=a.tmps.size/\u.defers=a.defers/\Ext ρ h w ρ' h' w':=by
 intro m;induction m with
 |zero=>
  intro i hi e e' h h' q ρ w a S C A G;rw[XH (by simp;omega)] at q;simp only[List.map_nil,xu,mL,Aj] at q;obtain⟨rfl,rfl⟩:=q;exact⟨ρ,w,a,Steps.refl P _,S,A,rfl,rfl,.refl ρ h w⟩
 |succ m y=>
  intro i hi e e' h h' q ρ w a S C A G;have J:i<ops.toList.length:=by simp;omega
  rw[List.drop_eq_getElem_cons J] at q;simp only[xX,xu] at q;have ho:ops[i]?=some ops.toList[i]:=by rw[<-Array.getElem?_toList,g_ J]
  split at q;rename_i e1 h1 O;obtain⟨ρ1,M,a1,s1,S1,E1,z1,d1,I⟩:=Rs (P:=P) hF Z hI ho O S C A G b k cs (List.range' (i+1) m);obtain⟨U,w2,a2,Y,S2,E2,W,K,X2⟩:=y (i+1) ab e1 e' h1 h' q ρ1 M a1 S1 (C.mono I.le) E1 ab;refine⟨U,w2,a2,?_,S2,E2,W.trans z1,K.trans d1,I.trans X2⟩;rw[List.range'_succ];exact s1.trans Y;cases q
end
def jQ.kI:jQ->List Operand
 |.mv x=>[x]
 |.pick c a b=>[c,a,b]
 |.alloc _=>[]
 |.box x=>[x]
 |.build _ u=>u.map (·.2.2)
 |.fm _ _ u=>u.map (·.2.2)
 |.load _ a=>[a]
 |.store _ a v=>[a,v]
 |.yk x=>[x]
 |.bin _ _ x y=>[x,y]
 |.un _ x=>[x]
 |.conv _ x=>[x]
 |.uk _ q=>q
 |.gG _ _ l c=>[l,c]
 |.slice _ x C G A=>x::(C.toList++G.toList++A.toList)
 |.cq _ x=>[x]
 |.fw _ _ x i=>[x,i]
 |.index _ x i=>[x,i]
 |.ext _ x=>[x]
 |.call f args=>f::args
 |.nu x=>[x]
 |.JS x=>[x]
 |.append _ _ _ s x=>[s,x]
 |.copy _ d s=>[d,s]
 |.clear _ x=>[x]
 |.Tn x=>[x]
 |.bad=>[]
def jQ.kind:jQ->Nat
 |.mv _|.pick .. |.build .. |.yk _|.bin .. |.un .. |.conv .. |.uk .. |.cq .. |.fw .. |.index .. |.ext .. |.nu _|.JS _=>0
 |.load .. |.slice .. =>1
 |.alloc _|.box _|.fm .. |.gG .. =>2
 |_=>3
def xW{e e':Env} :∀(ps:List (Nat×Nat×Operand))(cs:List Value),(∀x∈ps.map (·.2.2),ev e x=ev e' x)->mK e cs ps=mK e' cs ps
 |[],_,_=>rfl
 |(off,n,x)::r,cs,h=>by have u:ev e x=ev e' x:=h x ae;simp only[mK,u];split;split;exact xW r _ (fun y q=>h y (by simp only[xX,List.mem_cons];exact .inr q));rfl;rfl
def J3{l:List Operand}(h:∀x∈l,ev e x=ev e' x):pr e l=pr e' l:=List.map_congr_left h
def zi(x:Option Operand)(d t:Nat)(h:∀y∈x.toList,ev e y=ev e' y):bound e x d t=bound e' x d t:=by
 cases x with
 |none=>rfl
 |some y=>simp only[bound,h y ae]
def YU(op:jQ)(q:∀x∈op.kI,ev e x=ev e' x):c_ e h op=c_ e' h op:=by
 cases op with
 |build z A=>simp only[c_,xW A z q]
 |fm n z A=>simp only[c_,xW A z q]
 |uk f J=>
  simp only[jQ.kI] at q;simp only[c_,J3 q]
 |slice s x G I C=>
  simp only[jQ.kI,List.mem_cons,jS,or_assoc] at q;have h0:=q x (.inl rfl);have h1:∀d t,bound e G d t=bound e' G d t:=fun d t=>zi G d t fun y u=>q y (.inr (.inl u));have K:∀d t,bound e I d t=bound e' I d t:=fun d t=>zi I d t fun y u=>q y (.inr (.inr (.inl u)));have M:∀d t,bound e C d t=bound e' C d t:=fun d t=>zi C d t fun y u=>q y (.inr (.inr (.inr u)));simp only[c_,h0,h1,K,M]
 |pick c a b=>
  simp only[jQ.kI,List.mem_cons,List.not_mem_nil,or_false,forall_eq_or_imp,forall_eq] at q;simp only[c_,q.1,q.2.1,q.2.2]
 |alloc|call|bad=>rfl
 |store _ x y|bin _ _ x y|gG _ _ x y|fw _ _ x y|index _ x y|append _ _ _ x y|copy _ x y=>
  simp only[jQ.kI,List.mem_cons,List.not_mem_nil,or_false,forall_eq_or_imp,forall_eq] at q;simp only[c_,q.1,q.2]
 |mv x|box x|load _ x|yk x|un _ x|conv _ x|cq _ x|ext _ x|nu x|Tn x|JS x|clear _ x=>
  simp only[jQ.kI,List.mem_cons,List.not_mem_nil,or_false,forall_eq] at q;simp only[c_,q]
def leads:Value->Option Nat
 |.pointer (some ⟨b,_,_⟩)=>some b
 |.slice (some ⟨b,_,_⟩) _ _=>some b
 |.map (some b)=>some b
 |_=>none
def jQ.through:jQ->Option Operand
 |.load _ a=>some a
 |.slice _ x _ _ _=>some x
 |_=>none
def Jg{op:jQ}(A:op.kind=0)(q:c_ e h op=some (v,h')):h'=h/\∀y,c_ e y op=some (v,y):=by
 cases op with
 |uk f u=>
  simp only[c_] at q⊢;cases C:(pr e u).all simple<;>simp only[C,kA,xY] at q⊢ <;>cases q;exact⟨rfl,fun y=>rfl⟩
 |_=>
  simp only[jQ.kind] at A
  first
   |(exact absurd A ag)
   |(simp only[c_] at q⊢
     repeat' split at q
     all_goals first
      |(cases q;refine⟨rfl,fun y=>?_⟩;first|rfl|(simp_all;done))
      |(cases q;done))
def CI{op:jQ}(K:op.kind=1)(q:c_ e h op=some (v,h')):h'=h/\∃x,op.through=some x/\(∀A,(∀b,leads (ev e x)=some b->A.tr.get b=h.tr.get b)->c_ e A op=some (v,A))/\(∀b,leads (ev e x)=some b->∃cs U o s,h.tr.get b=some (.bZ cs U o s)):=by
 cases op<;>simp only[jQ.kind] at K<;>first|(exact absurd K ag)|skip
 case load n a=>
  simp only[c_] at q;split at q
  .rename_i b off u;split at q
   .rename_i cs C;split at q
    .rename_i v' I;cases q;refine⟨rfl,a,rfl,?_,?_⟩
     .intro A y;have:=y b (by rw[u];rfl);have Y:cD A b off (width n)=some cs:=by unfold cD at C⊢;rw[this];exact C
      simp only[c_,u,Y,I]
     intro b' W;rw[u] at W;cases W;unfold cD at C;split at C;exact⟨_,_,_,_,by assumption⟩;cases C
    cases q
   cases q
  cases q
 case slice sz x lo hi mx=>
  simp only[c_] at q;split at q
  .rename_i a len Z u;split at q;cases q
   .rename_i m M;split at q;cases q
    .rename_i hh G;split at q;cases q
     .rename_i l O;split at q;cases q;refine⟨rfl,x,rfl,fun A _=>?_,fun b y=>?_⟩;simp only[c_,u,M,G,O];rw[u] at y;cases y
      .rename_i b off;split at q
       .rename_i cs U o s I;cases J:(Nat.beq o 0||Nat.beq o sz) with
        |false=>rw[J] at q;cases q
        |true=>
         rw[J] at q;cases q;refine⟨rfl,x,rfl,fun A y=>?_,fun b' y=>?_⟩;have:=y b (by rw[u];rfl);simp only[c_,u,M,G,O,this,I,J,kA];rw[u] at y;cases y;exact⟨_,_,_,_,I⟩
       cases q
      cases q
  cases q
def eO.refl(h:az):eO h h:=⟨fh _,fh _,fun _ _ _ _ _ _ h _=>h,id,fun _ _ h=>h⟩
def eO.trans{h h1 A:az}(x:eO h h1)(y:eO h1 A):eO h A:=
 ⟨sx x.aw y.aw,sx x.clock y.clock,fun b cs C o s q u G=>x.cn b cs C o s q (y.cn b cs C o s (Kf q x.aw) u (Kf G x.clock)) G,y.wf∘x.wf,fun b q u=>x.mp b q (y.mp b (Kf q x.aw) u)⟩
def eO.new(h:az)(o:oZ):eO h (h.new o):=by
 refine⟨by simp[az.new],fh _,fun b cs A op s u q _=>?_,fun y b x u=>?_,fun b u q=>?_⟩;simp only[az.new,Tr.bN] at q;rwa [bU ab] at q;simp only[az.new,Tr.bN] at u⊢;by_cases e:b=h.aw;omega;rw[bU e] at u;have:=y b x u;omega
 simp only[az.new,Tr.bN] at q;rwa [bU ab] at q
def eO.del(h:az)(l:Nat):eO h {h with tr:=h.tr.del l} :=by refine⟨fh _,fh _,fun b cs A op s u q _=>?_,fun y b x u=>?_,fun b u q=>?_⟩;simp only[Tr.kE] at q;by_cases e:b=l;rw[bM e] at q;cases q;rwa [bU e] at q;simp only[Tr.kE] at u;by_cases e:b=l;rw[bM e] at u;cases u;rw[bU e] at u;exact y b x u;simp only[Tr.kE] at q;by_cases e:b=l;rw[bM e] at q;cases q;rwa [bU e] at q
def eO.other{o:oZ}(l:Nat)(c:Nat)(M:h.clock<=c)(J:∃x,h.tr.get l=some x)(I:∀cs C op s,o=.bZ cs C op s->h.clock<=s)(G:o≠ .map []):eO h {h with clock:=c,tr:=h.tr.set l o} :=by
 refine⟨fh _,M,fun b cs C op s u q O=>?_,fun A b x u=>?_,fun b u q=>?_⟩
 .simp only[Tr.bN] at q;by_cases e:b=l;rw[bM e] at q;cases q;have:=I _ _ _ _ rfl;omega
  rwa [bU e] at q
 simp only[Tr.bN] at u;by_cases e:b=l;obtain⟨y,K⟩:=J;rw[e];exact A l y K;rw[bU e] at u;exact A b x u;simp only[Tr.bN] at q;by_cases e:b=l;rw[bM e] at q;cases q;exact absurd rfl G;rwa [bU e] at q
def eO.write{b off:Nat}(q:fU h b off vs=some h'):eO h h':=by unfold fU at q;split at q;rename_i u;split at q;cases q;exact eO.other b (h.clock+1) (Nat.le_succ _) ⟨_,u⟩ (fun cs y op s e=>by cases e;exact fh _) (fun e=>by cases e);cases q;cases q
inductive Mk where
 |ptr
 |sl (l c:Nat)
 |mp
def mkA:Mk->Nat->Value
 |.ptr,N=>.pointer (some ⟨N,0,none⟩)
 |.sl l c,N=>.slice (some ⟨N,0,none⟩) l c
 |.mp,N=>.map (some N)
def mkO:Mk->List Value->oZ
 |.mp,_=>.map []
 |_,cells=>.bZ cells false 0 0
def Ar{op:jQ}(A:op.kind=2)(q:c_ e h op=some (v,h')):∃s cells,v=mkA s h.aw/\h'=h.new (mkO s cells)/\∀u,c_ e u op=some (mkA s u.aw,u.new (mkO s cells)):=by
 cases op with
 |alloc z=>
  simp only[c_,mL,Aj] at q;exact⟨.ptr,z,q.1.symm,q.2.symm,fun u=>rfl⟩
 |box x=>
  simp only[c_] at q;split at q;rename_i vs y;cases q;exact⟨.ptr,vs,rfl,rfl,fun u=>by simp only[c_,y];rfl⟩;cases q
 |fm n z I=>
  simp only[c_] at q;split at q;rename_i cs y;cases q;exact⟨.sl n n,cs,rfl,rfl,fun u=>by simp only[c_,y];rfl⟩;cases q
 |gG z n l c=>
  simp only[c_] at q;split at q;rename_i ll C h1 u;split at q;rename_i G;cases q;exact⟨.sl ll C,jn z C,rfl,rfl,fun J=>by simp only[c_,h1,u,G,if_true];rfl⟩;cases q;cases q
 |_=>simp only[jQ.kind] at A;cases A
def Nk{bytes:Nat}{s:Value}(q:dy h z bytes s n cs=some (v,h')):eO h h':=by
 unfold dy at q;dsimp only at q
 repeat' split at q
 all_goals first
  |(cases q;done)
  |(cases q;exact eO.refl _)
  |(cases q;exact eO.new _ _)
  |(rename_i u;cases q;exact eO.write u)
  |(cases q;exact(eO.del _ _).trans (eO.new _ _))
  |skip
def YV{op:jQ}(q:c_ e h op=some (v,h')):eO h h':=by
 by_cases h0:op.kind=0;rw[(Jg h0 q).1];exact .refl h;by_cases h1:op.kind=1;rw[(CI h1 q).1];exact .refl h;by_cases y:op.kind=2;obtain⟨_,cs,_,rfl,_⟩:=Ar y q;exact .new h _;cases op with
 |store n a x=>
  simp only[c_] at q
  repeat' split at q
  all_goals first
   |(cases q;done)
   |(rename_i u;cases q;exact eO.write u)
 |append z bytes A s x=>
  simp only[c_] at q;split at q;exact Nk q;cases q
 |copy sz d s=>
  simp only[c_] at q
  repeat' split at q
  all_goals first
   |(cases q;done)
   |(cases q;exact .refl h)
   |(rename_i u;cases q;exact eO.write u)
 |clear z x=>
  simp only[c_] at q
  repeat' split at q
  all_goals first
   |(cases q;done)
   |(cases q;exact .refl h)
   |(rename_i u;cases q;exact eO.write u)
 |Tn x=>
  simp only[c_] at q
  repeat' split at q
  all_goals first
   |(cases q;done)
   |(cases q;exact .refl h)
 |call f args=>simp[c_] at q
 |bad=>simp[c_] at q
 |_=>first|exact absurd rfl h0|exact absurd rfl h1|exact absurd rfl y
section
variable{F:Nat->Option cV}{ih:aG->Env->az->R}
def iq(ih:aG->Env->az->R):Prop:=∀c e h x e' h',ih c e h=some (x,e',h')->eO h h'
def FY(A:iq ih)(q:su F ih f args h=some (v,h')):eO h h':=by
 unfold su mW at q;split at q;cases q
 .split at q;cases q;rename_i u _;exact u _ _ _ _ q;split at q
  all_goals first
   |(cases q;done)
   |(rename_i y
     split at q;rename_i vs _;cases C:fZ vs<;>simp only[C,kA,xY] at q<;>cases q;exact A _ _ _ _ _ _ y;cases q)
def BN{l:Nat}{x:oZ}(u:h.tr.get l=some x)(q:Env)(ps:List Nat)(asg body:aG)(st:Tc):eO h (fT h l q ps asg body st):=
 eO.other l h.clock (fh _) ⟨x,u⟩ (fun _ _ _ _ e=>by cases e) (fun e=>by cases e)
def ON{l:Nat}{b:Bool}(q:lY l h st b=some (v,h')):eO h h':=by unfold lY at q;split at q;rename_i u;cases q;exact BN u ..;cases q
def OO(u:iq ih){l:Nat}(q:rJ ih l args h=some (v,h')):eO h h':=by
 unfold rJ at q;split at q
 .split at q;cases q
  .split at q
   .rename_i A;refine(u _ _ _ _ _ _ A).trans ?_;unfold wH at q;split at q
    .rename_i C;split at q
     all_goals first
      |(cases q;done)
      |(rename_i y;exact(BN C _ _ _ _ _).trans ((u _ _ _ _ _ _ y).trans (ON q)))
    cases q
   cases q
 cases q
def P9(u:iq ih)(q:e_ F ih fv args h=some (v,h')):eO h h':=by unfold e_ at q;split at q;rcases H8 q with q|⟨_,_,_,q⟩;exact FY u q;rw[(MF q).2.1];exact .refl h;exact OO u q;cases q
def zO(y:iq ih){o:bX}(q:dM F ih o e h=some (e',h')):eO h h':=by unfold dM at q;cases A:wanted e o.guard<;>simp only[A,kA,xY] at q;cases q;exact .refl h;split at q;split at q;rename_i u;cases q;exact P9 y u;cases q;split at q;rename_i u;cases q;exact YV u;cases q
def Jn(u:iq ih):∀(l:List bX){e e':Env}{h h':az},xu F ih l e h=some (e',h')->eO h h'
 |[],_,_,_,_,q=>by simp only[xu] at q;cases q;exact .refl _
 |o::r,_,_,_,_,q=>by simp only[xu] at q;split at q;rename_i y;exact(zO u y).trans (Jn u r q);cases q
def Gb(u:iq ih)(c:Nat):∀(l:List (bX×List Nat)){e e':Env}{h h':az},kP F ih c l e h=some (e',h')->eO h h'
 |[],_,_,_,_,q=>by simp only[kP] at q;cases q;exact .refl _
 |(o,nZ)::r,_,_,_,_,q=>by simp only[kP] at q;split at q;rename_i A h1 y;cases C:still A h1 c nZ<;>simp only[C,kA,xY] at q;cases q;exact(zO u y).trans (Gb u c r q);cases q
def Si(y:iq ih):iq (cX F ih):=by
 intro c e h x e' h' u;cases c with
 |skip|exit|ret=>simp only[cX] at u;cases u;exact .refl h
 |ops l=>
  simp only[cX] at u;split at u;rename_i A;cases u;exact Jn y l A;cases u
 |draw l=>
  simp only[cX] at u;split at u;rename_i A;cases u;have h1:eO h {h with clock:=h.clock+1} :=⟨fh _,Nat.le_succ _,fun _ _ _ _ _ _ q _=>q,id,fun _ _ q=>q⟩;exact h1.trans (Gb y _ l A)
  cases u
 |seq a b=>
  simp only[cX] at u;split at u;rename_i A;exact(y _ _ _ _ _ _ A).trans (y _ _ _ _ _ _ u);exact y _ _ _ _ _ _ u
 |cond q a b=>
  simp only[cX] at u;split at u;exact y _ _ _ _ _ _ u;exact y _ _ _ _ _ _ u;cases u
 |block id a=>
  simp only[cX] at u;split at u;rename_i i _ _ A;cases J:Nat.beq i id<;>simp only[J,kA,xY] at u<;>cases u<;>exact y _ _ _ _ _ _ A;exact y _ _ _ _ _ _ u
 |loop a=>
  simp only[cX] at u;split at u;rename_i A;exact(y _ _ _ _ _ _ A).trans (y _ _ _ _ _ _ u);exact y _ _ _ _ _ _ u
 |Ko f G C body=>
  simp only[cX] at u;split at u
  .split at u
   .rename_i I;have h1:=(eO.new h (.loop e G C body .ready)).trans (FY y I);split at u
    all_goals first
     |(cases u;done)
     |(cases u;exact h1.trans (eO.del _ _))
   cases u
  cases u
 |bad=>simp[cX] at u
def ZD:∀q,iq (run F q):=by
 intro q;induction q with
 |zero=>intro c e h x e' h' y;cases y
 |succ m u=>exact Si u
end
def Na(P:Program)(T:ta)(ng:Nat)(dr:tB)(F:Nat->Option cV):Prop:=
 ∀(ih:aG->Env->az->R),iq ih->wO P T ng dr ih->∀(n:Nat)(ops:Array Oper)(e:Env)(h:az)(e':Env)(h':az),kP F ih h.clock (dr n ops.toList) e {h with clock:=h.clock+1} =some (e',h')->∀(q:Bool)(t:Nat)(ρ:fJ)(w:World)(a:Act)(b:Frame)(k:List Item)(cs:List Frame),eM (ik T ng dr) ρ h w->dX ng ρ->ER ρ e a.tmps->n<=a.tmps.size->∃ρ' w' u,Steps P (lone (on b a (.inRegion ops (Region.schedule q ops t)::k)) cs w) (lone (on b u (.inRegion ops []::k)) cs w')/\eM (ik T ng dr) ρ' h' w'/\ER ρ' e' u.tmps/\u.tmps.size=a.tmps.size/\u.defers=a.defers/\Ext ρ h w ρ' h' w'
def CS{m u t:Machine}(h:Steps P m t)(y:step P m=.next u)(A:t≠m):Steps P u t:=by
 obtain⟨n,q⟩:=h;cases n with
 |zero=>simp only[runN] at q;cases q;exact absurd rfl A
 |succ n=>simp only[runN,y] at q;exact⟨n,q⟩
def Yz{b q:Frame}{cs y:List Frame}(h:lone b cs w=lone q y w'):b.todo=q.todo:=by have u:=congrArg (fun m:Machine=>(m.gs[0]?).map (fun g=>g.frame.todo)) h;simpa [lone] using u
section
variable{P:Program}{T:ta}{ng:Nat}{dr:tB}{F:Nat->Option cV}{ih:aG->Env->az->R}
def eM.hidden(S:eM CC ρ h w)(o:Obj):eM CC ρ h (w.alloc o)/\Ext ρ h w ρ h (w.alloc o):=by
 have G:(w.alloc o).heap.size=w.heap.size+1:=Array.size_push _;have u:∀k,k<w.heap.size->(w.alloc o).heap[k]?=w.heap[k]? :=by intro k A;show(w.heap.push o)[k]?=_;rw[Array.getElem?_push,bU ab]
 refine⟨⟨fun b r q=>⟨(S.low b r q).1,av ((S.low b r q).2)⟩,fun b r x q y=>iT.mono ρ.le_refl (u _ (S.low b r q).2) (S.obj b r x q y),S.inj,S.wf⟩,⟨ρ.le_refl,fh _,ab,rfl,rfl,rfl,fun k A _=>u k A,fun b r q C=>.inr ⟨b,r,q,C,rfl⟩,fun b r h h'=>(by rw[h] at h';cases h'),fun b r x q y=>.inr ⟨b,r,x,q,y,rfl⟩⟩⟩
def HK(w:World)(o:Obj):(w.alloc o).heap.size=w.heap.size+1:=Array.size_push _
def Bo.same(S:eM CC ρ h w)(u:ER ρ e a.tmps)(q:C8 B ρ h w a.defers):Bo CC B ρ h w a ρ e h w a:=
 ⟨S,u,rfl,.refl ρ h w,q⟩
def Bo.trans{CC:dx}{B:Nat}{ρ C I:fJ}{J e2:Env}{h h1 A:az}{w q G:World}{a u a2:Act}(x:Bo CC B ρ h w a C J h1 q u)(y:Bo CC B C h1 q u I e2 A G a2):Bo CC B ρ h w a I e2 A G a2:=⟨y.S8,y.er,y.size.trans x.size,x.ext.trans y.ext,y.defs⟩
def VR.fnv{g:FuncId}{first caps:Array Value}{c:Value}(h:VR ρ (.func (.func g) first caps) c):∃l m,first= #[]/\caps=⟨l⟩/\c=.func (.func g) #[] ⟨m⟩/\All2 (CR ρ) l m:=by
 cases h with
 |val h=>cases h with
  |cell h=>cases h with
   |cell h=>cases h
   |fn g h=>exact⟨_,_,rfl,rfl,rfl,h⟩
def eM.off(S:eM CC ρ h w){r:BS}{o:oZ}(W:ρ b=some r)(ho:h.tr.get b=some o)(J:o.rw=true)(C:At1 r.bZ w w'):eM CC ρ {h with tr:=h.tr.del b} w'/\Ext ρ h w ρ {h with tr:=h.tr.del b} w':=by
 have Y:fI h b:=⟨o,ho,J⟩;have G:∀x p,({h with tr:=h.tr.del b} :az).tr.get x=some p->x≠b/\h.tr.get x=some p:=by intro x p q;simp only[Tr.kE] at q;by_cases e:x=b;rw[bM e] at q;cases q;rw[bU e] at q;exact⟨e,q⟩
 have U:∀x,fI {h with tr:=h.tr.del b} x->fI h x:=fun x ⟨p,u,K⟩=>⟨p,(G x p u).2,K⟩;refine⟨⟨fun x A q=>⟨(S.low x A q).1,by rw[C.size];exact(S.low x A q).2⟩,?_,?_,fun x p u=>S.wf x p (G x p u).2⟩,⟨ρ.le_refl,fh _,Nat.le_of_eq C.size.symm,C.os,C.tape,C.output,?_,?_,?_,?_⟩⟩;intro x A p q u;obtain⟨M,u⟩:=G x p u;exact iT.mono ρ.le_refl (C.other _ (S.inj b x r A p W q Y u (Ne.symm M)).symm) (S.obj x A p q u);intro x y A ry p q hy I u M;exact S.inj x y A ry p q hy (U x I) (G y p u).2 M;intro k _ Z;exact C.other k (fun e=>Z b r W Y e.symm);intro x A q I;exact .inr ⟨x,A,q,U x I,rfl⟩;intro x A h1 O;rw[h1] at O;cases O;intro x A p q u;exact .inr ⟨x,A,p,q,(G x p u).2,rfl⟩
def Wb{r:Nat}(u:w.heap[r]?=some (.deferred (some [])))(q:Pz ρ h r)(E:Ext ρ h w ρ' h' w'):w'.heap[r]?=some (.deferred (some []))/\Pz ρ' h' r:=by have y:=HR u;refine⟨?_,q.ext E y⟩;rw[E.xj r y,u];rintro x C G⟨o,A,_⟩;exact q x C o G A
def Zp(hF:GO P T ng dr F)(hT:eE P T)(hI:wO P T ng dr ih){f:Operand}{ps:Array Tmp}{asg body:Code}(avO:cS ng f=true)(ju:ps.toList.all (Nat.blt · n)=true)(Wr:jO asg=true)(Ug:jO body=true){x:bK}(C:cX F ih (.Ko f ps.toList (dv T ng n dr asg) (dv T ng n dr body)) e h=some (x,e',h'))(b:Frame)(k:List Item)(cs:List Frame)(S:eM (ik T ng dr) ρ h w)(hG:dX ng ρ)(hE:ER ρ e a.tmps)(hn:n<=a.tmps.size)(hB:B<=w.heap.size)(hD:C8 B ρ h w a.defers)(I:b.roundOf=none):∃ρ' w' a',Kr P b k cs (lone (on b a (.code (.rangeFunc f ps asg body)::k)) cs w) x a' w'/\Bo (ik T ng dr) B ρ h w a ρ' e' h' w' a':=by
 simp only[cX] at C;split at C
 .rename_i g first caps hev
  have hvf:=hE.eval hG avO;rw[hev] at hvf;obtain⟨l,m,rfl,rfl,hcf,hlm⟩:=hvf.fnv;split at C
  .rename_i v h1 QA;obtain⟨S1,E1⟩:=S.hidden (.deferred (some []))
   let L:Loop:= { state:=.ready,pending:=none,fn:=b.fn,tmps:=a.tmps,params:=ps,assign:=asg,body:=body,defers:=w.heap.size }
   let u:BS:= { bZ:=w.heap.size+1,base:=0,len:=0,Jm:=0,room:=0 }
   have fO:iT (ik T ng dr) (jU ρ h.aw u) u (.loop e ps.toList (dv T ng n dr asg) (dv T ng n dr body) .ready) ((w.alloc (.deferred (some []))).alloc (.loop L)):=by refine⟨L,?_,hE.mono (vN S.fresh),rfl,⟨n,hn,rfl,Wr⟩,⟨n,hn,rfl,Ug⟩,?_,rfl,rfl⟩;show((w.alloc (.deferred (some []))).heap.push (.loop L))[w.heap.size+1]?=_;rw[<-HK w (.deferred (some [])),Array.getElem?_push,bM rfl];intro t ht;have:=List.all_eq_true.1 ju t ht;exact Kf (xQ.1 this) hn
   obtain⟨S2,E2⟩:=S1.add (im:=u) (HK w _).symm fO;have M:=E1.trans E2;have Wi:=hG.mono M.le;have Kg:jU ρ h.aw u h.aw=some u:=by simp[jU]
   have py:All2 (VR (jU ρ h.aw u)) ([]++[.func (.yield h.aw) #[] #[]]++l) ([.func (.yield (w.heap.size+1)) #[] #[]]++m):=by refine All2.cons (.val (.cell (.yield Kg))) ?_;exact hlm.mono fun _ _ q=>(q.mono M.le).vr
   have aiR:su F ih g ([]++[.func (.yield h.aw) #[] #[]]++l) (h.new (.loop e ps.toList (dv T ng n dr asg) (dv T ng n dr body) .ready))=some (v,h1):=QA
   let a2:Act:= {a with defers:=mark w.heap.size::a.defers}
   let bb:Frame:=on b a2 (.inRangeFunc (w.heap.size+1)::k)
   obtain⟨fn,W,w3,c,fr,q1,q2,q3,q4,q5,q6,q7,q8,q9⟩:=zv hF hT hI aiR S2 Wi py (bb::cs);have eN:=Qa (P:=P) (ρ:=a.eval) (w:=(w.alloc (.deferred (some []))).alloc (.loop L)) (args:= #[.const (.func (.yield (w.heap.size+1)) #[] #[])]) (ats:= #[]) (ty:=0) hcf q1 q2 q3;have Me:=apW (P:=P) (b:=b) (a:=a) (k:=k) (cs:=cs) (w:=w) (f:=f) (ps:=ps) (asg:=asg) (body:=body) I eN;have aiP:(#[]++(#[Operand.const (.func (.yield (w.heap.size+1)) #[] #[])]:Array Operand).map a.eval++⟨m⟩:Array Value)=⟨[.func (.yield (w.heap.size+1)) #[] #[]]++m⟩:=by apply Array.ext';simp[Act.eval]
   rw[aiP] at Me;have aoM:Steps P (lone (on b a (.code (.rangeFunc f ps asg body)::k)) cs w) (lone (on b a2 (.endRangeFunc (w.heap.size+1)::k)) cs w3):=by refine .head Me (q4.trans (.one ?_));rw[step_leave_returned q6];rfl
   have E03:=M.trans q9;have hl3:W h.aw=some u:=q9.le _ _ Kg;have hDn:C8 B W h1 w3 a2.defers:=by
    obtain⟨rs,h4,h5,h6⟩:=hD;have Uf:∀r∈rs,r<w.heap.size:=fun r I=>HR (h6 r I).2.1;refine⟨w.heap.size::rs,by simp[a2,h4],List.nodup_cons.2 ⟨fun hm=>av (Uf _ hm),h5⟩,?_⟩;intro r I;rcases List.mem_cons.1 I with rfl|I
    .have ai0:Pz (jU ρ h.aw u) (h.new (.loop e ps.toList (dv T ng n dr asg) (dv T ng n dr body) .ready)) w.heap.size:=by intro y ry o hy _ he;unfold jU at hy;by_cases hyn:y=h.aw;rw[bM hyn] at hy;cases hy;simp[u] at he;rw[bU hyn] at hy;have:=(S.low y ry hy).2;omega
     refine⟨hB,Wb ?_ ai0 q9⟩;show((w.heap.push (.deferred (some []))).push (.loop L))[w.heap.size]?=_;rw[Array.getElem?_push,bU ae,Array.getElem?_push,bM rfl]
    exact⟨(h6 r I).1,Wb (h6 r I).2.1 (h6 r I).2.2 E03⟩
   have O:∀(XA:Env)(A:List Nat)(Z LA:aG)(st:Tc),h1.tr.get h.aw=some (.loop XA A Z LA st)->st≠ .busy->∃w',(∃G:Loop,Nb st G/\Steps P (lone (on b a (.code (.rangeFunc f ps asg body)::k)) cs w) (lone (on b a2 ((G.pending.map Item.code).toList++k)) cs w'))/\Bo (ik T ng dr) B ρ h w a W e {h1 with tr:=h1.tr.del h.aw} w' a2:=by
    intro XA A Z LA st K Ho;obtain⟨G,Ue,hE3,hp3,hc3,hc4,aor,U⟩:=q8.obj h.aw u _ hl3 K;have avD:(G.state==.busy)=false:=by
     cases st with
     |ready=>rw[U.1];rfl
     |busy=>exact absurd rfl Ho
     |done j=>cases j<;>(rw[U.1];rfl)
    have Gm:=adA (P:=P) (b:=b) (a:=a2) (k:=k) (cs:=cs) Ue avD;obtain⟨S4,E4⟩:=q8.off hl3 K rfl (At1.obj u.bZ (.loop {G with state:=.exhausted}));have Y:=E03.trans E4;exact⟨_,⟨G,U,aoM.trans (.one Gm)⟩,⟨S4,hE.mono Y.le,rfl,Y,hDn.ext E4⟩⟩
   split at C;rename_i XA A Z LA K;cases C;obtain⟨w',⟨G,hj,J⟩,hA⟩:=O _ _ _ _ _ K ae;refine⟨W,w',a2,?_,hA⟩;rw[hj.2] at J;exact J;rename_i XA A Z LA K;cases C;obtain⟨w',⟨G,hj,J⟩,hA⟩:=O _ _ _ _ _ K ae;refine⟨W,w',a2,⟨k,?_⟩,hA⟩;rw[hj.2] at J;exact J;rename_i XA A Z LA id K;cases C;obtain⟨w',⟨G,hj,J⟩,hA⟩:=O _ _ _ _ _ K ae;refine⟨W,w',a2,⟨k,?_,rfl⟩,hA⟩;rw[hj.2] at J;exact J;cases C
  cases C
 cases C
end
section
variable{P:Program}{T:ta}{ng:Nat}{dr:tB}{F:Nat->Option cV}{ih:aG->Env->az->R}
def ady{y:bK×Env×az}(q:cX F ih .bad e h=some y):False:=by simp[cX] at q
def Ot{b:Frame}{a u:Act}{cs:List Frame}{t q:List Item}(h:t≠q):lone (on b a t) cs w≠lone (on b u q) cs w':=by intro e;exact h (Yz e)
def Sj(hF:GO P T ng dr F)(hT:eE P T)(hD:Na P T ng dr F)(hK:iq ih)(hI:wO P T ng dr ih):wO P T ng dr (cX F ih):=by
 intro n c;induction c with
 |skip=>
  intro e h x e' h' u B ρ w a b k cs S G A J U C W;simp only[dv,cX,mL,Aj] at u;obtain⟨rfl,rfl,rfl⟩:=u;exact⟨ρ,w,a,.one akv,.same S A C⟩
 |label l=>
  intro e h x e' h' u B ρ w a b k cs S G A J U C W;simp only[dv,cX,mL,Aj] at u;obtain⟨rfl,rfl,rfl⟩:=u;exact⟨ρ,w,a,.one agf,.same S A C⟩
 |region id ops draw=>
  intro e h x e' h' u B ρ w a b k cs S G A J U C W;cases draw with
  |false=>
   simp only[dv,cX] at u;split at u;rename_i e1 h1 Z;cases u;obtain⟨M,I,K,s1,S1,E1,z1,d1,X1⟩:=UX hF hT hI b k cs ops.size 0 ab e e' h h' Z ρ w a S G A J;refine⟨M,I,K,?_,⟨S1,E1,z1,X1,by rw[d1];exact C.ext X1⟩⟩;rw[<-List.range_eq_range'] at s1;exact Steps.head adC (Steps.trans s1 (.one Ej));cases u
  |true=>
   simp only[dv,cX] at u;split at u;rename_i e1 h1 Z;cases u;obtain⟨M,I,K,s1,S1,E1,z1,d1,X1⟩:=hD ih hK hI n ops e h e' h' Z (P.follows .mixedOrders) (w.tape w.drawn (.order b.fn id)) ρ {w with drawn:=w.drawn+1} a b k cs (S.drawn _) G A J;have X:=(Ext.drawn (ρ:=ρ) (h:=h) (w:=w) (w.drawn+1)).trans X1;refine⟨M,I,K,?_,⟨S1,E1,z1,X,by rw[d1];exact C.ext X⟩⟩;exact Steps.head akt (Steps.trans s1 (.one Ej))
   cases u
 |seq c1 c2 _ _=>
  intro e h x e' h' u B ρ w a b k cs S G A J U C W;have yE:b.roundOf=none\/jO c1=true:=W.imp_right fun q=>by simp only[jO,oD] at q;exact q.1
  have SS:b.roundOf=none\/jO c2=true:=W.imp_right fun q=>by simp only[jO,oD] at q;exact q.2
  simp only[dv,cX] at u;split at u;rename_i e1 h1 Z;obtain⟨M,I,K,O,y⟩:=hI n c1 e h _ e1 h1 Z B ρ w a b (.code c2::k) cs S G A J U C yE;obtain⟨ρ2,w2,a2,g2,A2⟩:=hI n c2 e1 h1 _ e' h' u B M I K b k cs y.S8 (G.mono y.ext.le) y.er (by rw[y.size];exact J) (sx U y.ext.size) y.defs SS;exact⟨ρ2,w2,a2,Kr.of_steps (.head adD O) g2,y.trans A2⟩
  .rename_i eQ;obtain⟨M,I,K,O,y⟩:=hI n c1 e h _ e' h' u B ρ w a b (.code c2::k) cs S G A J U C yE;refine⟨M,I,K,?_,y⟩;cases x with
   |normal=>exact absurd u (eQ e' h')
   |exit id=>
    obtain⟨Y,h1,h2⟩:=O;exact⟨Y,.head adD h1,h2.trans rfl⟩
   |ret=>
    obtain⟨Y,h1⟩:=O;exact⟨Y,.head adD h1⟩
 |cond c c1 c2 _ _=>
  intro e h x e' h' u B ρ w a b k cs S G A J U C W;have yE:b.roundOf=none\/jO c1=true:=W.imp_right fun q=>by simp only[jO,oD] at q;exact q.1
  have SS:b.roundOf=none\/jO c2=true:=W.imp_right fun q=>by simp only[jO,oD] at q;exact q.2
  simp only[dv] at u;cases Z:cS ng c with
  |false=>rw[Z] at u;exact(ady u).elim
  |true=>
   simp only[Z,kA,cX] at u;have hv:=A.eval G Z;split at u
   rename_i hev;rw[hev] at hv;obtain⟨M,I,K,O,y⟩:=hI n c1 e h _ e' h' u B ρ w a b k cs S G A J U C yE;exact⟨M,I,K,Kr.of_steps (.one (adz hv.nQ)) O,y⟩;rename_i hev;rw[hev] at hv;obtain⟨M,I,K,O,y⟩:=hI n c2 e h _ e' h' u B ρ w a b k cs S G A J U C SS;exact⟨M,I,K,Kr.of_steps (.one (adz hv.nQ)) O,y⟩;cases u
 |block id c _=>
  intro e h x e' h' u B ρ w a b k cs S G A J U C W;simp only[dv,cX] at u;split at u
  .rename_i i e1 h1 Z;obtain⟨M,I,K,O,y⟩:=hI n c e h _ e1 h1 Z B ρ w a b (.inBlock id::k) cs S G A J U C W;obtain⟨Y,q1,q2⟩:=O;cases hi:Nat.beq i id with
   |true=>
    have:=rz hi;subst this;simp only[hi,kA,mL,Aj] at u;obtain⟨rfl,rfl,rfl⟩:=u;refine⟨M,I,K,?_,y⟩;refine Steps.head Hy (q1.trans (.one (aku ?_)));rw[q2];simp[exitTo]
   |false=>
    simp only[hi,xY,mL,Aj] at u;obtain⟨rfl,rfl,rfl⟩:=u;refine⟨M,I,K,⟨Y,.head Hy q1,?_⟩,y⟩;rw[q2];have:(id==i)=false:=by
     cases hx:id==i with
     |false=>rfl
     |true=>
      have:=eq_of_beq hx;subst this;rw[Nat.beq_refl] at hi;cases hi
    simp[exitTo,this]
  .rename_i eQ;obtain⟨M,I,K,O,y⟩:=hI n c e h _ e' h' u B ρ w a b (.inBlock id::k) cs S G A J U C W;refine⟨M,I,K,?_,y⟩;cases x with
   |normal=>exact Steps.head Hy (Steps.trans O (.one ZI))
   |exit i=>exact absurd u (eQ i e' h')
   |ret=>
    obtain⟨Y,h1⟩:=O;exact⟨Y,.head Hy h1⟩
 |loop c _=>
  intro e h x e' h' u B ρ w a b k cs S G A J U C W;simp only[dv,cX] at u;split at u
  .rename_i e1 h1 Z;obtain⟨M,I,K,O,y⟩:=hI n c e h _ e1 h1 Z B ρ w a b (.inLoop c::k) cs S G A J U C W;obtain⟨ρ2,w2,a2,g2,A2⟩:=hI n (.loop c) e1 h1 _ e' h' u B M I K b k cs y.S8 (G.mono y.ext.le) y.er (by rw[y.size];exact J) (sx U y.ext.size) y.defs W;refine⟨ρ2,w2,a2,?_,y.trans A2⟩;have Oh:Steps P (lone (on b a (.code (.loop c)::k)) cs w) (lone (on b K (.code c:: .inLoop c::k)) cs I):=.head OR (Steps.trans O (.one adB));refine Kr.of_steps Oh ?_;have hs:=OR (P:=P) (b:=b) (a:=K) (k:=k) (cs:=cs) (w:=I) (c:=c);cases x with
   |normal=>exact CS g2 hs (Ot fun q=>by have:=congrArg List.length q;simp at this)
   |exit i=>
    obtain⟨Y,q1,q2⟩:=g2;exact⟨Y,CS q1 hs (Ot fun q=>by cases q),q2⟩
   |ret=>
    obtain⟨Y,q1⟩:=g2;exact⟨Y,CS q1 hs (Ot fun q=>by cases q)⟩
  .rename_i eQ;obtain⟨M,I,K,O,y⟩:=hI n c e h _ e' h' u B ρ w a b (.inLoop c::k) cs S G A J U C W;refine⟨M,I,K,?_,y⟩;cases x with
   |normal=>exact absurd u (eQ e' h')
   |exit id=>
    obtain⟨Y,h1,h2⟩:=O;exact⟨Y,.head OR h1,h2.trans rfl⟩
   |ret=>
    obtain⟨Y,h1⟩:=O;exact⟨Y,.head OR h1⟩
 |scope c ihc=>
  intro e h x e' h' u B ρ w a b k cs S G A J U C W;simp only[dv] at u;obtain⟨M,I,K,O,y⟩:=ihc e h x e' h' u B ρ w a b (.inScope c::k) cs S G A J U C W;refine⟨M,I,K,?_,y⟩;cases x with
  |normal=>exact Steps.head OU (Steps.trans O (.one ZL))
  |exit id=>
   obtain⟨Y,h1,h2⟩:=O;exact⟨Y,.head OU h1,h2.trans rfl⟩
  |ret=>
   obtain⟨Y,h1⟩:=O;exact⟨Y,.head OU h1⟩
 |exit id=>
  intro e h x e' h' u B ρ w a b k cs S G A J U C W;simp only[dv,cX,mL,Aj] at u;obtain⟨rfl,rfl,rfl⟩:=u;exact⟨ρ,w,a,⟨k,Steps.refl P _,rfl⟩,.same S A C⟩
 |ret=>
  intro e h x e' h' u B ρ w a b k cs S G A J U C W;simp only[dv,cX,mL,Aj] at u;obtain⟨rfl,rfl,rfl⟩:=u;exact⟨ρ,w,a,⟨k,Steps.refl P _⟩,.same S A C⟩
 |rangeFunc f ps asg body _ _=>
  intro e h x e' h' u B ρ w a b k cs S G A J U C W;simp only[dv] at u;cases fO:(cS ng f&&ps.toList.all (Nat.blt · n)&&jO asg&&jO body) with
  |false=>rw[fO] at u;exact(ady u).elim
  |true=>
   rw[fO] at u;simp only[oD] at fO;obtain⟨⟨⟨h1,h2⟩,h3⟩,h4⟩:=fO;have hrn:b.roundOf=none:=by rcases W with q|q;exact q;simp[jO] at q
   exact Zp hF hT hI h1 h2 h3 h4 u b k cs S G A J U C hrn
 |_=>
  intro e h x e' h' u;exact(ady u).elim
def ZE(G:GO P T ng dr F)(y:eE P T)(C:Na P T ng dr F):∀q,wO P T ng dr (run F q):=by
 intro q;induction q with
 |zero=>intro n c e h x e' h' A;cases A
 |succ m u=>exact Sj G y C (ZD m) u
end
def iD(md:Region.Mode)(o:Oper):List Nat:=(o.after.toList.filter (Region.binds md)).map (·.on)
def pass:List (List Nat)->Nat->Nat->Nat
 |[],_,q=>q
 |e::r,i,q=>pass r (i+1) (bif e.all (Nat.testBit q) then q ||| (1 <<< i) else q)
def af2(u:Nat)(es:List (List Nat)):Nat->Nat->Bool
 |0,_=>false
 |f+1,q=>bif Nat.beq q u then true else af2 u es f (pass es 0 q)
def CT(md:Region.Mode)(ops:List Oper):Bool:=af2 (2^ops.length-1) (ops.map (iD md)) (ops.length+1) 0
def V0{q i j:Nat} :Nat.testBit (q ||| (1 <<< i)) j=true↔Nat.testBit q j=true\/j=i:=by rw[Nat.testBit_or,Bool.or_eq_true,Nat.one_shiftLeft,Nat.testBit_two_pow,decide_eq_true_eq];exact⟨Or.imp_right Eq.symm,Or.imp_right Eq.symm⟩
def Js{D:Nat->Prop} :∀(es:List (List Nat))(i u:Nat),(∀j e,es[j]?=some e->(∀k∈e,D k)->D (i+j))->(∀k,Nat.testBit u k=true->D k)->∀k,Nat.testBit (pass es i u) k=true->D k
 |[],_,_,_,y=>y
 |e::r,i,u,G,y=>by refine Js r (i+1) _ (fun j e' J A=>by have:=G (j+1) e' (aj J) A;rwa [EV,Nat.add_comm 1 j]) ?_;intro k A;cases C:e.all (Nat.testBit u)<;>simp only[C,kA,xY] at A;exact y k A;rcases V0.1 A with h|rfl;exact y k h;exact G 0 e rfl fun q I=>y q (List.all_eq_true.1 C q I)
def Jt{D:Nat->Prop}{u:Nat}{es:List (List Nat)}(C:∀j e,es[j]?=some e->(∀k∈e,D k)->D j):∀(f q:Nat),af2 u es f q=true->(∀k,Nat.testBit q k=true->D k)->∀k,Nat.testBit u k=true->D k
 |0,_,h,_=>by cases h
 |f+1,q,h,y=>by
  simp only[af2] at h;cases A:Nat.beq q u with
  |true=>rw[rz A] at y;exact y
  |false=>
   rw[A] at h;exact Jt C f _ h (Js es 0 q (fun j e I G=>by rw[Hj];exact C j e I G) y)
def Vv{ops:List Oper}(h:CT md ops=true)(I:∀(j:Nat)(o:Oper),ops[j]?=some o->(∀k∈iD md o,D k)->D j):∀k,k<ops.length->D k:=by
 intro k C;refine Jt (D:=D) (fun j e u A=>?_) _ _ h (fun q G=>by simp at G) k ?_
 .rw[js] at u;cases y:ops[j]? with
  |none=>rw[y] at u;cases u
  |some o=>rw[y] at u;cases u;exact I j o y A
 rw[Nat.testBit_two_pow_sub_one];simpa using C
inductive Ord(ops:Array Oper):(Nat->Prop)->List Nat->Prop
 |nil {D:Nat->Prop} (h:∀i,i<ops.size->D i):Ord ops D []
 |cons {D:Nat->Prop} {i:Nat} {L:List Nat} {o:Oper} (ho:ops[i]?=some o) (hn:¬D i) (he:∀k∈iD .any o,D k) (hl:Ord ops (fun j=>D j\/j=i) L):Ord ops D (i::L)
def Xx(h:k∈iD .any o):k∈iD md o:=by unfold iD at h⊢;simp only[jo,Ai] at h⊢;obtain⟨e,⟨h1,q⟩,u⟩:=h;refine⟨e,⟨h1,?_⟩,u⟩;unfold Region.binds at q⊢;split at q<;>simp_all
def aim(ht:CT md ops.toList=true):∀(u t:Nat)(q:Array Bool)(D:Nat->Prop),q.size=ops.size->(∀i,D i↔q.getD i false=true)->q.toList.count false=u->Ord ops D (Region.linearise.go md ops u t q []):=by
 intro u;induction u with
 |zero=>
  intro t q D hs C O;refine .nil fun i M=>(C i).2 ?_;have U:i<q.size:=ab
  rw[List.count_eq_zero] at O;cases G:q[i] with
  |true=>simp[Array.getD,U,G]
  |false=>exact absurd (Array.mem_toList_iff.2 (G▸Array.getElem_mem U)) O
 |succ f Y=>
  intro t q D hs C O;simp only[Region.linearise.go];generalize SU:((List.range ops.size).filter fun i=> !q.getD i true&&((ops[i]?).map (·.after.all fun e=> !Region.binds md e||q.getD e.on false)).getD false)=rs;have Bk:∀i,i∈rs↔i<ops.size/\q.getD i true=false/\((ops[i]?).map (·.after.all fun e=> !Region.binds md e||q.getD e.on false)).getD false=true:=by intro i;rw[<-SU];simp[and_assoc]
  have eQ:rs≠[]:=by
   intro W;have pq:∀k,k<ops.toList.length->D k:=by
    refine Vv ht fun j o I Z=>?_;have K:ops[j]?=some o:=aj I
    have U:j<ops.size:=(Array.getElem?_eq_some_iff.1 K).1;cases G:q.getD j true with
    |true=>
     refine(C j).2 ?_;have ai9:j<q.size:=ab
     simpa [Array.getD,ai9] using G
    |false=>
     have:j∈rs:=by
      refine(Bk j).2 ⟨U,G,?_⟩;rw[K];simp only[Cx,Option.getD_some,Array.all_eq_true'];intro e he;cases hb:Region.binds md e with
      |false=>rfl
      |true=>
       refine(C e.on).1 (Z e.on ?_);unfold iD;simp only[jo,Ai];exact⟨e,⟨aj he,hb⟩,rfl⟩
     rw[W] at this;cases this
   have:q.toList.count false=0:=by
    rw[List.count_eq_zero];intro hm;obtain⟨i,M,G⟩:=List.getElem_of_mem hm;have G9:i<q.size:=aj M
    have:=(C i).1 (pq i (by simp;omega));simp[Array.getD,G9] at this;simp at G;rw[this] at G;cases G
   omega
  have dJ:0<rs.length:=List.length_pos_iff.2 eQ;have fq:rs[t%rs.length]?=some (rs[t%rs.length]'(Nat.mod_lt _ dJ)):=g_ _;rw[fq];dsimp only;generalize M:rs[t%rs.length]'(Nat.mod_lt _ dJ)=i;have Oe:i∈rs:=M▸Be _;obtain⟨h1,h2,h3⟩:=(Bk i).1 Oe;rw[linearise_go_acc,List.reverse_singleton,List.singleton_append];have ho:ops[i]?=some ops[i]:=Array.getElem?_eq_getElem h1;have y:i<q.size:=ab
  have J:q[i]=false:=by simpa [Array.getD,y] using h2
  refine .cons ho ?_ ?_ (Y _ _ _ (au hs) ?_ ?_);intro hd;have:=(C i).1 hd;simp[Array.getD,y,J] at this
  intro k Z;rw[ho] at h3;simp only[Cx,Option.getD_some,Array.all_eq_true'] at h3;have E7:=Xx (md:=md) Z;unfold iD at E7;simp only[jo,Ai] at E7;obtain⟨e,⟨q1,q2⟩,q3⟩:=E7;have:=h3 e (aj q1);rw[q2] at this;rw[<-q3];exact(C e.on).2 (aj this)
  .intro j;constructor;rintro(I|rfl);have:=(C j).1 I;by_cases A:j=i;subst A;simp[Array.getD,y];simp only[Array.getD_eq_getD_getElem?] at this⊢;rw[Array.getElem?_setIfInBounds_ne (Ne.symm A)];exact this;simp[Array.getD,y]
   intro I;by_cases A:j=i;exact .inr A;refine .inl ((C j).2 ?_);simp only[Array.getD_eq_getD_getElem?] at I⊢;rwa [Array.getElem?_setIfInBounds_ne (Ne.symm A)] at I
  rw[Array.toList_setIfInBounds,List.count_set (aj y)];simp[J,O]
def OX(h0:CT .any ops.toList=true)(h1:CT .text ops.toList=true)(u:CT .gc ops.toList=true)(q:Bool)(t:Nat):Ord ops (fun _=>False) (Region.schedule q ops t):=by
 have key:∀(md:Region.Mode)(t:Nat),CT md ops.toList=true->Ord ops (fun _=>False) (Region.linearise md ops t):=by intro md t y;refine aim y _ _ _ _ ae (fun i=>?_) ae;simp[Array.getD_eq_getD_getElem?,Array.getElem?_replicate];split<;>simp
 unfold Region.schedule;split;exact key _ _ h0;split;exact key _ _ h1;exact key _ _ u
def I5(A:Tr Nat):List Nat->Nat
 |[]=>0
 |j::r=>(I5 A r ||| (1 <<< j)) ||| (Tr.get A j).getD 0
def Bt:List Oper->Nat->Tr Nat->Tr Nat
 |[],_,A=>A
 |o::r,i,A=>Bt r (i+1) (A.set i (I5 A (iD .any o)))
def yK(A:Tr Nat)(j i:Nat):Bool:=Nat.testBit ((Tr.get A j).getD 0) i
inductive GN(ops:Array Oper):Nat->Nat->Prop
 |abd {i k:Nat} {o:Oper} (ho:ops[i]?=some o) (h:k∈iD .any o):GN ops i k
 |xV {i k j:Nat} {o:Oper} (ho:ops[i]?=some o) (h:k∈iD .any o) (hj:GN ops k j):GN ops i j
def Gn{A:Tr Nat} :∀ {es:List Nat} {k:Nat},Nat.testBit (I5 A es) k=true->∃e∈es,k=e\/yK A e k=true
 |[],k,h=>by simp[I5] at h
 |j::r,k,h=>by rw[I5,Nat.testBit_or,Bool.or_eq_true] at h;rcases h with h|h;rcases V0.1 h with h|h;obtain⟨e,q,u⟩:=Gn h;exact⟨e,uQ _ q,u⟩;exact⟨j,h_ ..,.inl h⟩;exact⟨j,h_ ..,.inr h⟩
def HL{ops:Array Oper} :∀(l:List Oper)(i:Nat)(A:Tr Nat),(∀j o,l[j]?=some o->ops[i+j]?=some o)->(∀j k,yK A j k=true->GN ops j k)->∀j k,yK (Bt l i A) j k=true->GN ops j k
 |[],_,_,_,C=>C
 |o::r,i,A,J,C=>by
  refine HL r (i+1) _ (fun j K y=>by have:=J (j+1) K (aj y);rwa [EV,Nat.add_comm 1 j]) ?_;intro j k u;unfold yK at u;rw[Tr.bN] at u;by_cases e:j=i
  .subst e;rw[bM rfl] at u;obtain⟨q,I,G⟩:=Gn u;have y:=J 0 o rfl;rcases G with rfl|G
   exact .abd y I;exact .xV y I (C _ _ G)
  rw[bU e] at u;exact C j k u
def GN.closed(I:∀i o,ops[i]?=some o->D i->∀k∈iD .any o,D k)(h:GN ops i j):(∀o,ops[i]?=some o->∀k∈iD .any o,D k)->D j:=by
 induction h with
 |abd q h=>intro u;exact u _ q _ h
 |xV q h _ ih=>
  intro u;have y:=u _ q _ h;exact ih fun A J G C=>I _ A J y G C
def LI:List Oper->Nat->Tr Nat->Option (Tr Nat)
 |[],_,M=>some M
 |o::r,i,M=>match o.dst with
  |none=>LI r (i+1) M
  |some d=>match Tr.get M d with
   |none=>LI r (i+1) (M.set d i)
   |some _=>none
def Ct:∀(l:List Oper)(i:Nat)(M y:Tr Nat),LI l i M=some y->(∀d k,Tr.get M d=some k->Tr.get y d=some k)/\∀j o d,l[j]?=some o->o.dst=some d->Tr.get y d=some (i+j)
 |[],_,M,y,h=>by simp only[LI,mL] at h;subst h;exact⟨fun _ _ h=>h,fun j o d h=>by simp at h⟩
 |o::r,i,M,y,h=>by
  simp only[LI] at h;split at h
  .rename_i O;obtain⟨h1,C⟩:=Ct r (i+1) M y h;refine⟨h1,fun j G d u q=>?_⟩;cases j with
   |zero=>simp only[List.getElem?_cons_zero,mL] at u;subst u;rw[O] at q;cases q
   |succ j=>rw[C j G d (aj u) q];congr 1;omega
  .rename_i I J;split at h
   .rename_i K;obtain⟨h1,C⟩:=Ct r (i+1) _ y h;refine⟨fun d k A=>h1 d k ?_,fun j G d u q=>?_⟩;rw[Tr.bN];by_cases e:d=I;subst e;rw[K] at A;cases A;rw[bU e];exact A
    .cases j with
     |zero=>
      simp only[List.getElem?_cons_zero,mL] at u;subst u;rw[J] at q;cases q;exact h1 _ _ (by rw[Tr.bN,bM rfl];rfl)
     |succ j=>rw[C j G d (aj u) q];congr 1;omega
   cases h
def places(p:Nat->Bool):List bX->Nat->List Nat
 |[],_=>[]
 |o::r,i=>bif p o.op.kind then i::places p r (i+1) else places p r (i+1)
def Gq{p:Nat->Bool} :∀(l:List bX)(i j:Nat)(o:bX),l[j]?=some o->p o.op.kind=true->i+j∈places p l i
 |[],_,j,o,h,_=>by simp at h
 |o::r,i,j,y,q,u=>by
  simp only[places];cases j with
  |zero=>
   simp only[List.getElem?_cons_zero,mL] at q;subst q;rw[u];exact h_ ..
  |succ j=>
   have:=Gq r (i+1) j y (aj q) u;rw[EV,Nat.add_comm 1 j] at this;cases p o.op.kind;exact this;exact uQ _ this
def level(A:Tr Nat)(i:Nat):List Nat->Nat
 |[]=>0
 |u::r=>bif yK A i u then level A i r+1 else level A i r
def WM(A:Tr Nat)(q cj:List Nat):List Nat->Nat->List Nat
 |[],s=>cj.filter fun i=>Nat.beq (level A i q) s
 |u::r,s=>(cj.filter fun i=>Nat.beq (level A i q) s)++u::WM A q cj r (s+1)
def WN(A:Tr Nat)(q others:List Nat):List Nat:=WM A q others q 0
def Ry:List Nat->Nat->Tr Nat->Option (Tr Nat)
 |[],_,Q=>some Q
 |i::r,p,Q=>match Tr.get Q i with
  |none=>Ry r (p+1) (Q.set i p)
  |some _=>none
def Jw:∀(l:List Nat)(p:Nat)(Q q:Tr Nat),Ry l p Q=some q->(∀i k,Tr.get Q i=some k->Tr.get q i=some k)/\(∀j i,l[j]?=some i->Tr.get q i=some (p+j))/\(∀i k,Tr.get q i=some k->Tr.get Q i=some k\/∃j,l[j]?=some i/\k=p+j)
 |[],_,Q,q,h=>by simp only[Ry,mL] at h;subst h;exact⟨fun _ _ h=>h,fun j i h=>by simp at h,fun i k h=>.inl h⟩
 |A::r,p,Q,q,h=>by
  simp only[Ry] at h;split at h
  .rename_i J;obtain⟨h1,C,I⟩:=Jw r (p+1) _ q h;refine⟨fun i k u=>h1 i k ?_,fun j i y=>?_,fun i k u=>?_⟩;rw[Tr.bN];by_cases e:i=A;subst e;rw[J] at u;cases u;rw[bU e];exact u
   .cases j with
    |zero=>
     simp only[List.getElem?_cons_zero,mL] at y;subst y;exact h1 _ _ (by rw[Tr.bN,bM rfl];rfl)
    |succ j=>rw[C j i (aj y)];congr 1;omega
   rcases I i k u with h|⟨j,y,G⟩;rw[Tr.bN] at h;by_cases e:i=A;rw[bM e] at h;cases h;exact .inr ⟨0,au e,rfl⟩;rw[bU e] at h;exact .inl h;exact .inr ⟨j+1,aj y,ab⟩
  cases h
def JM(ops:List Oper):List Nat->Option (List (Nat×Oper))
 |[]=>some []
 |i::r=>match ops[i]?,JM ops r with
  |some o,some l=>some ((i,o)::l)
  |_,_=>none
def Gx{ops:List Oper} :∀(l:List Nat)(q:List (Nat×Oper)),JM ops l=some q->q.length=l.length/\∀(p i:Nat)(o:Oper),q[p]?=some (i,o)->l[p]?=some i/\ops[i]?=some o
 |[],q,h=>by simp only[JM,mL] at h;subst h;exact⟨rfl,fun p i o h=>by simp at h⟩
 |i::r,q,h=>by
  simp only[JM] at h;split at h
  .rename_i o l y A;cases h;obtain⟨h1,C⟩:=Gx r l A;refine⟨au h1,fun p G I u=>?_⟩;cases p with
   |zero=>
    simp only[List.getElem?_cons_zero,mL,Aj] at u;obtain⟨rfl,rfl⟩:=u;exact⟨rfl,y⟩
   |succ p=>simpa using C p G I (aj u)
  cases h
def JJ(A M Q:Tr Nat)(C:List Nat)(p i:Nat)(o:Oper):Bool:=
 (iD .any o).all (fun e=>match Tr.get Q e with|some q=>Nat.blt q p|none=>false)&&
 (match o.guard with|none=>true|some (g,_)=>yK A i g)&&
 o.op.operands.toList.all (fun x=>match x with
  |.tmp t=>match Tr.get M t with
   |none=>true
   |some k=>yK A i k||yK A k i
  |_=>true)&&
 C.all fun u=>match Tr.get Q u with
  |some y=> !Nat.blt y p||yK A i u
  |none=>false
def JO(A M Q:Tr Nat)(q:List Nat):List (Nat×Oper)->Nat->Bool
 |[],_=>true
 |(i,o)::r,p=>JJ A M Q q p i o&&JO A M Q q r (p+1)
def Gy{A M Q:Tr Nat}{u:List Nat} :∀(l:List (Nat×Oper))(p:Nat),JO A M Q u l p=true->∀j i o,l[j]?=some (i,o)->JJ A M Q u (p+j) i o=true
 |[],_,_,j,i,o,h=>by simp at h
 |(i,o)::r,p,h,j,C,y,q=>by
  simp only[JO,oD] at h;cases j with
  |zero=>
   simp only[List.getElem?_cons_zero,mL,Aj] at q;obtain⟨rfl,rfl⟩:=q;exact h.1
  |succ j=>have:=Gy r (p+1) h.2 j C y (aj q);rwa [EV,Nat.add_comm 1 j] at this
def lf(A Q:Tr Nat)(p i:Nat):List Nat->List Nat
 |[]=>[]
 |u::r=>match Tr.get Q u with
  |some q=>bif Nat.blt p q&& !yK A u i then q::lf A Q p i r else lf A Q p i r
  |none=>lf A Q p i r
def Gd{A Q:Tr Nat}{p i:Nat} :∀ {l:List Nat} {u q:Nat},u∈l->Tr.get Q u=some q->p<q->yK A u i=false->q∈lf A Q p i l
 |[],u,q,h,_,_,_=>by simp at h
 |v::r,u,q,h,G,C,I=>by
  have J:u∈r->q∈lf A Q p i (v::r):=fun y=>by have:=Gd y G C I;simp only[lf];split;rename_i K _;cases(Nat.blt p K&& !yK A v i);exact this;exact uQ _ this;exact this
  rcases List.mem_cons.1 h with rfl|y;simp only[lf,G];rw[xQ.2 C,I];exact h_ ..;exact J y
def O4(A M:Tr Nat)(i:Nat)(o:bX):Option Nat:=
 bif Nat.beq o.op.kind 1 then match o.op.through with
  |some (.tmp t)=>match Tr.get M t with
   |none=>some t
   |some k=>bif yK A i k then some t else none
  |_=>none
 else o.dst
def Hs(A M Q:Tr Nat)(y:List Nat)(f:Oper->bX):List (Nat×Oper)->Nat->Option (List (Nat×Nat))
 |[],_=>some []
 |(i,o)::r,p=>match Hs A M Q y f r (p+1) with
  |none=>none
  |some q=>bif Nat.beq (f o).op.kind 1||Nat.beq (f o).op.kind 2 then match lf A Q p i y with
    |[]=>some q
    |u::C=>match O4 A M i (f o) with
     |some t=>some (((u::C).foldl Nat.max p,t)::q)
     |none=>none
   else some q
def foldl_max:∀(l:List Nat)(i:Nat),i<=l.foldl Nat.max i/\(∀u∈l,u<=l.foldl Nat.max i)/\(l.foldl Nat.max i=i\/l.foldl Nat.max i∈l)
 |[],i=>⟨fh _,fun _ h=>by simp at h,.inl rfl⟩
 |u::l,i=>by obtain⟨h1,A,q⟩:=foldl_max l (Nat.max i u);simp only[List.foldl_cons];refine⟨sx (Nat.le_max_left i u) h1,?_,?_⟩;intro x y;rcases List.mem_cons.1 y with rfl|y;exact sx (Nat.le_max_right i x) h1;exact A x y;rcases q with q|q;rw[q];rcases Nat.le_total i u with h|h;right;rw[show Nat.max i u=u from Nat.max_eq_right h];exact h_ ..;left;exact Nat.max_eq_left h;exact .inr (uQ _ q)
def Ip{A Q:Tr Nat}{p i:Nat} :∀ {l:List Nat} {x:Nat},x∈lf A Q p i l->∃u∈l,Tr.get Q u=some x
 |[],x,h=>by simp[lf] at h
 |v::r,x,h=>by
  simp only[lf] at h;have q:x∈lf A Q p i r->∃u∈v::r,Tr.get Q u=some x:=fun h=>by obtain⟨u,G,C⟩:=Ip h;exact⟨u,uQ _ G,C⟩
  split at h;rename_i J y;cases I:(Nat.blt p J&& !yK A v i)<;>rw[I] at h;exact q h;rcases List.mem_cons.1 h with rfl|h;exact⟨v,h_ ..,y⟩;exact q h;exact q h
def D3{A M Q:Tr Nat}{y:List Nat}{f:Oper->bX} :∀(l:List (Nat×Oper))(p:Nat)(ps:List (Nat×Nat)),Hs A M Q y f l p=some ps->∀j i o,l[j]?=some (i,o)->((f o).op.kind=1\/(f o).op.kind=2)->lf A Q (p+j) i y=[]\/∃c t,O4 A M i (f o)=some t/\p+j<=c/\(∀u∈lf A Q (p+j) i y,u<=c)/\(c=p+j\/∃u∈y,Tr.get Q u=some c)/\(c,t)∈ps
 |[],_,_,_,j,i,o,h,_=>by simp at h
 |(i,o)::r,p,ps,h,j,i',o',I,C=>by
  simp only[Hs] at h;split at h;cases h
  .rename_i O hr;cases j with
   |succ j=>
    have:=D3 r (p+1) O hr j i' o' (aj I) C;rw[EV,Nat.add_comm 1 j] at this;refine this.imp_right fun⟨c,t,h1,J,U,Z,K⟩=>⟨c,t,h1,J,U,Z,?_⟩;cases W:(Nat.beq (f o).op.kind 1||Nat.beq (f o).op.kind 2)<;>rw[W] at h;cases h;exact K;simp only[kA] at h;split at h;cases h;exact K;split at h;cases h;exact uQ _ K;cases h
   |zero=>
    simp only[List.getElem?_cons_zero,mL,Aj] at I;obtain⟨rfl,rfl⟩:=I;have W:(Nat.beq (f o).op.kind 1||Nat.beq (f o).op.kind 2)=true:=by rcases C with C|C<;>rw[C]<;>rfl
    rw[W] at h;simp only[kA] at h;split at h;rename_i G;exact .inl G
    .rename_i u Y G;split at h;rename_i t ht;cases h;obtain⟨h1,J,U⟩:=foldl_max (u::Y) p;refine .inr ⟨_,t,ht,h1,by rw[gU_,G];exact J,U.imp_right fun q=>?_,h_ ..⟩;have q':∀x,x∈u::Y->∃v∈y,Tr.get Q v=some x:=fun x hx=>Ip (G▸hx:x∈lf A Q p i y);exact q' _ q
     cases h
def attach(ps:List (Nat×Nat))(f:Oper->bX):List (Nat×Oper)->Nat->List (bX×List Nat)
 |[],_=>[]
 |(_,o)::r,p=>(f o,(ps.filter fun x=>Nat.beq x.1 p).map (·.2))::attach ps f r (p+1)
def zd{ps:List (Nat×Nat)}{f:Oper->bX} :∀(l:List (Nat×Oper))(p j:Nat),(attach ps f l p)[j]?=(l[j]?).map fun x=>(f x.2,(ps.filter fun x=>Nat.beq x.1 (p+j)).map (·.2))
 |[],_,j=>by simp[attach]
 |(_,o)::r,p,j=>by
  cases j with
  |zero=>simp[attach]
  |succ j=>
   simp only[attach,List.getElem?_cons_succ];rw[zd r (p+1) j,EV,Nat.add_comm 1 j]
def HN{ps:List (Nat×Nat)}{f:Oper->bX} :∀(l:List (Nat×Oper))(p:Nat),(attach ps f l p).length=l.length
 |[],_=>rfl
 |(_,_)::r,p=>by simp[attach,HN r]
def xO:List (bX×List Nat):=[({ dst:=none,guard:=none,op:=.bad },[])]
def Qk(T:ta)(ng n:Nat)(ops:List Oper)(M A:Tr Nat)(u bp:List Nat):List (bX×List Nat):=
 match Ry bp 0 .nil,JM ops bp with
 |some Q,some q=>match Hs A M Q u (bY T ng n ops) q 0 with
  |some y=>bif Nat.beq bp.length ops.length&&(List.range ops.length).all (fun i=>(Tr.get Q i).isSome)&&CT .any ops&&CT .text ops&&CT .gc ops&&JO A M Q u q 0 then attach y (bY T ng n ops) q 0 else xO
  |none=>xO
 |_,_=>xO
def fF(T:ta)(ng n:Nat)(ops:List Oper):List (bX×List Nat):=
 match LI ops 0 .nil with
 |none=>xO
 |some M=>match Bt ops 0 .nil,ops.map (bY T ng n ops) with
  |A,q=>match places (Nat.beq 3) q 0,places (fun k=>Nat.blt k 3) q 0 with
   |u,others=>Qk T ng n ops M A u (WN A u others)
structure jW(T:ta)(ng n:Nat)(ops:Array Oper)(σ:Nat->Nat)(l:List (bX×List Nat)):Prop where
 any:CT .any ops.toList=true
 text:CT .text ops.toList=true
 gc:CT .gc ops.toList=true
 bound:∀p,p<ops.size->σ p<ops.size
 ac2:∀i,i<ops.size->∃p,p<ops.size/\σ p=i
 inj:∀p q,p<ops.size->q<ops.size->σ p=σ q->p=q
 get:∀(p:Nat)(o:Oper),p<ops.size->ops[σ p]?=some o->∃nZ,l[p]?=some (bY T ng n ops.toList o,nZ)
 len:l.length=ops.size
 lower:∀(p:Nat)(o:Oper),p<ops.size->ops[σ p]?=some o->∀k∈iD .any o,∃pk,pk<p/\σ pk=k
 guard:∀(j:Nat)(o:Oper)(g:Nat)(b:Bool),ops[j]?=some o->o.guard=some (g,b)->GN ops j g
 reads:∀(j:Nat)(o:Oper)(t:Nat),ops[j]?=some o->Operand.tmp t∈o.op.operands.toList->∀(i:Nat)(o':Oper),ops[i]?=some o'->o'.dst=some t->GN ops j i\/GN ops i j
 once:∀(i j:Nat)(o o':Oper)(d:Nat),ops[i]?=some o->ops[j]?=some o'->o.dst=some d->o'.dst=some d->i=j
 eager:∀(p u:Nat)(o':Oper),u<p->p<ops.size->ops[σ u]?=some o'->(bY T ng n ops.toList o').op.kind=3->GN ops (σ p) (σ u)
 still:∀(p:Nat)(o:Oper),p<ops.size->ops[σ p]?=some o->((bY T ng n ops.toList o).op.kind=1\/(bY T ng n ops.toList o).op.kind=2)->(∀(u:Nat)(o':Oper),p<u->u<ops.size->ops[σ u]?=some o'->(bY T ng n ops.toList o').op.kind=3->GN ops (σ u) (σ p))\/∃(c t:Nat) (ao:bX) (nZ:List Nat),p<=c/\c<ops.size/\l[c]?=some (ao,nZ)/\t∈nZ/\(((bY T ng n ops.toList o).op.kind=1/\(bY T ng n ops.toList o).op.through=some (.tmp t)/\∀(i:Nat)(o':Oper),ops[i]?=some o'->o'.dst=some t->GN ops (σ p) i)\/((bY T ng n ops.toList o).op.kind=2/\(bY T ng n ops.toList o).dst=some t))/\∀(u:Nat)(o':Oper),p<u->u<ops.size->ops[σ u]?=some o'->(bY T ng n ops.toList o').op.kind=3->¬GN ops (σ u) (σ p)->u<=c
def Qj(hb:fF T ng n ops.toList≠xO):∃σ,jW T ng n ops σ (fF T ng n ops.toList):=by
 revert hb;unfold fF;split;intro h;exact absurd rfl h
 .rename_i M hM;dsimp only;unfold Qk;generalize ajf:WN (Bt ops.toList 0 .nil) (places (Nat.beq 3) (ops.toList.map (bY T ng n ops.toList)) 0) (places (fun k=>Nat.blt k 3) (ops.toList.map (bY T ng n ops.toList)) 0)=bp;generalize heffs:places (Nat.beq 3) (ops.toList.map (bY T ng n ops.toList)) 0=jY;split
  .rename_i Q y hQ aoD;split
   .rename_i ps ju;cases hc:(Nat.beq bp.length ops.toList.length&&(List.range ops.toList.length).all (fun i=>(Tr.get Q i).isSome)&&CT .any ops.toList&&CT .text ops.toList&&CT .gc ops.toList&&JO (Bt ops.toList 0 .nil) M Q jY y 0) with
    |false=>intro h;exact absurd rfl h
    |true=>
     intro _;simp only[kA];simp only[oD] at hc;obtain⟨⟨⟨⟨⟨c0,c9⟩,c1⟩,c2⟩,c3⟩,c4⟩:=hc;have dJ:bp.length=ops.size:=aj (rz c0)
     obtain⟨yb,SU⟩:=Gx bp y aoD;obtain⟨_,hQ1,hQ2⟩:=Jw bp 0 .nil Q hQ;have hA:∀j k,yK (Bt ops.toList 0 .nil) j k=true->GN ops j k:=
      HL ops.toList 0 .nil (fun j o h=>aj h) (fun j k h=>by simp[yK,Tr.get] at h)
     have Y:=(Ct ops.toList 0 .nil M hM).2;have nC:∀p,p<ops.size->∃i o,y[p]?=some (i,o)/\bp[p]?=some i/\ops[i]?=some o/\Tr.get Q i=some p:=by
      intro p C;have gX:p<y.length:=ab
      have hr:y[p]?=some (y[p].1,y[p].2):=g_ gX;obtain⟨h1,A⟩:=SU p _ _ hr;have K:=hQ1 p _ h1;rw[Hj] at K;exact⟨_,_,hr,h1,aj A,K⟩
     let σ:Nat->Nat:=fun p=>bp.getD p 0
     have hσ:∀p i,bp[p]?=some i->σ p=i:=fun p i h=>by simp[σ,List.getD,h]
     have ahh:∀i o,ops[i]?=some o->i<ops.size:=fun i o h=>(Array.getElem?_eq_some_iff.1 h).1;have J:∀p,p<ops.size->σ p<ops.size:=fun p C=>by obtain⟨i,o,_,A,K,_⟩:=nC p C;rw[hσ p i A];exact ahh i o K
     have avk:∀p q,p<ops.size->q<ops.size->σ p=σ q->p=q:=by intro p q C hq he;obtain⟨i,o,_,A,_,h4⟩:=nC p C;obtain⟨j,G,_,g2,_,g4⟩:=nC q hq;rw[hσ p i A,hσ q j g2] at he;subst he;rw[h4] at g4;exact Option.some.inj g4
     have ahb:∀i,i<ops.size->∃p,p<ops.size/\σ p=i:=by
      intro i O;have h1:=List.all_eq_true.1 c9 i (N4.2 (aj O));obtain⟨p,C⟩:=Option.isSome_iff_exists.1 h1;rcases hQ2 i p C with h|⟨j,hj,hkj⟩
      simp[Tr.get] at h;have gX:=(di.1 hj).1;exact⟨p,ab,hσ p i (by rw[hkj,Hj];exact hj)⟩
     have Fh:∀p i o,p<ops.size->ops[σ p]?=some o->σ p=i->JJ (Bt ops.toList 0 .nil) M Q jY p i o=true/\y[p]?=some (i,o):=by intro p i o C U O;obtain⟨i',G,h1,A,K,h4⟩:=nC p C;have:=hσ p i' A;rw[this] at U O;subst O;rw[K] at U;cases U;have:=Gy y 0 c4 p _ _ h1;rw[Hj] at this;exact⟨this,h1⟩
     have Uj:∀p,p<ops.size->Tr.get Q (σ p)=some p:=by intro p C;obtain⟨i,o,_,A,_,h4⟩:=nC p C;rw[hσ p i A];exact h4
     have an7:∀i o,ops[i]?=some o->(bY T ng n ops.toList o).op.kind=3->i∈jY:=by
      intro i o h I;have fq:(ops.toList.map (bY T ng n ops.toList))[i]?=some (bY T ng n ops.toList o):=by
       have h':ops.toList[i]?=some o:=aj h
       rw[js,h'];rfl
      have:=Gq (p:=Nat.beq 3) _ 0 i _ fq (by rw[I];rfl);rw[Hj,heffs] at this;exact this
     have Kg:∀j o,ops[j]?=some o->∃p,p<ops.size/\σ p=j:=fun j o h=>ahb j (ahh j o h);refine⟨σ,c1,c2,c3,J,ahb,avk,?_,?_,?_,?_,?_,?_,?_,?_⟩;intro p o C U;obtain⟨_,h1⟩:=Fh p (σ p) o C U rfl;rw[zd,h1];exact⟨_,rfl⟩;rw[HN];omega
     .intro p o C U k I;have h1:=(Fh p (σ p) o C U rfl).1;simp only[JJ,oD] at h1;have A:=List.all_eq_true.1 h1.1.1.1 k I;split at A
      rename_i pe hpe;rcases hQ2 k pe hpe with h|⟨j,hj,hkj⟩;simp[Tr.get] at h;refine⟨pe,xQ.1 A,?_⟩;rw[hkj,Hj];exact hσ j k hj;cases A
     intro j o g b h hg;obtain⟨p,C,Ui⟩:=Kg j o h;have h1:=(Fh p j o C (by rw[Ui];exact h) Ui).1;simp only[JJ,oD,hg] at h1;exact hA _ _ h1.1.1.2
     intro j o t h ht i G O hd;obtain⟨p,C,Ui⟩:=Kg j o h;have h1:=(Fh p j o C (by rw[Ui];exact h) Ui).1;simp only[JJ,oD] at h1;have A:=List.all_eq_true.1 h1.1.2 _ ht;have K:=Y i G t (aj O) hd;rw[Hj] at K;simp only[K,Bool.or_eq_true] at A;exact A.imp (hA _ _) (hA _ _)
     intro i j o G d O hj hd hd';have h1:=Y i o d (aj O) hd;have A:=Y j G d (aj hj) hd';rw[h1] at A;simpa using A
     .intro p u G hup C zI I;have Z:u<ops.size:=ab
      obtain⟨o,U⟩:∃o,ops[σ p]?=some o:=⟨_,Array.getElem?_eq_getElem (J p C)⟩;have h1:=(Fh p (σ p) o C U rfl).1;simp only[JJ,oD] at h1;have A:=List.all_eq_true.1 h1.2 _ (an7 _ _ zI I);rw[Uj u Z] at A;simp only[Bool.or_eq_true,xQ.2 hup,Bool.not_true,XE,false_or] at A;exact hA _ _ A
     .intro p o C U I;obtain⟨_,hr⟩:=Fh p (σ p) o C U rfl;have lZ:∀(u:Nat)(G:Oper),p<u->u<ops.size->ops[σ u]?=some G->(bY T ng n ops.toList G).op.kind=3->¬GN ops (σ u) (σ p)->u∈lf (Bt ops.toList 0 .nil) Q p (σ p) jY:=by
       intro u G W Z zI E7 Wr;refine Gd (an7 _ _ zI E7) (Uj u Z) W ?_;cases hb:yK (Bt ops.toList 0 .nil) (σ u) (σ p) with
       |false=>rfl
       |true=>exact absurd (hA _ _ hb) Wr
      rcases D3 y 0 ps ju p _ _ hr I with h|⟨c,t,h1,A,K,h4,h5⟩;left;rw[Hj] at h;intro u G W Z zI E7;apply Classical.byContradiction;intro eQ;have:=lZ u G W Z zI E7 eQ;rw[h] at this;cases this
      .right;rw[Hj] at A K h4;have hcm:c<ops.size:=by rcases h4 with rfl|⟨u,_,Z⟩;exact C;rcases hQ2 u c Z with h|⟨j,hj,hcj⟩;simp[Tr.get] at h;have:=(di.1 hj).1;omega
       obtain⟨ic,oc,hrc,_,_,_⟩:=nC c hcm;refine⟨c,t,bY T ng n ops.toList oc,(ps.filter fun x=>Nat.beq x.1 (0+c)).map (·.2),A,hcm,by rw[zd,hrc];rfl,?_,?_,fun u G W Z zI E7 Wr=>K u (lZ u G W Z zI E7 Wr)⟩;rw[jo];exact⟨(c,t),Ai.2 ⟨h5,ae⟩,rfl⟩
       .unfold O4 at h1;rcases I with I|I
        .left;rw[I] at h1;simp only[Nat.beq_refl,kA] at h1;split at h1
         .rename_i t' IL;split at h1;rename_i hMt;cases h1;refine⟨I,IL,fun i G O hd=>?_⟩;have:=Y i G t (aj O) hd;rw[hMt] at this;cases this
          rename_i k hMt;cases Pm:yK (Bt ops.toList 0 .nil) (σ p) k<;>rw[Pm] at h1<;>cases h1;refine⟨I,IL,fun i G O hd=>?_⟩;have:=Y i G t (aj O) hd;rw[hMt,Hj] at this;cases this;exact hA _ _ Pm
         cases h1
        right;rw[I] at h1;exact⟨I,h1⟩
   intro h;exact absurd rfl h
  intro h;exact absurd rfl h
def Gp{T:ta} :∀(fs:List Field)(ps:List (Nat×Operand))(l:List (Nat×Nat×Operand)),yp T fs ps=some l->l.map (·.2.2)=ps.map (·.2)
 |fs,[],l,h=>by simp only[yp,mL] at h;subst h;rfl
 |fs,(i,x)::r,l,h=>by simp only[yp] at h;split at h;cases h;split at h;rename_i q;cases h;simp[Gp fs r _ q];cases h
def NH{c:Call}(h:x∈(Af T c).kI):x∈c.operands.toList:=by
 obtain⟨q,args,u⟩:=c;unfold Af at h;dsimp only at h;have A:∀y,y∈args.toList->y∈(Call.operands ⟨q,args,u⟩).toList:=by intro y C;have:=Array.mem_toList_iff.1 C;cases q<;>simp[Call.operands,this]
 split at h;rename_i f;simp only[jQ.kI,List.mem_cons] at h;rcases h with rfl|h;simp[Call.operands];exact A x h
 all_goals
  repeat' split at h
  all_goals first
   |(simp only[jQ.kI,List.not_mem_nil] at h;done)
   |(refine A x ?_;simp only[jQ.kI] at h;simp_all;done)
def Tv{op:Op}(h:x∈(dR T op).kI):x∈op.operands.toList:=by
 cases op with
 |call c=>exact NH h
 |build t u=>
  simp only[dR] at h;split at h;split at h;rename_i fs _;generalize (fs.toList.all fun f=>(T f.type).isSome)=bb at h;cases bb<;>simp only[kA,xY] at h;simp[jQ.kI] at h;split at h;rename_i l A;simp only[jQ.kI] at h;rw[Gp _ _ _ A] at h;simpa [Op.operands] using h;simp[jQ.kI] at h;split at h;simp only[jQ.kI,List.map_map] at h;simpa [Op.operands,Function.comp_def] using h;simp[jQ.kI] at h;simp[jQ.kI] at h;simp[jQ.kI] at h
 |buildSlice t n u=>
  simp only[dR] at h
  repeat' split at h
  rename_i e _;generalize (Nat.ble (n*e.size) 1000000&&Nat.beq e.zero.length e.size)=bb at h;cases bb<;>simp only[kA,xY] at h;simp[jQ.kI] at h;simp only[jQ.kI,List.map_map] at h;simpa [Op.operands,Function.comp_def] using h
  all_goals simp[jQ.kI] at h
 |slice t y M I G=>
  simp only[dR] at h
  repeat' split at h
  generalize (G.isSome&&I.isNone)=bb at h;cases bb<;>simp only[kA,xY] at h;simp only[jQ.kI,List.mem_cons,jS] at h;simp[Op.operands];simpa [or_assoc] using h;simp[jQ.kI] at h
  all_goals simp[jQ.kI] at h
 |makeFunc f first q=>
  cases f with
  |func g=>
   simp only[dR] at h;cases C:first.isEmpty<;>rw[C] at h<;>simp only[kA,xY,jQ.kI] at h;simp at h;simp[Op.operands];exact .inr (aj h)
  |_=>simp[dR,jQ.kI] at h
 |makeMap t r=>cases r<;>simp[dR,jQ.kI] at h
 |next K st=>cases st<;>simp[dR,jQ.kI] at h<;>simpa [Op.operands] using h
 |fieldAddr t y k=>
  simp only[dR] at h
  repeat' split at h
  rename_i J _;generalize Nat.beq J.size 0=bb at h;cases bb<;>simp only[kA,xY] at h<;>simp[jQ.kI] at h<;>simpa [Op.operands] using h
  all_goals simp[jQ.kI] at h
 |binOp op t y z _=>
  simp only[dR] at h
  repeat' split at h
  all_goals first
   |(simp[jQ.kI] at h;done)
   |(simp only[jQ.kI] at h;simpa [Op.operands] using h)
 |_=>
  simp only[dR] at h
  repeat' split at h
  all_goals first
   |(simp[jQ.kI] at h;done)
   |(simp only[jQ.kI] at h;simpa [Op.operands] using h)
def NJ{op:Op}{y:Value×az}(q:c_ e h (dR T op)=some y):∀cs b,op≠ .select cs b:=by intro cs b u;subst u;simp[dR,c_] at q
section
variable{P:Program}{T:ta}{ng:Nat}{dr:tB}{F:Nat->Option cV}{ih:aG->Env->az->R}
def As(hF:GO P T ng dr F)(hT:eE P T)(hI:wO P T ng dr ih)(I:ops[i]?=some o)(q:dM F ih (bY T ng n ops.toList o) e h=some (e',h'))(S:eM (ik T ng dr) ρ h w)(O:dX ng ρ)(hE:ER ρ e2 a2.tmps)(hn:n<=a.tmps.size)(C:∀x∈o.op.operands.toList,ev e x=ev e2 x/\a.eval x=a2.eval x)(Hb:Region.wanted o (yielded ops a.tmps)=wanted e (guardOf ops.toList o))(b:Frame)(k:List Item)(cs:List Frame)(cj:List Nat):∃ρ' w' c v,Steps P (lone (on b a (.inRegion ops (i::cj)::k)) cs w) (lone (on b (a.put o.dst c) (.inRegion ops cj::k)) cs w')/\e'=gy e o.dst v/\VR ρ' v c/\(∀d,o.dst=some d->d<a.tmps.size)/\eM (ik T ng dr) ρ' h' w'/\Ext ρ h w ρ' h' w':=by
 unfold bY at q;cases K:wB ng n ops.toList o with
 |false=>
  simp only[K,xY] at q;simp[dM,wanted,c_] at q
 |true=>
  simp only[K,kA] at q;simp only[wB,oD] at K;obtain⟨⟨hd,hg⟩,M⟩:=K;have J:∀d,o.dst=some d->d<a.tmps.size:=by intro d hd';rw[hd'] at hd;exact Kf (xQ.1 hd) hn
  unfold dM at q;dsimp only at q;rw[<-Hb] at q;cases y:Region.wanted o (yielded ops a.tmps) with
  |false=>
   simp only[y,xY,mL,Aj] at q;obtain⟨rfl,rfl⟩:=q;refine⟨ρ,w,undef,_,.one ?_,rfl,VR.undef,J,S,.refl ρ h w⟩;have:=MS (P:=P) (b:=b) (a:=a) (k:=k) (cs:=cs) (w:=w) (ops:=ops) (i:=i) (cj:=cj) (by simp[I,y]);rw[I] at this;exact this
  |true=>
   simp only[y,kA] at q;split at q
   .rename_i f args yX;obtain⟨cl,h1,W,h3⟩:=H9 yX;split at q
    .rename_i v my hcv;cases q;have mM:cS ng f=true/\args.all (cS ng)=true:=by rw[h1] at M;simp only[Op.operands,Call.operands,W] at M;rw[<-h3];simpa using M
     have U:∀x,x∈f::args->x∈o.op.operands.toList:=by intro x u;rw[h1];simp only[Op.operands,Call.operands,W];rw[<-h3] at u;simpa using u
     have xg:=Es hE O args mM.2;rw[<-J3 (e:=e) (e':=e2) (fun x u=>(C x (U x (uQ _ u))).1)] at xg;have G:=hE.eval O mM.1;rw[<-(C f (U f (h_ ..))).1] at G;have KS:cl.args.toList.map a.eval=args.map a2.eval:=by rw[h3];exact List.map_congr_left fun x u=>(C x (U x (uQ _ u))).2
     obtain⟨ρ',w',c,q1,q2,q3,q4⟩:=F9 (P:=P) hF hT hI hcv S O G xg I y h1 W (C f (U f (h_ ..))).2 KS b k cs (cj:=cj);exact⟨ρ',w',c,v,q1,rfl,q2,J,q3,q4⟩
    cases q
   .split at q
    .rename_i v my Y;cases q;have Z:c_ e2 h (dR T o.op)=some (v,h'):=by rw[<-YU (e:=e) (e':=e2) (dR T o.op) (fun x u=>(C x (Tv u)).1)];exact Y
     obtain⟨ρ',w',c,A,hv,S',E'⟩:=Rp (P:=P) (a:=a2) hT S hE O o M Z;have hcg:execOp a.eval o=execOp a2.eval o:=execOp_congr o (NJ Y) fun x u=>(C x (Array.mem_toList_iff.2 u)).2;rw[<-hcg] at A;have QI:=LG Y;rcases A with A|⟨rfl,A⟩
     exact⟨ρ',w',c,v,.one (OV I y QI A),rfl,hv,J,S',E'⟩;exact⟨ρ',w',undef,v,.one (WU I y QI A),rfl,hv,J,S',E'⟩
    cases q
end
def LH{F:Nat->Option cV}{ih:aG->Env->az->R}(c:Nat):∀(l:List (bX×List Nat))(e:Env)(h:az)(e':Env)(h':az),kP F ih c l e h=some (e',h')->∃(E:Nat->Env) (H:Nat->az),E 0=e/\H 0=h/\E l.length=e'/\H l.length=h'/\∀(k:Nat)(o:bX)(nZ:List Nat),l[k]?=some (o,nZ)->dM F ih o (E k) (H k)=some (E (k+1),H (k+1))/\still (E (k+1)) (H (k+1)) c nZ=true
 |[],e,h,e',h',q=>by simp only[kP,mL,Aj] at q;obtain⟨rfl,rfl⟩:=q;exact⟨fun _=>e,fun _=>h,rfl,rfl,rfl,rfl,fun k o nZ u=>by simp at u⟩
 |(o,nZ)::r,e,h,e',h',q=>by
  simp only[kP] at q;split at q
  .rename_i C h1 G;cases A:still C h1 c nZ with
   |false=>simp[A] at q
   |true=>
    simp only[A,kA] at q;obtain⟨E,H,J,U,K,I,O⟩:=LH c r C h1 e' h' q;refine⟨fun k=>match k with|0=>e|k+1=>E k,fun k=>match k with|0=>h|k+1=>H k,rfl,rfl,K,I,?_⟩;intro k M y u;cases k with
    |zero=>
     simp only[List.getElem?_cons_zero,mL,Aj] at u;obtain⟨rfl,rfl⟩:=u;dsimp only;rw[J,U];exact⟨G,A⟩
    |succ k=>exact O k M y (aj u)
  cases q
def Y5{o:bX}(q:dM F ih o e h=some (e',h')):∃v,e'=gy e o.dst v:=by unfold dM at q;cases u:wanted e o.guard<;>simp only[u,kA,xY] at q;cases q;exact⟨_,rfl⟩;split at q;split at q;cases q;exact⟨_,rfl⟩;cases q;split at q;cases q;exact⟨_,rfl⟩;cases q
def mj{o:jQ}(q:o.kind<=2):∀f args,o≠ .call f args:=by intro f args e;subst e;simp[jQ.kind] at q
def MC{o:bX}(A:o.op.kind<=1)(q:dM F ih o e h=some (e',h')):h'=h:=by unfold dM at q;cases y:wanted e o.guard<;>simp only[y,kA,xY] at q;cases q;rfl;split at q;rename_i f args C;exact absurd C (mj ab f args);split at q;rename_i u;cases q;rcases Nat.le_one_iff_eq_zero_or_eq_one.1 A with h0|h1;exact(Jg h0 u).1;exact(CI h1 u).1;cases q
def Jk{o:bX}(G:o.op.kind<=2)(q:dM F ih o e h=some (e',h')):h'=h\/∃x,h'=h.new x:=by
 by_cases h1:o.op.kind<=1;exact .inl (MC h1 q)
 .have C:o.op.kind=2:=ab
  unfold dM at q;cases u:wanted e o.guard<;>simp only[u,kA,xY] at q;cases q;exact .inl rfl;split at q;rename_i f args y;exact absurd y (mj ab f args);split at q;rename_i A;cases q;obtain⟨_,cs,_,h,_⟩:=Ar C A;exact .inr ⟨_,h⟩;cases q
def afM(o:jQ):o.kind<=3:=by cases o<;>simp[jQ.kind]
def Rest(c:Nat)(o:oZ):Prop:=(∃cs q op s,o=.bZ cs q op s/\s<=c)\/o=.map []
def kz{e:Env}{h:az}{c:Nat} :∀ {l:List Nat},still e h c l=true->∀t∈l,∀b,leads (bH e t)=some b->∃o,h.tr.get b=some o/\Rest c o
 |[],_,t,C,_,_=>by simp at C
 |u::r,q,t,C,b,A=>by unfold still at q;rcases List.mem_cons.1 C with rfl|C;split at q;rename_i y;rw[y] at A;cases A;split at q;rename_i cs I o s G;rw[oD] at q;exact⟨_,G,.inl ⟨cs,I,o,s,rfl,Ph q.1⟩⟩;cases q;rename_i y;rw[y] at A;cases A;split at q;rename_i cs I o s G;rw[oD] at q;exact⟨_,G,.inl ⟨cs,I,o,s,rfl,Ph q.1⟩⟩;cases q;rename_i y;rw[y] at A;cases A;split at q;rename_i G;exact⟨_,G,.inr rfl⟩;cases q;rename_i y;rw[y] at A;cases A;rename_i y;rw[y] at A;cases A;rename_i y;rw[y] at A;cases A;rename_i y;rw[y] at A;cases A;cases q;split at q;split at q;rw[oD] at q;exact kz q.2 t C b A;cases q;split at q;rw[oD] at q;exact kz q.2 t C b A;cases q;split at q;exact kz q t C b A;cases q;exact kz q t C b A;exact kz q t C b A;exact kz q t C b A;exact kz q t C b A;cases q
def Mv(l:List Nat)(e:Env):Env:=l.foldl Tr.del e
def I3(l:List Nat)(q:Array Value):Array Value:=l.foldl (fun x t=>x.setIfInBounds t undef) q
def Aq:∀(l:List Nat)(e:Env)(t:Nat),bH (Mv l e) t=if t∈l then .tuple #[] else bH e t
 |[],e,t=>by simp[Mv]
 |u::l,e,t=>by rw[Mv,List.foldl_cons,<-Mv,Aq l];by_cases h1:t∈l;simp[h1];rw[bU h1];unfold bH;rw[Tr.kE];by_cases q:t=u;subst q;simp;simp[h1,q]
def Ap:∀(l:List Nat)(a:Array Value)(t:Nat),(I3 l a).getD t undef=if t∈l then undef else a.getD t undef
 |[],a,t=>by simp[I3]
 |u::l,a,t=>by rw[I3,List.foldl_cons,<-I3,Ap l];by_cases h1:t∈l;simp[h1];rw[bU h1];by_cases q:t=u;subst q;simp only[List.mem_cons,true_or,if_true];rw[Array.getD_eq_getD_getElem?,Array.getElem?_setIfInBounds];simp only[if_true];split<;>rfl;simp[h1,q,Array.getD_eq_getD_getElem?,Array.getElem?_setIfInBounds,Ne.symm q]
def eM.grow(S:eM CC ρ h w)(o:oZ):eM CC ρ (h.new o) w/\Ext ρ h w ρ (h.new o) w:=by
 have y:∀b r,ρ b=some r->(h.new o).tr.get b=h.tr.get b:=by intro b r q;have:=(S.low b r q).1;simp only[az.new,Tr.bN];rw[bU ab]
 have K:∀b r,ρ b=some r->fI (h.new o) b->fI h b:=fun b r q ⟨x,u,M⟩=>⟨x,by rwa [y b r q] at u,M⟩;refine⟨⟨fun b r q=>⟨?_,(S.low b r q).2⟩,fun b r x q u=>S.obj b r x q (by rwa [y b r q] at u),fun b I r C x q J A u O=>S.inj b I r C x q J (K b r q A) (by rwa [y I C J] at u) O,?_⟩,⟨ρ.le_refl,by simp[az.new],fh _,rfl,rfl,rfl,fun _ _ _=>rfl,fun b r q A=>.inr ⟨b,r,q,K b r q A,rfl⟩,fun b r h1 G=>(by rw[h1] at G;cases G),fun b r x q u=>.inr ⟨b,r,x,q,by rwa [y b r q] at u,rfl⟩⟩⟩
 have:=(S.low b r q).1;simp only[az.new];omega;intro b x u;simp only[az.new,Tr.bN] at u⊢;by_cases e:b=h.aw;omega;rw[bU e] at u;have:=S.wf b x u;omega
section
variable{P:Program}{T:ta}{ng:Nat}{dr:tB}{F:Nat->Option cV}{ih:aG->Env->az->R}{n c:Nat}{ops:Array Oper}{σ:Nat->Nat}{l:List (bX×List Nat)}{E:Nat->Env}{H:Nat->az}
def HG(F:Nat->Option cV)(ih:aG->Env->az->R)(T:ta)(ng n:Nat)(ops:Array Oper)(σ:Nat->Nat)(E:Nat->Env)(H:Nat->az):Prop:=
 ∀(p:Nat)(o:Oper),p<ops.size->ops[σ p]?=some o->dM F ih (bY T ng n ops.toList o) (E p) (H p)=some (E (p+1),H (p+1))
def Ga{d:Nat}(h:(bY T ng n ops.toList o).dst=some d):o.dst=some d:=by unfold bY at h;cases q:wB ng n ops.toList o<;>rw[q] at h;cases h;exact h
def jW.op(q:jW T ng n ops σ l)(u:p<ops.size):∃o,ops[σ p]?=some o:=⟨_,Array.getElem?_eq_getElem (q.bound p u)⟩
def jW.Tk(C:jW T ng n ops σ l)(h:GN ops i j):∀p,p<ops.size->σ p=i->∃q,q<p/\σ q=j:=by
 induction h with
 |abd y h=>intro p u A;subst A;exact C.lower p _ u y _ h
 |xV y h _ ih=>
  intro p u A;subst A;obtain⟨J,M,G⟩:=C.lower p _ u y _ h;obtain⟨q,K,I⟩:=ih J ab G;exact⟨q,ab,I⟩
def yv(C:HG F ih T ng n ops σ E H)(M:jW T ng n ops σ l){a t:Nat} :∀(b:Nat),a<=b->b<=ops.size->(∀(k:Nat)(o:Oper),a<=k->k<b->ops[σ k]?=some o->o.dst≠some t)->bH (E b) t=bH (E a) t:=by
 intro b;induction b with
 |zero=>intro h _ _;rw[Nat.le_zero.1 h]
 |succ b q=>
  intro J U y;by_cases G:a=b+1;rw[G]
  .obtain⟨o,u⟩:=M.op (p:=b) ab;obtain⟨v,I⟩:=Y5 (C b _ ab u);rw[I,<-q ab ab (fun k o h1 O K=>y k o h1 ab K)];cases A:(bY T ng n ops.toList o).dst with
   |none=>rfl
   |some d=>
    simp only[gy,Env.bN];have:=y b _ ab ab u;rw[Ga A] at this;rw[bU (fun(e:t=d)=>this (by rw[e]))]
def PA(T:ta)(ng n:Nat)(ops:Array Oper)(σ:Nat->Nat)(a b:Nat):Prop:=
 ∀(k:Nat)(o:Oper),a<=k->k<b->ops[σ k]?=some o->(bY T ng n ops.toList o).op.kind≠3
def Om{o:jQ}(h:o.kind≠3):o.kind<=2:=av (afM o)
def Sa(I:HG F ih T ng n ops σ E H)(O:jW T ng n ops σ l){a x:Nat}(W:x<(H a).aw):∀(b:Nat),a<=b->b<=ops.size->PA T ng n ops σ a b->(H b).tr.get x=(H a).tr.get x/\(H a).aw<=(H b).aw:=by
 intro b;induction b with
 |zero=>intro h _ _;rw[Nat.le_zero.1 h];exact⟨rfl,fh _⟩
 |succ b u=>
  intro K U G;by_cases J:a=b+1;rw[J];exact⟨rfl,fh _⟩;obtain⟨o,A⟩:=O.op (p:=b) ab;obtain⟨h1,C⟩:=u ab ab (fun k o h1 C M=>G k o h1 ab M);rcases Jk (Om (G b _ ab ab A)) (I b _ ab A) with q|⟨y,q⟩;rw[q];exact⟨h1,C⟩;rw[q,<-h1];simp only[az.new,Tr.bN];rw[bU ab];exact⟨rfl,ab⟩
def OY(K:HG F ih T ng n ops σ E H)(W:jW T ng n ops σ l){a:Nat}(S:eM CC ρ (H a) w):∀(b:Nat),a<=b->b<=ops.size->PA T ng n ops σ a b->eM CC ρ (H b) w/\Ext ρ (H a) w ρ (H b) w:=by
 intro b;induction b with
 |zero=>intro h _ _;rw[<-Nat.le_zero.1 h];exact⟨S,.refl _ _ _⟩
 |succ b u=>
  intro O hb I;by_cases M:a=b+1;rw[<-M];exact⟨S,.refl _ _ _⟩;obtain⟨o,A⟩:=W.op (p:=b) ab;obtain⟨C,G⟩:=u ab ab (fun k o h1 Z U=>I k o h1 ab U);rcases Jk (Om (I b _ ab ab A)) (K b _ ab A) with q|⟨y,q⟩;rw[q];exact⟨C,G⟩;rw[q];obtain⟨J,Y⟩:=C.grow y;exact⟨J,G.trans Y⟩
def tw(C:iq ih)(y:HG F ih T ng n ops σ E H)(I:jW T ng n ops σ l){a:Nat} :∀(b:Nat),a<=b->b<=ops.size->eO (H a) (H b):=by
 intro b;induction b with
 |zero=>intro h _;rw[Nat.le_zero.1 h];exact .refl _
 |succ b q=>
  intro G J;by_cases A:a=b+1;rw[A];exact .refl _;obtain⟨o,u⟩:=I.op (p:=b) ab;exact(q ab ab).trans (zO C (y b _ ab u))
def HU(hK:iq ih)(C:HG F ih T ng n ops σ E H)(y:jW T ng n ops σ l)(Og:∀(k:Nat)(ao:bX)(nZ:List Nat),l[k]?=some (ao,nZ)->still (E (k+1)) (H (k+1)) c nZ=true)(Gi:c<(H 0).clock){p q:Nat}(hp:p<q)(Z:q<=ops.size)(ho:ops[σ p]?=some o)(hk:(bY T ng n ops.toList o).op.kind=1\/(bY T ng n ops.toList o).op.kind=2)(Wr:∀(u:Nat)(o':Oper),p<u->u<q->ops[σ u]?=some o'->(bY T ng n ops.toList o').op.kind=3->¬GN ops (σ u) (σ p))(h1:(bY T ng n ops.toList o).op.kind=1->∀t,(bY T ng n ops.toList o).op.through=some (.tmp t)->(∀(i:Nat)(o':Oper),ops[i]?=some o'->o'.dst=some t->GN ops (σ p) i)->leads (bH (E p) t)=some b)(h2:(bY T ng n ops.toList o).op.kind=2->∀t,(bY T ng n ops.toList o).dst=some t->leads (bH (E (p+1)) t)=some b)(hb:b<(H (p+1)).aw):(H q).tr.get b=(H (p+1)).tr.get b:=by
 by_cases Mf:PA T ng n ops σ (p+1) q;exact(Sa C y hb q ab Z Mf).1
 .have hex:∃(u:Nat) (o':Oper),p<u/\u<q/\ops[σ u]?=some o'/\(bY T ng n ops.toList o').op.kind=3:=by apply Classical.byContradiction;intro eQ;exact Mf fun u o' g1 g2 Y W=>eQ ⟨u,o',ab,g2,Y,W⟩
  obtain⟨u,o',g1,g2,Y,W⟩:=hex;rcases y.still p o ab ho hk with pq|⟨A,t,ao,nZ,k1,k2,k3,k4,k5,k6⟩;exact absurd (pq u o' g1 ab Y W) (Wr u o' g1 g2 Y W)
  .have aoJ:leads (bH (E (A+1)) t)=some b:=by
    rcases k5 with⟨kk,ht,hw⟩|⟨kk,U⟩;rw[yv C y (a:=p) (A+1) ab ab (fun k ok hk1 CA fO U=>?_)];exact h1 kk t ht hw;obtain⟨q',Fe,he⟩:=y.Tk (hw (σ k) ok fO U) p ab rfl;have:=y.inj q' k ab ab he;omega
    rw[yv C y (a:=p+1) (A+1) ab ab (fun k ok hk1 CA fO hd'=>?_)];exact h2 kk t U;have:=y.inj p k ab ab (y.once (σ p) (σ k) o ok t ho fO (Ga U) hd');omega
   obtain⟨ob,G,M⟩:=kz (Og A ao nZ k3) t k4 b aoJ;have back:∀a,a<=A+1->b<(H a).aw->(H a).tr.get b=some ob:=by
    intro a ha I;have O:=tw hK C y (a:=a) (A+1) ha ab;have hk0:=tw hK C y (a:=0) a ab ab;rcases M with⟨cs,ro,op,s,rfl,M⟩|rfl
    exact O.cn b cs ro op s I G (av hk0.clock);exact O.mp b I G
   rw[back (p+1) ab hb];have J:∀a,p+1<=a->a<=ops.size->b<(H a).aw:=fun a h1 h2=>av ((tw hK C y (a:=p+1) a h1 h2).aw)
   by_cases hqc:q<=A+1;exact back q hqc (J q ab Z);have:=(Sa C y (J (A+1) ab ab) q ab Z (fun k K h6 h7 h8 h9=>av (k6 k K ab ab h8 h9 (Wr k K ab h7 h8 h9)))).1;rw[this,G]
def Ss:Value->Nat
 |.pointer (some ⟨b,_,_⟩)=>b+1
 |.slice (some ⟨b,_,_⟩) _ _=>b+1
 |.map (some m)=>m+1
 |_=>0
def Vu:Value->Nat
 |.func (.yield l) _ _=>l+1
 |.func _ _ q=>(q.toList.map Ss).foldl (· + ·) 0
 |v=>Ss v
def foldl_add:∀(l:List Nat)(a:Nat),a<=l.foldl (· + ·) a/\∀x∈l,x<=l.foldl (· + ·) a
 |[],a=>⟨fh _,fun _ h=>by simp at h⟩
 |y::l,a=>by obtain⟨h1,u⟩:=foldl_add l (a+y);simp only[List.foldl_cons];refine⟨ab,fun x q=>?_⟩;rcases List.mem_cons.1 q with rfl|q;omega;exact u x q
def CR.off{y A:fJ}(q:∀x,x≠N->y x=A x){v c:Value}(u:Ss v<=N)(h:CR y v c):CR A v c:=by
 cases h with
 |bool=>exact .bool _
 |int=>exact .int _ _
 |str=>exact .str _
 |wz=>exact .wz
 |ptr h=>simp only[Ss] at u;exact .ptr (by rw[<-q _ ab];exact h)
 |fW=>exact .fW _ _
 |slice h C=>simp only[Ss] at u;exact .slice (by rw[<-q _ ab];exact h) C
 |uv=>exact .uv
 |map h=>simp only[Ss] at u;exact .map (by rw[<-q _ ab];exact h)
 |tg=>exact .tg
 |oh=>exact .oh
def KR.off{A G:fJ}{N:Nat}(u:∀x,x≠N->A x=G x){v c:Value}(q:Vu v<=N)(h:KR A v c):KR G v c:=by
 cases h with
 |cell h=>
  refine .cell (h.off u ?_);cases h<;>first|exact q|exact Nat.zero_le _
 | @fn f l m h=>
  simp only[Vu] at q;refine .fn f ?_;have C:∀x∈l,Ss x<=N:=fun x y=>sx ((foldl_add (l.map Ss) 0).2 _ (jo.2 ⟨x,y,rfl⟩)) q;clear q;induction h with
  |nil=>exact .nil
  |cons h1 _ ih=>exact .cons (h1.off u (C _ (h_ ..))) (ih fun x y=>C x (uQ _ y))
 |yield h=>simp only[Vu] at q;exact .yield (by rw[<-u _ ab];exact h)
end
def VR.afQ{s:Mk}{c:Value}(h:VR ρ (mkA s N) c):∃y,ρ N=some y/\∀(u:fJ)(M:Nat),u M=some y->VR u (mkA s M) c:=by
 cases s with
 |ptr=>
  cases h with
  |val h=>cases h with
   |cell h=>cases h with
    |cell h=>cases h with
     | @ptr _ _ r h=>exact⟨r,h,fun u M q=>.val (.cell (.cell (.ptr q)))⟩
 |sl l C=>
  cases h with
  |val h=>cases h with
   |cell h=>cases h with
    |cell h=>cases h with
     | @slice _ _ _ _ _ _ r h A=>exact⟨r,h,fun u M q=>.val (.cell (.cell (.slice q A)))⟩
 |mp=>
  cases h with
  |val h=>cases h with
   |cell h=>cases h with
    |cell h=>cases h with
     | @map _ r h=>exact⟨r,h,fun u M q=>.val (.cell (.cell (.map q)))⟩
def Yx(s:Mk)(N:Nat):leads (mkA s N)=some N:=by cases s<;>rfl
structure Stood(w w':World):Prop where
 size:w.heap.size<=w'.heap.size
 os:w'.os=w.os
 tape:w'.tape=w.tape
 output:w'.output=w.output
 xj:∀k,k<w.heap.size->w'.heap[k]?=w.heap[k]?
def eM.stood(S:eM CC ρ h w)(W:Stood w w'):eM CC ρ h w':=
 ⟨fun b r q=>⟨(S.low b r q).1,Kf (S.low b r q).2 W.size⟩,fun b r o q u=>iT.mono ρ.le_refl (W.xj _ (S.low b r q).2) (S.obj b r o q u),S.inj,S.wf⟩
def Ext.stood{I ρ ρ':fJ}{K w w':World}(X:Ext I h0 K ρ h w)(W:Stood w w')(J:ρ.le ρ')(A:∀x r,ρ' x=some r->ρ x=none->x=N/\w.heap.size<=r.bZ)(Y:h0.aw<=N):Ext I h0 K ρ' h w':=by
 have y:∀x r,ρ' x=some r->ρ x=some r\/(x=N/\w.heap.size<=r.bZ):=by
  intro x r q;cases C:ρ x with
  |none=>exact .inr (A x r q C)
  |some U=>have:=J x U C;rw[q] at this;exact .inl this.symm
 refine⟨fJ.le_trans X.le J,X.aw,sx X.size W.size,W.os.trans X.os,W.tape.trans X.tape,W.output.trans X.output,?_,?_,?_,?_⟩;intro k G u;rw[W.xj k (Kf G X.size)];exact X.xj k G u;intro x r q M;rcases y x r q with h|⟨_,h⟩;exact X.own x r h M;exact .inl (sx X.size h);intro x r q Z;rcases y x r q with h|⟨rfl,_⟩;exact X.new x r h Z;exact Y;intro x r o q O;rcases y x r q with h|⟨_,h⟩;exact X.live x r o h O;exact .inl (sx X.size h)
section
variable{P:Program}{T:ta}{ng:Nat}{dr:tB}{F:Nat->Option cV}{ih:aG->Env->az->R}
def NK{ops:List Oper}(q:(bY T ng n ops o).op.kind≠3):bY T ng n ops o= { dst:=o.dst,guard:=guardOf ops o,op:=dR T o.op } :=by
 unfold bY at q⊢;cases u:wB ng n ops o with
 |true=>rfl
 |false=>rw[u] at q;exact absurd rfl q
def Ti(hF:GO P T ng dr F)(hT:eE P T)(hI:wO P T ng dr ih)(ho:ops[i]?=some o){h0 h1 G:az}(hk:(bY T ng n ops.toList o).op.kind=2)(hc:dM F ih (bY T ng n ops.toList o) e h0=some (e',h1))(S:eM (ik T ng dr) ρ G w)(hG:dX ng ρ)(hE:ER ρ e2 a2.tmps)(hn:n<=a.tmps.size)(u:∀x∈o.op.operands.toList,ev e x=ev e2 x/\a.eval x=a2.eval x)(Hb:Region.wanted o (yielded ops a.tmps)=wanted e (guardOf ops.toList o))(QE:h0.aw<h1.aw->ρ h0.aw=none)(QM:o.dst.isSome=true->h0.aw<h1.aw->G.tr.get h0.aw=h1.tr.get h0.aw)(hle:h1.aw<=G.aw)(b:Frame)(k:List Item)(cs:List Frame)(cj:List Nat):∃ρ' w' c v,Steps P (lone (on b a (.inRegion ops (i::cj)::k)) cs w) (lone (on b (a.put o.dst c) (.inRegion ops cj::k)) cs w')/\e'=gy e o.dst v/\VR ρ' v c/\(∀d,o.dst=some d->d<a.tmps.size)/\eM (ik T ng dr) ρ' G w'/\ρ.le ρ'/\(∀x,ρ x=none->(h0.aw<h1.aw->x≠h0.aw)->ρ' x=none)/\(∀(ρ0:fJ)(Y:az)(w0:World),Y.aw<=h0.aw->Ext ρ0 Y w0 ρ G w->Ext ρ0 Y w0 ρ' G w'):=by
 have hcm:=NK (T:=T) (ng:=ng) (n:=n) (ops:=ops.toList) (o:=o) (by rw[hk];decide);have hnc:=mj (o:=(bY T ng n ops.toList o).op) ab;cases hw:wanted e (bY T ng n ops.toList o).guard with
 |false=>
  have Po:dM F ih (bY T ng n ops.toList o) e G=some (e',G):=by unfold dM at hc⊢;simp only[hw,xY,mL,Aj] at hc⊢;exact⟨hc.1,trivial⟩
  obtain⟨W,M,cv,v,s1,XO,Us,xf,S1,C⟩:=As hF hT hI ho Po S hG (a:=a) (a2:=a2) hE hn u Hb b k cs cj;refine⟨W,M,cv,v,s1,XO,Us,xf,S1,C.le,?_,fun ρ0 Y w0 _ X=>X.trans C⟩;intro x u _;cases hp:W x with
  |none=>rfl
  |some r=>
   have g1:=C.new x r hp u;have O:=(S1.low x r hp).1;omega
 |true=>
  have K:=hc;unfold dM at K;simp only[hw,kA] at K;split at K
  .rename_i v0 my EC;simp only[mL,Aj] at K;obtain⟨X0,rfl⟩:=K;obtain⟨s,cells,rfl,rfl,ai4⟩:=Ar hk EC;have gX:h0.aw<(h0.new (mkO s cells)).aw:=by simp[az.new]
   have Mf:=QE gX
   let N:=G.aw+(cells.map Vu).foldl (· + ·) 0
   let Z:az:=⟨N,0,.nil⟩
   have SZ:eM (ik T ng dr) ρ Z w:=by
    refine⟨fun x r q=>⟨?_,(S.low x r q).2⟩,fun x r y _ J=>?_,fun x y r r' z _ _ _ hz _=>?_,fun x y J=>?_⟩;have:=(S.low x r q).1;show x<G.aw+_;omega
    simp[Z,Tr.get] at J;simp[Z,Tr.get] at hz;simp[Z,Tr.get] at J
   have hcZ:dM F ih (bY T ng n ops.toList o) e Z=some (gy e (bY T ng n ops.toList o).dst (mkA s N),Z.new (mkO s cells)):=by unfold dM;simp only[hw,kA];rw[ai4 Z]
   obtain⟨W,M,cv,v,s1,XO,Us,xf,S1,C⟩:=As hF hT hI ho hcZ SZ hG (a:=a) (a2:=a2) hE hn u Hb b k cs cj;have I:Stood w M:=⟨C.size,C.os,C.tape,C.output,fun j hj=>C.xj j hj (fun x r _ ⟨y,J,_⟩=>by simp[Z,Tr.get] at J)⟩;have hdd:(bY T ng n ops.toList o).dst=o.dst:=by rw[hcm]
   rw[hdd] at XO X0;cases hd:o.dst with
   |none=>
    rw[hd] at s1 X0;refine⟨ρ,M,undef,.tuple #[],s1,X0.symm,VR.undef,fun d h=>(by cases h),S.stood I,ρ.le_refl,fun x u _=>u,?_⟩;intro ρ0 Y w0 U X;exact X.stood I (N:=h0.aw) ρ.le_refl (fun x r g1 O=>by rw[g1] at O;cases O) U
   |some d=>
    rw[hd] at s1 X0 XO;have hvN:v=mkA s N:=by have:=congrArg (fun en:Env=>bH en d) XO;simp only[gy,Env.bN,if_true] at this;exact this.symm
    rw[hvN] at Us;obtain⟨A,Oe,hmk⟩:=Us.afQ;have DP:=vN (r:=A) Mf;have ag5:(Z.new (mkO s cells)).tr.get N=some (mkO s cells):=by simp only[az.new,Tr.bN];rw[bM rfl]
    have aof:G.tr.get h0.aw=some (mkO s cells):=by rw[QM (by rw[hd];rfl) gX];simp only[az.new,Tr.bN,if_true]
    have hblk:w.heap.size<=A.bZ:=by rcases C.live N A _ Oe ag5 with h|⟨_,_,_,_,h,_⟩;exact h;simp[Z,Tr.get] at h
    have hρ1:∀x,x≠N->W x=ρ x:=by
     intro x hxN;cases hp:ρ x with
     |some r=>exact C.le x r hp
     |none=>
      cases ue:W x with
      |none=>rfl
      |some r=>
       have g1:=C.new x r ue hp;have O:=(S1.low x r ue).1;simp only[az.new,Z] at g1 O;omega
    have aca:iT (ik T ng dr) (jU ρ h0.aw A) A (mkO s cells) M:=by
     have hO:=S1.obj N A _ Oe ag5;have hB:iT (ik T ng dr) W A (.bZ cells false 0 0) M->iT (ik T ng dr) (jU ρ h0.aw A) A (.bZ cells false 0 0) M:=by rintro⟨fK,el,fr,q1,q2,q3,q5,q6,q7⟩;refine⟨fK,el,fr,q1,q2,q3,q5,q6,fun j v' hj=>?_⟩;obtain⟨c',K,KV⟩:=q7 j v' hj;refine⟨c',K,KR.mono DP (KV.off hρ1 ?_)⟩;have:=(foldl_add (cells.map Vu) 0).2 (Vu v') (jo.2 ⟨v',cN hj,rfl⟩);show Vu v'<=G.aw+_;omega
     cases s with
     |ptr=>exact hB hO
     |sl l c=>exact hB hO
     |mp=>
      obtain⟨ces,cl,q1,q2,q3⟩:=hO;refine⟨ces,cl,q1,?_,q3⟩;generalize ces.toList=L at q2⊢;cases q2;exact .nil
    have gI:∀x r,jU ρ h0.aw A x=some r->(x=h0.aw/\r=A)\/(x≠h0.aw/\ρ x=some r):=by intro x r u;unfold jU at u;by_cases e:x=h0.aw;rw[bM e] at u;cases u;exact .inl ⟨e,rfl⟩;rw[bU e] at u;exact .inr ⟨e,u⟩
    refine⟨jU ρ h0.aw A,M,cv,mkA s h0.aw,s1,X0.symm,hmk _ _ (by simp[jU]),fun d' h=>xf d' (by rw[hd];exact h),?_,DP,?_,?_⟩;refine⟨fun x r q=>?_,fun x r y q J=>?_,fun x y r r' z q ia hwz hz eQ=>?_,S.wf⟩;rcases gI x r q with⟨rfl,rfl⟩|⟨_,q⟩;exact⟨ab,(S1.low N r Oe).2⟩;exact⟨(S.low x r q).1,Kf (S.low x r q).2 I.size⟩;rcases gI x r q with⟨rfl,rfl⟩|⟨_,q⟩;rw[aof] at J;cases J;exact aca;exact iT.mono DP (I.xj _ (S.low x r q).2) (S.obj x r y q J);rcases gI x r q with⟨ex,er⟩|⟨_,q⟩<;>rcases gI y r' ia with⟨ey,er'⟩|⟨_,ia⟩;exact absurd (ex.trans ey.symm) eQ;have:=(S.low y r' ia).2;rw[er];omega;have:=(S.low x r q).2;rw[er'];omega;exact S.inj x y r r' z q ia hwz hz eQ
    intro x u Mh;unfold jU;rw[bU (Mh gX)];exact u;intro ρ0 Y w0 U X;refine X.stood I (N:=h0.aw) DP (fun x r g1 O=>?_) U;rcases gI x r g1 with⟨ex,er⟩|⟨_,g3⟩;exact⟨ex,by rw[er];exact hblk⟩;rw[g3] at O;cases O
  cases K
end
section
variable{P:Program}{T:ta}{ng:Nat}{dr:tB}{F:Nat->Option cV}{ih:aG->Env->az->R}{n c:Nat}{ops:Array Oper}{σ:Nat->Nat}{l:List (bX×List Nat)}{E:Nat->Env}{H:Nat->az}
def Et{q:Array Value}(y:ops[j]?=some o)(u:o.dst=some t):yielded ops q j=match q.getD t undef with|.bool b=>some b|_=>none:=by
 simp only[yielded,y,Option.bind_some,u];rw[Array.getD_eq_getD_getElem?];cases q[t]? with
 |none=>rfl
 |some v=>cases v<;>rfl
def Tj{u:bX}(A:u.op.kind=2)(q:dM F ih u e h0=some (e',h1))(M:h0.aw<h1.aw):∀t,u.dst=some t->leads (bH e' t)=some h0.aw:=by
 intro t K;have I:=mj (o:=u.op) ab;unfold dM at q;cases y:wanted e u.guard with
 |false=>
  simp only[y,xY,mL,Aj] at q;rw[q.2] at M;omega
 |true=>
  simp only[y,kA] at q;split at q;rename_i U O J;simp only[mL,Aj] at q;obtain⟨C,_⟩:=q;obtain⟨s,cells,G,_,_⟩:=Ar A J;rw[<-C,K,G];simp only[gy,Env.bN,if_true];exact Yx s _;cases q
def akq(q:dM F ih (bY T ng n ops.toList o) e h=some (e',h')):wB ng n ops.toList o=true:=by
 unfold bY at q;cases u:wB ng n ops.toList o with
 |false=>rw[u] at q;simp[dM,wanted,c_] at q
 |true=>rfl
open Classical in
def abb(hF:GO P T ng dr F)(hT:eE P T)(hI:wO P T ng dr ih)(hK:iq ih)(hq:HG F ih T ng n ops σ E H)(C:jW T ng n ops σ l)(Og:∀(k:Nat)(ao:bX)(nZ:List Nat),l[k]?=some (ao,nZ)->still (E (k+1)) (H (k+1)) c nZ=true)(Gi:c<(H 0).clock)(hwf:WF (H 0))(b:Frame)(kk:List Item)(cs:List Frame)(ρ0:fJ)(w0:World):∀(D:Nat->Prop)(L:List Nat),Ord ops D L->(∀i o,ops[i]?=some o->D i->∀k∈iD .any o,D k)->∀(ρ:fJ)(w:World)(a:Act)(q:Nat),q<=ops.size->(∀(p:Nat)(o':Oper),p<ops.size->ops[σ p]?=some o'->(bY T ng n ops.toList o').op.kind=3->(D (σ p)↔p<q))->eM (ik T ng dr) ρ (H q) w->dX ng ρ->n<=a.tmps.size->Ext ρ0 (H 0) w0 ρ (H q) w->(∀(p:Nat)(o:Oper)(t:Nat),p<ops.size->ops[σ p]?=some o->o.dst=some t->D (σ p)->VR ρ (bH (E (p+1)) t) (a.tmps.getD t undef))->(∀t,(∀(i:Nat)(o:Oper),ops[i]?=some o->o.dst=some t->¬D i)->VR ρ (bH (E 0) t) (a.tmps.getD t undef))->(∀(p:Nat)(o:Oper),p<ops.size->ops[σ p]?=some o->(bY T ng n ops.toList o).op.kind=2->¬D (σ p)->(H p).aw<(H (p+1)).aw->ρ (H p).aw=none)->∃ρ' w' a',Steps P (lone (on b a (.inRegion ops L::kk)) cs w) (lone (on b a' (.inRegion ops []::kk)) cs w')/\eM (ik T ng dr) ρ' (H ops.size) w'/\ER ρ' (E ops.size) a'.tmps/\a'.tmps.size=a.tmps.size/\a'.defers=a.defers/\Ext ρ0 (H 0) w0 ρ' (H ops.size) w':=by
 have Gl:∀a b,a<=b->b<=ops.size->(H a).aw<=(H b).aw:=fun a b h1 y=>(tw hK hq C b h1 y).aw;intro D L hO;induction hO with
 | @nil D pq=>
  intro hDc ρ w a q Kj hDq S hG hn X hv hv0 QE;have eQ:PA T ng n ops σ q ops.size:=by intro k o h1 y A J;have:=(hDq k o y A J).1 (pq _ (C.bound k y));omega
  obtain⟨S1,X1⟩:=OY hq C S ops.size Kj (fh _) eQ;refine⟨ρ,w,a,Steps.refl P _,S1,?_,rfl,rfl,X.trans X1⟩;intro t;by_cases O:∃(i:Nat) (o:Oper),ops[i]?=some o/\o.dst=some t;obtain⟨i,o,M,hd⟩:=O;obtain⟨p,hp,rfl⟩:=C.ac2 i (Array.getElem?_eq_some_iff.1 M).1;have:=hv p o t hp M hd (pq _ (C.bound p hp));rwa [<-yv hq C ops.size (a:=p+1) ab (fh _) (fun k K h1 y A J=>av (C.inj p k hp y (C.once (σ p) (σ k) o K t M A hd J)))] at this
  have:=hv0 t (fun i o h1 y=>absurd ⟨i,o,h1,y⟩ O);rwa [<-yv hq C ops.size (a:=0) ab (fh _) (fun k K h1 y A J=>O ⟨σ k,K,A,J⟩)] at this
 | @cons D i L o M uU he hl ihl=>
  intro hDc ρ w a q Kj hDq S hG hn X hv hv0 QE;have Oe:i<ops.size:=(Array.getElem?_eq_some_iff.1 M).1;obtain⟨p,hp,hpi⟩:=C.ac2 i Oe;subst hpi;have aaY:∀j,GN ops (σ p) j->D j:=fun j U=>U.closed hDc (fun o' zI=>by rw[M] at zI;cases zI;exact he);have VX:∀j,GN ops j (σ p)->¬D j:=by
   intro j U hDj;have hjm:∃G,ops[j]?=some G:=by
    cases U with
    |abd h _=>exact⟨_,h⟩
    |xV h _ _=>exact⟨_,h⟩
   obtain⟨G,W⟩:=hjm;exact uU (U.closed hDc (fun o' zI=>hDc j o' zI hDj))
  have O6:∀t,(∀(j:Nat)(G:Oper),ops[j]?=some G->G.dst=some t->GN ops (σ p) j\/GN ops j (σ p))->VR ρ (bH (E p) t) (a.tmps.getD t undef):=by
   intro t I;by_cases O:∃(j:Nat) (G:Oper),ops[j]?=some G/\G.dst=some t
   .obtain⟨j,G,W,hdj⟩:=O;obtain⟨pj,Ui,rfl⟩:=C.ac2 j (Array.getElem?_eq_some_iff.1 W).1;rcases I _ G W hdj with U|U;obtain⟨pj',gX,X0⟩:=C.Tk U p hp rfl;have:=C.inj pj' pj ab Ui X0;subst this;have:=hv pj' G t Ui W hdj (aaY _ U);rwa [<-yv hq C p (a:=pj'+1) ab ab (fun k K h1 y A J=>av (C.inj pj' k Ui ab (C.once _ _ G K t W A hdj J)))] at this
    obtain⟨pp,gX,X0⟩:=C.Tk U pj Ui rfl;have hpp:=C.inj pp p ab hp X0;subst hpp;have:=hv0 t (fun j' oj' h1 y=>by rw[C.once j' (σ pj) oj' G t h1 W y hdj];exact VX _ U);rwa [<-yv hq C pp (a:=0) ab ab (fun k K h1 y A J=>av (C.inj pj k Ui ab (C.once _ _ G K t W A hdj J)))] at this
   have:=hv0 t (fun j G h1 y=>absurd ⟨j,G,h1,y⟩ O);rwa [<-yv hq C p (a:=0) ab ab (fun k K h1 y A J=>O ⟨σ k,K,A,J⟩)] at this
  let PM:List Nat:=(ops.toList.filterMap (·.dst)).filter fun t=>decide (¬VR ρ (bH (E p) t) (a.tmps.getD t undef))
  have auX:∀t,t∉PM->VR ρ (bH (E p) t) (a.tmps.getD t undef):=by intro t I;by_cases O:∃(j:Nat) (G:Oper),ops[j]?=some G/\G.dst=some t;obtain⟨j,G,W,hdj⟩:=O;apply Classical.byContradiction;intro eQ;refine I (Ai.2 ⟨List.mem_filterMap.2 ⟨G,?_,hdj⟩,aj eQ⟩);exact cN (i:=j) (aj W);exact O6 t (fun j G h1 y=>absurd ⟨j,G,h1,y⟩ O)
  have ag6:∀t,VR ρ (bH (E p) t) (a.tmps.getD t undef)->t∉PM:=by intro t I hm;have:=(Ai.1 hm).2;simp only[decide_eq_true_eq] at this;exact this I
  let e2:=Mv PM (E p)
  let a2:Act:= {a with tmps:=I3 PM a.tmps}
  have hE2:ER ρ e2 a2.tmps:=by
   intro t;show VR ρ (bH (Mv PM (E p)) t) ((I3 PM a.tmps).getD t undef);rw[Aq,Ap];by_cases I:t∈PM
   rw[bM I,bM I];exact VR.undef;rw[bU I,bU I];exact auX t I
  have Fa:∀x∈o.op.operands.toList,ev (E p) x=ev e2 x/\a.eval x=a2.eval x:=by
   intro x hx;cases x with
   |tmp t=>
    have I:=ag6 t (O6 t (fun j G h1 y=>C.reads (σ p) o t M hx j G h1 y));simp only[ev,Act.eval,e2,a2];rw[Aq,Ap,bU I,bU I];exact⟨rfl,rfl⟩
   |_=>exact⟨rfl,rfl⟩
  have XZ:=hq p o hp M;have fO:=akq XZ;have Hb:Region.wanted o (yielded ops a.tmps)=wanted (E p) (guardOf ops.toList o):=by
   unfold guardOf;cases Me:o.guard with
   |none=>simp[Region.wanted,Me,wanted]
   |some x=>
    obtain⟨g,bb⟩:=x;dsimp only;have hgs:(FC ops.toList g).isSome=true:=by simp only[wB,oD,Me] at fO;exact fO.1.2
    obtain⟨t,I⟩:=Option.isSome_iff_exists.1 hgs;have auV:=C.guard (σ p) o g bb M Me;have xf:∃og,ops[g]?=some og/\og.dst=some t:=by unfold FC at I;split at I;rename_i og hog;exact⟨og,aj hog,I⟩;cases I
    obtain⟨og,hog,hdg⟩:=xf;have avL:=O6 t (fun j G h1 y=>by rw[<-C.once g j og G t hog h1 hdg y];exact .inl auV);have Ug:=ag6 t avL;have h1:=J9 (a:=a2) hE2 (ops:=ops) (o:=o) (g:=some (t,bb)) (.inr ⟨g,bb,t,Me,I,rfl⟩);have y:yielded ops a.tmps g=yielded ops a2.tmps g:=by
     have hmk:(I3 PM a.tmps).getD t undef=a.tmps.getD t undef:=by rw[Ap,bU Ug]
     rw[Et hog hdg,Et hog hdg];simp only[a2,hmk]
    rw[I];have A:wanted (E p) (some (t,bb))=wanted e2 (some (t,bb)):=by simp only[wanted,e2];rw[Aq,bU Ug]
    show Region.wanted o (yielded ops a.tmps)=wanted (E p) (some (t,bb));rw[A,<-h1];simp only[Region.wanted,Me,y]
  have afu:∀(k:Nat)(K:Oper),k<p->ops[σ k]?=some K->(bY T ng n ops.toList K).op.kind=3->k<q:=fun k K h1 y A=>
   (hDq k K ab y A).1 (aaY _ (C.eager p k K h1 hp y A))
  have Gm:∃q' Z w1 cv v,q'<=ops.size/\Steps P (lone (on b a (.inRegion ops (σ p::L)::kk)) cs w) (lone (on b (a.put o.dst cv) (.inRegion ops L::kk)) cs w1)/\E (p+1)=gy (E p) o.dst v/\VR Z v cv/\(∀d,o.dst=some d->d<a.tmps.size)/\eM (ik T ng dr) Z (H q') w1/\ρ.le Z/\Ext ρ0 (H 0) w0 Z (H q') w1/\(∀(k:Nat)(o':Oper),k<ops.size->ops[σ k]?=some o'->(bY T ng n ops.toList o').op.kind=3->((D (σ k)\/σ k=σ p)↔k<q'))/\(∀(k:Nat),k<ops.size->k≠p->(H k).aw<(H (k+1)).aw->ρ (H k).aw=none->Z (H k).aw=none):=by
   by_cases hk3:(bY T ng n ops.toList o).op.kind=3
   .have hqp:q<=p:=by apply Classical.byContradiction;intro h;exact uU ((hDq p o hp M hk3).2 ab)
    obtain⟨S1,X1⟩:=OY hq C S p hqp ab (fun k K h1 y A J=>av (afu k K y A J));obtain⟨Z,w1,cv,v,s1,XO,Us,xf,S2,X2⟩:=As hF hT hI M XZ S1 hG (a:=a) (a2:=a2) hE2 hn Fa Hb b kk cs L;refine⟨p+1,Z,w1,cv,v,ab,s1,XO,Us,xf,S2,X2.le,(X.trans X1).trans X2,?_,?_⟩
    .intro k o' h1 y A;have:=hDq k o' h1 y A;constructor
     rintro(h|h);have:=this.1 h;omega;have:=C.inj k p h1 hp h;omega
     intro h;by_cases hkp:k=p;exact .inr (by rw[hkp]);exact .inl (this.2 (afu k o' ab y A))
    .intro k h1 y A J;cases hr:Z (H k).aw with
     |none=>rfl
     |some r=>
      have g1:=X2.new _ r hr J;have g2:=(S2.low _ r hr).1;rcases Gf k p with h|h
      have:=Gl (k+1) p ab ab;omega;have:=Gl (p+1) k ab ab;omega
   .have avs:=Om hk3;obtain⟨Y,ace,Fc,S1,X1,ank⟩:∃Y,Y<=ops.size/\p<Y/\eM (ik T ng dr) ρ (H Y) w/\Ext ρ0 (H 0) w0 ρ (H Y) w/\(∀(k:Nat)(o':Oper),k<ops.size->ops[σ k]?=some o'->(bY T ng n ops.toList o').op.kind=3->(D (σ k)↔k<Y)):=by
     by_cases hqp:p<q;exact⟨q,Kj,hqp,S,X,hDq⟩
     .have eQ:PA T ng n ops σ q (p+1):=by intro k K h1 y A J;by_cases hkp:k=p;subst hkp;rw[M] at A;cases A;exact hk3 J;have:=afu k K ab A J;omega
      obtain⟨S1,X1⟩:=OY hq C S (p+1) ab ab eQ;refine⟨p+1,ab,ab,S1,X.trans X1,fun k K h1 y A=>?_⟩;rw[hDq k K h1 y A];constructor;intro h;omega;intro h;by_cases hkp:k=p;subst hkp;rw[M] at y;cases y;exact absurd A hk3;exact afu k K ab y A
    have Wr:∀(u:Nat)(o':Oper),p<u->u<Y->ops[σ u]?=some o'->(bY T ng n ops.toList o').op.kind=3->¬GN ops (σ u) (σ p):=
     fun u o' h1 y A J ha=>VX _ ha ((ank u o' ab A J).2 y)
    have afg:∀(k:Nat)(o':Oper),k<ops.size->ops[σ k]?=some o'->(bY T ng n ops.toList o').op.kind=3->((D (σ k)\/σ k=σ p)↔k<Y):=by
     intro k o' h1 y A;have:=ank k o' h1 y A;constructor
     rintro(h|h);exact this.1 h;rw[h,M] at y;cases y;exact absurd A hk3;intro h;exact .inl (this.2 h)
    by_cases CA:(bY T ng n ops.toList o).op.kind=2
    .obtain⟨Z,w1,cv,v,s1,XO,Us,xf,S2,hle,Wn,hX⟩:=Ti hF hT hI M CA XZ S1 hG (a:=a) (a2:=a2) hE2 hn Fa Hb (QE p o hp M CA uU)
      (fun _ gX=>HU hK hq C Og Gi Fc ace M (.inr CA) Wr (fun h=>by rw[CA] at h;cases h) (fun _ t I=>Tj CA XZ gX t I) gX)
      (Gl (p+1) Y Fc ace) b kk cs L
     refine⟨Y,Z,w1,cv,v,ace,s1,XO,Us,xf,S2,hle,hX ρ0 (H 0) w0 (Gl 0 p ab ab) X1,afg,?_⟩;intro k h1 y A J;refine Wn _ J fun gX heq=>?_;rcases Gf k p with h|h;have:=Gl (k+1) p ab ab;omega;have:=Gl (p+1) k ab ab;omega
    .
     have Uf:=MC ab XZ;have eN:dM F ih (bY T ng n ops.toList o) (E p) (H Y)=some (E (p+1),H Y):=by
      have DO:=XZ;rw[Uf] at DO;have hnc:=mj (o:=(bY T ng n ops.toList o).op) avs;unfold dM at DO⊢;cases hw:wanted (E p) (bY T ng n ops.toList o).guard with
      |false=>
       simp only[hw,xY,mL,Aj] at DO⊢;exact⟨DO.1,trivial⟩
      |true=>
       simp only[hw,kA] at DO⊢;split at DO
       .rename_i v h1 EC;simp only[mL,Aj] at DO;obtain⟨Kh,Po⟩:=DO;subst Po;have ajg:c_ (E p) (H Y) (bY T ng n ops.toList o).op=some (v,H Y):=by
         by_cases hk0:(bY T ng n ops.toList o).op.kind=0;exact(Jg hk0 EC).2 (H Y)
         .have hk1:(bY T ng n ops.toList o).op.kind=1:=ab
          obtain⟨_,x,hx,ai4,aox⟩:=CI hk1 EC;refine ai4 (H Y) fun bb hbb=>?_;obtain⟨wT,ro,op',s,hgt⟩:=aox bb hbb;have awu:WF (H p):=(tw hK hq C (a:=0) p ab ab).wf hwf;have:=HU hK hq C Og Gi Fc ace M (.inl hk1) Wr (b:=bb) (fun _ t I _=>by rw[hx] at I;cases I;exact hbb) (fun h=>by rw[hk1] at h;cases h)
           (by rw[Uf];exact awu bb _ hgt)
          rw[this,Uf]
        rw[ajg];simp only[mL,Aj];exact⟨Kh,trivial⟩
       cases DO
     obtain⟨Z,w1,cv,v,s1,XO,Us,xf,S2,X2⟩:=As hF hT hI M eN S1 hG (a:=a) (a2:=a2) hE2 hn Fa Hb b kk cs L;refine⟨Y,Z,w1,cv,v,ace,s1,XO,Us,xf,S2,X2.le,X1.trans X2,afg,?_⟩;intro k h1 y A J;cases hr:Z (H k).aw with
     |none=>rfl
     |some r=>
      have g1:=X2.new _ r hr J;have g2:=(S2.low _ r hr).1;omega
  obtain⟨q',Z,w1,cv,v,avX,s1,XO,Us,xf,S1,DP,X1,afg,ava⟩:=Gm;have acd:∀t,o.dst≠some t->(a.put o.dst cv).tmps.getD t undef=a.tmps.getD t undef:=by
   intro t I;cases hd:o.dst with
   |none=>rfl
   |some d=>
    have:d≠t:=fun e=>I (by rw[hd,e]);simp[Act.put,Array.getD_eq_getD_getElem?,Array.getElem?_setIfInBounds,this]
  obtain⟨ρ2,w2,a2',s2,S2,E2,z2,d2,X2⟩:=ihl
   (by intro j G U hDj k hk;rcases hDj with h|h;exact .inl (hDc j G U h k hk);subst h;rw[M] at U;cases U;exact .inl (he k hk))
   Z w1 (a.put o.dst cv) q' avX afg S1 (hG.mono DP) (by rw[xv];exact hn) X1
   (by
    intro pj G t Ui U hd hDj;by_cases hji:pj=p;subst hji;rw[M] at U;cases U;rw[XO,hd];have gX:=xf t hd;simp only[gy,Env.bN,if_true,Act.put];simp[Array.getD_eq_getD_getElem?,gX,Us]
    have at5:D (σ pj):=hDj.resolve_right (fun h=>hji (C.inj pj p Ui hp h));rw[acd t (fun h=>hji (C.inj pj p Ui hp (C.once (σ pj) (σ p) G o t U M hd h)))];exact(hv pj G t Ui U hd at5).mono DP)
   (by intro t I;have ma:o.dst≠some t:=fun h=>I (σ p) o M h (.inr rfl);rw[acd t ma];exact(hv0 t (fun j G h1 y A=>I j G h1 y (.inl A))).mono DP)
   (by intro k K h1 y A J h5;have hnD:¬D (σ k):=fun h=>J (.inl h);have hkp:k≠p:=fun h=>J (.inr (by rw[h]));exact ava k h1 hkp h5 (QE k K h1 y A hnD h5))
  exact⟨ρ2,w2,a2',s1.trans s2,S2,E2,z2.trans (xv _ _ _),d2.trans (put_defers _ _ _),X2⟩
end
def abc(hF:GO P T ng (fF T ng) F)(hT:eE P T):Na P T ng (fF T ng) F:=by
 intro ih K hI n ops e h e' h' C u t ρ w a b k cs S hG hE hn;have Z:fF T ng n ops.toList≠xO:=by intro he;rw[he] at C;simp[xO,kP,dM,wanted,c_] at C
 obtain⟨σ,q⟩:=Qj Z;obtain⟨E,H,q1,G,M,W,O⟩:=LH _ _ _ _ _ _ C;rw[q.len] at M W;have J:HG F ih T ng n ops σ E H:=by intro p o U ho;obtain⟨nZ,A⟩:=q.get p o U ho;exact(O p _ nZ A).1
 have hO:=OX q.any q.text q.gc u t;have y:eM (ik T ng (fF T ng)) ρ (H 0) w:=by rw[G];exact S.clock _
 obtain⟨ρ',w',a',s,Y,I,z,d,X⟩:=abb hF hT hI K J q (fun k ao nZ A=>(O k ao nZ A).2) (c:=h.clock) (by rw[G];exact Nat.lt_succ_self _) y.wf b k cs ρ w
  (fun _=>False) _ hO (fun _ _ _ h=>h.elim) ρ w a 0 (Nat.zero_le _) (fun j o' _ _ _=>⟨fun h=>h.elim,fun h=>ab⟩) y hG hn (.refl _ _ _)
  (fun _ _ _ _ _ _ h=>h.elim) (fun t _=>by rw[q1];exact hE t)
  (fun p o U _ _ _ _=>by
   cases hr:ρ (H p).aw with
   |none=>rfl
   |some r=>
    have g1:=(y.low _ r hr).1;have g2:=(tw K J q (a:=0) p ab ab).aw;omega)
 rw[M] at I;rw[W] at Y X;refine⟨ρ',w',a',s,Y,I,z,d,?_⟩;rw[G] at X;exact(Ext.clock (ρ:=ρ) (h:=h) (w:=w) (h.clock+1)).trans X
def NI(T:ta)(ng:Nat)(f:Func):Option cV:=
 match f.body with
 |none=>none
 |some c=>match f.results.toList.mapM (Cs T) with
  |none=>none
  |some rs=>bif f.name== "runtime.NumGoroutine" then none else some { res:=rs,body:=dv T ng f.ntmps (fF T ng) c }
def Ms{α β:Type}{f:α->Option β} :∀ {l:List α} {r:List β},l.mapM f=some r->All2 (fun a b=>f a=some b) l r
 |[],r,h=>by simp only[List.mapM_nil] at h;cases h;exact .nil
 |a::l,r,h=>by
  rw[List.mapM_cons] at h;cases q:f a with
  |none=>simp[q] at h
  |some b=>
   cases u:l.mapM f with
   |none=>simp[q,u] at h
   |some y=>
    simp[q,u] at h;subst h;exact .cons q (Ms u)
def Tu(h:∀f u,F f=some u->∃fn,P.funcs[f]?=some fn/\NI T ng fn=some u):GO P T ng (fF T ng) F:=by
 intro f u A;obtain⟨fn,J,q⟩:=h f u A
 suffices hs:u.zQ=.no/\∃fn c,P.funcs[f]?=some fn/\fn.body=some c/\(fn.name== "runtime.NumGoroutine")=false/\All2 (fun r C=>Cs T r=some C) fn.results.toList u.res/\u.body=dv T ng fn.ntmps (fF T ng) c by
  rw[hs.1];exact hs.2
 unfold NI at q;split at q;cases q
 .rename_i c I;split at q;cases q
  .rename_i rs G;cases y:fn.name== "runtime.NumGoroutine" with
   |true=>rw[y] at q;cases q
   |false=>
    rw[y] at q;cases q;exact⟨rfl,fn,c,J,I,y,Ms G,rfl⟩
section
variable{P:Program}{T:ta}{ng:Nat}{F:Nat->Option cV}
def Cq(y:GO P T ng (fF T ng) F)(u:eE P T){q f:Nat}(G:call F q f args h=some (v,h'))(S:eM (ik T ng (fF T ng)) ρ h w)(I:dX ng ρ)(C:All2 (VR ρ) args dF)(cs:List Frame):∃fn ρ' w' c A,P.funcs[f]?=some fn/\fn.body.isSome=true/\(fn.name== "runtime.NumGoroutine")=false/\Steps P (lone (Frame.enter P f ⟨dF⟩ .normal) cs w) (lone A cs w')/\A.fn=f/\A.leaving P w' (.returned c)/\VR ρ' v c/\eM (ik T ng (fF T ng)) ρ' h' w'/\Ext ρ h w ρ' h' w':=
 zv y u (ZE y u (abc y u) q) G S I C cs
end
def Ud(P:Program)(t:Nat):TypeDesc->Bool
 |.struct _=> !P.stoodInHeld t
 |_=>true
def qV(P:Program)(t:Nat):Option TI:=
 match P.info? t,P.underlying t with
 |some q,some u=>match q.zero with
  |none=>none
  |some z=>
   bif z.cells.toList.all du&&(rB u||Nat.beq q.size 1)&&Nat.beq z.cells.toList.length q.size&&Ud P t u&&(rB u||plain z)
   then some { u:=u,size:=q.size,bytes:=q.bytes,zero:=z.cells.toList,agg:=rB u } else none
 |_,_=>none
def Sl(P:Program):eE P (qV P):=by
 intro t i h;unfold qV at h;split at h
 .rename_i G u O Y;split at h;cases h
  .rename_i z U;cases C:(z.cells.toList.all du&&(rB u||Nat.beq G.size 1)&&Nat.beq z.cells.toList.length G.size&&Ud P t u&&(rB u||plain z)) with
   |false=>rw[C] at h;cases h
   |true=>
    rw[C] at h;cases h;simp only[oD] at C;obtain⟨⟨⟨⟨h1,I⟩,Z⟩,J⟩,K⟩:=C;refine⟨Y,⟨G,O,rfl,rfl,z,U,rfl⟩,rfl,h1,?_,rz Z,?_,?_⟩;intro q;dsimp only at q;rw[q] at I;exact rz (aj I);intro fs y;dsimp only at y;rw[y] at J;simpa [Ud] using J;intro q W z' M A;dsimp only at q;rw[O] at M;cases M;rw[U] at A;cases A;rw[q] at K;simpa using K
 cases h
def N0(P:Program)(ng:Nat)(G:Nat->Option Func)(f:Nat):Option cV:=match G f with
 |some fn=>NI (qV P) ng fn
 |none=>none
def TK{G:Nat->Option Func}(u:∀f fn,G f=some fn->P.funcs[f]?=some fn):GO P (qV P) ng (fF (qV P) ng) (N0 P ng G):=by refine Tu fun f A q=>?_;unfold N0 at q;split at q;rename_i fn y;exact⟨fn,u f fn y,q⟩;cases q
def L8(cs:List Value):az:=⟨1,0,.node (some (.bZ cs true 0 0)) .nil .nil⟩
section
open Go.ChangeShapes Go.WideShapes Go.ChangeAt
variable{H:Type}{enc:TypeId×Value->H}{P:Program}
end
def Z9(ih Mi:aG->Env->az->R):Prop:=∀c e h r,ih c e h=some r->Mi c e h=some r
section
variable{F:Nat->Option cV}{ih Mi:aG->Env->az->R}
def P7(H:Z9 ih Mi){o:Bool}(q:mW F ih o f args h=some r):mW F Mi o f args h=some r:=by
 unfold mW at q⊢;cases A:F f with
 |none=>rw[A] at q;cases q
 |some fn=>
  rw[A] at q;dsimp only at q⊢;cases u:fn.zQ with
  |Rv=>rw[u] at q;exact q
  |run p k=>rw[u] at q;exact q
  |no=>
   rw[u] at q;dsimp only at q⊢;cases y:ih fn.body (params .nil 0 args) h with
   |none=>rw[y] at q;cases q
   |some x=>rw[y] at q;rw[H _ _ _ _ y];exact q
def H6(H:Z9 ih Mi)(q:su F ih f args h=some r):su F Mi f args h=some r:=P7 H q
def Zr(H:Z9 ih Mi){l:Nat}{q:aG}(u:wH ih l q e h=some r):wH Mi l q e h=some r:=by
 unfold wH at u⊢;split at u
 .rename_i y G A body I;cases C:ih q e (fT h l y G A body .busy) with
  |none=>rw[C] at u;cases u
  |some x=>rw[C] at u;rw[H _ _ _ _ C];exact u
 cases u
def Zv(H:Z9 ih Mi){l:Nat}(q:rJ ih l args h=some r):rJ Mi l args h=some r:=by
 unfold rJ at q⊢;split at q
 .rename_i u G y body J;cases C:fP u G args with
  |none=>rw[C] at q;cases q
  |some e=>
   rw[C] at q;dsimp only at q⊢;cases A:ih y e h with
   |none=>rw[A] at q;cases q
   |some x=>
    obtain⟨x,I,h1⟩:=x;rw[A] at q;rw[H _ _ _ _ A];cases x with
    |normal=>exact Zr H q
    |exit id=>cases q
    |ret=>cases q
 cases q
def aa4(H:Z9 ih Mi)(q:e_ F ih fv args h=some r):e_ F Mi fv args h=some r:=by unfold e_ at q⊢;split at q;exact P7 H q;exact Zv H q;cases q
def D6(H:Z9 ih Mi){o:bX}{r:Env×az}(q:dM F ih o e h=some r):dM F Mi o e h=some r:=by
 unfold dM at q⊢;cases y:wanted e o.guard with
 |false=>rw[y] at q;exact q
 |true=>
  rw[y] at q;simp only[kA] at q⊢;split at q
  .rename_i f args A;cases u:e_ F ih (ev e f) (pr e args) h with
   |none=>rw[u] at q;cases q
   |some x=>rw[u] at q;rw[aa4 H u];exact q
  exact q
def OA(H:Z9 ih Mi):∀ {l:List bX} {e:Env} {h:az} {r:Env×az},xu F ih l e h=some r->xu F Mi l e h=some r
 |[],_,_,_,q=>q
 |o::l,e,h,r,q=>by
  unfold xu at q⊢;cases u:dM F ih o e h with
  |none=>rw[u] at q;cases q
  |some x=>rw[u] at q;rw[D6 H u];exact OA H q
def Ie(H:Z9 ih Mi){k:Nat} :∀ {l:List (bX×List Nat)} {e:Env} {h:az} {r:Env×az},kP F ih k l e h=some r->kP F Mi k l e h=some r
 |[],_,_,_,q=>q
 |(o,nZ)::l,e,h,r,q=>by
  unfold kP at q⊢;cases u:dM F ih o e h with
  |none=>rw[u] at q;cases q
  |some x=>
   obtain⟨A,h1⟩:=x;rw[u] at q;rw[D6 H u];dsimp only at q⊢;cases y:still A h1 k nZ with
   |false=>rw[y] at q;cases q
   |true=>rw[y] at q;exact Ie H q
def adJ(H:Z9 ih Mi):Z9 (cX F ih) (cX F Mi):=by
 intro c e h r q;cases c with
 |skip=>exact q
 |ret=>exact q
 |bad=>exact q
 |exit id=>exact q
 |ops l=>
  unfold cX at q⊢;cases u:xu F ih l e h with
  |none=>simp only[u] at q;cases q
  |some x=>simp only[u] at q;simp only[OA H u];exact q
 |draw l=>
  unfold cX at q⊢;cases u:kP F ih h.clock l e {h with clock:=h.clock+1} with
  |none=>simp only[u] at q;cases q
  |some x=>simp only[u] at q;simp only[Ie H u];exact q
 |seq a b=>
  unfold cX at q⊢;cases u:ih a e h with
  |none=>simp only[u] at q;cases q
  |some x=>
   obtain⟨x,I,h1⟩:=x;simp only[u] at q;simp only[H _ _ _ _ u];cases x with
   |normal=>exact H _ _ _ _ q
   |exit id=>exact q
   |ret=>exact q
 |cond J a b=>
  unfold cX at q⊢;dsimp only at q⊢;split at q
  .first|exact H _ _ _ _ q|(rename_i A;rw[A];exact H _ _ _ _ q)
  .first|exact H _ _ _ _ q|(rename_i A;rw[A];exact H _ _ _ _ q)
  cases q
 |block id c=>
  unfold cX at q⊢;cases u:ih c e h with
  |none=>simp only[u] at q;cases q
  |some x=>simp only[u] at q;simp only[H _ _ _ _ u];exact q
 |loop c=>
  unfold cX at q⊢;cases u:ih c e h with
  |none=>simp only[u] at q;cases q
  |some x=>
   obtain⟨x,I,h1⟩:=x;simp only[u] at q;simp only[H _ _ _ _ u];cases x with
   |normal=>exact H _ _ _ _ q
   |exit id=>exact q
   |ret=>exact q
 |Ko f G C body=>
  unfold cX at q⊢;dsimp only at q⊢;split at q
  .rename_i g first y A
   cases u:su F ih g (first.toList++[Value.func (.yield h.aw) #[] #[]]++y.toList) (h.new (.loop e G C body .ready)) with
   |none=>rw[u] at q;cases q
   |some x=>rw[u] at q;rw[H6 H u];exact q
  cases q
def fg(n:Nat):run F (n+1)=cX F (run F n):=rfl
def WT:∀n,Z9 (run F n) (run F (n+1))
 |0=>fun _ _ _ _ h=>by cases h
 |n+1=>adJ (WT n)
def rK{n m:Nat}(h:n<=m):Z9 (run F n) (run F m):=by
 induction h with
 |refl=>exact fun _ _ _ _ h=>h
 |step _ ih=>exact fun c e h r q=>WT _ c e h r (ih c e h r q)
end
section
variable(F:Nat->Option cV)
def aO(c:aG)(e:Env)(h:az)(Q:bK->Env->az->Prop):Prop:=∃n x e' h',run F n c e h=some (x,e',h')/\Q x e' h'
def bm(l:List bX)(e:Env)(h:az)(Q:Env->az->Prop):Prop:=∃n e' h',xu F (run F n) l e h=some (e',h')/\Q e' h'
def cu(k:Nat)(l:List (bX×List Nat))(e:Env)(h:az)(Q:Env->az->Prop):Prop:=∃n e' h',kP F (run F n) k l e h=some (e',h')/\Q e' h'
def bc(f:Nat)(args:List Value)(h:az)(Q:Value->az->Prop):Prop:=∃n v h',su F (run F n) f args h=some (v,h')/\Q v h'
def dU(fv:Value)(args:List Value)(h:az)(Q:Value->az->Prop):Prop:=∃n v h',e_ F (run F n) fv args h=some (v,h')/\Q v h'
end
def Lt(F:Nat->Option cV)(b:aG)(Q:bK->Env->az->Prop):bK->Env->az->Prop
 |.normal=>fun e h=>aO F b e h Q
 |.exit id=>Q (.exit id)
 |.ret=>Q .ret
@[simp] def ahF(F b Q e h):Lt F b Q .normal e h=aO F b e h Q:=rfl
@[simp] def alS(F b Q id e h):Lt F b Q (.exit id) e h=Q (.exit id) e h:=rfl
@[simp] def ap0(F b Q e h):Lt F b Q .ret e h=Q .ret e h:=rfl
def Nf(I:Env->az->Prop)(Q:bK->Env->az->Prop):bK->Env->az->Prop
 |.normal=>I
 |.exit id=>Q (.exit id)
 |.ret=>Q .ret
@[simp] def agc(I Q e h):Nf I Q .normal e h=I e h:=rfl
@[simp] def akp(I Q id e h):Nf I Q (.exit id) e h=Q (.exit id) e h:=rfl
@[simp] def alQ(I Q e h):Nf I Q .ret e h=Q .ret e h:=rfl
def PB(id:Nat)(Q:bK->Env->az->Prop):bK->Env->az->Prop
 |.normal=>Q .normal
 |.exit i=>bif Nat.beq i id then Q .normal else Q (.exit i)
 |.ret=>Q .ret
@[simp] def UY(id Q e h):PB id Q .normal e h=Q .normal e h:=rfl
@[simp] def aer(id Q e h):PB id Q (.exit id) e h=Q .normal e h:=by simp[PB]
def Jo(id Q i e h):PB id Q (.exit i) e h=(bif Nat.beq i id then Q .normal else Q (.exit i)) e h:=rfl
def Jp(id Q i e h)(u:¬i=id):PB id Q (.exit i) e h=Q (.exit i) e h:=by
 have q:Nat.beq i id=false:=by
  cases q:Nat.beq i id with
  |true=>exact absurd (rz q) u
  |false=>rfl
 rw[Jo,q];rfl
@[simp] def arB(id Q e h):PB id Q .ret e h=Q .ret e h:=rfl
section
variable{F:Nat->Option cV}{Q:bK->Env->az->Prop}{e:Env}{h:az}
def aO.mono{c:aG}{q:bK->Env->az->Prop}(H:aO F c e h Q)(u:∀x e h,Q x e h->q x e h):aO F c e h q:=by obtain⟨n,x,e',h',A,y⟩:=H;exact⟨n,x,e',h',A,u _ _ _ y⟩
def bc.mono{R q:Value->az->Prop}(H:bc F f args h R)(y:∀v h,R v h->q v h):bc F f args h q:=by obtain⟨n,v,h',A,u⟩:=H;exact⟨n,v,h',A,y _ _ u⟩
def dU.mono{R q:Value->az->Prop}(H:dU F fv args h R)(y:∀v h,R v h->q v h):dU F fv args h q:=by obtain⟨n,v,h',A,u⟩:=H;exact⟨n,v,h',A,y _ _ u⟩
def ZH:aO F .skip e h Q↔Q .normal e h:=by
 constructor
 .rintro⟨n,x,e',h',u,q⟩;cases n with
  |zero=>cases u
  |succ n=>cases u;exact q
 intro q;exact⟨1,.normal,e,h,rfl,q⟩
def adw:aO F .ret e h Q↔Q .ret e h:=by
 constructor
 .rintro⟨n,x,e',h',u,q⟩;cases n with
  |zero=>cases u
  |succ n=>cases u;exact q
 intro q;exact⟨1,.ret,e,h,rfl,q⟩
def ZG{id:Nat} :aO F (.exit id) e h Q↔Q (.exit id) e h:=by
 constructor
 .rintro⟨n,x,e',h',u,q⟩;cases n with
  |zero=>cases u
  |succ n=>cases u;exact q
 intro q;exact⟨1,.exit id,e,h,rfl,q⟩
def adx{a b:aG} :aO F (.seq a b) e h Q↔aO F a e h (Lt F b Q):=by
 constructor
 .rintro⟨n,x,e',h',q,u⟩;cases n with
  |zero=>cases q
  |succ n=>
   rw[fg] at q;unfold cX at q;dsimp only at q;cases A:run F n a e h with
   |none=>simp only[A] at q;cases q
   |some y=>
    obtain⟨y,G,h1⟩:=y;simp only[A] at q;refine⟨n,y,G,h1,A,?_⟩;cases y with
    |normal=>exact⟨n,x,e',h',q,u⟩
    |exit id=>cases q;exact u
    |ret=>cases q;exact u
 .rintro⟨n,x,e',h',q,u⟩;cases x with
  |normal=>
   obtain⟨m,y,e2,I,C,u⟩:=u;refine⟨max n m+1,y,e2,I,?_,u⟩;rw[fg];unfold cX;dsimp only;simp only[rK (Nat.le_max_left n m) _ _ _ _ q];exact rK (Nat.le_max_right n m) _ _ _ _ C
  |exit id=>
   refine⟨n+1,_,_,_,?_,u⟩;rw[fg];unfold cX;dsimp only;simp only[q]
  |ret=>
   refine⟨n+1,_,_,_,?_,u⟩;rw[fg];unfold cX;dsimp only;simp only[q]
def FA{c:Operand}{a b:aG}{t:Bool}(y:ev e c=.bool t):aO F (.cond c a b) e h Q↔aO F (bif t then a else b) e h Q:=by
 constructor
 .rintro⟨n,x,e',h',q,u⟩;cases n with
  |zero=>cases q
  |succ n=>
   rw[fg] at q;unfold cX at q;dsimp only at q;rw[y] at q;cases t<;>exact⟨n,x,e',h',q,u⟩
 rintro⟨n,x,e',h',q,u⟩;refine⟨n+1,x,e',h',?_,u⟩;rw[fg];unfold cX;dsimp only;rw[y];cases t<;>exact q
def Vj{id:Nat}{c:aG} :aO F (.block id c) e h Q↔aO F c e h (PB id Q):=by
 constructor
 .rintro⟨n,x,e',h',q,u⟩;cases n with
  |zero=>cases q
  |succ n=>
   rw[fg] at q;unfold cX at q;dsimp only at q;cases C:run F n c e h with
   |none=>simp only[C] at q;cases q
   |some y=>
    obtain⟨y,G,h1⟩:=y;simp only[C] at q;refine⟨n,y,G,h1,C,?_⟩;cases y with
    |normal=>cases q;exact u
    |ret=>cases q;exact u
    |exit i=>
     rw[Jo];dsimp only at q;cases A:Nat.beq i id<;>rw[A] at q<;>cases q<;>exact u
 .rintro⟨n,x,e',h',q,u⟩;cases x with
  |normal=>
   refine⟨n+1,_,_,_,?_,u⟩;rw[fg];unfold cX;dsimp only;simp only[q]
  |ret=>
   refine⟨n+1,_,_,_,?_,u⟩;rw[fg];unfold cX;dsimp only;simp only[q]
  |exit i=>
   rw[Jo] at u;cases A:Nat.beq i id with
   |true=>
    rw[A] at u;refine⟨n+1,.normal,e',h',?_,u⟩;rw[fg];unfold cX;dsimp only;simp only[q,A,kA]
   |false=>
    rw[A] at u;refine⟨n+1,.exit i,e',h',?_,u⟩;rw[fg];unfold cX;dsimp only;simp only[q,A,xY]
def AA{c:aG} :aO F (.loop c) e h Q↔aO F c e h (Lt F (.loop c) Q):=by
 constructor
 .rintro⟨n,x,e',h',q,u⟩;cases n with
  |zero=>cases q
  |succ n=>
   rw[fg] at q;unfold cX at q;dsimp only at q;cases A:run F n c e h with
   |none=>simp only[A] at q;cases q
   |some y=>
    obtain⟨y,G,h1⟩:=y;simp only[A] at q;refine⟨n,y,G,h1,A,?_⟩;cases y with
    |normal=>exact⟨n,x,e',h',q,u⟩
    |exit id=>cases q;exact u
    |ret=>cases q;exact u
 .rintro⟨n,x,e',h',q,u⟩;cases x with
  |normal=>
   obtain⟨m,y,e2,I,C,u⟩:=u;refine⟨max n m+1,y,e2,I,?_,u⟩;rw[fg];unfold cX;dsimp only;simp only[rK (Nat.le_max_left n m) _ _ _ _ q];exact rK (Nat.le_max_right n m) _ _ _ _ C
  |exit id=>
   refine⟨n+1,_,_,_,?_,u⟩;rw[fg];unfold cX;dsimp only;simp only[q]
  |ret=>
   refine⟨n+1,_,_,_,?_,u⟩;rw[fg];unfold cX;dsimp only;simp only[q]
def aO.loop{c:aG}(I:Nat->Env->az->Prop)(A:∀n e h,I n e h->aO F c e h (Nf (fun e h=>∃m,m<n/\I m e h) Q)){n:Nat}(h0:I n e h):aO F (.loop c) e h Q:=by
 induction n using Nat.strongRecOn generalizing e h with
 |ind n ih=>
  rw[AA];refine(A n e h h0).mono fun x e h q=>?_;cases x with
  |normal=>obtain⟨m,u,y⟩:=q;exact ih m u y
  |exit id=>exact q
  |ret=>exact q
def adv{l:List bX} :aO F (.ops l) e h Q↔bm F l e h (Q .normal):=by
 constructor
 .rintro⟨n,x,e',h',q,u⟩;cases n with
  |zero=>cases q
  |succ n=>
   rw[fg] at q;unfold cX at q;dsimp only at q;cases A:xu F (run F n) l e h with
   |none=>simp only[A] at q;cases q
   |some y=>simp only[A] at q;cases q;exact⟨n,_,_,A,u⟩
 rintro⟨n,e',h',q,u⟩;refine⟨n+1,.normal,e',h',?_,u⟩;rw[fg];unfold cX;dsimp only;simp only[q]
def tick(h:az):az:= {h with clock:=h.clock+1}
def ZF{l:List (bX×List Nat)} :aO F (.draw l) e h Q↔cu F h.clock l e (tick h) (Q .normal):=by
 constructor
 .rintro⟨n,x,e',h',q,u⟩;cases n with
  |zero=>cases q
  |succ n=>
   rw[fg] at q;unfold cX at q;dsimp only at q;cases A:kP F (run F n) h.clock l e {h with clock:=h.clock+1} with
   |none=>simp only[A] at q;cases q
   |some y=>simp only[A] at q;cases q;exact⟨n,_,_,A,u⟩
 rintro⟨n,e',h',q,u⟩;refine⟨n+1,.normal,e',h',?_,u⟩;rw[fg];unfold cX;dsimp only;rw[show({h with clock:=h.clock+1} :az)=tick h from rfl];simp only[q]
def ac9{R:Env->az->Prop} :bm F [] e h R↔R e h:=by constructor;rintro⟨n,e',h',u,q⟩;cases u;exact q;intro q;exact⟨0,e,h,rfl,q⟩
def Xw{R:Env->az->Prop} :cu F k [] e h R↔R e h:=by constructor;rintro⟨n,e',h',u,q⟩;cases u;exact q;intro q;exact⟨0,e,h,rfl,q⟩
def Da(F:Nat->Option cV)(o:bX)(e:Env)(h:az)(R:Env->az->Prop):Prop:=∃n e' h',dM F (run F n) o e h=some (e',h')/\R e' h'
def tu{o:bX}{l:List bX}{R:Env->az->Prop} :bm F (o::l) e h R↔Da F o e h (fun e h=>bm F l e h R):=by
 constructor
 .rintro⟨n,e',h',q,A⟩;unfold xu at q;cases u:dM F (run F n) o e h with
  |none=>rw[u] at q;cases q
  |some y=>rw[u] at q;exact⟨n,_,_,u,n,_,_,q,A⟩
 rintro⟨n,C,h1,u,m,e',h',q,A⟩;refine⟨max n m,e',h',?_,A⟩;unfold xu;rw[D6 (rK (Nat.le_max_left n m)) u];exact OA (rK (Nat.le_max_right n m)) q
def pP{o:bX}{nZ:List Nat}{l:List (bX×List Nat)}{R:Env->az->Prop} :cu F k ((o,nZ)::l) e h R↔Da F o e h (fun e h=>still e h k nZ=true/\cu F k l e h R):=by
 constructor
 .rintro⟨n,e',h',q,C⟩;unfold kP at q;cases u:dM F (run F n) o e h with
  |none=>rw[u] at q;cases q
  |some y=>
   rw[u] at q;dsimp only at q;cases A:still y.1 y.2 k nZ with
   |false=>rw[A] at q;cases q
   |true=>rw[A] at q;exact⟨n,_,_,u,A,n,_,_,q,C⟩
 rintro⟨n,G,h1,u,A,m,e',h',q,C⟩;refine⟨max n m,e',h',?_,C⟩;unfold kP;rw[D6 (rK (Nat.le_max_left n m)) u];dsimp only;rw[A];exact Ie (rK (Nat.le_max_right n m)) q
def calls:jQ->Bool
 |.call _ _=>true
 |_=>false
def Ru{op:jQ}{R:Env->az->Prop}(C:calls op=false):Da F ⟨d,none,op⟩ e h R↔ ∃v h1,c_ e h op=some (v,h1)/\R (gy e d v) h1:=by
 have key:∀n,dM F (run F n) ⟨d,none,op⟩ e h=(match c_ e h op with|some (v,h')=>some (gy e d v,h')|none=>none):=by intro n;unfold dM;simp only[wanted,kA];split;cases C;rfl
 constructor
 .rintro⟨n,e',h',q,A⟩;rw[key] at q;cases u:c_ e h op with
  |none=>rw[u] at q;cases q
  |some y=>rw[u] at q;cases q;exact⟨_,_,rfl,A⟩
 rintro⟨v,h1,u,A⟩;exact⟨0,_,_,by rw[key,u],A⟩
def yo{b c:Bool}{op:jQ}{R:Env->az->Prop}(C:bH e t=.bool c):Da F ⟨d,some (t,b),op⟩ e h R↔(bif c==b then Da F ⟨d,none,op⟩ e h R else R (gy e d (.tuple #[])) h):=by
 have u:wanted e (some (t,b))=(c==b):=by simp[wanted,C]
 cases y:(c==b) with
 |true=>
  have key:∀n,dM F (run F n) ⟨d,some (t,b),op⟩ e h=dM F (run F n) ⟨d,none,op⟩ e h:=by intro n;unfold dM;dsimp only;rw[u,y];rfl
  simp only[Da,key,kA]
 |false=>
  have key:∀n,dM F (run F n) ⟨d,some (t,b),op⟩ e h=some (gy e d (.tuple #[]),h):=by intro n;unfold dM;dsimp only;rw[u,y];rfl
  simp only[Da,key,xY];constructor;rintro⟨n,e',h',A,q⟩;cases A;exact q;intro q;exact⟨0,_,_,rfl,q⟩
def Jl{f:Operand}{args:List Operand}{R:Env->az->Prop} :Da F ⟨d,none,.call f args⟩ e h R↔dU F (ev e f) (pr e args) h (fun v h=>R (gy e d v) h):=by
 have key:∀n,dM F (run F n) ⟨d,none,.call f args⟩ e h=(match e_ F (run F n) (ev e f) (pr e args) h with|some (v,h')=>some (gy e d v,h')|none=>none):=by intro n;rfl
 constructor
 .rintro⟨n,e',h',u,A⟩;rw[key] at u;cases q:e_ F (run F n) (ev e f) (pr e args) h with
  |none=>rw[q] at u;cases u
  |some y=>rw[q] at u;cases u;exact⟨n,_,_,q,A⟩
 rintro⟨n,v,h1,q,A⟩;exact⟨n,_,_,by rw[key,q],A⟩
def dU.func{f:Nat}{first caps:Array Value}{args:List Value}{R:Value->az->Prop}(H:bc F f (first.toList++args++caps.toList) h R):dU F (.func (.func f) first caps) args h R:=by obtain⟨n,v,h',u,q⟩:=H;exact⟨n,v,h',zw u,q⟩
def dU.Rv{f:Nat}{fn:cV}{first caps:Array Value}{args:List Value}{R:Value->az->Prop}(y:F f=some fn)(q:fn.zQ=.Rv){v:Value}{h':az}(u:Y9 (first.toList++args++caps.toList) h=some (v,h'))(H:R v h'):dU F (.func (.func f) first caps) args h R:=
 ⟨0,v,h',(by simp only[AI.e_,mW,y,q,kA];exact u),H⟩
def C9(rs:List GM)(R:Value->az->Prop):bK->Env->az->Prop
 |.normal,e,h=>∃vs,results e h rs=some vs/\fZ vs=true/\R (result vs) h
 |.ret,e,h=>∃vs,results e h rs=some vs/\fZ vs=true/\R (result vs) h
 |.exit _,_,_=>False
@[simp] def Qo{rs R} :C9 rs R .normal e h↔ ∃vs,results e h rs=some vs/\fZ vs=true/\R (result vs) h:=Iff.rfl
@[simp] def abf{rs R} :C9 rs R .ret e h↔ ∃vs,results e h rs=some vs/\fZ vs=true/\R (result vs) h:=Iff.rfl
@[simp] def akO{rs R id} :C9 rs R (.exit id) e h↔False:=Iff.rfl
def bc.ofP{fn:cV}{R:Value->az->Prop}(C:F f=some fn)(A:fn.zQ=.no)(H:aO F fn.body (params .nil 0 args) h (C9 fn.res R)):bc F f args h R:=by
 obtain⟨n,x,e',h',G,q⟩:=H;cases x with
 |exit id=>exact q.elim
 |normal=>
  obtain⟨vs,y,u,q⟩:=q;refine⟨n,_,h',?_,q⟩;unfold su mW;rw[C];dsimp only;rw[A];dsimp only;rw[G];dsimp only;rw[y];dsimp only;rw[u];rfl
 |ret=>
  obtain⟨vs,y,u,q⟩:=q;refine⟨n,_,h',?_,q⟩;unfold su mW;rw[C];dsimp only;rw[A];dsimp only;rw[G];dsimp only;rw[y];dsimp only;rw[u];rfl
def bc.of{rs:List GM}{R:Value->az->Prop}(q:F f=some ⟨rs,body,.no⟩)(H:aO F body (params .nil 0 args) h (C9 rs R)):bc F f args h R:=
 bc.ofP q rfl H
end
structure cr(h:az):Prop where
 wf:∀b o,h.tr.get b=some o->b<h.aw
 st:∀b cs ro o s,h.tr.get b=some (.bZ cs ro o s)->s<=h.clock
structure ay(S:Nat->Prop)(h h':az):Prop where
 aw:h.aw<=h'.aw
 clock:h.clock<=h'.clock
 same:∀b,b<h.aw->¬S b->h'.tr.get b=h.tr.get b
 ok:cr h'
def aZ:Nat->Prop:=fun _=>False
def ay.refl(q:cr h):ay S h h:=⟨fh _,fh _,fun _ _ _=>rfl,q⟩
def ay.trans'{S A y:Nat->Prop}(a:ay A h h₁)(b:ay y h₁ h₂)(h1:∀b,b<h.aw->A b->S b)(G:∀b,b<h.aw->y b->S b):ay S h h₂:=
 ⟨sx a.aw b.aw,sx a.clock b.clock,fun x q C=>by rw[b.same x (Kf q a.aw) (fun u=>C (G x q u)),a.same x q (fun u=>C (h1 x q u))],b.ok⟩
def ay.trans(a:ay S h h₁)(b:ay S h₁ h₂):ay S h h₂:=a.trans' b ai ai
def ay.cY{S q:Nat->Prop}(a:ay S h h₁)(y:∀b,b<h.aw->S b->q b):ay q h h₁:=
 ⟨a.aw,a.clock,fun b u A=>a.same b u (fun h=>A (y b u h)),a.ok⟩
def ay.ck(a:ay aZ h h₁):ay S h h₁:=a.cY fun _ _ h=>h.elim
def ay.get{S:Nat->Prop}{h h':az}(g:ay S h h')(y:cr h){b:Nat}{o:oZ}(q:h.tr.get b=some o)(u:¬S b:=by exact fun h=>h):h'.tr.get b=some o:=by rw[g.same b (y.wf b o q) u,q]
def bC(q:cr h):ay aZ h (tick h):=
 ⟨fh _,Nat.le_succ _,fun _ _ _=>rfl,⟨q.wf,fun b cs u o s y=>Nat.le_succ_of_le (q.st b cs u o s y)⟩⟩
def aN(u:cr h)(cs:List Value)(o:Nat):ay aZ h (aK h cs o):=by refine⟨Nat.le_succ _,fh _,fun b q _=>?_,⟨fun b C q=>?_,fun b y A G s q=>?_⟩⟩;simp only[aK,az.new,Tr.bN];rw[bU ab];simp only[aK,az.new,Tr.bN] at q⊢;by_cases e:b=h.aw;omega;rw[bU e] at q;exact Nat.lt_succ_of_lt (u.wf b C q);simp only[aK,az.new,Tr.bN] at q⊢;by_cases e:b=h.aw;rw[bM e] at q;cases q;exact Nat.zero_le _;rw[bU e] at q;exact u.st b y A G s q
@[simp] def bz(h:az)(cs:List Value)(o:Nat):(aK h cs o).tr.get h.aw=some (.bZ cs false o 0):=by simp[aK,az.new,Tr.bN]
@[simp] def ahs(h:az)(cs:List Value)(o:Nat):(aK h cs o).aw=h.aw+1:=rfl
@[simp] def NF(h:az)(cs:List Value)(o:Nat):(aK h cs o).clock=h.clock:=rfl
@[simp] def alH(h:az):(tick h).aw=h.aw:=rfl
@[simp] def arR(h:az):(tick h).tr=h.tr:=rfl
def fD{b off n:Nat}{ro:Bool}{o s:Nat}(q:h.tr.get b=some (.bZ cs ro o s))(u:off+n<=cs.length):cD h b off n=some ((cs.drop off).take n):=by
 unfold cD;rw[q];have:((cs.drop off).take n).length=n:=by simp;omega
 simp[this]
def aQ(h:az)(b off n:Nat):cD (tick h) b off n=cD h b off n:=rfl
def put(h:az)(b off:Nat)(cs vs:List Value)(o:Nat):az:= {h with clock:=h.clock+1,tr:=h.tr.set b (.bZ (bg cs off vs) false o h.clock)}
@[simp] def aP(h:az)(b off:Nat)(cs vs:List Value)(o:Nat):(put h b off cs vs o).tr.get b=some (.bZ (bg cs off vs) false o h.clock):=by simp[put,Tr.bN]
def aY(u:cr h){b off:Nat}{o s:Nat}(I:h.tr.get b=some (.bZ cs false o s)):ay (· =b) h (put h b off cs vs o):=by refine⟨fh _,Nat.le_succ _,fun x q K=>?_,⟨fun x G q=>?_,fun x A C J y q=>?_⟩⟩;simp only[put,Tr.bN];rw[bU K];simp only[put,Tr.bN] at q⊢;by_cases e:x=b;subst e;exact u.wf _ _ I;rw[bU e] at q;exact u.wf x G q;simp only[put,Tr.bN] at q⊢;by_cases e:x=b;rw[bM e] at q;cases q;exact Nat.le_succ _;rw[bU e] at q;exact Nat.le_succ_of_le (u.st x A C J y q)
def ir(u:cr h)(b:Nat):ay (· =b) h {h with tr:=h.tr.del b} :=by refine⟨fh _,fh _,fun x q J=>?_,⟨fun x G q=>?_,fun x A C I y q=>?_⟩⟩;simp only[Tr.kE];rw[bU J];simp only[Tr.kE] at q⊢;by_cases e:x=b;rw[bM e] at q;cases q;rw[bU e] at q;exact u.wf x G q;simp only[Tr.kE] at q⊢;by_cases e:x=b;rw[bM e] at q;cases q;rw[bU e] at q;exact u.st x A C I y q
structure Enc(α:Type) where
 enc:α->List Value
 sz:Nat
 len:∀x,(enc x).length=sz
 pos:0<sz
 plain:∀x,(enc x).all plain=true
namespace Enc
variable{α:Type}(E:Enc α)
def flat(xs:List α):List Value:=xs.flatMap E.enc
@[simp] def abo:E.flat []=[]:=rfl
@[simp] def ij(x:α)(xs:List α):E.flat (x::xs)=E.enc x++E.flat xs:=by simp[flat]
@[simp] def d_(xs q:List α):E.flat (xs++q)=E.flat xs++E.flat q:=by simp[flat]
@[simp] def dV(xs:List α):(E.flat xs).length=xs.length*E.sz:=by
 induction xs with
 |nil=>simp
 |cons x xs ih=>simp[E.len,ih,uP,Nat.add_comm]
def mY(xs:List α)(i:Nat):(E.flat xs).drop (i*E.sz)=E.flat (xs.drop i):=by
 induction xs generalizing i with
 |nil=>simp
 |cons x xs ih=>
  cases i with
  |zero=>simp
  |succ i=>
   rw[ij,List.drop_succ_cons,<-ih i,List.drop_append,E.len,show(i+1)*E.sz-E.sz=i*E.sz by rw[uP];omega];have:(E.enc x).drop ((i+1)*E.sz)=[]:=by apply XH;rw[E.len,uP];omega
   rw[this,List.nil_append]
def iQ(xs:List α)(i:Nat):(E.flat xs).take (i*E.sz)=E.flat (xs.take i):=by
 induction xs generalizing i with
 |nil=>simp
 |cons x xs ih=>
  cases i with
  |zero=>simp
  |succ i=>
   rw[ij,List.take_succ_cons,ij,<-ih i,List.take_append,E.len,show(i+1)*E.sz-E.sz=i*E.sz by rw[uP];omega];have:(E.enc x).take ((i+1)*E.sz)=E.enc x:=by apply pg;rw[E.len,uP];omega
   rw[this]
def Ac(xs:List α)(i:Nat)(x:α)(h:xs[i]?=some x):((E.flat xs).drop (i*E.sz)).take E.sz=E.enc x:=by rw[mY];have q:=(di.mp h).1;rw[List.drop_eq_getElem_cons q,ij,List.take_append,E.len,Nat.sub_self,List.take_zero,Bc,(di.mp h).2];exact pg (by rw[E.len];exact fh _)
def pW(xs:List α)(i off n:Nat)(x:α)(h:xs[i]?=some x)(q:off+n<=E.sz):((E.flat xs).drop (i*E.sz+off)).take n=((E.enc x).drop off).take n:=by rw[<-Ac E xs i x h,<-List.drop_drop,List.drop_take,List.take_take,Nat.min_eq_left ab]
def qT(xs:List α)(i:Nat)(x:α)(h:i<xs.length):bg (E.flat xs) (i*E.sz) (E.enc x)=E.flat (xs.set i x):=by unfold bg;rw[iQ,E.len,show i*E.sz+E.sz=(i+1)*E.sz by rw[uP];omega,mY,List.set_eq_take_append_cons_drop,bM h,d_,ij,G1]
end Enc
def bj{α:Type}(E:Enc α)(h:az)(v:Value)(xs:List α):Prop:=
 ∃a q,v=.slice a xs.length q/\((xs=[]/\(a=none\/∃b off,a=some ⟨b,off,none⟩))\/∃b off cs u o s,a=some ⟨b,off,none⟩/\h.tr.get b=some (.bZ cs u o s)/\off+xs.length*E.sz<=cs.length/\(cs.drop off).take (xs.length*E.sz)=E.flat xs)
def bt(v:Value)(b:Nat):Prop:=∃off n q,v=.slice (some ⟨b,off,none⟩) n q
def bj.grow{E:Enc α}{xs:List α}(s:bj E h v xs)(u:cr h)(g:ay S h h')(G:∀b,bt v b->¬S b):bj E h' v xs:=by obtain⟨a,q,rfl,s⟩:=s;refine⟨a,q,rfl,?_⟩;rcases s with s|⟨b,off,cs,A,o,st,rfl,C,y,I⟩;exact .inl s;exact .inr ⟨b,off,cs,A,o,st,rfl,g.get u C (G b ⟨_,_,_,rfl⟩),y,I⟩
def bj.ck{E:Enc α}{xs:List α}(s:bj E h v xs)(q:cr h)(g:ay aZ h h'):bj E h' v xs:=s.grow q g fun _ _ h=>h
def bj.nil{α:Type}(E:Enc α)(h:az)(q:Nat):bj E h (.slice none 0 q) []:=⟨none,q,rfl,.inl ⟨rfl,.inl rfl⟩⟩
def bj.read{E:Enc α}{xs:List α}(s:bj E h v xs){x:α}(C:xs[i]?=some x):∃b off q,v=.slice (some ⟨b,off,none⟩) xs.length q/\i<xs.length/\(∃cs y o s,h.tr.get b=some (.bZ cs y o s))/\∀o n,o+n<=E.sz->cD h b (off+i*E.sz+o) n=some (((E.enc x).drop o).take n):=by
 obtain⟨a,q,rfl,s⟩:=s;have u:=(di.mp C).1;rcases s with s|⟨b,off,cs,y,o,st,rfl,A,K,I⟩
 rw[s.1] at u;simp at u;refine⟨b,off,q,rfl,u,⟨_,_,_,_,A⟩,fun G n J=>?_⟩;have h1:(i+1)*E.sz<=xs.length*E.sz:=CX _ u;rw[uP] at h1;rw[fD A ab];congr 1;rw[<-E.pW xs i G n x C J,<-I,List.drop_take,List.take_take,List.drop_drop,Nat.min_eq_left ab,EV]
def bu{α:Type}(E:Enc α)(n0:Nat)(h:az)(v:Value)(xs:List α):Prop:=
 (xs=[]/\v=.slice none 0 0)\/∃b s,v=.slice (some ⟨b,0,none⟩) xs.length xs.length/\h.tr.get b=some (.bZ (E.flat xs) false E.sz s)/\xs≠[]/\n0<=b
def bu.sl{E:Enc α}{xs:List α}(a:bu E n0 h v xs):bj E h v xs:=by rcases a with⟨rfl,rfl⟩|⟨b,s,rfl,q,_,_⟩;exact .nil E h _;exact⟨_,_,rfl,.inr ⟨b,0,_,_,_,_,rfl,q,ae,by simp[pg]⟩⟩
def bu.grow{E:Enc α}{xs:List α}(a:bu E n0 h v xs)(q:cr h)(g:ay S h h')(y:∀b,bt v b->¬S b):bu E n0 h' v xs:=by rcases a with a|⟨b,s,rfl,u,A,C⟩;exact .inl a;exact .inr ⟨b,s,rfl,g.get q u (y b ⟨_,_,_,rfl⟩),A,C⟩
def bu.of{E:Enc α}{xs:List α}(a:bu E n0 h v xs)(o:bt v b):n0<=b:=by obtain⟨off,n,q,rfl⟩:=o;rcases a with⟨_,h⟩|⟨y,s,h,_,_,u⟩;cases h;cases h;exact u
def yj{E:Enc α}{q:List α}(I:z.length=E.sz)(s:bj E h v q):news h z false v=some (q.length,E.flat q):=by
 obtain⟨a,A,rfl,s⟩:=s;rcases s with⟨rfl,rfl|⟨b,off,rfl⟩⟩|⟨b,off,cs,J,o,st,rfl,C,u,G⟩;simp[news];simp[news]
 .cases q with
  |nil=>simp[news]
  |cons y q=>
   unfold news;dsimp only;rw[show Nat.beq (y::q).length 0=false from rfl,I,fD C u,G];rfl
end Go.AI
namespace Go.AI
variable{F:Nat->Option cV}{S:Nat->Prop}{V:Value->az->Prop}{Xb cs vs z:List Value}{Xc b bytes f fo fs i k len o off s t xs:Nat}{args:List Operand}{c v:Value}{fov:cV}{h h' h1 h₁:az}{rs:List GM}{ρ:fJ}
section
variable(F:Nat->Option cV)
def VN(d:Option Nat)(l:List bX)(e:Env)(R:Env->az->Prop):Option (Value×az)->Prop
 |some (v,h)=>bm F l (gy e d v) h R
 |none=>False
def VM(k:Nat)(nZ:List Nat)(d:Option Nat)(l:List (bX×List Nat))(e:Env)(R:Env->az->Prop):Option (Value×az)->Prop
 |some (v,h)=>still (gy e d v) h k nZ=true/\cu F k l (gy e d v) h R
 |none=>False
def aaE(R:Value->az->Prop)(h:az):Option (List Value)->Prop
 |some vs=>fZ vs=true/\R (result vs) h
 |none=>False
def ahL(d:Option Nat)(l:List bX)(e:Env)(R:Env->az->Prop):Value->az->Prop:=fun v h=>bm F l (gy e d v) h R
def aeA(k:Nat)(nZ:List Nat)(d:Option Nat)(l:List (bX×List Nat))(e:Env)(R:Env->az->Prop):Value->az->Prop:=fun v h=>still (gy e d v) h k nZ=true/\cu F k l (gy e d v) h R
end
section
variable{F:Nat->Option cV}{Q:bK->Env->az->Prop}{R:Env->az->Prop}{e:Env}{h:az}{d:Option Nat}{l:List bX}{k:Nat}{nZ:List Nat}{m:List (bX×List Nat)}
@[simp] def ajN(v:Value)(h:az):VN F d l e R (some (v,h))=bm F l (gy e d v) h R:=rfl
@[simp] def ajL(v:Value)(h:az):VM F k nZ d m e R (some (v,h))=(still (gy e d v) h k nZ=true/\cu F k m (gy e d v) h R):=rfl
@[simp] def ajM:VN F d l e R none=False:=rfl
@[simp] def ajK:VM F k nZ d m e R none=False:=rfl
@[simp] def akN(V:Value->az->Prop)(vs:List Value):aaE V h (some vs)=(fZ vs=true/\V (result vs) h):=rfl
@[simp ↓] def axD:aO F .skip e h Q↔Q .normal e h:=ZH
@[simp ↓] def aAQ:aO F .ret e h Q↔Q .ret e h:=adw
@[simp ↓] def axC{id:Nat} :aO F (.exit id) e h Q↔Q (.exit id) e h:=ZG
@[simp ↓] def aAR{a b:aG} :aO F (.seq a b) e h Q↔aO F a e h (Lt F b Q):=adx
@[simp ↓] def arG{id:Nat}{c:aG} :aO F (.block id c) e h Q↔aO F c e h (PB id Q):=Vj
@[simp ↓] def aAP{l:List bX} :aO F (.ops l) e h Q↔bm F l e h (Q .normal):=adv
@[simp ↓] def axB{l:List (bX×List Nat)} :aO F (.draw l) e h Q↔cu F h.clock l e (tick h) (Q .normal):=ZF
@[simp ↓] def axE{c:Operand}{a b:aG}(q:ev e c=.bool true):aO F (.cond c a b) e h Q↔aO F a e h Q:=FA q
@[simp ↓] def arI{c:Operand}{a b:aG}(q:ev e c=.bool false):aO F (.cond c a b) e h Q↔aO F b e h Q:=FA q
@[simp ↓] def aAN:bm F [] e h R↔R e h:=ac9
@[simp ↓] def axy:cu F k [] e h R↔R e h:=Xw
@[simp ↓] def q_op{op:jQ}(y:calls op=false):bm F (⟨d,none,op⟩::l) e h R↔VN F d l e R (c_ e h op):=by
 rw[tu,Ru y];constructor;rintro⟨v,h1,u,q⟩;rw[u];exact q
 .intro q;cases u:c_ e h op with
  |none=>rw[u] at q;exact q.elim
  |some x=>rw[u] at q;exact⟨_,_,rfl,q⟩
@[simp ↓] def q_do{op:jQ}{b:Bool}(q:bH e t=.bool b):bm F (⟨d,some (t,b),op⟩::l) e h R↔bm F (⟨d,none,op⟩::l) e h R:=by rw[tu,yo q,tu];simp
@[simp ↓] def axA{op:jQ}{b:Bool}(q:bH e t=.bool (!b)):bm F (⟨d,some (t,b),op⟩::l) e h R↔bm F l (gy e d (.tuple #[])) h R:=by rw[tu,yo q];cases b<;>rfl
@[simp ↓] def aAL{op:jQ}{b:Bool}(q:bH e t=.bool b):cu F k ((⟨d,some (t,b),op⟩,nZ)::m) e h R↔cu F k ((⟨d,none,op⟩,nZ)::m) e h R:=by rw[pP,yo q,pP];simp
@[simp ↓] def arH{op:jQ}{b:Bool}(q:bH e t=.bool (!b)):cu F k ((⟨d,some (t,b),op⟩,nZ)::m) e h R↔(still (gy e d (.tuple #[])) h k nZ=true/\cu F k m (gy e d (.tuple #[])) h R):=by rw[pP,yo q];cases b<;>rfl
@[simp ↓] def aAM{op:jQ}(y:calls op=false):cu F k ((⟨d,none,op⟩,nZ)::m) e h R↔VM F k nZ d m e R (c_ e h op):=by
 rw[pP,Ru y];constructor;rintro⟨v,h1,u,q⟩;rw[u];exact q
 .intro q;cases u:c_ e h op with
  |none=>rw[u] at q;exact q.elim
  |some x=>rw[u] at q;exact⟨_,_,rfl,q⟩
def adj{f:Operand} :bm F (⟨d,none,.call f args⟩::l) e h R↔dU F (ev e f) (pr e args) h (ahL F d l e R):=by rw[tu,Jl];rfl
def af6{f:Operand} :cu F k ((⟨d,none,.call f args⟩,nZ)::m) e h R↔dU F (ev e f) (pr e args) h (aeA F k nZ d m e R):=by rw[pP,Jl];rfl
def bm.call{f:Nat}{args:List Operand}{V:Value->az->Prop}(H:bc F f (pr e args) h V)(K:∀v h',V v h'->bm F l (gy e d v) h' R):bm F (⟨d,none,.call (.func f) args⟩::l) e h R:=by rw[adj];obtain⟨n,v,h',u,q⟩:=H;refine⟨n,v,h',?_,K v h' q⟩;have:=zw u;simpa [ev,AI.e_] using this
def bm.e_{f:Operand}(H:dU F (ev e f) (pr e args) h V)(K:∀v h',V v h'->bm F l (gy e d v) h' R):bm F (⟨d,none,.call f args⟩::l) e h R:=by rw[adj];exact H.mono K
@[simp] def aev :C9 rs V .normal e h↔aaE V h (results e h rs):=by rw[Qo];cases results e h rs<;>simp[aaE]
@[simp] def akl :C9 rs V .ret e h↔aaE V h (results e h rs):=by rw[abf];cases results e h rs<;>simp[aaE]
@[simp] def alM(t:Nat)(v:Value):gy e (some t) v=Tr.set e t v:=rfl
@[simp] def alL(v:Value):gy e none v=e:=rfl
@[simp] def atK(t:Nat):ev e (.tmp t)=bH e t:=rfl
@[simp] def amV(v:Value):ev e (.const v)=v:=rfl
@[simp] def akQ(g:Nat):ev e (.global g)=.pointer (some ⟨g,0,none⟩):=rfl
@[simp] def aqr(f:Nat):ev e (.func f)=.func (.func f) #[] #[]:=rfl
attribute [simp] Env.bN
@[simp] def agH(t:Nat):bH .nil t=.tuple #[]:=rfl
@[simp] def aj8(i:Nat):params e i []=e:=rfl
@[simp] def ahw(i:Nat)(v:Value)(r:List Value):params e i (v::r)=params (Tr.set e i v) (i+1) r:=rfl
@[simp] def ap4:pr e []=[]:=rfl
@[simp] def alV(x:Operand)(xs:List Operand):pr e (x::xs)=ev e x::pr e xs:=rfl
@[simp] def akK(op:jQ):calls op=(match op with|.call _ _=>true|_=>false):=by cases op<;>rfl
attribute [simp] c_ agg width vt de iH jc Du unV flat cellsOf plain mK bound results result fZ qm simple still
def fS(h:az)(z:List Value)(bytes:Nat)(q:Bool)(s x:Value):Option (Value×az):=
 match news h z q x with
 |some (n,cs)=>dy h z bytes s n cs
 |none=>none
@[simp ↓ high] def aj1(z:List Value)(bytes:Nat)(q:Bool)(s x:Operand):c_ e h (.append z bytes q s x)=fS h z bytes q (ev e s) (ev e x):=rfl
@[simp] def ahD(cs vs:List Value):bg cs 0 vs=vs++cs.drop vs.length:=by simp[bg]
@[simp] def ahC(c:Value)(cs vs:List Value)(k:Nat):bg (c::cs) (k+1) vs=c::bg cs k vs:=by simp[bg,Nat.add_right_comm k 1]
@[simp] def ahK(h:az)(b off:Nat)(vs:List Value):fU h b off vs=match h.tr.get b with
  |some (.bZ cs false o _)=>if off+vs.length<=cs.length then some (put h b off cs vs o) else none
  |_=>none:=by
 unfold fU;cases h.tr.get b with
 |none=>rfl
 |some x=>
  cases x with
  |bZ cs u o s=>
   cases u with
   |true=>rfl
   |false=>
    dsimp only;by_cases q:off+vs.length<=cs.length<;>simp[q,put]
  |loop=>rfl
  |map=>rfl
  |itr=>rfl
@[simp] def ax(h:az)(b off n:Nat):cD h b off n=match h.tr.get b with
  |some (.bZ cs _ _ _)=>if off+n<=cs.length then some ((cs.drop off).take n) else if n=0 then some [] else none
  |_=>none:=by
 unfold cD;cases h.tr.get b with
 |none=>rfl
 |some x=>
  cases x with
  |bZ cs C o s=>
   dsimp only;have A:((cs.drop off).take n).length=min n (cs.length-off):=ae
   by_cases u:off+n<=cs.length
   .have:((cs.drop off).take n).length=n:=ab
    simp[u,this]
   .simp only[u,if_false];by_cases y:n=0;subst y;simp
    .have:¬((cs.drop off).take n).length=n:=ab
     have q:Nat.beq ((cs.drop off).take n).length n=false:=by
      cases q:Nat.beq ((cs.drop off).take n).length n with
      |true=>exact absurd (rz q) this
      |false=>rfl
     simp only[q,y,if_false,XE]
  |loop=>rfl
  |map=>rfl
  |itr=>rfl
def zC(h:az)(cs:List Value)(o b:Nat):(aK h cs o).tr.get b=if b=h.aw then some (.bZ cs false o 0) else h.tr.get b:=by simp[aK,az.new,Tr.bN]
def Iu(h:az)(b off:Nat)(cs vs:List Value)(o j:Nat):(put h b off cs vs o).tr.get j=if j=b then some (.bZ (bg cs off vs) false o h.clock) else h.tr.get j:=by simp[put,Tr.bN]
attribute [simp] zC Iu
@[simp] def apn(h:az)(b off:Nat)(cs vs:List Value)(o:Nat):(put h b off cs vs o).aw=h.aw:=rfl
@[simp] def akL(h:az)(b off:Nat)(cs vs:List Value)(o:Nat):(put h b off cs vs o).clock=h.clock+1:=rfl
@[simp] def ah8(h:az):(tick h).clock=h.clock+1:=rfl
def ay.new(g:ay S h h₁)(cs:List Value)(o:Nat):ay S h (aK h₁ cs o):=g.trans (aN g.ok cs o).ck
def ay.tick{S:Nat->Prop}{h h₁:az}(g:ay S h h₁):ay S h (tick h₁):=g.trans (bC g.ok).ck
def ay.put{S:Nat->Prop}{h h₁:az}{b off:Nat}{cs vs:List Value}{o:Nat}(g:ay S h h₁)(u:∃s,h₁.tr.get b=some (.bZ cs false o s))(q:h.aw<=b\/S b):ay S h (put h₁ b off cs vs o):=by obtain⟨s,u⟩:=u;refine g.trans' (aY g.ok u) ai fun x y e=>?_;rcases q with q|q;omega;rw[e];exact q
@[simp] def amt(p:Value->Bool):([]:List Value).all p=true:=rfl
end
section
variable{F:Nat->Option cV}{Q:bK->Env->az->Prop}{e:Env}{h:az}
def DE(h:az)(l:Nat):az:= {h with tr:=h.tr.del l}
def vV(l:Nat)(e:Env)(Q:bK->Env->az->Prop)(h:az):Prop:=
 match h.tr.get l with
 |some (.loop _ _ _ _ .ready)=>Q .normal e (DE h l)
 |some (.loop _ _ _ _ (.done none))=>Q .ret e (DE h l)
 |some (.loop _ _ _ _ (.done (some id)))=>Q (.exit id) e (DE h l)
 |_=>False
def aO.Ko{f:Operand}{ps:List Nat}{asg body:aG}{g:Nat}{first caps:Array Value}(A:ev e f=.func (.func g) first caps)(H:bc F g (first.toList++[.func (.yield h.aw) #[] #[]]++caps.toList) (h.new (.loop e ps asg body .ready)) (fun _ h'=>vV h.aw e Q h')):aO F (.Ko f ps asg body) e h Q:=by
 obtain⟨n,v,h',C,q⟩:=H;have u:run F (n+1) (.Ko f ps asg body) e h=(match h'.tr.get h.aw with
    |some (.loop _ _ _ _ .ready)=>some (.normal,e,{h' with tr:=h'.tr.del h.aw})
    |some (.loop _ _ _ _ (.done none))=>some (.ret,e,{h' with tr:=h'.tr.del h.aw})
    |some (.loop _ _ _ _ (.done (some id)))=>some (.exit id,e,{h' with tr:=h'.tr.del h.aw})
    |_=>none):=by
  rw[fg];unfold cX;dsimp only;rw[A];dsimp only;rw[C];rfl
 unfold vV at q;split at q;rename_i y;rw[y] at u;exact⟨n+1,_,_,_,u,q⟩;rename_i y;rw[y] at u;exact⟨n+1,_,_,_,u,q⟩;rename_i y;rw[y] at u;exact⟨n+1,_,_,_,u,q⟩;exact q.elim
def aaQ(l:Nat)(q:Env)(ps:List Nat)(asg body:aG)(R:Value->az->Prop):bK->Env->az->Prop
 |.normal,_,h=>(∃a b c d,h.tr.get l=some (.loop a b c d .busy)/\a=q/\b=ps/\c=asg/\d=body)/\R (.bool true) (fT h l q ps asg body .ready)
 |.ret,_,h=>(∃a b c d,h.tr.get l=some (.loop a b c d .busy)/\a=q/\b=ps/\c=asg/\d=body)/\R (.bool false) (fT h l q ps asg body (.done none))
 |.exit id,_,h=>(∃a b c d,h.tr.get l=some (.loop a b c d .busy)/\a=q/\b=ps/\c=asg/\d=body)/\R (.bool false) (fT h l q ps asg body (.done (some id)))
def dU.yield{l:Nat}{q:Env}{ps:List Nat}{asg body:aG}{a b:Array Value}{args:List Value}{R:Value->az->Prop}{J:Env}(U:h.tr.get l=some (.loop q ps asg body .ready))(Z:fP q ps args=some J)(H:aO F asg J h (fun x e2 G=>x=.normal/\G.tr.get l=some (.loop q ps asg body .ready)/\aO F body e2 (fT G l q ps asg body .busy) (aaQ l q ps asg body R))):dU F (.func (.yield l) a b) args h R:=by
 obtain⟨n,x,e2,G,W,rfl,M,m,y,O,Y,C,u⟩:=H;have I:=rK (Nat.le_max_left n m) _ _ _ _ W;have K:=rK (Nat.le_max_right n m) _ _ _ _ C;have key:e_ F (run F (max n m)) (.func (.yield l) a b) args h=(match(y,O,Y) with
   |(.normal,_,h)=>lY l h .ready true
   |(.ret,_,h)=>lY l h (.done none) false
   |(.exit id,_,h)=>lY l h (.done (some id)) false:Option (Value×az)):=by
  clear u;unfold e_;dsimp only;unfold rJ;rw[U];dsimp only;rw[Z];dsimp only;rw[I];dsimp only;unfold wH;rw[M];dsimp only;simp only[K];cases y<;>rfl
 cases y with
 |normal=>
  obtain⟨⟨_,_,_,_,A,rfl,rfl,rfl,rfl⟩,u⟩:=u;exact⟨max n m,_,_,by rw[key];dsimp only;unfold lY;rw[A],u⟩
 |ret=>
  obtain⟨⟨_,_,_,_,A,rfl,rfl,rfl,rfl⟩,u⟩:=u;exact⟨max n m,_,_,by rw[key];dsimp only;unfold lY;rw[A],u⟩
 |exit id=>
  obtain⟨⟨_,_,_,_,A,rfl,rfl,rfl,rfl⟩,u⟩:=u;exact⟨max n m,_,_,by rw[key];dsimp only;unfold lY;rw[A],u⟩
end
def cg(n:Int)(h: -9223372036854775808<=n)(h':n<9223372036854775808):IntKind.i64.wrap n=n:=by simp only[IntKind.wrap,IntKind.signed,IntKind.bits];simp;omega
def qt{α:Type}{E:Enc α}(C:cr h){n0 bytes:Nat}{v w:Value}{xs q:List α}(u:z.length=E.sz)(a:bu E n0 h v xs)(O:bj E h w q)(K:xs.length+q.length<1000000)(Z:bytes<=1000)(M:n0<=h.aw):∃J h',fS h z bytes false v w=some (J,h')/\bu E n0 h' J (xs++q)/\ay (bt v) h h':=by
 unfold fS;rw[yj u O];dsimp only;have A:=E.pos;have Y:E.sz≠0:=ab
 cases q with
 |nil=>
  refine⟨v,h,?_,aj a,.refl C⟩;rcases a with⟨rfl,rfl⟩|⟨b,s,rfl,_,_,_⟩;simp[dy,u,A];simp[dy,u,A]
 |cons y q=>
  have I:roomy (xs.length+(q.length+1))=true:=by simp[roomy];simp at K;omega
  have G:roomy ((xs.length+(q.length+1))*bytes)=true:=by have:(xs.length+(q.length+1))*bytes<=1000000*1000:=Nat.mul_le_mul (by simp at K;omega) Z;simp[roomy];omega
  rcases a with⟨rfl,rfl⟩|⟨b,s,rfl,W,hx,IB⟩;simp only[List.length_nil,Hj] at I G;refine⟨.slice (some ⟨h.aw,0,none⟩) (q.length+1) (q.length+1),aK h (E.flat (y::q)) E.sz,?_,.inr ⟨h.aw,0,ae,ae,ae,M⟩,(aN C _ _).ck⟩;simp[dy,u,A,I,G]
  .refine⟨.slice (some ⟨h.aw,0,none⟩) (xs.length+(q.length+1)) (xs.length+(q.length+1)),aK {h with tr:=h.tr.del b} (E.flat xs++E.flat (y::q)) E.sz,?_,.inr ⟨h.aw,0,ae,?_,ae,M⟩,?_⟩
   .have U:¬xs.length+(q.length+1)<=xs.length:=ab
    have e2:(E.flat xs).take (xs.length*E.sz)=E.flat xs:=pg ae;simp[dy,u,A,I,G,W,U,e2,Y]
   have:=bz {h with tr:=h.tr.del b} (E.flat xs++E.flat (y::q)) E.sz;rw[Enc.d_];exact this;refine((ir C b).cY ?_).trans (aN (ir C b).ok _ _).ck;rintro x _ rfl;exact⟨_,_,_,rfl⟩
def Old(b:Nat)(h:az):Prop:=b<h.aw
def Old.lt(o:Old b h):b<h.aw:=o
@[simp] def aas(h:az)(cs:List Value)(o:Nat):Old h.aw (aK h cs o):=Nat.lt_succ_self _
@[simp] def YT(h:az)(cs:List Value)(o:Nat):Old h.aw (aK h cs o)=True:=ae
@[simp] def arA(b:Nat)(h:az)(c off:Nat)(cs vs:List Value)(o:Nat):Old b (put h c off cs vs o)↔Old b h:=Iff.rfl
@[simp] def apD(b:Nat)(h:az):Old b (tick h)↔Old b h:=Iff.rfl
@[simp] def aj0(H:Old b h):Old b (aK h cs o):=Nat.lt_succ_of_lt H
@[simp] def axj(H:Old b h):(b=h.aw)=False:=by have:b<h.aw:=H;exact propext ⟨fun e=>ab,False.elim⟩
@[simp] def ary(H:Old b h):(h.aw=b)=False:=by have:b<h.aw:=H;exact propext ⟨fun e=>ab,False.elim⟩
@[simp] def arz(H:Old b h):(b=h.aw+k)=False:=by have:b<h.aw:=H;exact propext ⟨fun e=>ab,False.elim⟩
@[simp] def apC(H:Old b h):(h.aw+k=b)=False:=by have:b<h.aw:=H;exact propext ⟨fun e=>ab,False.elim⟩
def ay.cn(g:ay S h h')(H:Old b h):Old b h':=Kf H g.aw
def ay.got(g:ay aZ h h')(H:Old b h):h'.tr.get b=h.tr.get b:=g.same b H (fun h=>h)
def cr.cn(q:cr h){o:oZ}(u:h.tr.get b=some o):Old b h:=q.wf _ _ u
def ay.var(g:ay S h h₁)(q vs:List Value):ay S h (AI.put (AI.aK h₁ q 0) h₁.aw 0 q vs 0):=
 (g.new q 0).put ⟨_,bz _ _ _⟩ (.inl g.aw)
def Is(H:Old b h)(cs:List Value)(o:Nat):(aK h cs o).tr.get b=h.tr.get b:=by rw[zC,bU (by intro e;have:=H.lt;omega)]
def bw(H:Old b h)(cs:List Value)(o off n:Nat):cD (aK h cs o) b off n=cD h b off n:=by unfold cD;rw[zC,bU (by intro e;have:=H.lt;omega)]
def cH{b c:Nat}(H:¬b=c)(cs vs:List Value)(o off q n:Nat):cD (put h c q cs vs o) b off n=cD h b off n:=by unfold cD;rw[Iu,bU H]
def aF{ro:Bool}(q:h.tr.get b=some (.bZ cs ro o s))(off n:Nat):cD h b off n=if off+n<=cs.length then some ((cs.drop off).take n) else if n=0 then some [] else none:=by rw[ax,q]
def aH(h:az)(b q:Nat)(cs vs:List Value)(o off n:Nat):cD (put h b q cs vs o) b off n=if off+n<=(bg cs q vs).length then some (((bg cs q vs).drop off).take n) else if n=0 then some [] else none:=
 aF (aP h b q cs vs o) off n
def ed(h:az)(cs:List Value)(o off n:Nat):cD (aK h cs o) h.aw off n=if off+n<=cs.length then some ((cs.drop off).take n) else if n=0 then some [] else none:=
 aF (bz h cs o) off n
def It(o:oZ)(H:Old b h):(h.new o).tr.get b=h.tr.get b:=by simp only[az.new,Tr.bN];rw[bU (by intro e;have:=H.lt;omega)]
def vV.ready{l:Nat}{e:Env}{QQ:bK->Env->az->Prop}{h:az}{a:Env}{b:List Nat}{c d:aG}(q:h.tr.get l=some (.loop a b c d .ready))(H:QQ .normal e (DE h l)):vV l e QQ h:=by unfold vV;rw[q];exact H
section
variable{F:Nat->Option cV}{Q:bK->Env->az->Prop}{R:Env->az->Prop}{e:Env}{h:az}{l:List bX}{k:Nat}{m:List (bX×List Nat)}
def aO.cut{c:aG}(P:az->Prop)(q:P h1)(K:∀h',P h'->aO F c e h' Q):aO F c e h1 Q:=K h1 q
def bm.cut(P:az->Prop)(q:P h1)(K:∀h',P h'->bm F l e h' R):bm F l e h1 R:=K h1 q
def cu.cut(P:az->Prop)(q:P h1)(K:∀h',P h'->cu F k m e h' R):cu F k m e h1 R:=K h1 q
def cu.call{d:Option Nat}{f:Nat}{args:List Operand}{nZ:List Nat}{V:Value->az->Prop}(H:bc F f (pr e args) h V)(K:∀v h',V v h'->still (gy e d v) h' k nZ=true/\cu F k m (gy e d v) h' R):cu F k ((⟨d,none,.call (.func f) args⟩,nZ)::m) e h R:=by rw[af6];obtain⟨n,v,h',u,q⟩:=H;refine⟨n,v,h',?_,K v h' q⟩;have:=zw u;simpa [ev,AI.e_] using this
end
def vA(z:List Value)(o bytes fo fs:Nat):aG:=(G_ [o_ 6 (.mv (.const (.slice none 0 0)))] (G_ [m_ 10 0,m_ 11 1,o_ 12 (.slice o (t_ 10) (some (t_ 11)) none none)] (G_ [m_ 13 2,z_ 14 13,m_ 7 14] (J_ (G_ [m_ 15 7,o_ 16 (.bin .eql [1] (t_ 15) (i_ 0))] (I_ 16 (G_ [m_ 17 0,m_ 6 17] .ret) .skip)) (G_ [m_ 18 0,z_ 19 18,m_ 8 19] (J_ (G_ [m_ 20 1,m_ 21 8,o_ 22 (.bin .eql [1] (t_ 20) (t_ 21))] (I_ 22 (G_ [m_ 23 0,m_ 24 2,o_ 25 (.append z bytes false (t_ 23) (t_ 24)),m_ 6 25] .ret) .skip)) (J_ (G_ [m_ 26 8,m_ 27 7,B_ 28 .add 26 27,m_ 29 0,o_ 30 (.Tn (t_ 29)),B_ 31 .gtr 28 30] (I_ 31 (G_ [m_ 32 0,m_ 33 1,o_ 34 (.slice o (t_ 32) none (some (t_ 33)) none),m_ 35 8,m_ 36 7,B_ 37 .add 35 36,m_ 38 1,B_ 39 .sub 37 38,o_ 40 (.append z bytes true (t_ 34) (t_ 39)),m_ 9 40] (G_ [m_ 41 9,m_ 42 1,o_ 43 (.slice o (t_ 41) (some (t_ 42)) none none),m_ 44 2,o_ 45 (.copy o (t_ 43) (t_ 44))] (J_ (V_ [D_ (m_ 46 9),D_ (m_ 47 1),D_ (m_ 48 7),D_ (B_ 49 .add 47 48),(o_ 50 (.slice o (t_ 46) (some (t_ 49)) none none),[]),D_ (m_ 51 0),D_ (m_ 52 1),(o_ 53 (.slice o (t_ 51) (some (t_ 52)) none none),[]),(o_ 54 (.copy o (t_ 50) (t_ 53)),[])]) (G_ [m_ 55 9,m_ 6 55] .ret)))) .skip)) (G_ [m_ 56 0,m_ 57 8,m_ 58 7,B_ 59 .add 57 58,o_ 60 (.slice o (t_ 56) none (some (t_ 59)) none),m_ 0 60] (J_ (G_ [m_ 61 2,m_ 62 0,m_ 63 1,m_ 64 7,B_ 65 .add 63 64,o_ 66 (.slice o (t_ 62) (some (t_ 65)) none none),o_ 67 (.call (.func fo) [t_ 61,t_ 66]),o_ 68 (.un .not (t_ 67))] (I_ 68 (J_ (V_ [D_ (m_ 69 0),D_ (m_ 70 1),D_ (m_ 71 7),D_ (B_ 72 .add 70 71),(o_ 73 (.slice o (t_ 69) (some (t_ 72)) none none),[]),D_ (m_ 74 0),D_ (m_ 75 1),(o_ 76 (.slice o (t_ 74) (some (t_ 75)) none none),[]),(o_ 77 (.copy o (t_ 73) (t_ 76)),[])]) (G_ [m_ 78 0,m_ 79 1,o_ 80 (.slice o (t_ 78) (some (t_ 79)) none none),m_ 81 2,o_ 82 (.copy o (t_ 80) (t_ 81))] (G_ [m_ 83 0,m_ 6 83] .ret))) .skip)) (G_ [m_ 84 0,m_ 85 8,o_ 86 (.slice o (t_ 84) (some (t_ 85)) none none),m_ 87 2,o_ 88 (.copy o (t_ 86) (t_ 87))] (G_ [m_ 89 0,m_ 90 1,o_ 91 (.slice o (t_ 89) (some (t_ 90)) none none),m_ 92 7,o_ 93 (.call (.func fs) [t_ 91,t_ 92])] (G_ [m_ 94 0,m_ 6 94] .ret))))))))))))
def aJ(cs vs:List Value)(off i len o:Nat):List Value:=(cs.drop off).take (i*o)++vs++(cs.drop (off+i*o)).take ((len-i)*o)
def ajF(q:vs.length=o)(I:i<len)(C:off+(len+1)*o<=cs.length):bg (bg cs (off+(i+1)*o) ((cs.drop (off+i*o)).take ((len-i)*o))) (off+i*o) vs=cs.take off++aJ cs vs off i len o++cs.drop (off+(len+1)*o):=by
 have e2:(i+1)*o=i*o+o:=by rw[uP];omega
 have A:(len+1)*o=len*o+o:=by rw[uP];omega
 have G:i*o+(len-i)*o=len*o:=by rw[<-uP];congr 1;omega
 have y:((cs.drop (off+i*o)).take ((len-i)*o)).length=(len-i)*o:=by simp;omega
 unfold bg aJ;rw[y,q];have u:(cs.take (off+(i+1)*o)++(cs.drop (off+i*o)).take ((len-i)*o)++cs.drop (off+(i+1)*o+(len-i)*o)).take (off+i*o)=cs.take off++(cs.drop off).take (i*o):=by rw[G1,List.take_append_of_le_length (by simp;omega),List.take_take,Nat.min_eq_left ab,List.take_add]
 have a2:(cs.take (off+(i+1)*o)++(cs.drop (off+i*o)).take ((len-i)*o)++cs.drop (off+(i+1)*o+(len-i)*o)).drop (off+i*o+o)=(cs.drop (off+i*o)).take ((len-i)*o)++cs.drop (off+(len+1)*o):=by
  rw[G1,List.drop_append,List.length_take,Nat.min_eq_left ab,show off+i*o+o-(off+(i+1)*o)=0 by omega,List.drop_zero,XH (by simp;omega),List.nil_append,show off+(i+1)*o+(len-i)*o=off+(len+1)*o by omega]
 rw[u,a2];simp only[G1]
def acw(hf:F f=some ⟨[.tmp 6],vA z o bytes fo fs,.no⟩)(M:F fo=some fov)(EC:fov.zQ=.Rv)(ho:0<o){b off len q i x xo xc:Nat}(hi:i<len)(IC:len<q)(dJ:len<1000000)(G:fC h b cs s)(hl:off+q*o<=cs.length)(hx:h.tr.get x=some (.bZ Xb false Xc xs))(u:cD h x xo o=some vs)(K:b≠x):bc F f [.slice (some ⟨b,off,none⟩) len q,.int .i64 i,.slice (some ⟨x,xo,none⟩) 1 xc] h (fun v h'=>v=.slice (some ⟨b,off,none⟩) (len+1) q/\h'.aw=h.aw/\h.clock<=h'.clock/\(∀y,y<h.aw->y≠b->h'.tr.get y=h.tr.get y)/\∃s',h'.tr.get b=some (.bZ (cs.take off++aJ cs vs off i len o++cs.drop (off+(len+1)*o)) false 0 s')):=by
 obtain⟨L,J⟩:∃L,L=len+1:=⟨_,rfl⟩;obtain⟨I,hI⟩:∃I,I=i+1:=⟨_,rfl⟩;rw[<-J];have Y:IntKind.i64.wrap ((len:Int)+1)=(L:Int):=by rw[cg _ ab ab];omega
 have w3:IntKind.i64.wrap ((i:Int)+1)=(I:Int):=by rw[cg _ ab ab];omega
 have q1:((i:Int)==(len:Int))=false:=by simp;omega
 have q2:¬q<L:=ab
 have A:L<=q:=ab
 have q3:i<=len:=ab
 have q6:i<=L:=ab
 have q7:I<=L:=ab
 have q8:Nat.min 1 (L-i)=1:=by show min 1 (L-i)=1;omega
 have Z:Nat.min (L-i) (L-I)=len-i:=by show min (L-i) (L-I)=len-i;omega
 have Aw:¬len-i=0:=ab
 have m1:i*o+(len-i)*o=len*o:=by rw[<-uP];congr 1;omega
 have m2:L*o=len*o+o:=by rw[J,uP];omega
 have m3:I*o=i*o+o:=by rw[hI,uP];omega
 have m4:L*o<=q*o:=CX _ A;have X8:vs.length=o:=by unfold cD at u;rw[hx] at u;dsimp only at u;split at u;rename_i hh;cases u;exact rz hh;cases u
 have xy:cD h b (off+i*o) ((len-i)*o)=some ((cs.drop (off+i*o)).take ((len-i)*o)):=fD G ab;have yV:((cs.drop (off+i*o)).take ((len-i)*o)).length=(len-i)*o:=by simp;omega
 have Fv:min ((len-i)*o) (cs.length-(off+i*o))=(len-i)*o:=ab
 have U:off+I*o+(len-i)*o<=cs.length:=ab
 have O:(bg cs (off+I*o) ((cs.drop (off+i*o)).take ((len-i)*o))).length=cs.length:=by simp[bg];omega
 have W:off+i*o+o<=cs.length:=ab
 have C:¬x=b:=fun e=>K e.symm;refine bc.of hf ?_;unfold vA;simp[Y,w3,q1,q2,A,q3,q6,q7,q8,Z,Aw,G];refine bm.e_ (V:=fun v h'=>v=.bool false/\h'=h) (dU.Rv M EC (v:=.bool false) (h':=h) ?_ ⟨rfl,rfl⟩) ?_
 .have Ut:Nat.beq x b=false:=by
   cases e:Nat.beq x b with
   |true=>exact absurd (rz e) C
   |false=>rfl
  simp[Y9,hx,G,Ut]
 rintro _ h'⟨rfl,e⟩;subst e;simp[Y,w3,q1,q2,A,q3,q6,q7,q8,Z,Aw,G,xy,aQ,cH,u,X8,yV,Fv,U,O,W,C,-ax];refine⟨ab,fun y _ hy=>au hy,?_⟩;rw[hI,J,ajF X8 hi (by rw[<-J];omega)];simp only[G1]
def wo(o:Nat)(args:List Value)(h:az):Option (Value×az):=
 match args with
 |[.slice (some ⟨b,off,none⟩) len q,.int .i64 (.ofNat i),.slice (some ⟨x,u,none⟩) m _]=>
  match h.tr.get b,h.tr.get x with
  |some (.bZ cs false op _),some (.bZ _ false _ _)=>
   if Nat.beq len q&&Nat.blt i len&&Nat.beq m 1&&Nat.beq op o&&Nat.beq (off+q*o) cs.length&& !(Nat.beq b x)&&Nat.blt len 1000000 then
    match cD h x u o with
    |some vs=>some (.slice (some ⟨h.aw+8,0,none⟩) (len+1) (len+1),aK {h with aw:=h.aw+8,tr:=h.tr.del b} (aJ cs vs off i len o) o)
    |none=>none
   else none
  |_,_=>none
 |_=>none
section
variable{P:Program}{CC:dx}{ρ ρ₂:fJ}{h h₂:az}{w w₂:World}
def aa7(k:KR ρ v c)(q:du v=true):du c=true:=by
 cases k with
 |cell k=>cases k<;>first|exact q|cases q
 |fn=>cases q
 |yield=>cases q
end
section
variable{P:Program}{T:ta}{ng:Nat}{F:Nat->Option cV}
def Tg{a b c:Value}{l:List Value}(h:All2 (VR ρ) [a,b,c] l):∃x y z,l=[x,y,z]/\VR ρ a x/\VR ρ b y/\VR ρ c z:=by
 cases h with
 |cons h1 h=>cases h with
  |cons q h=>cases h with
   |cons u h=>cases h with
    |nil=>exact⟨_,_,_,rfl,h1,q,u⟩
def gm{b o len u:Nat}(h:VR ρ (.slice (some ⟨b,o,none⟩) len u) c):∃r y q,ρ b=some r/\ve r o len u y q/\c=.slice (some y) len q:=by
 have:=CR.Fu h rfl;cases this with
 |slice h' A=>exact⟨_,_,_,h',A,rfl⟩
end
def Pd(F:Nat->Option cV)(fo:Nat)(f:Nat):Option cV:=bif Nat.beq f fo then some ⟨[],.bad,.Rv⟩ else F f
section
variable{P:Program}{T:ta}{ng:Nat}{F:Nat->Option cV}
def VD{dr:tB}(y:GO P T ng dr F)(u:VO P T fo):GO P T ng dr (Pd F fo):=by
 intro f A h;unfold Pd at h;cases q:Nat.beq f fo with
 |true=>
  rw[q] at h;cases h;rw[rz q];exact u
 |false=>rw[q] at h;exact y f A h
end
def afI(W:F f=some ⟨[.tmp 6],vA z o bytes fo fs,.no⟩)(U:z.length=o)(Y:0<o)(yW:bytes<=1000){b off len q x G xc:Nat}(IC:len<q)(dJ:len<1000000)(M:fC h b cs s)(hl:off+q*o<=cs.length)(C:h.tr.get x=some (.bZ Xb false Xc xs))(u:cD h x G o=some vs):bc F f [.slice (some ⟨b,off,none⟩) len q,.int .i64 len,.slice (some ⟨x,G,none⟩) 1 xc] h (fun v h'=>v=.slice (some ⟨b,off,none⟩) (len+1) q/\h'.aw=h.aw/\h.clock<=h'.clock/\(∀y,y<h.aw->y≠b->h'.tr.get y=h.tr.get y)/\∃J,h'.tr.get b=some (.bZ (bg cs (off+len*o) vs) false 0 J)):=by
 obtain⟨L,A⟩:∃L,L=len+1:=⟨_,rfl⟩;rw[<-A];have I:L<=q:=ab
 have m2:L*o=len*o+o:=by rw[A,uP];omega
 have m4:L*o<=q*o:=CX _ I;have X8:vs.length=o:=by unfold cD at u;rw[C] at u;dsimp only at u;split at u;rename_i Z;cases u;exact rz Z;cases u
 have K:roomy L=true:=by simp[roomy];omega
 have r2:roomy (L*bytes)=true:=by have:L*bytes<=1000000*1000:=Nat.mul_le_mul ab yW;simp[roomy];omega
 have O:off+len*o+o<=cs.length:=ab
 refine bc.of W ?_;unfold vA;simp[U,Y,M,C,u,fS,news,dy,<-A,K,r2,I,fU,X8,O,-ax];exact⟨fun y _ hy=>by simp[Tr.bN,hy],h.clock,by simp[Tr.bN]⟩
def Mj(K:F f=some ⟨[.tmp 6],vA z o bytes fo fs,.no⟩)(C:F fo=some fov)(EC:fov.zQ=.Rv)(hz:z.length=o)(M:0<o)(yW:bytes<=1000){b off len q i x W xc:Nat}(hi:i<=len)(O:len<q)(J:len<1000000)(I:fC h b cs s)(U:off+q*o<=cs.length)(G:h.tr.get x=some (.bZ Xb false Xc xs))(u:cD h x W o=some vs)(A:b≠x):bc F f [.slice (some ⟨b,off,none⟩) len q,.int .i64 i,.slice (some ⟨x,W,none⟩) 1 xc] h (fun v h'=>v=.slice (some ⟨b,off,none⟩) (len+1) q/\h'.aw=h.aw/\h.clock<=h'.clock/\(∀y,y<h.aw->y≠b->h'.tr.get y=h.tr.get y)/\∃Y,h'.tr.get b=some (.bZ (cs.take off++aJ cs vs off i len o++cs.drop (off+(len+1)*o)) false 0 Y)):=by
 rcases Gf i len with h1|h1;exact acw K C EC M h1 O J I U G u A
 .have:i=len:=ab
  subst this;have Z:(i+1)*o=i*o+o:=by rw[uP];omega
  have m4:(i+1)*o<=q*o:=CX _ ab;have X8:vs.length=o:=by unfold cD at u;rw[G] at u;dsimp only at u;split at u;rename_i hh;cases u;exact rz hh;cases u
  have e:cs.take off++aJ cs vs off i i o++cs.drop (off+(i+1)*o)=bg cs (off+i*o) vs:=by unfold aJ bg;rw[Nat.sub_self,Nat.zero_mul,List.take_zero,Bc,<-G1,<-List.take_add,X8,Z,EV]
  rw[e];exact afI K hz M yW O J I U G u
def rmV(o:Nat)(args:List Value)(h:az):Option (Value×az):=
 match args with
 |[.slice (some ⟨b,off,none⟩) len q,.int .i64 (.ofNat i),.slice (some ⟨x,u,none⟩) m _]=>
  match h.tr.get b,h.tr.get x with
  |some (.bZ cs false op _),some (.bZ _ false _ _)=>
   if Nat.ble i len&&Nat.blt len q&&Nat.beq m 1&&(Nat.beq op o||Nat.beq op 0)&&Nat.ble (off+q*o) cs.length&& !(Nat.beq b x)&&Nat.blt len 1000000 then
    match cD h x u o with
    |some vs=>some (.slice (some ⟨b,off,none⟩) (len+1) q,{put h b off cs (aJ cs vs off i len o) op with aw:=h.aw+8})
    |none=>none
   else none
  |_,_=>none
 |_=>none
def WS{args:List Value}(u:rmV o args h=some (v,h')):∃b off len q i x y A cs op s Xb Xc xs vs,args=[.slice (some ⟨b,off,none⟩) len q,.int .i64 (.ofNat i),.slice (some ⟨x,y,none⟩) 1 A]/\h.tr.get b=some (.bZ cs false op s)/\h.tr.get x=some (.bZ Xb false Xc xs)/\i<=len/\len<q/\(op=o\/op=0)/\off+q*o<=cs.length/\b≠x/\len<1000000/\cD h x y o=some vs/\v=.slice (some ⟨b,off,none⟩) (len+1) q/\h'= {put h b off cs (aJ cs vs off i len o) op with aw:=h.aw+8} :=by
 unfold rmV at u;split at u
 .rename_i b off len q i x y m A;split at u
  .rename_i cs op s Xb Xc xs Y Z;split at u
   .rename_i G;simp only[oD,Bool.not_eq_true',Bool.or_eq_true] at G;obtain⟨⟨⟨⟨⟨⟨h1,J⟩,W⟩,K⟩,U⟩,C⟩,M⟩:=G;split at u;rename_i vs O;cases u;have I:=rz W;subst I;refine⟨b,off,len,q,i,x,y,A,cs,op,s,Xb,Xc,xs,vs,rfl,Y,Z,Ph h1,by simpa [Nat.blt_eq] using J,K.imp rz rz,Ph U,?_,by simpa [Nat.blt_eq] using M,O,rfl,rfl⟩;rintro rfl;rw[Nat.beq_refl] at C;cases C
    cases u
   cases u
  cases u
 cases u
def MP{args:List Value}(C:rmV o args h=some (v,h')):eO h h':=by
 obtain⟨b,off,len,J,i,x,W,Y,cs,op,s,Xb,Xc,xs,vs,_,K,_,_,_,_,_,_,_,_,_,rfl⟩:=WS C;have A:∀y,({put h b off cs (aJ cs vs off i len o) op with aw:=h.aw+8} :az).tr.get y=if y=b then some (.bZ (bg cs off (aJ cs vs off i len o)) false op h.clock) else h.tr.get y:=by intro y;simp only[put,Tr.bN]
 refine⟨Nat.le_add_right _ _,Nat.le_succ _,?_,?_,?_⟩;intro y U O o' M G q Z;rw[A] at q;by_cases e:y=b;rw[bM e] at q;cases q;omega;rwa [bU e] at q
 .intro u y I q;rw[A] at q;show y<h.aw+8;by_cases e:y=b
  have:=u b _ K;omega;rw[bU e] at q;have:=u y I q;omega
 intro y G q;rw[A] at q;by_cases e:y=b;rw[bM e] at q;cases q;rwa [bU e] at q
section
variable{CC:dx}{ρ:fJ}{h h':az}{w:World}
def eM.swap(S:eM CC ρ h w){r K:BS}{O ob:oZ}(U:ρ k=some K)(fO:h.tr.get k=some O)(hrw:O.rw=true)(J:ρ b=some r)(Pm:r.bZ=K.bZ)(hob:h'.tr.get b=some ob)(hO:iT CC ρ r ob w)(Y:h.aw<=h'.aw)(I:∀y o,y≠b->h'.tr.get y=some o->y≠k/\∃G,h.tr.get y=some G/\o=G):eM CC ρ h' w/\Ext ρ h w ρ h' w:=by
 have QO:fI h k:=⟨O,fO,hrw⟩;refine⟨⟨fun x A u=>⟨Kf (S.low x A u).1 Y,(S.low x A u).2⟩,?_,?_,?_⟩,⟨ρ.le_refl,Y,fh _,rfl,rfl,rfl,fun _ _ _=>rfl,?_,fun x r h1 M=>(by rw[h1] at M;cases M),?_⟩⟩;intro x A o u C;by_cases e:x=b;subst e;rw[J] at u;cases u;rw[hob] at C;cases C;exact hO;obtain⟨_,G,h1,rfl⟩:=I x o e C;exact S.obj x A o u h1;intro x y A ry o u W ⟨q,hq,Z⟩ C eQ;by_cases e1:x=b;subst e1;rw[J] at u;cases u;obtain⟨M,G,h1,rfl⟩:=I y o (Ne.symm eQ) C;rw[Pm];exact S.inj k y K ry o U W QO h1 (Ne.symm M);obtain⟨h3,q',h4,rfl⟩:=I x q e1 hq;by_cases e2:y=b;subst e2;rw[J] at W;cases W;rw[Pm];exact S.inj x k A K O u U ⟨q,h4,Z⟩ fO h3;obtain⟨M,G,h1,rfl⟩:=I y o e2 C;exact S.inj x y A ry o u W ⟨q,h4,Z⟩ h1 eQ;intro x o u;by_cases e:x=b;subst e;exact Kf (S.low x r J).1 Y;obtain⟨_,G,h1,rfl⟩:=I x o e u;exact Kf (S.wf x o h1) Y;intro x A u ⟨q,hq,Z⟩;by_cases e:x=b;subst e;rw[J] at u;cases u;exact .inr ⟨k,K,U,QO,Pm.symm⟩;obtain⟨_,G,h1,rfl⟩:=I x q e hq;exact .inr ⟨x,A,u,⟨q,h1,Z⟩,rfl⟩;intro x A o u C;by_cases e:x=b;subst e;rw[J] at u;cases u;exact .inr ⟨k,K,O,U,fO,Pm.symm⟩;obtain⟨_,G,h1,rfl⟩:=I x o e C;exact .inr ⟨x,A,o,u,h1,rfl⟩
end
def Ux(A:i<=len)(u:vs.length=o)(y:off+len*o<=cs.length):cs.take off++aJ cs vs off i len o++cs.drop (off+(len+1)*o)=bg cs off (aJ cs vs off i len o)/\(aJ cs vs off i len o).length=(len+1)*o:=by
 have h1:i*o+(len-i)*o=len*o:=by rw[<-uP];congr 1;omega
 have q:(aJ cs vs off i len o).length=(len+1)*o:=by simp only[aJ,LV,List.length_take,List.length_drop,u,uP];omega
 exact⟨by unfold bg;rw[q],q⟩
section
variable{P:Program}{T:ta}{ng:Nat}{F:Nat->Option cV}
def Zq(hF:GO P T ng (fF T ng) F)(hT:eE P T)(hf:F f=some ⟨[.tmp 6],vA z o bytes fo fs,.no⟩)(hfo:F fo=some fov)(EC:fov.zQ=.Rv)(hz:z.length=o)(ho:0<o)(yW:bytes<=1000):Nc P T ng (fF T ng) f (rmV o):=by
 intro args h v h' hv dF ρ w S hG ha fK;obtain⟨b,off,len,cap,i,x,xo,xc,cs,op,s,Xb,Xc,xs,vs,rfl,hb,hx,hi,IC,yX,dJ,hbx,hsm,M,rfl,rfl⟩:=WS hv;obtain⟨c0,c1,c2,rfl,h0,h1,h2⟩:=Tg ha;obtain⟨r,ca,q,hρ,Mg,rfl⟩:=gm h0;have hvl:vs.length=o:=by unfold cD at M;rw[hx] at M;dsimp only at M;split at M;rename_i hh;cases M;exact rz hh;cases M
 have hm1:len*o+o=(len+1)*o:=by rw[uP];omega
 have hm2:(len+1)*o<=cap*o:=CX _ IC;obtain⟨u6,gh⟩:=Ux (cs:=cs) (off:=off) hi hvl ab;have hbn:=S.wf _ _ hb;have Mh:=S.wf _ _ hx;have hB:=S.obj b r _ hρ hb;rcases gp_ op with rfl|Uj
 .obtain⟨n,v2,xZ,hr,rfl,QH,Po,QM,s',W⟩:=Mj (F:=F) hf hfo EC hz ho yW (h:=h) (b:=b) (off:=off) (xc:=xc) hi IC hsm hb dJ hx M hbx;obtain⟨fn,ρ2,w2,c,O,g1,g2,g3,g4,g5,g6,g7,S2,Y⟩:=Cq hF hT hr S hG ha fK;rw[u6] at W;have C:=Y.le b r hρ;have hO:iT (ik T ng (fF T ng)) ρ2 r (.bZ (bg cs off (aJ cs vs off i len o)) false 0 h.clock) w2:=by have:=S2.obj b r _ C W;exact this
  obtain⟨S3,E3⟩:=S2.swap (h':= {put h b off cs (aJ cs vs off i len o) 0 with aw:=h.aw+8}) C W rfl C rfl (by simp[put,Tr.bN]) hO (by rw[QH];exact Nat.le_add_right _ _) (fun y o' Z J=>by simp only[put,Tr.bN] at J;rw[bU Z] at J;exact⟨Z,o',by rw[QM y (S.wf y _ J) Z];exact J,rfl⟩);exact⟨fn,ρ2,w2,c,O,g1,g2,g3,g4,g5,g6,g7,S3,Y.trans E3⟩
 .have avN:op=o:=ab
  subst avN;obtain⟨u,el,fr,hw,yb,IF,⟨kS,Up⟩,Wn,zG⟩:=hB;have hrr:r.len<=r.room:=by obtain⟨c,K,_⟩:=zG (cs.length-1) _ (g_ ab);have:=(Array.getElem?_eq_some_iff.mp K).1;omega
  have ahi:(u.toList.drop (r.base+r.len)).length=r.room-r.len:=by simp;omega
  have an9:(cs++u.toList.drop (r.base+r.len)).length=r.room:=by rw[LV,ahi];omega
  have aoL:∀j v,(u.toList.drop (r.base+r.len))[j]?=some v->du v=true/\u[r.base+(r.len+j)]?=some v:=by
   intro j v G;rw[List.getElem?_drop] at G;have X6:u[r.base+(r.len+j)]?=some v:=by rw[<-EV];simpa using G
   exact⟨Up ab (r.len+j) v ab X6,X6⟩
  let I:BS:=⟨r.bZ,r.base,r.room,0,r.room⟩
  have DP:=vN (r:=I) S.fresh;have avK:iT (ik T ng (fF T ng)) (jU ρ h.aw I) I (.bZ (cs++u.toList.drop (r.base+r.len)) false 0 0) w:=by refine⟨u,el,fr,hw,an9.symm,rfl,⟨kS,fun h=>absurd rfl h⟩,Wn,fun j v G=>?_⟩;by_cases bk:j<cs.length;rw[Iw bk] at G;obtain⟨c,K,hk⟩:=zG j v G;exact⟨c,K,hk.mono DP⟩;rw[Ke ab] at G;obtain⟨K,ht⟩:=aoL _ _ G;refine⟨v,?_,.cell (qh K)⟩;rw[<-ht];show u[r.base+j]?=_;congr 1;omega
  obtain⟨S1,E1⟩:=S.move (im:=I) hρ hb rfl rfl ⟨rfl,rfl,rfl,rfl,fun _ _=>rfl⟩ avK;have Mc:∀y,(({h with tr:=h.tr.del b} :az).new (.bZ (cs++u.toList.drop (r.base+r.len)) false 0 0)).tr.get y=if y=h.aw then some (.bZ (cs++u.toList.drop (r.base+r.len)) false 0 0) else if y=b then none else h.tr.get y:=by intro y;simp only[az.new,Tr.bN,Tr.kE]
  have hn1:(({h with tr:=h.tr.del b} :az).new (.bZ (cs++u.toList.drop (r.base+r.len)) false 0 0)).aw=h.aw+1:=rfl;generalize hh1:({h with tr:=h.tr.del b} :az).new (.bZ (cs++u.toList.drop (r.base+r.len)) false 0 0)=my at*;have Pk:my.tr.get h.aw=some (.bZ (cs++u.toList.drop (r.base+r.len)) false 0 0):=by rw[Mc,bM rfl]
  have hx1:my.tr.get x=some (.bZ Xb false Xc xs):=by rw[Mc,bU ab,bU (Ne.symm hbx)];exact hx
  have awr:cD my x xo op=some vs:=by rw[<-M];unfold cD;rw[hx1,hx]
  have KS:ca=⟨r.bZ,r.base+off,none⟩:=by rcases Mg.1 with e|⟨_,e⟩;exact e;omega
  have hcc:cap<=q:=by rcases Mg.2.1 with e|e;omega;omega
  have afr:off+q*op<=r.room:=by rcases Mg.2.1 with e|⟨_,_,_,e⟩;rw[e];omega;rw[IF] at e;exact e
  have py:All2 (VR (jU ρ h.aw I)) [.slice (some ⟨h.aw,off,none⟩) len q,.int .i64 (.ofNat i),.slice (some ⟨x,xo,none⟩) 1 xc] [.slice (some ca) len q,c1,c2]:=by refine .cons (CR.vr (.slice (r:=I) (by simp[jU]) ⟨.inl KS,.inl rfl,ab⟩)) (.cons (h1.mono DP) (.cons (h2.mono DP) .nil))
  have hG1:=hG.mono DP;obtain⟨n,v2,xZ,hr,rfl,QH,Po,QM,s',W⟩:=Mj (F:=F) hf hfo EC hz ho yW (h:=my) (b:=h.aw) (off:=off) (i:=i) (xc:=xc) hi (show len<q by omega) hsm Pk (by rw[an9];exact afr) hx1 awr ab;obtain⟨fn,ρ2,w2,c,O,g1,g2,g3,g4,g5,g6,g7,S2,Y⟩:=Cq hF hT hr S1 hG1 py fK;obtain⟨r2,ca2,amB,C,aoI,rfl⟩:=gm g7;have SS:r2=I:=by have:=Y.le h.aw I (by simp[jU]);rw[this] at C;cases C;rfl
  subst SS;have E6:aJ (cs++u.toList.drop (r.base+r.len)) vs off i len op=aJ cs vs off i len op:=by
   have e4:i*op+(len-i)*op=len*op:=by rw[<-uP];congr 1;omega
   unfold aJ;rw[List.drop_append_of_le_length ab,List.drop_append_of_le_length ab,List.take_append_of_le_length (by simp;omega),List.take_append_of_le_length (by simp;omega)]
  have anX:(cs++u.toList.drop (r.base+r.len)).take off++aJ (cs++u.toList.drop (r.base+r.len)) vs off i len op++(cs++u.toList.drop (r.base+r.len)).drop (off+(len+1)*op)=bg cs off (aJ cs vs off i len op)++u.toList.drop (r.base+r.len):=by rw[E6,<-u6,List.take_append_of_le_length ab,List.drop_append_of_le_length ab];simp only[G1]
  rw[anX] at W;have Wq:(bg cs off (aJ cs vs off i len op)).length=cs.length:=by rw[<-u6];simp only[LV,List.length_take,List.length_drop,gh];omega
  obtain⟨U,el2,atN,hw2,Wp,_,⟨ach,_⟩,hfr2,A⟩:=S2.obj _ _ _ C W;have hρb:ρ2 b=some r:=Y.le b r (DP b r hρ);have hO:iT (ik T ng (fF T ng)) ρ2 r (.bZ (bg cs off (aJ cs vs off i len op)) false op h.clock) w2:=by
   refine⟨U,el2,atN,hw2,ab,IF,⟨ach,fun _ j c G K=>?_⟩,hfr2,fun j v G=>?_⟩
   .have vy:=(Array.getElem?_eq_some_iff.mp K).1;have aq5:r.base+r.room=U.size:=ach;obtain⟨v,hv⟩:=aV (u.toList.drop (r.base+r.len)) (j-cs.length) (by rw[ahi];omega);have hC:(bg cs off (aJ cs vs off i len op)++u.toList.drop (r.base+r.len))[j]?=some v:=by rw[Ke ab,Wq];exact hv
    obtain⟨c',Pn,E7⟩:=A _ _ hC;have an1:U[r.base+j]?=some c':=Pn;rw[K] at an1;cases an1;exact aa7 E7 (aoL _ _ hv).1
   have bk:=(di.mp G).1;exact A j v (by rw[Iw bk];exact G)
  obtain⟨S3,E3⟩:=S2.swap (h':= {put h b off cs (aJ cs vs off i len op) op with aw:=h.aw+8}) C W rfl hρb rfl (by simp[put,Tr.bN]) hO (by rw[QH,hn1];show h.aw+1<=h.aw+8;omega) (fun y o' Z J=>by simp only[put,Tr.bN] at J;rw[bU Z] at J;have gX:=S.wf y _ J;exact⟨ab,o',by rw[QM y ab ab,Mc,bU ab,bU Z];exact J,rfl⟩);refine⟨fn,ρ2,w2,_,O,g1,g2,g3,g4,g5,g6,CR.vr (.slice (r:=r) hρb ⟨?_,?_,IC⟩),S3,(E1.trans Y).trans E3⟩;rcases aoI.1 with e|⟨_,e⟩;exact .inl e;omega
  .have:amB=q:=by rcases aoI.2.1 with e|⟨e,_⟩;exact e;exact absurd rfl e
   rw[this];exact Mg.2.1
def Ka(F:Nat->Option cV)(q o:Nat)(f:Nat):Option cV:=bif Nat.beq f q then some ⟨[],.bad,.run (rmV o) fun _ _ _ _=>MP⟩ else F f
def Sz(y:GO P T ng (fF T ng) F)(G:eE P T)(A:F f=some ⟨[.tmp 6],vA z o bytes fo fs,.no⟩)(q:F fo=some fov)(I:fov.zQ=.Rv)(M:z.length=o)(C:0<o)(K:bytes<=1000):GO P T ng (fF T ng) (Ka F f o):=by
 intro g J h;unfold Ka at h;cases u:Nat.beq g f with
 |true=>
  rw[u] at h;cases h;rw[rz u];exact Zq y G A q I M C K
 |false=>rw[u] at h;exact y g J h
def bc.run{F:Nat->Option cV}{f:Nat}{rs:List GM}{body:aG}{p:List Value->az->Option (Value×az)}{k:∀args h v h',p args h=some (v,h')->eO h h'}{args:List Value}{h h':az}{v:Value}{R:Value->az->Prop}(u:F f=some ⟨rs,body,.run p k⟩)(q:p args h=some (v,h'))(H:R v h'):bc F f args h R:=
 ⟨0,v,h',by simp only[su,mW,u];exact q,H⟩
end
end Go.AI
