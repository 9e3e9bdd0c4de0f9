/- Parts of the proof. -/
import Derived.Test.YtdhnndleffachaaGreatDoorP00
import Derived.Orders
import Derived.ProofKit
open Array renaming all_eq_true'->I0,ext'->cL,getD->qj,getD_eq_getD_getElem?->bV,getElem?_eq_getElem->qv,getElem?_eq_some_iff->gj,getElem?_push->p5,getElem?_setIfInBounds->pn,getElem?_setIfInBounds_ne->xa,mem_toList_iff->ug,size_push->zo
open Classical renaming byContradiction->ix
open False renaming elim->zv
open Function renaming comp_def->p8
open Go.Call renaming operands->o7
open Go.Extern.SlicesOverlaps renaming overlaps->wx
open Go renaming Frame->gr,Item->B1,Oper->ed,Operand->aU,Program->b7,Value->aa,World->c5
open Go.Frame renaming enter->pe,round->EU
open Go.Region renaming Mode->x8,binds->r5,schedule->yu,wanted->cI
open Go.Region.linearise renaming go->x3
open Go.Sem renaming run->zg
open Go.World renaming shape?->Xu
open Iff renaming rfl->ED
open Nat renaming add_comm->ik,beq->ar,beq_refl->lW,blt->eR,le_max_left->nY,le_max_right->nE,le_succ->hQ,le_succ_of_le->OE,le_zero->y8,lt_succ_of_lt->sW,lt_succ_self->sM,max->xw,min_eq_left->lA,mod_lt->TZ,testBit->lT,testBit_or->W9,zero_le->kp
open Ne renaming symm->a7
open Option.some renaming inj->bI
open Option renaming some->Z,none->K,getD_some->da,isSome_iff_exists->nG
open Bool renaming false->b9,true->cd,or_eq_true->nv
open List renaming length->Y,all_eq_true->lL,count_eq_zero->KY,drop_append->nV,drop_drop->pa,drop_eq_getElem_cons->fj,drop_take->Uc,foldl_cons->sC,getElem?_cons_zero->gb,map_congr_left->bf,map_map->gN,mem_cons->bd,nil_append->z1,nodup_cons->kI,nodup_nil->T1,not_mem_nil->rv,range->aA,range'->aaq,take_append->o9,take_take->zD
open Go.Value renaming slice->c6,bool->dd,pointer->dB,int->dC,bool->eX
open Go.IntKind renaming i64->ef
open Or renaming inl->fc,inr->ft,imp_right->abL
set_option linter.all false
set_option maxHeartbeats 1000000
namespace Go.AI
variable{B N b f i j k n A ng p t:Nat}{M:dy}{D S:Nat->Prop}{F:Nat->Option cY}{P:b7}{T:tU}{a a2:Act}{args cs U vs z:List aa}{body:aG}{d:Option Nat}{e e' W:Env}{G v:aa}{h h' m V I O:aB}{s:aG->Env->aB->R}{md:x8}{o:ed}{ops:Array ed}{r:aa×aB}{st:Wz}{w w':c5}{x:aU}{α:Type}{ρ g:fP}
section
variable{P:b7}{T:tU}{ng:Nat}{E:vd}{F:Nat->Option cY}{s:aG->Env->aB->R}
def ZA(B:Nat){M:dy}{c ρ:fP}{O h:aB}{G:c5}(a:G.heap.size<=B):∀(a:List Nat)(w:c5)(u:gr)(cs:List gr),u.mode=.returning->u.defers=a.map mark->a.Nodup->(∀r∈a,B<=r/\w.heap[r]?=Z (.deferred (Z []))/\SI ρ h r)->eQ M ρ h w->Ext c O G ρ h w->∃w',Steps P (lone u cs w) (lone {u with defers:=[]} cs w')/\eQ M ρ h w'/\Ext c O G ρ h w':=by
 intro a;induction a with
 |nil=>
  intro w u cs _ C _ _ S E;refine⟨w,?_,S,E⟩;have:({u with defers:=[]} :gr)=u:=by cases u;simp at C;subst C;rfl
  rw[this];exact Steps.refl P _
 |cons r a U=>
  intro w u cs g C f d S E;obtain⟨y,y,q⟩:=d r ag;have l:=Kd y;have l:=Vo (P:=P) (cs:=cs) (ds:=a.map mark) g (by rw[C];rfl) y;have I:∀j,j≠r->(w.heap.setIfInBounds r (.deferred K))[j]?=w.heap[j]? :=λj y=>by simp[a7 y]
  have i:eQ M ρ h {w with heap:=w.heap.setIfInBounds r (.deferred K)} :=by refine⟨λb A y=>⟨(S.low b A y).1,by simpa using(S.low b A y).2⟩,?_,S.inj,S.wf⟩;intro b A o y C;exact jg.mono ρ.le_refl (I _ (q b A o y C)) (S.obj b A o y C)
  have y:Ext c O G ρ h {w with heap:=w.heap.setIfInBounds r (.deferred K)} :=by refine⟨E.le,E.ax,ak E.size,E.os,E.tape,E.output,?_,E.own,E.new,E.live⟩;intro k C c;rw[<-E.yZ k C c];exact I k J
  have⟨w',c,W,C⟩:=U {w with heap:=w.heap.setIfInBounds r (.deferred K)} {u with defers:=a.map mark} cs g rfl (kI.1 f).2
   (λq a=>by have⟨u,g,m⟩:=d q (av a);refine⟨u,?_,m⟩;rw[<-g];exact I q (λe=>(kI.1 f).1 (e▸a))) i y
  exact⟨w',.head l c,W,C⟩
def BK(l:Ha P T ng E F)(z:eG P T)(o:yI P T ng E s)(q:uw F s f args h=Z (v,h'))(S:eQ (iD T ng E) ρ h w)(e:d_ ng ρ)(i:bQ (VR ρ) args U)(cs:List gr):∃c g w' d G,P.funcs[f]?=Z c/\c.body.isSome=cd/\(c.name== "runtime.NumGoroutine")=b9/\Steps P (lone (pe P f ⟨U⟩ .normal) cs w) (lone G cs w')/\G.fn=f/\G.leaving P w' (.returned d)/\VR g v d/\eQ (iD T ng E) g h' w'/\Ext ρ h w g h' w':=by
 unfold uw py at q;split at q;cases q
 .rename_i m C;have u:=l f m C;split at q
  cases q;rename_i p C C;rw[C] at u;exact u args h v h' q U ρ w S e i cs;rename_i C;rw[C] at u;have⟨c,d,C,l,afM,x,n⟩:=u
  let b:gr:= {(default:gr) with fn:=f,kind:=.normal}
  let a:Act:= { tmps:=(⟨U⟩:Array aa)++Array.replicate (c.ntmps-Y U) undef,defers:=[] }
  have X:pe P f ⟨U⟩ .normal=on b a [.code d]:=by simp[pe,on,C,l,b,a];rfl
  have O:ER ρ (params .nil 0 args) a.tmps:=acZ i _;have i:c.ntmps<=a.tmps.size:=by simp[a];omega
  have j:Fl w.heap.size ρ h w a.defers:=⟨[],Q,T1,λr I=>by simp at I⟩;rw[n] at q;have n:∀(e':Env)(V:aB)(g:fP)(w':c5)(y:Act),(∃k,Steps P (lone (on b a [.code d]) cs w) (lone {on b y k with mode:=.returning} cs w'))->Dv (iD T ng E) w.heap.size ρ h w a g e' V w' y->(match results e' V m.res with|some vs=>bif gI vs then Z (result vs,V) else K|none=>K)=Z (v,h')->∃c g w' d G,P.funcs[f]?=Z c/\c.body.isSome=cd/\(c.name== "runtime.NumGoroutine")=b9/\Steps P (lone (pe P f ⟨U⟩ .normal) cs w) (lone G cs w')/\G.fn=f/\G.leaving P w' (.returned d)/\VR g v d/\eQ (iD T ng E) g h' w'/\Ext ρ h w g h' w':=by
   intro e' V g w' y ⟨k,B⟩ A I;split at I;rename_i vs oq;cases u:gI vs;simp[u] at I;simp only[u,mi,oN,CB] at I;obtain⟨rfl,rfl⟩:=I;have⟨t,W,L,N⟩:=A.defs;have⟨w2,H,m,D⟩:=ZA (P:=P) w.heap.size (fE _) t w' {on b y k with mode:=.returning} cs rfl W L N A.Wt A.ext;have⟨t,M,N⟩:=U7 (P:=P) z m A.er x oq u;refine⟨c,g,w2,t,_,C,by rw[l];rfl,afM,by rw[X];exact B.trans H,Q,⟨Q,Q,Q,c,C,M⟩,N,m,D⟩;cases I
  split at q;rename_i e' V M;have⟨g,w',y,C,A⟩:=o c.ntmps d _ h _ e' V M w.heap.size ρ w a b [] cs S e O i (fE _) j (fc Q);exact n e' V g w' y ⟨[],Steps.trans C (.one (auJ Q))⟩ A q;rename_i e' V M;have⟨g,w',y,C,A⟩:=o c.ntmps d _ h _ e' V M w.heap.size ρ w a b [] cs S e O i (fE _) j (fc Q);obtain⟨j,j⟩:=C;exact n e' V g w' y ⟨_,j.trans (.one (auK Q))⟩ A q;cases q
def IY(S:eQ M ρ h w){l:Nat}{r:Cn}{q c:Env}{a A:List Nat}{b u body C:aG}{st y:Wz}(I:ρ l=Z r)(d:h.tr.get l=Z (.loop c A u C y)){L:Loop}(c:w.heap[r.ch]?=Z (.loop L))(c:Loop)(G:aeC M ρ r q a b body st {w with heap:=w.heap.setIfInBounds r.ch (.loop c)}):eQ M ρ (gm h l q a b body st) {w with heap:=w.heap.setIfInBounds r.ch (.loop c)} /\Ext ρ h w ρ (gm h l q a b body st) {w with heap:=w.heap.setIfInBounds r.ch (.loop c)} :=
 eQ.uY (o':=.loop q a b body st) S I d rfl (Oh.obj r.ch (.loop c)) G h.clock
def heap_set(w:c5){o a:Obj}(h:w.heap[k]?=Z o):(w.heap.setIfInBounds k a)[k]?=Z a:=by have:=Kd h;simp[this]
def RS(B:yI P T ng E s){l:Nat}(y:tS s l args h=Z (v,h'))(S:eQ (iD T ng E) ρ h w)(k:d_ ng ρ)(t:bQ (VR ρ) args U){r:Cn}(z:ρ l=Z r)(c:gr)(cs:List gr):∃L g w' D,w.heap[r.ch]?=Z (.loop L)/\Y U=L.params.size/\Steps P (lone (EU r.ch L.fn ((L.params.toList.zip U).foldl (λ(q:Array aa) (x:Nat×aa)=>q.setIfInBounds x.1 x.2) L.tmps) L.assign L.body .normal) (c::cs) w) (lone (c.finish D) cs w')/\VR g v D/\eQ (iD T ng E) g h' w'/\Ext ρ h w g h' w':=by
 unfold tS at y;split at y
 .rename_i j e p body H;have⟨L,hh,u,p,⟨i,f,m,d⟩,⟨F,N,Wg,Wm⟩,o,n⟩:=S.obj l r _ z H;split at y;cases y
  .rename_i X N;have⟨C,n,f⟩:=Sb e args U j X L.tmps t N u o;rw[<-p] at C n;have IG:Y U=L.params.size:=by have V:=t.length;rw[<-p] at f;simp at f;omega
   let b:gr:= {(default:gr) with fn:=L.fn,kind:=.normal,roundOf:=Z r.ch}
   let a:Act:= { tmps:=(L.params.toList.zip U).foldl (λ(q:Array aa) (x:Nat×aa)=>q.setIfInBounds x.1 x.2) L.tmps,defers:=[] }
   have anx:EU r.ch L.fn a.tmps L.assign L.body .normal=on b a [.code L.assign,.beginRound,.code L.body]:=Q;refine⟨L,?_⟩;have p:a.tmps.size=L.tmps.size:=n;split at y
   .rename_i n V f;rw[m] at f;have⟨t,p,m,azX,u⟩:=B i L.assign X h _ n V f w.heap.size ρ w a b [.beginRound,.code L.body] (c::cs) S k C J (fE _)
     ⟨[],Q,T1,λr C=>by simp at C⟩ (ft d)
    have j:=u.ext.le l r z;unfold yA at y;split at y
    .rename_i ayz f H aq3 i;have o:=u.Wt.obj l r _ j i;have⟨N,d,z,hp1,C,X,e,aA0,aAD⟩:=o;have azG:=RX (P:=P) (b:=b) (a:=m) (k:=[.code L.body]) (cs:=c::cs) (w:=p) rfl d aA0;have⟨S2,o⟩:=IY (st:=.busy) u.Wt j i d {N with state:=.busy} ⟨{N with state:=.busy},heap_set p d,z,hp1,C,X,e,Q⟩;have X:=u.ext.trans o;have i:=u.defs.ext o;have I:∀(x:bJ)(O:Env)(z:aB)(st:Wz)(e:Bool)(C:Option Code)(A:LoopState),PT st {N with state:=A,pending:=C} ->(∀G:Loop,PT st {G with state:=A,pending:=C})->s (dD T ng F E L.body) n (gm V l ayz f H aq3 .busy)=Z (x,O,z)->nk l z st e=Z (v,h')->(∀H f G,f.heap[r.ch]?=Z (.loop G)->Ns P b [] (c::cs) (lone (on b m [.code L.body]) (c::cs) { p with heap:=p.heap.setIfInBounds r.ch (.loop {N with state:=.busy}) }) x H f->Steps P (lone (on b m [.code L.body]) (c::cs) { p with heap:=p.heap.setIfInBounds r.ch (.loop {N with state:=.busy}) })
         (lone (c.finish (dd e)) cs { f with heap:=f.heap.setIfInBounds r.ch (.loop {G with state:=A,pending:=C}) }))->∃g w' D,w.heap[r.ch]?=Z (.loop L)/\Y U=L.params.size/\Steps P (lone (EU r.ch L.fn ((L.params.toList.zip U).foldl (λ(q:Array aa) (x:Nat×aa)=>q.setIfInBounds x.1 x.2) L.tmps) L.assign L.body .normal) (c::cs) w) (lone (c.finish D) cs w')/\VR g v D/\eQ (iD T ng E) g h' w'/\Ext ρ h w g h' w':=by
      intro x O z st e C A _ p W d as4;have⟨N,f,H,o,q⟩:=B F L.body n _ x O z W w.heap.size t _ m b [] (c::cs) S2 (k.mono u.ext.le) u.er (by rw[u.size];omega) (ak u.ext.size) i (ft Wm);have D:=q.ext.le l r j;unfold nk at d;split at d
      rename_i c k j F t;cases d;have⟨G,M,m,i,L,c,k,j⟩:=q.Wt.obj l r _ D t;have⟨l,u⟩:=IY (st:=st) q.Wt D t M {G with state:=A,pending:=C} ⟨{G with state:=A,pending:=C},heap_set f M,m,i,L,c,k,p G⟩;refine⟨N,_,dd e,hh,IG,?_,VR.bool e,l,(X.trans q.ext).trans u⟩;rw[anx];exact(Steps.trans azX (.head azG (as4 H f G M o)));cases d
     rw[Wg] at y;split at y;rename_i O z W;refine I .normal O z .ready cd K .ready ⟨Q,Q⟩ (λ_=>⟨Q,Q⟩) W y ?_;intro H f G M l;exact Steps.trans l (.one (Vp Q Q M));rename_i O z W;refine I .ret O z (.done K) b9 (Z .ret) .done ⟨Q,Q⟩ (λ_=>⟨Q,Q⟩) W y ?_;intro H f G M ⟨j,l⟩;exact Steps.trans l (.one (Vq Q Q M));rename_i id O z W;refine I (.exit id) O z (.done (Z id)) b9 (Z (.exit id)) .done ⟨Q,Q⟩ (λ_=>⟨Q,Q⟩) W y ?_;intro H f G M ⟨j,l,t⟩;exact Steps.trans l (.one (RZ Q Q M t));cases y
    cases y
   cases y
 cases y
end
def Qs{c:Call}{f:aU}{args:List aU}(h:Ct T c=.call f args):c.callee=.value f/\c.args.toList=args:=by
 have⟨y,U,u⟩:=c;unfold Ct at h;split at h;rename_i g q;injection h with V h2;subst V;subst h2;exact⟨q,Q⟩
 all_goals (try dsimp only at h)
 all_goals (repeat' (first|(cases h;done)|split at h))
def Ku{q:Op}{f:aU}{args:List aU}(h:dT T q=.call f args):∃c,q=.call c/\c.callee=.value f/\c.args.toList=args:=by
 cases q with
 |call c=>exact⟨c,Q,Qs h⟩
 |build t y=>
  simp only[dT] at h;split at h
  .split at h
   .rename_i A _;generalize (A.toList.all λf=>(T f.type).isSome)=bb at h;cases bb<;>simp only[mi,z6] at h<;>repeat' (first|(cases h;done)|split at h)
   .repeat' (first|(cases h;done)|split at h)
   cases h
  cases h
 |buildSlice t n y=>
  simp only[dT] at h
  repeat' (first|(cases h;done)|split at h)
  rename_i e _;cases q:(n*e.size).ble 1000000&&e.zero.length.beq e.size<;>simp only[q,mi,z6] at h<;>cases h
 |slice t x y G C=>
  simp only[dT] at h
  repeat' (first|(cases h;done)|split at h)
  cases q:C.isSome&&G.isNone<;>simp only[q,mi,z6] at h<;>cases h
 |fieldAddr t x k=>
  simp only[dT] at h
  repeat' (first|(cases h;done)|split at h)
  rename_i I _;cases q:I.size.beq 0<;>simp only[q,mi,z6] at h<;>cases h
 |makeFunc y first u=>
  cases y with
  |func g=>
   simp only[dT] at h;cases q:first.isEmpty<;>simp only[q,mi,z6] at h<;>cases h
  |_=>simp only[dT] at h;cases h
 |makeMap t r=>cases r<;>(simp only[dT] at h;cases h)
 |next q st=>cases st<;>(simp only[dT] at h;cases h)
 |_=>
  simp only[dT] at h
  repeat' (first|(cases h;done)|split at h)
def OB{a:Op}{x:aa×aB}(q:dh e h (dT T a)=Z x):Op.xL a=b9:=by
 cases a with
 |defer c=>simp[dT,dh] at q
 |_=>rfl
section
variable{P:b7}{T:tU}{ng:Nat}{H:vd}{F:Nat->Option cY}{s:aG->Env->aB->R}
def OM{q:Array aa}{a:TypeId}(h:w.heap[b]?=Z (.cells q a (0,0)))(o:Nat):w.frozen? ⟨b,o,K⟩=b9:=by simp[World.frozen?,h]
def aj5(D:eG P T)(hO:ZS P T f)(S:eQ M ρ h w)(ha:bQ (VR ρ) args U)(g:∃a oa C L b F G cb y o1 s1 J' N B,args=[c6 (Z ⟨a,oa,K⟩) C L,c6 (Z ⟨b,F,K⟩) G cb]/\h.tr.get a=Z (.ch y b9 o1 s1)/\h.tr.get b=Z (.ch J' b9 N B)/\(C=0\/G=0\/a≠b)):(callFunc f ⟨U⟩).run P w=.ok (.value (dd b9)) w:=by
 have⟨c,t,el,i,H,V,h2,h3,h4,h5,h6,h7,h8,h9⟩:=hO;obtain⟨a,oa,C,L,b,F,G,cb,y,o1,s1,J',N,B,rfl,n,q,eF⟩:=g
 match U,ha with
 |[x,u],.cons hx (.cons hy .nil)=>
 obtain⟨u,p,X,I,rfl,k⟩:=hx.fp;obtain⟨A,ya,r,v,rfl,W⟩:=hy.fp;have e:=(D t i h7).u;rw[h8] at e;have⟨ti,l,k2,k3,z,k4,k5⟩:=(D el H h9).info;have⟨cca,ela,fra,p1,_,_,_,d,_⟩:=S.obj a u _ I n;have⟨ccb,elb,frb,E,_,_,_,j,_⟩:=S.obj b A _ v q;have d:=d rfl;have j:=j rfl;subst d;subst j;have Y':¬(c.name= "runtime.NumGoroutine"):=ak h3
 have hb:c.body=K:=ak h2
 have g:(wx c.params c.resultTypes #[c6 (Z p) C X,c6 (Z ya) G r]).run P w=.ok (dd b9) w:=by
  change zg P (α:=aa) (do
   let Z t:=c.params[0]? |stuck "slices.overlaps: no parameter types"
   let .slice elem<-underlying t|stuck "slices.overlaps: slice type expected"
   let size<-sizeOf elem
   match(Z p:Option Addr),(Z ya:Option Addr) with
   |some a,Z b=>
    if C=0\/G=0\/size=0 then pure (eX b9)
    else if a.block !=b.block&&(<-frozen a)&&(<-frozen b) then unsupported .addressObserved
    else do
     if a.block !=b.block then do
      noView a;noView b
      if<-mayBeOne a b then return eX ((<-choose (.extern "sameAddr.stringBytes" 2))==1)
     pure (eX (a.block==b.block&&a.off<b.off+G*size&&b.off<a.off+C*size))
   |_,_=>pure (eX b9)) w=_
  by_cases m:C=0\/G=0\/H.size=0;simp[h6,tI e,sizeOf,typeInfo,l,k2,m]
  .have Wf:a≠b:=by rcases eF with h|h|h;exact absurd (fc h) m;exact absurd (ft (fc h)) m;exact h
   have Ld:0<X:=by
    have:=k.2.2;have:=k.Ex
    omega
   have Wg:0<r:=by
    have:=W.2.2;have:=W.Ex
    omega
   have q':u.ch≠A.ch:=S.inj a b u A _ I v ⟨_,n,Q⟩ q Wf;have U':=k.addr Ld;have eyb:=W.addr Wg;subst U';subst eyb;have Wm:(u.ch !=A.ch)=cd:=ak q'
   have O:(u.ch==A.ch)=b9:=ak q'
   have sa:w.shape? u.ch=Z (ela,cca.size):=by simp[Xu,p1]
   have sb:w.shape? A.ch=Z (elb,ccb.size):=by simp[Xu,E]
   have fa:∀o,w.frozen? ⟨u.ch,o,K⟩=b9:=OM p1;have fb:∀o,w.frozen? ⟨A.ch,o,K⟩=b9:=OM E;simp[h6,tI e,sizeOf,typeInfo,l,k2,m,Wm,O,frozen,noView,viewAt,mayBeOne,stringish,shape,zg,sa,sb,fa,fb]
 simp[callFunc,V,Y',hb,Go.mark,h4,h5,g,zg]
def It(X:Ha P T ng H F)(E:eG P T)(hI:yI P T ng H s){G O:aa}(u:fB F s G args h=Z (v,h'))(S:eQ (iD T ng H) ρ h w)(hG:d_ ng ρ)(q:VR ρ G O)(ha:bQ (VR ρ) args U){cz:List Nat}(W:ops[i]?=Z o)(t:cI o (yielded ops a.tmps)=cd){j:Call}{f:aU}(e:o.op=.call j)(D:j.callee=.value f)(C:a.eval f=O)(y:j.args.toList.map a.eval=U)(b:gr)(k:List B1)(cs:List gr):∃g w' c,Steps P (lone (on b a (.inRegion ops (i::cz)::k)) cs w) (lone (on b (a.put o.dst c) (.inRegion ops cz::k)) cs w')/\VR g v c/\eQ (iD T ng H) g h' w'/\Ext ρ h w g h' w':=by
 have⟨cal,l,y'⟩:=j;dsimp only at D y;subst D;have z:Op.xL o.op=b9:=by rw[e];rfl
 have I:∀c,(on b a (.inRegion ops (i::cz)::k)).finish c=on b (a.put o.dst c) (.inRegion ops cz::k):=by intro c;rw[Cy,W];rfl
 have A:l.map a.eval=⟨U⟩:=by apply cL;simp[<-y]
 unfold fB at u;split at u
 .rename_i L first caps
  cases q with
  |val q=>cases q with
   |cell q=>cases q with
    |cell q=>cases q
    | @fn _ l' m hlm=>
     have nD:bQ (VR ρ) ([]++args++l') (U++m):=ha.app (hlm.mono λ_ _ h=>h.vr);rcases Kt u with u|⟨af,haf,atj,u⟩
     rotate_left 1
     .
      have n:=X L af haf;rw[atj] at n;obtain⟨rfl,rfl,d⟩:=Pt u;have p:=aj5 (P:=P) E n S nD d;have M:(execOp a.eval o).run P w=.ok (.value (dd b9)) w:=by
       simp only[execOp,e,resolve,Deferred.ofValue,invoke,C,uy,zA,tH,A];have:(#[]:Array aa)++(⟨U⟩:Array aa)++(⟨m⟩:Array aa)=⟨U++m⟩:=by apply cL;simp
       rw[this];exact p
      exact⟨ρ,w,dd b9,.one (R3 W t z M),VR.bool _,S,.refl ρ _ w⟩
     have⟨fn,g,w',c,fr,V,n,d,p,N,B,h7,h8,h9⟩:=BK X E hI u S hG nD (on b a (.inRegion ops (i::cz)::k)::cs);have M:(execOp a.eval o).run P w=.ok (.enter L ⟨U++m⟩) w:=by have:=Ti (P:=P) (w:=w) (args:=l) (ats:=y') (ty:=o.type) C V n d;rw[A] at this;simp only[execOp,e];rw[this];congr 2;apply cL;simp
     refine⟨g,w',c,.head (akk W t z M) (p.trans (.one ?_)),h7,h8,h9⟩;rw[step_leave_returned B,I]
 .rename_i l' _ _;cases q with
  |val q=>cases q with
   |cell q=>cases q with
    |cell q=>cases q
    | @yield _ r hl=>
     have⟨L,g,w',cv,V,n,d,p,N,B⟩:=RS (P:=P) hI u S hG ha hl (on b a (.inRegion ops (i::cz)::k)) cs;have yj:l.size=L.params.size:=by rw[<-n,<-y];simp
     have M:(execOp a.eval o).run P w=.ok (.round r.ch L.fn ((L.params.toList.zip U).foldl (λ(J':Array aa) (x:Nat×aa)=>J'.setIfInBounds x.1 x.2) L.tmps) L.assign L.body) w:=by have:=adS (P:=P) (w:=w) (args:=l) (ats:=y') (ty:=o.type) C V yj;rw[A] at this;simp only[execOp,e];rw[this];congr 2;rw[<-Array.foldl_toList];simp
     refine⟨g,w',cv,.head (akm W t z M) ?_,p,N,B⟩;rw[I] at d;exact d
 cases u
def US(N:Ha P T ng H F)(m:eG P T)(X:yI P T ng H s)(A:ops[i]?=Z o)(q:dL F s (cq T ng n ops.toList o) e h=Z (e',h'))(S:eQ (iD T ng H) ρ h w)(O:d_ ng ρ)(y:ER ρ e a.tmps)(B:n<=a.tmps.size)(b:gr)(k:List B1)(cs:List gr)(C:List Nat):∃g w' c,Steps P (lone (on b a (.inRegion ops (i::C)::k)) cs w) (lone (on b c (.inRegion ops C::k)) cs w')/\eQ (iD T ng H) g h' w'/\ER g e' c.tmps/\c.tmps.size=a.tmps.size/\c.defers=a.defers/\Ext ρ h w g h' w':=by
 unfold cq at q;cases c:yq ng n ops.toList o;simp only[c,z6] at q;simp[dL,wanted,dh] at q
 .simp only[c,mi] at q;simp only[yq,pU] at c;have⟨⟨l,u⟩,G⟩:=c;have r:∀d,o.dst=Z d->d<a.tmps.size:=by intro d W;rw[W] at l;exact Jy (zO.1 l) B
  have B:cI o (yielded ops a.tmps)=wanted e (guardOf ops.toList o):=by unfold guardOf;refine Nb y ?_;rcases c:o.guard with _|x;exact fc ⟨Q,Q⟩;have⟨j,l⟩:=x;rw[c] at u;have⟨t,c⟩:=nG.1 u;exact ft ⟨j,l,t,Q,c,by dsimp only;rw[c];rfl⟩
  have M:∀ {g:fP} {w':c5} {v c:aa} {u:aB},VR g v c->Ext ρ h w g u w'->ER g (gG e o.dst v) (a.put o.dst c).tmps:=by intro g w' v c u U E;exact ER.put (y.mono E.le) r U
  unfold dL at q;dsimp only at q;rw[<-B] at q;cases u:cI o (yielded ops a.tmps);simp only[u,z6,oN,CB] at q;obtain⟨rfl,rfl⟩:=q;refine⟨ρ,w,a.put o.dst undef,.one ?_,S,M VR.undef (.refl ρ h w),zk _ _ _,put_defers _ _ _,.refl ρ h w⟩;have:=PG (P:=P) (b:=b) (a:=a) (k:=k) (cs:=cs) (w:=w) (ops:=ops) (i:=i) (cz:=C) (by simp[A,u]);rw[A] at this;exact this
  .simp only[u,mi] at q;split at q
   .rename_i f args E;have⟨B,V,l,r⟩:=Ku E;split at q
    .rename_i v E B;cases q;have z:cZ ng f=cd/\args.all (cZ ng)=cd:=by rw[V] at G;simp only[Op.operands,o7,l] at G;rw[<-r];simpa using G
     have⟨g,w',c,D,q2,L,p⟩:=It (P:=P) N m X B S O (y.eval O z.1) (GR y O args z.2) A u V l rfl (by rw[r]) b k cs (cz:=C);exact⟨g,w',a.put o.dst c,D,L,M q2 p,zk _ _ _,put_defers _ _ _,p⟩
    cases q
   .split at q
    .rename_i v E p;cases q;have⟨g,w',c,C,U,r,I⟩:=UQ (P:=P) (a:=a) m S y O o G p;have y:=OB p;rcases C with C|⟨rfl,C⟩
     exact⟨g,w',a.put o.dst c,.one (R3 A u y C),r,M U I,zk _ _ _,put_defers _ _ _,I⟩;exact⟨g,w',a.put o.dst undef,.one (aa0 A u y C),r,M U I,zk _ _ _,put_defers _ _ _,I⟩
    cases q
def YK(l:Ha P T ng H F)(c:eG P T)(o:yI P T ng H s){n:Nat}{ops:Array ed}(b:gr)(k:List B1)(cs:List gr):∀(m i:Nat),i+m=ops.size->∀(e e':Env)(h h':aB),zi F s ((ops.toList.drop i).map (cq T ng n ops.toList)) e h=Z (e',h')->∀(ρ:fP)(w:c5)(a:Act),eQ (iD T ng H) ρ h w->d_ ng ρ->ER ρ e a.tmps->n<=a.tmps.size->∃g w' u,Steps P (lone (on b a (.inRegion ops ((aaq i m))::k)) cs w) (lone (on b u (.inRegion ops []::k)) cs w')/\eQ (iD T ng H) g h' w'/\ER g e' u.tmps/\u.tmps.size=a.tmps.size/\u.defers=a.defers/\Ext ρ h w g h' w':=by
 intro m;induction m with
 |zero=>
  intro i u e e' h h' q ρ w a S C A I;rw[Gb (by simp;omega)] at q;simp only[List.map_nil,zi,oN,CB] at q;obtain⟨rfl,rfl⟩:=q;exact⟨ρ,w,a,Steps.refl P _,S,A,Q,Q,.refl ρ h w⟩
 |succ m y=>
  intro i u e e' h h' q ρ w a S C A I;have G:i<Y ops.toList:=by simp;omega
  rw[fj G] at q;simp only[zZ,zi] at q;have p:ops[i]?=Z ops.toList[i]:=by rw[<-Array.getElem?_toList,iK G]
  split at q;rename_i v V j;have⟨d,M,x,t,z,B,r,f,u⟩:=US (P:=P) l c o p j S C A I b k cs (aaq (i+1) m);have⟨O,p,a2,W,l,j,U,c,o⟩:=y (i+1) J v e' V h' q d M x z (C.mono u.le) B J;refine⟨O,p,a2,?_,l,j,U.trans r,c.trans f,u.trans o⟩;rw[List.range'_succ];exact t.trans W;cases q
end
def kD.mA:kD->List aU
 |.mv x=>[x]
 |.pick c a b=>[c,a,b]
 |.alloc _=>[]
 |.box x=>[x]
 |.build _ u=>u.map (·.2.2)
 |.fC _ _ u=>u.map (·.2.2)
 |.load _ a=>[a]
 |.store _ a v=>[a,v]
 |.Aj x=>[x]
 |.bin _ _ x y=>[x,y]
 |.un _ x=>[x]
 |.conv _ x=>[x]
 |.uP _ q=>q
 |.iO _ _ l c=>[l,c]
 |.slice _ x C G A=>x::(C.toList++G.toList++A.toList)
 |.cD _ x=>[x]
 |.ee _ _ x i=>[x,i]
 |.index _ x i=>[x,i]
 |.ext _ x=>[x]
 |.call f args=>f::args
 |.ox x=>[x]
 |.MM x=>[x]
 |.append _ _ _ s x=>[s,x]
 |.copy _ d s=>[d,s]
 |.clear _ x=>[x]
 |.WL x=>[x]
 |.bad=>[]
def kD.kind:kD->Nat
 |.mv _|.pick .. |.build .. |.Aj _|.bin .. |.un .. |.conv .. |.uP .. |.cD .. |.ee .. |.index .. |.ext .. |.ox _|.MM _=>0
 |.load .. |.slice .. =>1
 |.alloc _|.box _|.fC .. |.iO .. =>2
 |_=>3
def zY{e e':Env} :∀(a:List (Nat×Nat×aU))(cs:List aa),(∀x∈a.map (·.2.2),ev e x=ev e' x)->oM e cs a=oM e' cs a
 |[],_,_=>rfl
 |(a,n,x)::r,cs,h=>by have u:ev e x=ev e' x:=h x ag;simp only[oM,u];split;split;exact zY r _ (λy q=>h y (by simp only[zZ,bd];exact ft q));rfl;rfl
def MW{l:List aU}(h:∀x∈l,ev e x=ev e' x):qi e l=qi e' l:=bf h
def By(x:Option aU)(d t:Nat)(h:∀y∈x.toList,ev e y=ev e' y):bound e x d t=bound e' x d t:=by rcases x with _|y;rfl;simp only[bound,h y ag]
def acR(y:kD)(q:∀x∈y.mA,ev e x=ev e' x):dh e h y=dh e' h y:=by
 cases y with
 |build z A=>simp only[dh,zY A z q]
 |fC n z A=>simp only[dh,zY A z q]
 |uP f y=>
  simp only[kD.mA] at q;simp only[dh,MW q]
 |slice s x G I C=>
  simp only[kD.mA,bd,jL,or_assoc] at q;have m:=q x (fc Q);have V:∀d t,bound e G d t=bound e' G d t:=λd t=>By G d t λy u=>q y (ft (fc u));have c:∀d t,bound e I d t=bound e' I d t:=λd t=>By I d t λy u=>q y (ft (ft (fc u)));have M:∀d t,bound e C d t=bound e' C d t:=λd t=>By C d t λy u=>q y (ft (ft (ft u)));simp only[dh,m,V,c,M]
 |pick c a b=>
  simp only[kD.mA,bd,rv,or_false,forall_eq_or_imp,forall_eq] at q;simp only[dh,q.1,q.2.1,q.2.2]
 |alloc|call|bad=>rfl
 |store _ x y|bin _ _ x y|iO _ _ x y|ee _ _ x y|index _ x y|append _ _ _ x y|copy _ x y=>
  simp only[kD.mA,bd,rv,or_false,forall_eq_or_imp,forall_eq] at q;simp only[dh,q.1,q.2]
 |mv x|box x|load _ x|Aj x|un _ x|conv _ x|cD _ x|ext _ x|ox x|WL x|MM x|clear _ x=>
  simp only[kD.mA,bd,rv,or_false,forall_eq] at q;simp only[dh,q]
def leads:aa->Option Nat
 |dB (Z ⟨b,_,_⟩)=>Z b
 |c6 (Z ⟨b,_,_⟩) _ _=>Z b
 |.map (Z b)=>Z b
 |_=>K
def kD.through:kD->Option aU
 |.load _ a=>Z a
 |.slice _ x _ _ _=>Z x
 |_=>K
def LV{a:kD}(A:a.kind=0)(q:dh e h a=Z (v,h')):h'=h/\∀y,dh e y a=Z (v,y):=by
 cases a with
 |uP f u=>
  simp only[dh] at q⊢;cases C:(qi e u).all simple<;>simp only[C,mi,z6] at q⊢ <;>cases q;exact⟨Q,λy=>rfl⟩
 |_=>
  simp only[kD.kind] at A
  first
   |(exact absurd A ai)
   |(simp only[dh] at q⊢
     repeat' split at q
     all_goals first
      |(cases q;refine⟨rfl,λy=>?_⟩;first|rfl|(simp_all;done))
      |(cases q;done))
def EW{u:kD}(M:u.kind=1)(q:dh e h u=Z (v,h')):h'=h/\∃x,u.through=Z x/\(∀A,(∀b,leads (ev e x)=Z b->A.tr.get b=h.tr.get b)->dh e A u=Z (v,A))/\(∀b,leads (ev e x)=Z b->∃cs c o s,h.tr.get b=Z (.ch cs c o s)):=by
 cases u<;>simp only[kD.kind] at M<;>first|(exact absurd M ai)|skip
 case load n a=>
  simp only[dh] at q;split at q
  .rename_i b d u;split at q
   .rename_i cs G;split at q
    .rename_i y I;cases q;refine⟨Q,a,Q,?_,?_⟩
     .intro A y;have:=y b (by rw[u];rfl);have f:cC A b d (width n)=Z cs:=by unfold cC at G⊢;rw[this];exact G
      simp only[dh,u,f,I]
     intro f U;rw[u] at U;cases U;unfold cC at G;split at G;exact⟨_,_,_,_,by assumption⟩;cases G
    cases q
   cases q
  cases q
 case slice sz x lo hi mx=>
  simp only[dh] at q;split at q
  .rename_i a C C u;split at q;cases q
   .rename_i m W;split at q;cases q
    .rename_i C C;split at q;cases q
     .rename_i l O;split at q;cases q;refine⟨Q,x,Q,λA _=>?_,λb y=>?_⟩;simp only[dh,u,W,C,O];rw[u] at y;cases y
      .rename_i b d;split at q;rename_i cs c o s I;cases c:(ar o 0||ar o sz);rw[c] at q;cases q;rw[c] at q;cases q;refine⟨Q,x,Q,λA y=>?_,λf y=>?_⟩;have:=y b (by rw[u];rfl);simp only[dh,u,W,C,O,this,I,c,mi];rw[u] at y;cases y;exact⟨_,_,_,_,I⟩
       cases q
      cases q
  cases q
def eV.refl(h:aB):eV h h:=⟨fE _,fE _,λ_ _ _ _ _ _ h _=>h,id,λ_ _ h=>h⟩
def eV.trans{h V A:aB}(x:eV h V)(y:eV V A):eV h A:=
 ⟨wV x.ax y.ax,wV x.clock y.clock,λb cs C o s q u G=>x.bU b cs C o s q (y.bU b cs C o s (Jy q x.ax) u (Jy G x.clock)) G,y.wf∘x.wf,λb q u=>x.mp b q (y.mp b (Jy q x.ax) u)⟩
def eV.new(h:aB)(o:qo):eV h (h.new o):=by
 refine⟨by simp[aB.new],fE _,λb cs A u s u q _=>?_,λy b x u=>?_,λb u q=>?_⟩;simp only[aB.new,Tr.bS] at q;rwa [bM J] at q;simp only[aB.new,Tr.bS] at u⊢;by_cases e:b=h.ax;omega;rw[bM e] at u;have:=y b x u;omega
 simp only[aB.new,Tr.bS] at q;rwa [bM J] at q
def eV.del(h:aB)(l:Nat):eV h {h with tr:=h.tr.del l} :=by refine⟨fE _,fE _,λb cs A u s u q _=>?_,λy b x u=>?_,λb u q=>?_⟩;simp only[Tr.iw] at q;by_cases e:b=l;rw[bH e] at q;cases q;rwa [bM e] at q;simp only[Tr.iw] at u;by_cases e:b=l;rw[bH e] at u;cases u;rw[bM e] at u;exact y b x u;simp only[Tr.iw] at q;by_cases e:b=l;rw[bH e] at q;cases q;rwa [bM e] at q
def eV.other{o:qo}(l:Nat)(c:Nat)(M:h.clock<=c)(a:∃x,h.tr.get l=Z x)(I:∀cs C u s,o=.ch cs C u s->h.clock<=s)(G:o≠ .map []):eV h {h with clock:=c,tr:=h.tr.set l o} :=by
 refine⟨fE _,M,λb cs C u s u q O=>?_,λA b x u=>?_,λb u q=>?_⟩
 .simp only[Tr.bS] at q;by_cases e:b=l;rw[bH e] at q;cases q;have:=I _ _ _ _ rfl;omega
  rwa [bM e] at q
 simp only[Tr.bS] at u;by_cases e:b=l;have⟨y,C⟩:=a;rw[e];exact A l y C;rw[bM e] at u;exact A b x u;simp only[Tr.bS] at q;by_cases e:b=l;rw[bH e] at q;cases q;exact absurd rfl G;rwa [bM e] at q
def eV.write{b u:Nat}(q:gq h b u vs=Z h'):eV h h':=by unfold gq at q;split at q;rename_i u;split at q;cases q;exact eV.other b (h.clock+1) (hQ _) ⟨_,u⟩ (λcs y y s e=>by cases e;exact fE _) (λe=>by cases e);cases q;cases q
inductive Mk where
 |ptr
 |sl (l c:Nat)
 |mp
def Wq:Mk->Nat->aa
 |.ptr,N=>dB (Z ⟨N,0,K⟩)
 |.sl l c,N=>c6 (Z ⟨N,0,K⟩) l c
 |.mp,N=>.map (Z N)
def Wo:Mk->List aa->qo
 |.mp,_=>.map []
 |_,a=>.ch a b9 0 0
def CK{a:kD}(A:a.kind=2)(q:dh e h a=Z (v,h')):∃s y,v=Wq s h.ax/\h'=h.new (Wo s y)/\∀u,dh e u a=Z (Wq s u.ax,u.new (Wo s y)):=by
 cases a with
 |alloc z=>
  simp only[dh,oN,CB] at q;exact⟨.ptr,z,q.1.symm,q.2.symm,λu=>rfl⟩
 |box x=>
  simp only[dh] at q;split at q;rename_i vs y;cases q;exact⟨.ptr,vs,Q,Q,λu=>by simp only[dh,y];rfl⟩;cases q
 |fC n z I=>
  simp only[dh] at q;split at q;rename_i cs y;cases q;exact⟨.sl n n,cs,Q,Q,λu=>by simp only[dh,y];rfl⟩;cases q
 |iO z n l c=>
  simp only[dh] at q;split at q;rename_i y C V u;split at q;rename_i G;cases q;exact⟨.sl y C,jG z C,Q,Q,λC=>by simp only[dh,V,u,G,if_true];rfl⟩;cases q;cases q
 |_=>simp only[kD.kind] at A;cases A
def P7{u:Nat}{s:aa}(q:dz h z u s n cs=Z (v,h')):eV h h':=by
 unfold dz at q;dsimp only at q
 repeat' split at q
 all_goals first
  |(cases q;done)
  |(cases q;exact eV.refl _)
  |(cases q;exact eV.new _ _)
  |(rename_i u;cases q;exact eV.write u)
  |(cases q;exact(eV.del _ _).trans (eV.new _ _))
  |skip
def acS{b:kD}(q:dh e h b=Z (v,h')):eV h h':=by
 by_cases m:b.kind=0;rw[(LV m q).1];exact .refl h;by_cases V:b.kind=1;rw[(EW V q).1];exact .refl h;by_cases y:b.kind=2;obtain⟨_,cs,_,rfl,_⟩:=CK y q;exact .new h _;cases b with
 |store n a x=>
  simp only[dh] at q
  repeat' split at q
  all_goals first
   |(cases q;done)
   |(rename_i u;cases q;exact eV.write u)
 |append z b A s x=>
  simp only[dh] at q;split at q;exact P7 q;cases q
 |copy sz d s=>
  simp only[dh] at q
  repeat' split at q
  all_goals first
   |(cases q;done)
   |(cases q;exact .refl h)
   |(rename_i u;cases q;exact eV.write u)
 |clear z x=>
  simp only[dh] at q
  repeat' split at q
  all_goals first
   |(cases q;done)
   |(cases q;exact .refl h)
   |(rename_i u;cases q;exact eV.write u)
 |WL x=>
  simp only[dh] at q
  repeat' split at q
  all_goals first
   |(cases q;done)
   |(cases q;exact .refl h)
 |call f args=>simp[dh] at q
 |bad=>simp[dh] at q
 |_=>first|exact absurd rfl m|exact absurd rfl V|exact absurd rfl y
section
variable{F:Nat->Option cY}{s:aG->Env->aB->R}
def iM(s:aG->Env->aB->R):Prop:=∀c e h x e' h',s c e h=Z (x,e',h')->eV h h'
def Is(A:iM s)(q:uw F s f args h=Z (v,h')):eV h h':=by
 unfold uw py at q;split at q;cases q
 .split at q;cases q;rename_i u _;exact u _ _ _ _ q;split at q
  all_goals first
   |(cases q;done)
   |(rename_i y
     split at q;rename_i vs _;cases C:gI vs<;>simp only[C,mi,z6] at q<;>cases q;exact A _ _ _ _ _ _ y;cases q)
def DR{l:Nat}{x:qo}(u:h.tr.get l=Z x)(q:Env)(a:List Nat)(b body:aG)(st:Wz):eV h (gm h l q a b body st):=
 eV.other l h.clock (fE _) ⟨x,u⟩ (λ_ _ _ _ e=>by cases e) (λe=>by cases e)
def RQ{l:Nat}{b:Bool}(q:nk l h st b=Z (v,h')):eV h h':=by unfold nk at q;split at q;rename_i u;cases q;exact DR u ..;cases q
def RR(u:iM s){l:Nat}(q:tS s l args h=Z (v,h')):eV h h':=by
 unfold tS at q;split at q
 .split at q;cases q
  .split at q
   .rename_i A;refine(u _ _ _ _ _ _ A).trans ?_;unfold yA at q;split at q
    .rename_i C;split at q
     all_goals first
      |(cases q;done)
      |(rename_i y;exact(DR C _ _ _ _ _).trans ((u _ _ _ _ _ _ y).trans (RQ q)))
    cases q
   cases q
 cases q
def Th(u:iM s)(q:fB F s G args h=Z (v,h')):eV h h':=by unfold fB at q;split at q;rcases Kt q with q|⟨_,_,_,q⟩;exact Is u q;rw[(Pt q).2.1];exact .refl h;exact RR u q;cases q
def Cd(y:iM s){o:cn}(q:dL F s o e h=Z (e',h')):eV h h':=by unfold dL at q;cases A:wanted e o.guard<;>simp only[A,mi,z6] at q;cases q;exact .refl h;split at q;split at q;rename_i u;cases q;exact Th y u;cases q;split at q;rename_i u;cases q;exact acS u;cases q
def Ma(u:iM s):∀(l:List cn){e e':Env}{h h':aB},zi F s l e h=Z (e',h')->eV h h'
 |[],_,_,_,_,q=>by simp only[zi] at q;cases q;exact .refl _
 |o::r,_,_,_,_,q=>by simp only[zi] at q;split at q;rename_i y;exact(Cd u y).trans (Ma u r q);cases q
def Iv(u:iM s)(c:Nat):∀(l:List (cn×List Nat)){e e':Env}{h h':aB},mF F s c l e h=Z (e',h')->eV h h'
 |[],_,_,_,_,q=>by simp only[mF] at q;cases q;exact .refl _
 |(o,a)::r,_,_,_,_,q=>by simp only[mF] at q;split at q;rename_i A V y;cases C:still A V c a<;>simp only[C,mi,z6] at q;cases q;exact(Cd u y).trans (Iv u c r q);cases q
def Vx(y:iM s):iM (dg F s):=by
 intro c e h x e' h' u;cases c with
 |skip|exit|ret=>simp only[dg] at u;cases u;exact .refl h
 |ops l=>
  simp only[dg] at u;split at u;rename_i A;cases u;exact Ma y l A;cases u
 |draw l=>
  simp only[dg] at u;split at u;rename_i A;cases u;have V:eV h {h with clock:=h.clock+1} :=⟨fE _,hQ _,λ_ _ _ _ _ _ q _=>q,id,λ_ _ q=>q⟩;exact V.trans (Iv y _ l A)
  cases u
 |seq a b=>
  simp only[dg] at u;split at u;rename_i A;exact(y _ _ _ _ _ _ A).trans (y _ _ _ _ _ _ u);exact y _ _ _ _ _ _ u
 |cond q a b=>
  simp only[dg] at u;split at u;exact y _ _ _ _ _ _ u;exact y _ _ _ _ _ _ u;cases u
 |block id a=>
  simp only[dg] at u;split at u;rename_i i _ _ A;cases q:ar i id<;>simp only[q,mi,z6] at u<;>cases u<;>exact y _ _ _ _ _ _ A;exact y _ _ _ _ _ _ u
 |loop a=>
  simp only[dg] at u;split at u;rename_i A;exact(y _ _ _ _ _ _ A).trans (y _ _ _ _ _ _ u);exact y _ _ _ _ _ _ u
 |RO f G C body=>
  simp only[dg] at u;split at u
  .split at u
   .rename_i I;have V:=(eV.new h (.loop e G C body .ready)).trans (Is y I);split at u
    all_goals first
     |(cases u;done)
     |(cases u;exact V.trans (eV.del _ _))
   cases u
  cases u
 |bad=>simp[dg] at u
def adr:∀q,iM (run F q):=by
 intro q;induction q with
 |zero=>intro c e h x e' h' y;cases y
 |succ m u=>exact Vx u
end
def PS(P:b7)(T:tU)(ng:Nat)(c:vd)(F:Nat->Option cY):Prop:=
 ∀(s:aG->Env->aB->R),iM s->yI P T ng c s->∀(n:Nat)(ops:Array ed)(e:Env)(h:aB)(e':Env)(h':aB),mF F s h.clock (c n ops.toList) e {h with clock:=h.clock+1} =Z (e',h')->∀(q:Bool)(t:Nat)(ρ:fP)(w:c5)(a:Act)(b:gr)(k:List B1)(cs:List gr),eQ (iD T ng c) ρ h w->d_ ng ρ->ER ρ e a.tmps->n<=a.tmps.size->∃g w' u,Steps P (lone (on b a (.inRegion ops (yu q ops t)::k)) cs w) (lone (on b u (.inRegion ops []::k)) cs w')/\eQ (iD T ng c) g h' w'/\ER g e' u.tmps/\u.tmps.size=a.tmps.size/\u.defers=a.defers/\Ext ρ h w g h' w'
def Fe{m u t:Machine}(h:Steps P m t)(A:step P m=.next u)(y:t≠m):Steps P u t:=by
 have⟨n,q⟩:=h;cases n with
 |zero=>simp only[runN] at q;cases q;exact absurd rfl y
 |succ n=>simp only[runN,A] at q;exact⟨n,q⟩
def acx{b q:gr}{cs y:List gr}(h:lone b cs w=lone q y w'):b.todo=q.todo:=by have u:=congrArg (λm:Machine=>(m.gs[0]?).map (λg=>g.frame.todo)) h;simpa [lone] using u
section
variable{P:b7}{T:tU}{ng:Nat}{E:vd}{F:Nat->Option cY}{s:aG->Env->aB->R}
def eQ.hidden(S:eQ M ρ h w)(o:Obj):eQ M ρ h (w.alloc o)/\Ext ρ h w ρ h (w.alloc o):=by
 have G:(w.alloc o).heap.size=w.heap.size+1:=zo _;have u:∀k,k<w.heap.size->(w.alloc o).heap[k]?=w.heap[k]? :=by intro k A;show(w.heap.push o)[k]?=_;rw[p5,bM J]
 refine⟨⟨λb r q=>⟨(S.low b r q).1,aw ((S.low b r q).2)⟩,λb r x q y=>jg.mono ρ.le_refl (u _ (S.low b r q).2) (S.obj b r x q y),S.inj,S.wf⟩,⟨ρ.le_refl,fE _,J,Q,Q,Q,λk A _=>u k A,λb r q C=>ft ⟨b,r,q,C,Q⟩,λb r h h'=>(by rw[h] at h';cases h'),λb r x q y=>ft ⟨b,r,x,q,y,Q⟩⟩⟩
def J7(w:c5)(o:Obj):(w.alloc o).heap.size=w.heap.size+1:=zo _
def Dv.same(S:eQ M ρ h w)(u:ER ρ e a.tmps)(q:Fl B ρ h w a.defers):Dv M B ρ h w a ρ e h w a:=
 ⟨S,u,Q,.refl ρ h w,q⟩
def Dv.trans{M:dy}{B:Nat}{ρ C I:fP}{y W:Env}{h V A:aB}{w q G:c5}{a u a2:Act}(x:Dv M B ρ h w a C y V q u)(y:Dv M B C V q u I W A G a2):Dv M B ρ h w a I W A G a2:=⟨y.Wt,y.er,y.size.trans x.size,x.ext.trans y.ext,y.defs⟩
def VR.fnv{g:FuncId}{first a:Array aa}{c:aa}(h:VR ρ (.func (.func g) first a) c):∃l m,first= #[]/\a=⟨l⟩/\c=.func (.func g) #[] ⟨m⟩/\bQ (CR ρ) l m:=by
 cases h with
 |val h=>cases h with
  |cell h=>cases h with
   |cell h=>cases h
   |fn g h=>exact⟨_,_,Q,Q,Q,h⟩
def eQ.off(S:eQ M ρ h w){r:Cn}{o:qo}(U:ρ b=Z r)(u:h.tr.get b=Z o)(q:o.rw=cd)(C:Oh r.ch w w'):eQ M ρ {h with tr:=h.tr.del b} w'/\Ext ρ h w ρ {h with tr:=h.tr.del b} w':=by
 have c:fU h b:=⟨o,u,q⟩;have G:∀x p,({h with tr:=h.tr.del b} :aB).tr.get x=Z p->x≠b/\h.tr.get x=Z p:=by intro x p q;simp only[Tr.iw] at q;by_cases e:x=b;rw[bH e] at q;cases q;rw[bM e] at q;exact⟨e,q⟩
 have W:∀x,fU {h with tr:=h.tr.del b} x->fU h x:=λx ⟨p,u,a⟩=>⟨p,(G x p u).2,a⟩;refine⟨⟨λx A q=>⟨(S.low x A q).1,by rw[C.size];exact(S.low x A q).2⟩,?_,?_,λx p u=>S.wf x p (G x p u).2⟩,⟨ρ.le_refl,fE _,Nat.le_of_eq C.size.symm,C.os,C.tape,C.output,?_,?_,?_,?_⟩⟩;intro x A p q u;have⟨a,u⟩:=G x p u;exact jg.mono ρ.le_refl (C.other _ (S.inj b x r A p U q c u (a7 a)).symm) (S.obj x A p q u);intro x y A f p q d I u a;exact S.inj x y A f p q d (W x I) (G y p u).2 a;intro k _ a;exact C.other k (λe=>a b r U c e.symm);intro x A q I;exact ft ⟨x,A,q,W x I,Q⟩;intro x A V O;rw[V] at O;cases O;intro x A p q u;exact ft ⟨x,A,p,q,(G x p u).2,Q⟩
def aac{r:Nat}(u:w.heap[r]?=Z (.deferred (Z [])))(q:SI ρ h r)(E:Ext ρ h w g h' w'):w'.heap[r]?=Z (.deferred (Z []))/\SI g h' r:=by have y:=Kd u;refine⟨?_,q.ext E y⟩;rw[E.yZ r y,u];rintro x C G⟨o,A,_⟩;exact q x C o G A
def adf(hF:Ha P T ng E F)(X:eG P T)(hI:yI P T ng E s){f:aU}{z:Array Tmp}{c body:Code}(d:cZ ng f=cd)(p:z.toList.all (eR · n)=cd)(y:kC c=cd)(H:kC body=cd){x:bJ}(I:dg F s (.RO f z.toList (dD T ng n E c) (dD T ng n E body)) e h=Z (x,e',h'))(b:gr)(k:List B1)(cs:List gr)(S:eQ (iD T ng E) ρ h w)(l:d_ ng ρ)(D:ER ρ e a.tmps)(i:n<=a.tmps.size)(hB:B<=w.heap.size)(hD:Fl B ρ h w a.defers)(q:b.roundOf=K):∃g w' C,Ns P b k cs (lone (on b a (.code (.rangeFunc f z c body)::k)) cs w) x C w'/\Dv (iD T ng E) B ρ h w a g e' h' w' C:=by
 simp only[dg] at I;split at I
 .rename_i N first u L
  have u:=D.eval l d;rw[L] at u;obtain⟨d,m,rfl,rfl,C,hlm⟩:=u.fnv;split at I
  .rename_i v V Ua;have⟨S1,E1⟩:=S.hidden (.deferred (Z []))
   let L:Loop:= { state:=.ready,pending:=K,fn:=b.fn,tmps:=a.tmps,params:=z,assign:=c,body:=body,defers:=w.heap.size }
   let u:Cn:= { ch:=w.heap.size+1,base:=0,len:=0,L8:=0,room:=0 }
   have fV:jg (iD T ng E) (iC ρ h.ax u) u (.loop e z.toList (dD T ng n E c) (dD T ng n E body) .ready) ((w.alloc (.deferred (Z []))).alloc (.loop L)):=by refine⟨L,?_,D.mono (rV S.fresh),Q,⟨n,i,Q,y⟩,⟨n,i,Q,H⟩,?_,Q,Q⟩;show((w.alloc (.deferred (Z []))).heap.push (.loop L))[w.heap.size+1]?=_;rw[<-J7 w (.deferred (Z [])),p5,bH rfl];intro t H;have:=lL.1 p t H;exact Jy (zO.1 this) i
   have⟨S2,p⟩:=S1.add (im:=u) (J7 w _).symm fV;have U:=E1.trans p;have hG2:=l.mono U.le;have H:iC ρ h.ax u h.ax=Z u:=by simp[iC]
   have nD:bQ (VR (iC ρ h.ax u)) ([]++[.func (.yield h.ax) #[] #[]]++d) ([.func (.yield (w.heap.size+1)) #[] #[]]++m):=by refine bQ.cons (.val (.cell (.yield H))) ?_;exact hlm.mono λ_ _ i=>(i.mono U.le).vr
   have amQ:uw F s N ([]++[.func (.yield h.ax) #[] #[]]++d) (h.new (.loop e z.toList (dD T ng n E c) (dD T ng n E body) .ready))=Z (v,V):=Ua
   let a2:Act:= {a with defers:=mark w.heap.size::a.defers}
   let bb:gr:=on b a2 (.inRangeFunc (w.heap.size+1)::k)
   obtain⟨p,p,y,i,d,q1,q2,N,q4,l,l,d,d,i⟩:=BK hF X hI amQ S2 hG2 nD (bb::cs);have X:=Ti (P:=P) (ρ:=a.eval) (w:=(w.alloc (.deferred (Z []))).alloc (.loop L)) (args:= #[.const (.func (.yield (w.heap.size+1)) #[] #[])]) (ats:= #[]) (ty:=0) C q1 q2 N;have C:=auL (P:=P) (b:=b) (a:=a) (k:=k) (cs:=cs) (w:=w) (f:=f) (ps:=z) (asg:=c) (body:=body) q X;have X:(#[]++(#[Operand.const (.func (.yield (w.heap.size+1)) #[] #[])]:Array aU).map a.eval++⟨m⟩:Array aa)=⟨[.func (.yield (w.heap.size+1)) #[] #[]]++m⟩:=by apply cL;simp[Act.eval]
   rw[X] at C;have atw:Steps P (lone (on b a (.code (.rangeFunc f z c body)::k)) cs w) (lone (on b a2 (.endRangeFunc (w.heap.size+1)::k)) cs y):=by refine .head C (q4.trans (.one ?_));rw[step_leave_returned l];rfl
   have X:=U.trans i;have hl3:p h.ax=Z u:=i.le _ _ H;have hDn:Fl B p V y a2.defers:=by
    have⟨C,y,H,N⟩:=hD;have l:∀r∈C,r<w.heap.size:=λr q=>Kd (N r q).2.1;refine⟨w.heap.size::C,by simp[a2,y],kI.2 ⟨λy=>aw (l _ y),H⟩,?_⟩;intro r q;rcases bd.1 q with rfl|q
    .have C:SI (iC ρ h.ax u) (h.new (.loop e z.toList (dD T ng n E c) (dD T ng n E body) .ready)) w.heap.size:=by intro y ry o l _ he;unfold iC at l;by_cases H:y=h.ax;rw[bH H] at l;cases l;simp[u] at he;rw[bM H] at l;have:=(S.low y ry l).2;omega
     refine⟨hB,aac ?_ C i⟩;show((w.heap.push (.deferred (Z []))).push (.loop L))[w.heap.size]?=_;rw[p5,bM ag,p5,bH rfl]
    exact⟨(N r q).1,aac (N r q).2.1 (N r q).2.2 X⟩
   have W:∀(G:Env)(A:List Nat)(C y:aG)(st:Wz),V.tr.get h.ax=Z (.loop G A C y st)->st≠ .busy->∃w',(∃i:Loop,PT st i/\Steps P (lone (on b a (.code (.rangeFunc f z c body)::k)) cs w) (lone (on b a2 ((i.pending.map Item.code).toList++k)) cs w'))/\Dv (iD T ng E) B ρ h w a p e {V with tr:=V.tr.del h.ax} w' a2:=by
    intro G A C y st M H;obtain⟨i,l,c,L,N,z,q,q⟩:=d.obj h.ax u _ hl3 M;have N:(i.state==.busy)=b9:=by
     cases st with
     |ready=>rw[q.1];rfl
     |busy=>exact absurd rfl H
     |done j=>cases j<;>(rw[q.1];rfl)
    have L:=ahq (P:=P) (b:=b) (a:=a2) (k:=k) (cs:=cs) l N;have⟨c,z⟩:=d.off hl3 M rfl (Oh.obj u.ch (.loop {i with state:=.exhausted}));have N:=X.trans z;exact⟨_,⟨i,q,atw.trans (.one L)⟩,⟨c,D.mono N.le,Q,N,hDn.ext z⟩⟩
   split at I;rename_i G A C y M;cases I;have⟨w',⟨i,L,O⟩,q⟩:=W _ _ _ _ _ M ag;refine⟨p,w',a2,?_,q⟩;rw[L.2] at O;exact O;rename_i G A C y M;cases I;have⟨w',⟨i,L,O⟩,q⟩:=W _ _ _ _ _ M ag;refine⟨p,w',a2,⟨k,?_⟩,q⟩;rw[L.2] at O;exact O;rename_i G A C y id M;cases I;have⟨w',⟨i,L,O⟩,q⟩:=W _ _ _ _ _ M ag;refine⟨p,w',a2,⟨k,?_,Q⟩,q⟩;rw[L.2] at O;exact O;cases I
  cases I
 cases I
end
section
variable{P:b7}{T:tU}{ng:Nat}{E:vd}{F:Nat->Option cY}{s:aG->Env->aB->R}
def aho{y:bJ×Env×aB}(q:dg F s .bad e h=Z y):False:=by simp[dg] at q
def Rl{b:gr}{a u:Act}{cs:List gr}{t q:List B1}(h:t≠q):lone (on b a t) cs w≠lone (on b u q) cs w':=by intro e;exact h (acx e)
def Vy(hF:Ha P T ng E F)(hT:eG P T)(L:PS P T ng E F)(v:iM s)(l:yI P T ng E s):yI P T ng E (dg F s):=by
 intro n j;induction j with
 |skip=>
  intro e h x e' h' u B ρ w a b k cs S G A d U C W;simp only[dD,dg,oN,CB] at u;obtain⟨rfl,rfl,rfl⟩:=u;exact⟨ρ,w,a,.one aoP,.same S A C⟩
 |label o=>
  intro e h x e' h' u B ρ w a b k cs S G A d U C W;simp only[dD,dg,oN,CB] at u;obtain⟨rfl,rfl,rfl⟩:=u;exact⟨ρ,w,a,.one akl,.same S A C⟩
 |region id ops o=>
  intro e h x e' h' u B ρ w a b k cs S G A d U C W;cases o;simp only[dD,dg] at u;split at u;rename_i o V m;cases u;have⟨M,I,c,t,X,y,D,q,r⟩:=YK hF hT l b k cs ops.size 0 J e e' h h' m ρ w a S G A d;refine⟨M,I,c,?_,⟨X,y,D,r,by rw[q];exact C.ext r⟩⟩;rw[<-List.range_eq_range'] at t;exact Steps.head ahs (Steps.trans t (.one GK));cases u
  .simp only[dD,dg] at u;split at u;rename_i o V m;cases u;have⟨M,I,c,t,X,y,D,q,r⟩:=L s v l n ops e h e' h' m (P.follows .mixedOrders) (w.tape w.drawn (.order b.fn id)) ρ {w with drawn:=w.drawn+1} a b k cs (S.drawn _) G A d;have L:=(Ext.drawn (ρ:=ρ) (h:=h) (w:=w) (w.drawn+1)).trans r;refine⟨M,I,c,?_,⟨X,y,D,L,by rw[q];exact C.ext L⟩⟩;exact Steps.head aoN (Steps.trans t (.one GK))
   cases u
 |seq t r _ _=>
  intro e h x e' h' u B ρ w a b k cs S G A d U C W;have D:b.roundOf=K\/kC t=cd:=W.imp_right λq=>by simp only[kC,pU] at q;exact q.1
  have X:b.roundOf=K\/kC r=cd:=W.imp_right λq=>by simp only[kC,pU] at q;exact q.2
  simp only[dD,dg] at u;split at u;rename_i o V m;have⟨M,I,c,O,y⟩:=l n t e h _ o V m B ρ w a b (.code r::k) cs S G A d U C D;have⟨L,w2,a2,v,A2⟩:=l n r o V _ e' h' u B M I c b k cs y.Wt (G.mono y.ext.le) y.er (by rw[y.size];exact d) (wV U y.ext.size) y.defs X;exact⟨L,w2,a2,Ns.of_steps (.head aht O) v,y.trans A2⟩
  .rename_i z;have⟨M,I,c,O,y⟩:=l n t e h _ e' h' u B ρ w a b (.code r::k) cs S G A d U C D;refine⟨M,I,c,?_,y⟩;cases x with
   |normal=>exact absurd u (z e' h')
   |exit id=>
    have⟨g,V,p⟩:=O;exact⟨g,.head aht V,p.trans Q⟩
   |ret=>
    have⟨g,V⟩:=O;exact⟨g,.head aht V⟩
 |cond j t r _ _=>
  intro e h x e' h' u B ρ w a b k cs S G A d U C W;have D:b.roundOf=K\/kC t=cd:=W.imp_right λq=>by simp only[kC,pU] at q;exact q.1
  have X:b.roundOf=K\/kC r=cd:=W.imp_right λq=>by simp only[kC,pU] at q;exact q.2
  simp only[dD] at u;cases m:cZ ng j;rw[m] at u;exact(aho u).elim
  .simp only[m,mi,dg] at u;have H:=A.eval G m;split at u
   rename_i N;rw[N] at H;have⟨M,I,c,O,y⟩:=l n t e h _ e' h' u B ρ w a b k cs S G A d U C D;exact⟨M,I,c,Ns.of_steps (.one (ahp H.pP)) O,y⟩;rename_i N;rw[N] at H;have⟨M,I,c,O,y⟩:=l n r e h _ e' h' u B ρ w a b k cs S G A d U C X;exact⟨M,I,c,Ns.of_steps (.one (ahp H.pP)) O,y⟩;cases u
 |block id j _=>
  intro e h x e' h' u B ρ w a b k cs S G A d U C W;simp only[dD,dg] at u;split at u
  .rename_i i o V m;have⟨M,I,c,O,y⟩:=l n j e h _ o V m B ρ w a b (.inBlock id::k) cs S G A d U C W;have⟨g,r,H⟩:=O;cases t:ar i id
   .simp only[t,z6,oN,CB] at u;obtain⟨rfl,rfl,rfl⟩:=u;refine⟨M,I,c,⟨g,.head JQ r,?_⟩,y⟩;rw[H];have:(id==i)=b9:=by cases X:id==i;rfl;have:=eq_of_beq X;subst this;rw[lW] at t;cases t
    simp[exitTo,this]
   have:=qm t;subst this;simp only[t,mi,oN,CB] at u;obtain⟨rfl,rfl,rfl⟩:=u;refine⟨M,I,c,?_,y⟩;refine Steps.head JQ (r.trans (.one (aoO ?_)));rw[H];simp[exitTo]
  .rename_i z;have⟨M,I,c,O,y⟩:=l n j e h _ e' h' u B ρ w a b (.inBlock id::k) cs S G A d U C W;refine⟨M,I,c,?_,y⟩;cases x with
   |normal=>exact Steps.head JQ (Steps.trans O (.one ady))
   |exit i=>exact absurd u (z i e' h')
   |ret=>
    have⟨g,V⟩:=O;exact⟨g,.head JQ V⟩
 |loop j _=>
  intro e h x e' h' u B ρ w a b k cs S G A d U C W;simp only[dD,dg] at u;split at u
  .rename_i o V m;have⟨M,I,c,O,y⟩:=l n j e h _ o V m B ρ w a b (.inLoop j::k) cs S G A d U C W;have⟨L,w2,a2,v,A2⟩:=l n (.loop j) o V _ e' h' u B M I c b k cs y.Wt (G.mono y.ext.le) y.er (by rw[y.size];exact d) (wV U y.ext.size) y.defs W;refine⟨L,w2,a2,?_,y.trans A2⟩;have L:Steps P (lone (on b a (.code (.loop j)::k)) cs w) (lone (on b c (.code j:: .inLoop j::k)) cs I):=.head RY (Steps.trans O (.one ahr));refine Ns.of_steps L ?_;have L:=RY (P:=P) (b:=b) (a:=c) (k:=k) (cs:=cs) (w:=I) (c:=j);cases x with
   |normal=>exact Fe v L (Rl λq=>by have:=congrArg List.length q;simp at this)
   |exit i=>
    have⟨g,r,H⟩:=v;exact⟨g,Fe r L (Rl λq=>by cases q),H⟩
   |ret=>
    have⟨g,r⟩:=v;exact⟨g,Fe r L (Rl λq=>by cases q)⟩
  .rename_i z;have⟨M,I,c,O,y⟩:=l n j e h _ e' h' u B ρ w a b (.inLoop j::k) cs S G A d U C W;refine⟨M,I,c,?_,y⟩;cases x with
   |normal=>exact absurd u (z e' h')
   |exit id=>
    have⟨g,V,p⟩:=O;exact⟨g,.head RY V,p.trans Q⟩
   |ret=>
    have⟨g,V⟩:=O;exact⟨g,.head RY V⟩
 |scope j z=>
  intro e h x e' h' u B ρ w a b k cs S G A d U C W;simp only[dD] at u;have⟨M,I,c,O,y⟩:=z e h x e' h' u B ρ w a b (.inScope j::k) cs S G A d U C W;refine⟨M,I,c,?_,y⟩;cases x with
  |normal=>exact Steps.head R0 (Steps.trans O (.one adz))
  |exit id=>
   have⟨g,V,p⟩:=O;exact⟨g,.head R0 V,p.trans Q⟩
  |ret=>
   have⟨g,V⟩:=O;exact⟨g,.head R0 V⟩
 |exit id=>
  intro e h x e' h' u B ρ w a b k cs S G A d U C W;simp only[dD,dg,oN,CB] at u;obtain⟨rfl,rfl,rfl⟩:=u;exact⟨ρ,w,a,⟨k,Steps.refl P _,Q⟩,.same S A C⟩
 |ret=>
  intro e h x e' h' u B ρ w a b k cs S G A d U C W;simp only[dD,dg,oN,CB] at u;obtain⟨rfl,rfl,rfl⟩:=u;exact⟨ρ,w,a,⟨k,Steps.refl P _⟩,.same S A C⟩
 |rangeFunc f y c body _ _=>
  intro e h x e' h' u B ρ w a b k cs S G A d U C W;simp only[dD] at u;cases g:(cZ ng f&&y.toList.all (eR · n)&&kC c&&kC body);rw[g] at u;exact(aho u).elim;rw[g] at u;simp only[pU] at g;have⟨⟨⟨V,p⟩,y⟩,c⟩:=g;have g:b.roundOf=K:=by rcases W with q|q;exact q;simp[kC] at q
  exact adf hF hT l V p y c u b k cs S G A d U C g
 |_=>
  intro e h x e' h' u;exact(aho u).elim
def ads(G:Ha P T ng E F)(y:eG P T)(C:PS P T ng E F):∀q,yI P T ng E (run F q):=by
 intro q;induction q with
 |zero=>intro n c e h x e' h' A;cases A
 |succ m u=>exact Vy G y C (adr m) u
end
def jq(md:x8)(o:ed):List Nat:=(o.after.toList.filter (r5 md)).map (·.on)
def pass:List (List Nat)->Nat->Nat->Nat
 |[],_,q=>q
 |e::r,i,q=>pass r (i+1) (bif e.all (lT q) then q ||| (1 <<< i) else q)
def aj6(u:Nat)(a:List (List Nat)):Nat->Nat->Bool
 |0,_=>b9
 |f+1,q=>bif ar q u then cd else aj6 u a f (pass a 0 q)
def Ff(md:x8)(ops:List ed):Bool:=aj6 (2^(Y ops)-1) (ops.map (jq md)) (Y ops+1) 0
def Z7{q i j:Nat} :lT (q ||| (1 <<< i)) j=cd↔lT q j=cd\/j=i:=by rw[W9,nv,Nat.one_shiftLeft,Nat.testBit_two_pow,decide_eq_true_eq];exact⟨abL Eq.symm,abL Eq.symm⟩
def Mg{D:Nat->Prop} :∀(y:List (List Nat))(i u:Nat),(∀j e,y[j]?=Z e->(∀k∈e,D k)->D (i+j))->(∀k,lT u k=cd->D k)->∀k,lT (pass y i u) k=cd->D k
 |[],_,_,_,y=>y
 |e::r,i,u,G,y=>by refine Mg r (i+1) _ (λj e' C A=>by have:=G (j+1) e' (ak C) A;rwa [DJ,ik 1 j]) ?_;intro k A;cases C:e.all (lT u)<;>simp only[C,mi,z6] at A;exact y k A;rcases Z7.1 A with h|rfl;exact y k h;exact G 0 e rfl λq I=>y q (lL.1 C q I)
def Mh{D:Nat->Prop}{u:Nat}{a:List (List Nat)}(C:∀j e,a[j]?=Z e->(∀k∈e,D k)->D j):∀(f q:Nat),aj6 u a f q=cd->(∀k,lT q k=cd->D k)->∀k,lT u k=cd->D k
 |0,_,h,_=>by cases h
 |f+1,q,h,y=>by simp only[aj6] at h;cases A:ar q u;rw[A] at h;exact Mh C f _ h (Mg a 0 q (λj e I G=>by rw[Je];exact C j e I G) y);rw[qm A] at y;exact y
def Zz{ops:List ed}(h:Ff md ops=cd)(I:∀(j:Nat)(o:ed),ops[j]?=Z o->(∀k∈jq md o,D k)->D j):∀k,k<Y ops->D k:=by intro k C;refine Mh (D:=D) (λj e u A=>?_) _ _ h (λq G=>by simp at G) k ?_;rw[gu] at u;rcases y:ops[j]? with _|o;rw[y] at u;cases u;rw[y] at u;cases u;exact I j o y A;rw[Nat.testBit_two_pow_sub_one];simpa using C
inductive Ord(ops:Array ed):(Nat->Prop)->List Nat->Prop
 |nil {D:Nat->Prop} (h:∀i,i<ops.size->D i):Ord ops D []
 |cons {D:Nat->Prop} {i:Nat} {L:List Nat} {o:ed} (ho:ops[i]?=Z o) (hn:¬D i) (he:∀k∈jq .any o,D k) (hl:Ord ops (λj=>D j\/j=i) L):Ord ops D (i::L)
def abx(h:k∈jq .any o):k∈jq md o:=by unfold jq at h⊢;simp only[iT,EG] at h⊢;have⟨e,⟨V,q⟩,u⟩:=h;refine⟨e,⟨V,?_⟩,u⟩;unfold r5 at q⊢;split at q<;>simp_all
def amh(a:Ff md ops.toList=cd):∀(u t:Nat)(q:Array Bool)(D:Nat->Prop),q.size=ops.size->(∀i,D i↔q.getD i b9=cd)->q.toList.count b9=u->Ord ops D (x3 md ops u t q []):=by
 intro u;induction u with
 |zero=>
  intro t q D d C U;refine .nil λi O=>(C i).2 ?_;have M:i<q.size:=J
  rw[KY] at U;cases G:q[i];exact absurd (ug.2 (G▸Array.getElem_mem M)) U;simp[qj,M,G]
 |succ f W=>
  intro t q D d C U;simp only[x3];generalize u:((aA ops.size).filter λi=> !q.getD i cd&&((ops[i]?).map (·.after.all λe=> !r5 md e||q.getD e.on b9)).getD b9)=rs;have b:∀i,i∈rs↔i<ops.size/\q.getD i cd=b9/\((ops[i]?).map (·.after.all λe=> !r5 md e||q.getD e.on b9)).getD b9=cd:=by intro i;rw[<-u];simp[and_assoc]
  have c:rs≠[]:=by
   intro y;have g:∀k,k<Y ops.toList->D k:=by
    refine Zz a λj o I u=>?_;have a:ops[j]?=Z o:=ak I
    have M:j<ops.size:=(gj.1 a).1;cases G:q.getD j cd
    .have:j∈rs:=by refine(b j).2 ⟨M,G,?_⟩;rw[a];simp only[zz,da,I0];intro e h;cases a:r5 md e;rfl;refine(C e.on).1 (u e.on ?_);unfold jq;simp only[iT,EG];exact⟨e,⟨ak h,a⟩,Q⟩
     rw[y] at this;cases this
    refine(C j).2 ?_;have a:j<q.size:=J
    simpa [qj,a] using G
   have:q.toList.count b9=0:=by
    rw[KY];intro a;have⟨i,O,G⟩:=List.getElem_of_mem a;have a:i<q.size:=ak O
    have:=(C i).1 (g i (by simp;omega));simp[qj,a] at this;simp at G;rw[this] at G;cases G
   omega
  have a:0<Y rs:=List.length_pos_iff.2 c;have g:rs[t%Y rs]?=Z (rs[t%Y rs]'(TZ _ a)):=iK _;rw[g];dsimp only;generalize O:rs[t%Y rs]'(TZ _ a)=i;have c:i∈rs:=O▸IB _;have⟨V,g,a⟩:=(b i).1 c;rw[linearise_go_acc,List.reverse_singleton,List.singleton_append];have b:ops[i]?=Z ops[i]:=qv V;have y:i<q.size:=J
  have c:q[i]=b9:=by simpa [qj,y] using g
  refine .cons b ?_ ?_ (W _ _ _ (av d) ?_ ?_);intro q;have:=(C i).1 q;simp[qj,y,c] at this
  intro k u;rw[b] at a;simp only[zz,da,I0] at a;have q:=abx (md:=md) u;unfold jq at q;simp only[iT,EG] at q;have⟨e,⟨u,d⟩,b⟩:=q;have:=a e (ak u);rw[d] at this;rw[<-b];exact(C e.on).2 (ak this)
  .intro j;constructor;rintro(I|rfl);have:=(C j).1 I;by_cases A:j=i;subst A;simp[qj,y];simp only[bV] at this⊢;rw[xa (a7 A)];exact this;simp[qj,y]
   intro I;by_cases A:j=i;exact ft A;refine fc ((C j).2 ?_);simp only[bV] at I⊢;rwa [xa (a7 A)] at I
  rw[Array.toList_setIfInBounds,List.count_set (ak y)];simp[c,U]
def R9(m:Ff .any ops.toList=cd)(V:Ff .text ops.toList=cd)(u:Ff .gc ops.toList=cd)(q:Bool)(t:Nat):Ord ops (λ_=>False) (yu q ops t):=by
 have a:∀(md:x8)(t:Nat),Ff md ops.toList=cd->Ord ops (λ_=>False) (Region.linearise md ops t):=by intro md t y;refine amh y _ _ _ _ ag (λi=>?_) ag;simp[bV,Array.getElem?_replicate];split<;>simp
 unfold yu;split;exact a _ _ m;split;exact a _ _ V;exact a _ _ u
def LJ(A:Tr Nat):List Nat->Nat
 |[]=>0
 |j::r=>(LJ A r ||| (1 <<< j)) ||| (Tr.get A j).getD 0
def Dz:List ed->Nat->Tr Nat->Tr Nat
 |[],_,A=>A
 |o::r,i,A=>Dz r (i+1) (A.set i (LJ A (jq .any o)))
def AM(A:Tr Nat)(j i:Nat):Bool:=lT ((Tr.get A j).getD 0) i
inductive I8(ops:Array ed):Nat->Nat->Prop
 |Tw {i k:Nat} {o:ed} (ho:ops[i]?=Z o) (h:k∈jq .any o):I8 ops i k
 |vP {i k j:Nat} {o:ed} (ho:ops[i]?=Z o) (h:k∈jq .any o) (hj:I8 ops k j):I8 ops i j
def IL{A:Tr Nat} :∀ {a:List Nat} {k:Nat},lT (LJ A a) k=cd->∃e∈a,k=e\/AM A e k=cd
 |[],k,h=>by simp[LJ] at h
 |j::r,k,h=>by rw[LJ,W9,nv] at h;rcases h with h|h;rcases Z7.1 h with h|h;have⟨e,q,u⟩:=IL h;exact⟨e,vU _ q,u⟩;exact⟨j,iz ..,fc h⟩;exact⟨j,iz ..,ft h⟩
def J8{ops:Array ed} :∀(l:List ed)(i:Nat)(A:Tr Nat),(∀j o,l[j]?=Z o->ops[i+j]?=Z o)->(∀j k,AM A j k=cd->I8 ops j k)->∀j k,AM (Dz l i A) j k=cd->I8 ops j k
 |[],_,_,_,C=>C
 |o::r,i,A,z,C=>by
  refine J8 r (i+1) _ (λj h y=>by have:=z (j+1) h (ak y);rwa [DJ,ik 1 j]) ?_;intro j k u;unfold AM at u;rw[Tr.bS] at u;by_cases e:j=i
  .subst e;rw[bH rfl] at u;have⟨q,I,G⟩:=IL u;have y:=z 0 o rfl;rcases G with rfl|G
   exact .Tw y I;exact .vP y I (C _ _ G)
  rw[bM e] at u;exact C j k u
def I8.closed(a:∀i o,ops[i]?=Z o->D i->∀k∈jq .any o,D k)(h:I8 ops i j):(∀o,ops[i]?=Z o->∀k∈jq .any o,D k)->D j:=by
 induction h with
 |Tw q h=>intro u;exact u _ q _ h
 |vP q h _ s=>
  intro u;have A:=u _ q _ h;exact s λI C G y=>a _ I C A G y
def OD:List ed->Nat->Tr Nat->Option (Tr Nat)
 |[],_,M=>Z M
 |o::r,i,M=>match o.dst with
  |none=>OD r (i+1) M
  |some d=>match Tr.get M d with
   |none=>OD r (i+1) (M.set d i)
   |some _=>K
def EA:∀(l:List ed)(i:Nat)(M y:Tr Nat),OD l i M=Z y->(∀d k,Tr.get M d=Z k->Tr.get y d=Z k)/\∀j o d,l[j]?=Z o->o.dst=Z d->Tr.get y d=Z (i+j)
 |[],_,M,y,h=>by simp only[OD,oN] at h;subst h;exact⟨λ_ _ h=>h,λj o d h=>by simp at h⟩
 |o::r,i,M,y,h=>by
  simp only[OD] at h;split at h
  .rename_i O;have⟨V,C⟩:=EA r (i+1) M y h;refine⟨V,λj G d u q=>?_⟩;cases j with
   |zero=>simp only[gb,oN] at u;subst u;rw[O] at q;cases q
   |succ j=>rw[C j G d (ak u) q];congr 1;omega
  .rename_i I l;split at h
   .rename_i a;have⟨V,C⟩:=EA r (i+1) _ y h;refine⟨λd k A=>V d k ?_,λj G d u q=>?_⟩;rw[Tr.bS];by_cases e:d=I;subst e;rw[a] at A;cases A;rw[bM e];exact A
    .cases j with
     |zero=>
      simp only[gb,oN] at u;subst u;rw[l] at q;cases q;exact V _ _ (by rw[Tr.bS,bH rfl];rfl)
     |succ j=>rw[C j G d (ak u) q];congr 1;omega
   cases h
def places(p:Nat->Bool):List cn->Nat->List Nat
 |[],_=>[]
 |o::r,i=>bif p o.op.kind then i::places p r (i+1) else places p r (i+1)
def IN{p:Nat->Bool} :∀(l:List cn)(i j:Nat)(o:cn),l[j]?=Z o->p o.op.kind=cd->i+j∈places p l i
 |[],_,j,o,h,_=>by simp at h
 |o::r,i,j,y,q,u=>by
  simp only[places];cases j with
  |zero=>
   simp only[gb,oN] at q;subst q;rw[u];exact iz ..
  |succ j=>
   have:=IN r (i+1) j y (ak q) u;rw[DJ,ik 1 j] at this;cases p o.op.kind;exact this;exact vU _ this
def level(A:Tr Nat)(i:Nat):List Nat->Nat
 |[]=>0
 |u::r=>bif AM A i u then level A i r+1 else level A i r
def aaP(A:Tr Nat)(q a:List Nat):List Nat->Nat->List Nat
 |[],s=>a.filter λi=>ar (level A i q) s
 |u::r,s=>(a.filter λi=>ar (level A i q) s)++u::aaP A q a r (s+1)
def aaQ(A:Tr Nat)(q a:List Nat):List Nat:=aaP A q a q 0
def UY:List Nat->Nat->Tr Nat->Option (Tr Nat)
 |[],_,a=>Z a
 |i::r,p,a=>match Tr.get a i with
  |none=>UY r (p+1) (a.set i p)
  |some _=>K
def Mm:∀(l:List Nat)(p:Nat)(y q:Tr Nat),UY l p y=Z q->(∀i k,Tr.get y i=Z k->Tr.get q i=Z k)/\(∀j i,l[j]?=Z i->Tr.get q i=Z (p+j))/\(∀i k,Tr.get q i=Z k->Tr.get y i=Z k\/∃j,l[j]?=Z i/\k=p+j)
 |[],_,y,q,h=>by simp only[UY,oN] at h;subst h;exact⟨λ_ _ h=>h,λj i h=>by simp at h,λi k h=>fc h⟩
 |A::r,p,y,q,h=>by
  simp only[UY] at h;split at h
  .rename_i l;have⟨V,C,I⟩:=Mm r (p+1) _ q h;refine⟨λi k u=>V i k ?_,λj i y=>?_,λi k u=>?_⟩;rw[Tr.bS];by_cases e:i=A;subst e;rw[l] at u;cases u;rw[bM e];exact u
   .cases j with
    |zero=>
     simp only[gb,oN] at y;subst y;exact V _ _ (by rw[Tr.bS,bH rfl];rfl)
    |succ j=>rw[C j i (ak y)];congr 1;omega
   rcases I i k u with h|⟨j,y,G⟩;rw[Tr.bS] at h;by_cases e:i=A;rw[bH e] at h;cases h;exact ft ⟨0,av e,Q⟩;rw[bM e] at h;exact fc h;exact ft ⟨j+1,ak y,J⟩
  cases h
def MD(ops:List ed):List Nat->Option (List (Nat×ed))
 |[]=>Z []
 |i::r=>match ops[i]?,MD ops r with
  |some o,Z l=>Z ((i,o)::l)
  |_,_=>K
def IU{ops:List ed} :∀(l:List Nat)(q:List (Nat×ed)),MD ops l=Z q->Y q=Y l/\∀(p i:Nat)(o:ed),q[p]?=Z (i,o)->l[p]?=Z i/\ops[i]?=Z o
 |[],q,h=>by simp only[MD,oN] at h;subst h;exact⟨Q,λp i o h=>by simp at h⟩
 |i::r,q,h=>by
  simp only[MD] at h;split at h
  .rename_i o l y A;cases h;have⟨V,C⟩:=IU r l A;refine⟨av V,λp G I u=>?_⟩;cases p with
   |zero=>
    simp only[gb,oN,CB] at u;obtain⟨rfl,rfl⟩:=u;exact⟨Q,y⟩
   |succ p=>simpa using C p G I (ak u)
  cases h
def MA(A M a:Tr Nat)(q:List Nat)(p i:Nat)(o:ed):Bool:=
 (jq .any o).all (λe=>match Tr.get a e with|some y=>eR y p|none=>b9)&&
 (match o.guard with|none=>cd|some (g,_)=>AM A i g)&&
 o.op.operands.toList.all (λx=>match x with
  |.tmp t=>match Tr.get M t with
   |none=>cd
   |some k=>AM A i k||AM A k i
  |_=>cd)&&
 q.all λu=>match Tr.get a u with
  |some C=> !eR C p||AM A i u
  |none=>b9
def ME(A M a:Tr Nat)(q:List Nat):List (Nat×ed)->Nat->Bool
 |[],_=>cd
 |(i,o)::r,p=>MA A M a q p i o&&ME A M a q r (p+1)
def IV{A M q:Tr Nat}{u:List Nat} :∀(l:List (Nat×ed))(p:Nat),ME A M q u l p=cd->∀j i o,l[j]?=Z (i,o)->MA A M q u (p+j) i o=cd
 |[],_,_,j,i,o,h=>by simp at h
 |(i,o)::r,p,h,j,C,y,q=>by
  simp only[ME,pU] at h;cases j with
  |zero=>
   simp only[gb,oN,CB] at q;obtain⟨rfl,rfl⟩:=q;exact h.1
  |succ j=>have:=IV r (p+1) h.2 j C y (ak q);rwa [DJ,ik 1 j] at this
def mQ(A a:Tr Nat)(p i:Nat):List Nat->List Nat
 |[]=>[]
 |u::r=>match Tr.get a u with
  |some q=>bif eR p q&& !AM A u i then q::mQ A a p i r else mQ A a p i r
  |none=>mQ A a p i r
def Iz{A y:Tr Nat}{p i:Nat} :∀ {l:List Nat} {u q:Nat},u∈l->Tr.get y u=Z q->p<q->AM A u i=b9->q∈mQ A y p i l
 |[],u,q,h,_,_,_=>by simp at h
 |v::r,u,q,h,G,C,I=>by
  have l:u∈r->q∈mQ A y p i (v::r):=λy=>by have:=Iz y G C I;simp only[mQ];split;rename_i q _;cases(eR p q&& !AM A v i);exact this;exact vU _ this;exact this
  rcases bd.1 h with rfl|y;simp only[mQ,G];rw[zO.2 C,I];exact iz ..;exact l y
def Sd(A M:Tr Nat)(i:Nat)(o:cn):Option Nat:=
 bif ar o.op.kind 1 then match o.op.through with
  |some (.tmp t)=>match Tr.get M t with
   |none=>Z t
   |some k=>bif AM A i k then Z t else K
  |_=>K
 else o.dst
def JJ(A M a:Tr Nat)(y:List Nat)(f:ed->cn):List (Nat×ed)->Nat->Option (List (Nat×Nat))
 |[],_=>Z []
 |(i,o)::r,p=>match JJ A M a y f r (p+1) with
  |none=>K
  |some q=>bif ar (f o).op.kind 1||ar (f o).op.kind 2 then match mQ A a p i y with
    |[]=>Z q
    |u::C=>match Sd A M i (f o) with
     |some t=>Z (((u::C).foldl xw p,t)::q)
     |none=>K
   else Z q
def foldl_max:∀(l:List Nat)(i:Nat),i<=l.foldl xw i/\(∀u∈l,u<=l.foldl xw i)/\(l.foldl xw i=i\/l.foldl xw i∈l)
 |[],i=>⟨fE _,λ_ h=>by simp at h,fc Q⟩
 |u::l,i=>by have⟨V,A,q⟩:=foldl_max l (xw i u);simp only[sC];refine⟨wV (nY i u) V,?_,?_⟩;intro x y;rcases bd.1 y with rfl|y;exact wV (nE i x) V;exact A x y;rcases q with q|q;rw[q];rcases Nat.le_total i u with h|h;right;rw[show xw i u=u from Nat.max_eq_right h];exact iz ..;left;exact Nat.max_eq_left h;exact ft (vU _ q)
def KJ{A a:Tr Nat}{p i:Nat} :∀ {l:List Nat} {x:Nat},x∈mQ A a p i l->∃u∈l,Tr.get a u=Z x
 |[],x,h=>by simp[mQ] at h
 |v::r,x,h=>by
  simp only[mQ] at h;have q:x∈mQ A a p i r->∃u∈v::r,Tr.get a u=Z x:=λh=>by have⟨u,G,C⟩:=KJ h;exact⟨u,vU _ G,C⟩
  split at h;rename_i u y;cases I:(eR p u&& !AM A v i)<;>rw[I] at h;exact q h;rcases bd.1 h with rfl|h;exact⟨v,iz ..,y⟩;exact q h;exact q h
def Gr{A M b:Tr Nat}{y:List Nat}{f:ed->cn} :∀(l:List (Nat×ed))(p:Nat)(a:List (Nat×Nat)),JJ A M b y f l p=Z a->∀j i o,l[j]?=Z (i,o)->((f o).op.kind=1\/(f o).op.kind=2)->mQ A b (p+j) i y=[]\/∃c t,Sd A M i (f o)=Z t/\p+j<=c/\(∀u∈mQ A b (p+j) i y,u<=c)/\(c=p+j\/∃u∈y,Tr.get b u=Z c)/\(c,t)∈a
 |[],_,_,_,j,i,o,h,_=>by simp at h
 |(i,o)::r,p,a,h,j,P,T,I,C=>by
  simp only[JJ] at h;split at h;cases h
  .rename_i O L;cases j with
   |succ j=>
    have:=Gr r (p+1) O L j P T (ak I) C;rw[DJ,ik 1 j] at this;refine this.imp_right λ⟨c,t,V,z,U,H,m⟩=>⟨c,t,V,z,U,H,?_⟩;cases W:(ar (f o).op.kind 1||ar (f o).op.kind 2)<;>rw[W] at h;cases h;exact m;simp only[mi] at h;split at h;cases h;exact m;split at h;cases h;exact vU _ m;cases h
   |zero=>
    simp only[gb,oN,CB] at I;obtain⟨rfl,rfl⟩:=I;have W:(ar (f o).op.kind 1||ar (f o).op.kind 2)=cd:=by rcases C with C|C<;>rw[C]<;>rfl
    rw[W] at h;simp only[mi] at h;split at h;rename_i G;exact fc G
    .rename_i u F G;split at h;rename_i t c;cases h;have⟨V,z,U⟩:=foldl_max (u::F) p;refine ft ⟨_,t,c,V,by rw[Jk,G];exact z,U.imp_right λq=>?_,iz ..⟩;have C:∀x,x∈u::F->∃v∈y,Tr.get b v=Z x:=λx l=>KJ (G▸l:x∈mQ A b p i y);exact C _ q
     cases h
def attach(a:List (Nat×Nat))(f:ed->cn):List (Nat×ed)->Nat->List (cn×List Nat)
 |[],_=>[]
 |(_,o)::r,p=>(f o,(a.filter λx=>ar x.1 p).map (·.2))::attach a f r (p+1)
def Bp{a:List (Nat×Nat)}{f:ed->cn} :∀(l:List (Nat×ed))(p j:Nat),(attach a f l p)[j]?=(l[j]?).map λx=>(f x.2,(a.filter λx=>ar x.1 (p+j)).map (·.2))
 |[],_,j=>by simp[attach]
 |(_,o)::r,p,j=>by
  cases j with
  |zero=>simp[attach]
  |succ j=>
   simp only[attach,List.getElem?_cons_succ];rw[Bp r (p+1) j,DJ,ik 1 j]
def J9{a:List (Nat×Nat)}{f:ed->cn} :∀(l:List (Nat×ed))(p:Nat),Y (attach a f l p)=Y l
 |[],_=>rfl
 |(_,_)::r,p=>by simp[attach,J9 r]
def zM:List (cn×List Nat):=[({ dst:=K,guard:=K,op:=.bad },[])]
def Tu(T:tU)(ng n:Nat)(ops:List ed)(M A:Tr Nat)(u b:List Nat):List (cn×List Nat):=
 match UY b 0 .nil,MD ops b with
 |some a,Z q=>match JJ A M a u (cq T ng n ops) q 0 with
  |some y=>bif ar (Y b) (Y ops)&&(aA (Y ops)).all (λi=>(Tr.get a i).isSome)&&Ff .any ops&&Ff .text ops&&Ff .gc ops&&ME A M a u q 0 then attach y (cq T ng n ops) q 0 else zM
  |none=>zM
 |_,_=>zM
def eZ(T:tU)(ng n:Nat)(ops:List ed):List (cn×List Nat):=
 match OD ops 0 .nil with
 |none=>zM
 |some M=>match Dz ops 0 .nil,ops.map (cq T ng n ops) with
  |A,q=>match places (ar 3) q 0,places (λk=>eR k 3) q 0 with
   |u,q=>Tu T ng n ops M A u (aaQ A u q)
structure kH(T:tU)(ng n:Nat)(ops:Array ed)(σ:Nat->Nat)(l:List (cn×List Nat)):Prop where
 any:Ff .any ops.toList=cd
 text:Ff .text ops.toList=cd
 gc:Ff .gc ops.toList=cd
 bound:∀p,p<ops.size->σ p<ops.size
 agQ:∀i,i<ops.size->∃p,p<ops.size/\σ p=i
 inj:∀p q,p<ops.size->q<ops.size->σ p=σ q->p=q
 get:∀(p:Nat)(o:ed),p<ops.size->ops[σ p]?=Z o->∃pz,l[p]?=Z (cq T ng n ops.toList o,pz)
 len:Y l=ops.size
 lower:∀(p:Nat)(o:ed),p<ops.size->ops[σ p]?=Z o->∀k∈jq .any o,∃pk,pk<p/\σ pk=k
 guard:∀(j:Nat)(o:ed)(g:Nat)(b:Bool),ops[j]?=Z o->o.guard=Z (g,b)->I8 ops j g
 reads:∀(j:Nat)(o:ed)(t:Nat),ops[j]?=Z o->Operand.tmp t∈o.op.operands.toList->∀(i:Nat)(o':ed),ops[i]?=Z o'->o'.dst=Z t->I8 ops j i\/I8 ops i j
 once:∀(i j:Nat)(o o':ed)(d:Nat),ops[i]?=Z o->ops[j]?=Z o'->o.dst=Z d->o'.dst=Z d->i=j
 eager:∀(p u:Nat)(o':ed),u<p->p<ops.size->ops[σ u]?=Z o'->(cq T ng n ops.toList o').op.kind=3->I8 ops (σ p) (σ u)
 still:∀(p:Nat)(o:ed),p<ops.size->ops[σ p]?=Z o->((cq T ng n ops.toList o).op.kind=1\/(cq T ng n ops.toList o).op.kind=2)->(∀(u:Nat)(o':ed),p<u->u<ops.size->ops[σ u]?=Z o'->(cq T ng n ops.toList o').op.kind=3->I8 ops (σ u) (σ p))\/∃(c t:Nat) (ao:cn) (pz:List Nat),p<=c/\c<ops.size/\l[c]?=Z (ao,pz)/\t∈pz/\(((cq T ng n ops.toList o).op.kind=1/\(cq T ng n ops.toList o).op.through=Z (.tmp t)/\∀(i:Nat)(o':ed),ops[i]?=Z o'->o'.dst=Z t->I8 ops (σ p) i)\/((cq T ng n ops.toList o).op.kind=2/\(cq T ng n ops.toList o).dst=Z t))/\∀(u:Nat)(o':ed),p<u->u<ops.size->ops[σ u]?=Z o'->(cq T ng n ops.toList o').op.kind=3->¬I8 ops (σ u) (σ p)->u<=c
def Ts(E:eZ T ng n ops.toList≠zM):∃a,kH T ng n ops a (eZ T ng n ops.toList):=by
 revert E;unfold eZ;split;intro h;exact absurd rfl h
 .rename_i M v;dsimp only;unfold Tu;generalize u:aaQ (Dz ops.toList 0 .nil) (places (ar 3) (ops.toList.map (cq T ng n ops.toList)) 0) (places (λk=>eR k 3) (ops.toList.map (cq T ng n ops.toList)) 0)=bw;generalize u:places (ar 3) (ops.toList.map (cq T ng n ops.toList)) 0=kK;split
  .rename_i r y w l;split
   .rename_i N jH;cases F:(ar (Y bw) (Y ops.toList)&&(aA (Y ops.toList)).all (λi=>(Tr.get r i).isSome)&&Ff .any ops.toList&&Ff .text ops.toList&&Ff .gc ops.toList&&ME (Dz ops.toList 0 .nil) M r kK y 0) with
    |false=>intro h;exact absurd rfl h
    |true=>
     intro _;simp only[mi];simp only[pU] at F;have⟨⟨⟨⟨⟨c,P⟩,c1⟩,c2⟩,c3⟩,c4⟩:=F;have F:Y bw=ops.size:=ak (qm c)
     obtain⟨c,c⟩:=IU bw y l;have⟨_,l,F⟩:=Mm bw 0 .nil r w;have w:∀j k,AM (Dz ops.toList 0 .nil) j k=cd->I8 ops j k:=
      J8 ops.toList 0 .nil (λj o h=>ak h) (λj k h=>by simp[AM,Tr.get] at h)
     have B:=(EA ops.toList 0 .nil M v).2;have v:∀p,p<ops.size->∃i o,y[p]?=Z (i,o)/\bw[p]?=Z i/\ops[i]?=Z o/\Tr.get r i=Z p:=by
      intro p C;have z:p<Y y:=J
      have D:y[p]?=Z (y[p].1,y[p].2):=iK z;have⟨V,A⟩:=c p _ _ D;have c:=l p _ V;rw[Je] at c;exact⟨_,_,D,V,ak A,c⟩
     let a:Nat->Nat:=λp=>bw.getD p 0
     have l:∀p i,bw[p]?=Z i->a p=i:=λp i h=>by simp[a,List.getD,h]
     have e:∀i o,ops[i]?=Z o->i<ops.size:=λi o h=>(gj.1 h).1;have H:∀p,p<ops.size->a p<ops.size:=λp C=>by have⟨i,o,_,A,c,_⟩:=v p C;rw[l p i A];exact e i o c
     have az2:∀p q,p<ops.size->q<ops.size->a p=a q->p=q:=by intro p q C X L;have⟨i,o,_,A,_,m⟩:=v p C;have⟨j,G,_,S,_,f⟩:=v q X;rw[l p i A,l q j S] at L;subst L;rw[m] at f;exact bI f
     have S:∀i,i<ops.size->∃p,p<ops.size/\a p=i:=by
      intro i O;have V:=lL.1 P i (QM.2 (ak O));have⟨p,C⟩:=nG.1 V;rcases F i p C with h|⟨j,f,q⟩
      simp[Tr.get] at h;have z:=(cR.1 f).1;exact⟨p,J,l p i (by rw[q,Je];exact f)⟩
     have z:∀p i o,p<ops.size->ops[a p]?=Z o->a p=i->MA (Dz ops.toList 0 .nil) M r kK p i o=cd/\y[p]?=Z (i,o):=by intro p i o C U O;have⟨P,G,V,A,c,m⟩:=v p C;have:=l p P A;rw[this] at U O;subst O;rw[c] at U;cases U;have:=IV y 0 c4 p _ _ V;rw[Je] at this;exact⟨this,V⟩
     have L:∀p,p<ops.size->Tr.get r (a p)=Z p:=by intro p C;have⟨i,o,_,A,_,m⟩:=v p C;rw[l p i A];exact m
     have P:∀i o,ops[i]?=Z o->(cq T ng n ops.toList o).op.kind=3->i∈kK:=by
      intro i o h I;have X:(ops.toList.map (cq T ng n ops.toList))[i]?=Z (cq T ng n ops.toList o):=by
       have h':ops.toList[i]?=Z o:=ak h
       rw[gu,h'];rfl
      have:=IN (p:=ar 3) _ 0 i _ X (by rw[I];rfl);rw[Je,u] at this;exact this
     have u:∀j o,ops[j]?=Z o->∃p,p<ops.size/\a p=j:=λj o h=>S j (e j o h);refine⟨a,c1,c2,c3,H,S,az2,?_,?_,?_,?_,?_,?_,?_,?_⟩;intro p o C U;have⟨_,V⟩:=z p (a p) o C U rfl;rw[Bp,V];exact⟨_,Q⟩;rw[J9];omega
     .intro p o C U k I;have V:=(z p (a p) o C U Q).1;simp only[MA,pU] at V;have A:=lL.1 V.1.1.1 k I;split at A
      rename_i e S;rcases F k e S with h|⟨j,f,q⟩;simp[Tr.get] at h;refine⟨e,zO.1 A,?_⟩;rw[q,Je];exact l j k f;cases A
     intro j o g b h l;have⟨p,C,q⟩:=u j o h;have V:=(z p j o C (by rw[q];exact h) q).1;simp only[MA,pU,l] at V;exact w _ _ V.1.1.2
     intro j o t h e i G O l;have⟨p,C,q⟩:=u j o h;have V:=(z p j o C (by rw[q];exact h) q).1;simp only[MA,pU] at V;have A:=lL.1 V.1.2 _ e;have c:=B i G t (ak O) l;rw[Je] at c;simp only[c,nv] at A;exact A.imp (w _ _) (w _ _)
     intro i j o G d O f l e;have V:=B i o d (ak O) l;have A:=B j G d (ak f) e;rw[V] at A;simpa using A
     .intro p u G S C q I;have e:u<ops.size:=J
      have⟨o,U⟩:∃o,ops[a p]?=Z o:=⟨_,qv (H p C)⟩;have V:=(z p (a p) o C U Q).1;simp only[MA,pU] at V;have A:=lL.1 V.2 _ (P _ _ q I);rw[L u e] at A;simp only[nv,zO.2 S,Bool.not_true,Jl,false_or] at A;exact w _ _ A
     .intro p o C U I;have⟨_,D⟩:=z p (a p) o C U rfl;have H:∀(u:Nat)(G:ed),p<u->u<ops.size->ops[a u]?=Z G->(cq T ng n ops.toList G).op.kind=3->¬I8 ops (a u) (a p)->u∈mQ (Dz ops.toList 0 .nil) r p (a p) kK:=by intro u G W e q r z;refine Iz (P _ _ q r) (L u e) W ?_;cases E:AM (Dz ops.toList 0 .nil) (a u) (a p);rfl;exact absurd (w _ _ E) z
      rcases Gr y 0 N jH p _ _ D I with h|⟨y,t,V,A,c,m,E⟩;left;rw[Je] at h;intro u G W e q r;apply ix;intro D;have:=H u G W e q r D;rw[h] at this;cases this
      .right;rw[Je] at A c m;have D:y<ops.size:=by rcases m with rfl|⟨u,_,e⟩;exact C;rcases F u y e with h|⟨j,f,F⟩;simp[Tr.get] at h;have:=(cR.1 f).1;omega
       obtain⟨f,f,F,_,_,_⟩:=v y D;refine⟨y,t,cq T ng n ops.toList f,(N.filter λx=>ar x.1 (0+y)).map (·.2),A,D,by rw[Bp,F];rfl,?_,?_,λu G W e q r z=>c u (H u G W e q r z)⟩;rw[iT];exact⟨(y,t),EG.2 ⟨E,ag⟩,Q⟩
       .unfold Sd at V;rcases I with I|I
        .left;rw[I] at V;simp only[lW,mi] at V;split at V
         .rename_i z z;split at V;rename_i y;cases V;refine⟨I,z,λi G O l=>?_⟩;have:=B i G t (ak O) l;rw[y] at this;cases this
          rename_i k y;cases r:AM (Dz ops.toList 0 .nil) (a p) k<;>rw[r] at V<;>cases V;refine⟨I,z,λi G O l=>?_⟩;have:=B i G t (ak O) l;rw[y,Je] at this;cases this;exact w _ _ r
         cases V
        right;rw[I] at V;exact⟨I,V⟩
   intro h;exact absurd rfl h
  intro h;exact absurd rfl h
def IM{T:tU} :∀(a:List Field)(b:List (Nat×aU))(l:List (Nat×Nat×aU)),Am T a b=Z l->l.map (·.2.2)=b.map (·.2)
 |a,[],l,h=>by simp only[Am,oN] at h;subst h;rfl
 |a,(i,x)::r,l,h=>by simp only[Am] at h;split at h;cases h;split at h;rename_i q;cases h;simp[IM a r _ q];cases h
def Qt{c:Call}(h:x∈(Ct T c).mA):x∈c.operands.toList:=by
 have⟨q,args,u⟩:=c;unfold Ct at h;dsimp only at h;have A:∀y,y∈args.toList->y∈(o7 ⟨q,args,u⟩).toList:=by intro y C;have:=ug.1 C;cases q<;>simp[o7,this]
 split at h;rename_i f;simp only[kD.mA,bd] at h;rcases h with rfl|h;simp[o7];exact A x h
 all_goals
  repeat' split at h
  all_goals first
   |(simp only[kD.mA,rv] at h;done)
   |(refine A x ?_;simp only[kD.mA] at h;simp_all;done)
def WT{a:Op}(h:x∈(dT T a).mA):x∈a.operands.toList:=by
 cases a with
 |call c=>exact Qt h
 |build t u=>
  simp only[dT] at h;split at h;split at h;rename_i C _;generalize (C.toList.all λf=>(T f.type).isSome)=bb at h;cases bb<;>simp only[mi,z6] at h;simp[kD.mA] at h;split at h;rename_i l A;simp only[kD.mA] at h;rw[IM _ _ _ A] at h;simpa [Op.operands] using h;simp[kD.mA] at h;split at h;simp only[kD.mA,gN] at h;simpa [Op.operands,p8] using h;simp[kD.mA] at h;simp[kD.mA] at h;simp[kD.mA] at h
 |buildSlice t n u=>
  simp only[dT] at h
  repeat' split at h
  rename_i e _;generalize (Nat.ble (n*e.size) 1000000&&ar e.zero.length e.size)=bb at h;cases bb<;>simp only[mi,z6] at h;simp[kD.mA] at h;simp only[kD.mA,gN] at h;simpa [Op.operands,p8] using h
  all_goals simp[kD.mA] at h
 |slice t y O b I=>
  simp only[dT] at h
  repeat' split at h
  generalize (I.isSome&&b.isNone)=bb at h;cases bb<;>simp only[mi,z6] at h;simp only[kD.mA,bd,jL] at h;simp[Op.operands];simpa [or_assoc] using h;simp[kD.mA] at h
  all_goals simp[kD.mA] at h
 |makeFunc f first q=>
  cases f with
  |func g=>
   simp only[dT] at h;cases G:first.isEmpty<;>rw[G] at h<;>simp only[mi,z6,kD.mA] at h;simp at h;simp[Op.operands];exact .inr (ak h)
  |_=>simp[dT,kD.mA] at h
 |makeMap t r=>cases r<;>simp[dT,kD.mA] at h
 |next M st=>cases st<;>simp[dT,kD.mA] at h<;>simpa [Op.operands] using h
 |fieldAddr t y k=>
  simp only[dT] at h
  repeat' split at h
  rename_i b _;generalize ar b.size 0=bb at h;cases bb<;>simp only[mi,z6] at h<;>simp[kD.mA] at h<;>simpa [Op.operands] using h
  all_goals simp[kD.mA] at h
 |binOp a t y z _=>
  simp only[dT] at h
  repeat' split at h
  all_goals first
   |(simp[kD.mA] at h;done)
   |(simp only[kD.mA] at h;simpa [Op.operands] using h)
 |_=>
  simp only[dT] at h
  repeat' split at h
  all_goals first
   |(simp[kD.mA] at h;done)
   |(simp only[kD.mA] at h;simpa [Op.operands] using h)
def Qv{a:Op}{y:aa×aB}(q:dh e h (dT T a)=Z y):∀cs b,a≠ .select cs b:=by intro cs b u;subst u;simp[dT,dh] at q
section
variable{P:b7}{T:tU}{ng:Nat}{l:vd}{F:Nat->Option cY}{s:aG->Env->aB->R}
def CL(p:Ha P T ng l F)(B:eG P T)(hI:yI P T ng l s)(I:ops[i]?=Z o)(q:dL F s (cq T ng n ops.toList o) e h=Z (e',h'))(S:eQ (iD T ng l) ρ h w)(O:d_ ng ρ)(H:ER ρ W a2.tmps)(j:n<=a.tmps.size)(C:∀x∈o.op.operands.toList,ev e x=ev W x/\a.eval x=a2.eval x)(r:cI o (yielded ops a.tmps)=wanted e (guardOf ops.toList o))(b:gr)(k:List B1)(cs:List gr)(D:List Nat):∃g w' c v,Steps P (lone (on b a (.inRegion ops (i::D)::k)) cs w) (lone (on b (a.put o.dst c) (.inRegion ops D::k)) cs w')/\e'=gG e o.dst v/\VR g v c/\(∀d,o.dst=Z d->d<a.tmps.size)/\eQ (iD T ng l) g h' w'/\Ext ρ h w g h' w':=by
 unfold cq at q;cases M:yq ng n ops.toList o;simp only[M,z6] at q;simp[dL,wanted,dh] at q
 .simp only[M,mi] at q;simp only[yq,pU] at M;have⟨⟨y,t⟩,z⟩:=M;have X:∀d,o.dst=Z d->d<a.tmps.size:=by intro d L;rw[L] at y;exact Jy (zO.1 y) j
  unfold dL at q;dsimp only at q;rw[<-r] at q;cases y:cI o (yielded ops a.tmps);simp only[y,z6,oN,CB] at q;obtain⟨rfl,rfl⟩:=q;refine⟨ρ,w,undef,_,.one ?_,Q,VR.undef,X,S,.refl ρ h w⟩;have:=PG (P:=P) (b:=b) (a:=a) (k:=k) (cs:=cs) (w:=w) (ops:=ops) (i:=i) (cz:=D) (by simp[I,y]);rw[I] at this;exact this
  .simp only[y,mi] at q;split at q
   .rename_i f args L;have⟨m,V,E,j⟩:=Ku L;split at q
    .rename_i v r hcv;cases q;have L:cZ ng f=cd/\args.all (cZ ng)=cd:=by rw[V] at z;simp only[Op.operands,o7,E] at z;rw[<-j];simpa using z
     have U:∀x,x∈f::args->x∈o.op.operands.toList:=by intro x u;rw[V];simp only[Op.operands,o7,E];rw[<-j] at u;simpa using u
     have t:=GR H O args L.2;rw[<-MW (e:=e) (e':=W) (λx u=>(C x (U x (vU _ u))).1)] at t;have G:=H.eval O L.1;rw[<-(C f (U f (iz ..))).1] at G;have N:m.args.toList.map a.eval=args.map a2.eval:=by rw[j];exact bf λx u=>(C x (U x (vU _ u))).2
     have⟨g,w',c,j,q2,m,L⟩:=It (P:=P) p B hI hcv S O G t I y V E (C f (U f (iz ..))).2 N b k cs (cz:=D);exact⟨g,w',c,v,j,Q,q2,X,m,L⟩
    cases q
   .split at q
    .rename_i v r m;cases q;have E:dh W h (dT T o.op)=Z (v,h'):=by rw[<-acR (e:=e) (e':=W) (dT T o.op) (λx u=>(C x (WT u)).1)];exact m
     have⟨g,w',c,A,p,t,j⟩:=UQ (P:=P) (a:=a2) B S H O o z E;have z:execOp a.eval o=execOp a2.eval o:=execOp_congr o (Qv m) λx u=>(C x (ug.2 u)).2;rw[<-z] at A;have N:=OB m;rcases A with A|⟨rfl,A⟩
     exact⟨g,w',c,v,.one (R3 I y N A),Q,p,X,t,j⟩;exact⟨g,w',undef,v,.one (aa0 I y N A),Q,p,X,t,j⟩
    cases q
end
def OC{F:Nat->Option cY}{s:aG->Env->aB->R}(c:Nat):∀(l:List (cn×List Nat))(e:Env)(h:aB)(e':Env)(h':aB),mF F s c l e h=Z (e',h')->∃(E:Nat->Env) (H:Nat->aB),E 0=e/\H 0=h/\E (Y l)=e'/\H (Y l)=h'/\∀(k:Nat)(o:cn)(a:List Nat),l[k]?=Z (o,a)->dL F s o (E k) (H k)=Z (E (k+1),H (k+1))/\still (E (k+1)) (H (k+1)) c a=cd
 |[],e,h,e',h',q=>by simp only[mF,oN,CB] at q;obtain⟨rfl,rfl⟩:=q;exact⟨λ_=>e,λ_=>h,Q,Q,Q,Q,λk o a u=>by simp at u⟩
 |(o,a)::r,e,h,e',h',q=>by
  simp only[mF] at q;split at q
  .rename_i C V G;cases y:still C V c a;simp[y] at q
   .simp only[y,mi] at q;have⟨E,H,a,U,l,I,O⟩:=OC c r C V e' h' q;refine⟨λk=>match k with|0=>e|k+1=>E k,λk=>match k with|0=>h|k+1=>H k,Q,Q,l,I,?_⟩;intro k M A u;cases k with
    |zero=>
     simp only[gb,oN,CB] at u;obtain⟨rfl,rfl⟩:=u;dsimp only;rw[a,U];exact⟨G,y⟩
    |succ k=>exact O k M A (ak u)
  cases q
def acX{o:cn}(q:dL F s o e h=Z (e',h')):∃v,e'=gG e o.dst v:=by unfold dL at q;cases u:wanted e o.guard<;>simp only[u,mi,z6] at q;cases q;exact⟨_,Q⟩;split at q;split at q;cases q;exact⟨_,Q⟩;cases q;split at q;cases q;exact⟨_,Q⟩;cases q
def nO{o:kD}(q:o.kind<=2):∀f args,o≠ .call f args:=by intro f args e;subst e;simp[kD.kind] at q
def Pq{o:cn}(A:o.op.kind<=1)(q:dL F s o e h=Z (e',h')):h'=h:=by unfold dL at q;cases y:wanted e o.guard<;>simp only[y,mi,z6] at q;cases q;rfl;split at q;rename_i f args C;exact absurd C (nO J f args);split at q;rename_i u;cases q;rcases Nat.le_one_iff_eq_zero_or_eq_one.1 A with m|V;exact(LV m u).1;exact(EW V u).1;cases q
def LZ{o:cn}(G:o.op.kind<=2)(q:dL F s o e h=Z (e',h')):h'=h\/∃x,h'=h.new x:=by
 by_cases V:o.op.kind<=1;exact fc (Pq V q)
 .have A:o.op.kind=2:=J
  unfold dL at q;cases u:wanted e o.guard<;>simp only[u,mi,z6] at q;cases q;exact fc rfl;split at q;rename_i f args C;exact absurd C (nO J f args);split at q;rename_i y;cases q;have⟨_,cs,_,h,_⟩:=CK A y;exact ft ⟨_,h⟩;cases q
def ajN(o:kD):o.kind<=3:=by cases o<;>simp[kD.kind]
def Rest(c:Nat)(o:qo):Prop:=(∃cs q a s,o=.ch cs q a s/\s<=c)\/o=.map []
def mg{e:Env}{h:aB}{c:Nat} :∀ {l:List Nat},still e h c l=cd->∀t∈l,∀b,leads (bX e t)=Z b->∃o,h.tr.get b=Z o/\Rest c o
 |[],_,t,C,_,_=>by simp at C
 |u::r,q,t,C,b,A=>by unfold still at q;rcases bd.1 C with rfl|C;split at q;rename_i y;rw[y] at A;cases A;split at q;rename_i cs I o s G;rw[pU] at q;exact⟨_,G,fc ⟨cs,I,o,s,Q,ON q.1⟩⟩;cases q;rename_i y;rw[y] at A;cases A;split at q;rename_i cs I o s G;rw[pU] at q;exact⟨_,G,fc ⟨cs,I,o,s,Q,ON q.1⟩⟩;cases q;rename_i y;rw[y] at A;cases A;split at q;rename_i G;exact⟨_,G,ft Q⟩;cases q;rename_i y;rw[y] at A;cases A;rename_i y;rw[y] at A;cases A;rename_i y;rw[y] at A;cases A;rename_i y;rw[y] at A;cases A;cases q;split at q;split at q;rw[pU] at q;exact mg q.2 t C b A;cases q;split at q;rw[pU] at q;exact mg q.2 t C b A;cases q;split at q;exact mg q t C b A;cases q;exact mg q t C b A;exact mg q t C b A;exact mg q t C b A;exact mg q t C b A;cases q
def Ph(l:List Nat)(e:Env):Env:=l.foldl Tr.del e
def LI(l:List Nat)(q:Array aa):Array aa:=l.foldl (λx t=>x.setIfInBounds t undef) q
def CI:∀(l:List Nat)(e:Env)(t:Nat),bX (Ph l e) t=if t∈l then .tuple #[] else bX e t
 |[],e,t=>by simp[Ph]
 |u::l,e,t=>by rw[Ph,sC,<-Ph,CI l];by_cases V:t∈l;simp[V];rw[bM V];unfold bX;rw[Tr.iw];by_cases q:t=u;subst q;simp;simp[V,q]
def CH:∀(l:List Nat)(a:Array aa)(t:Nat),(LI l a).getD t undef=if t∈l then undef else a.getD t undef
 |[],a,t=>by simp[LI]
 |u::l,a,t=>by rw[LI,sC,<-LI,CH l];by_cases V:t∈l;simp[V];rw[bM V];by_cases q:t=u;subst q;simp only[bd,true_or,if_true];rw[bV,pn];simp only[if_true];split<;>rfl;simp[V,q,bV,pn,a7 q]
def eQ.grow(S:eQ M ρ h w)(o:qo):eQ M ρ (h.new o) w/\Ext ρ h w ρ (h.new o) w:=by
 have y:∀b r,ρ b=Z r->(h.new o).tr.get b=h.tr.get b:=by intro b r q;have:=(S.low b r q).1;simp only[aB.new,Tr.bS];rw[bM J]
 have c:∀b r,ρ b=Z r->fU (h.new o) b->fU h b:=λb r q ⟨x,u,O⟩=>⟨x,by rwa [y b r q] at u,O⟩;refine⟨⟨λb r q=>⟨?_,(S.low b r q).2⟩,λb r x q u=>S.obj b r x q (by rwa [y b r q] at u),λb a r C x q I A u d=>S.inj b a r C x q I (c b r q A) (by rwa [y a C I] at u) d,?_⟩,⟨ρ.le_refl,by simp[aB.new],fE _,Q,Q,Q,λ_ _ _=>rfl,λb r q A=>ft ⟨b,r,q,c b r q A,Q⟩,λb r V G=>(by rw[V] at G;cases G),λb r x q u=>ft ⟨b,r,x,q,by rwa [y b r q] at u,Q⟩⟩⟩
 have:=(S.low b r q).1;simp only[aB.new];omega;intro b x u;simp only[aB.new,Tr.bS] at u⊢;by_cases e:b=h.ax;omega;rw[bM e] at u;have:=S.wf b x u;omega
section
variable{P:b7}{T:tU}{ng:Nat}{q:vd}{F:Nat->Option cY}{s:aG->Env->aB->R}{n c:Nat}{ops:Array ed}{L:Nat->Nat}{l:List (cn×List Nat)}{E:Nat->Env}{H:Nat->aB}
def JY(F:Nat->Option cY)(s:aG->Env->aB->R)(T:tU)(ng n:Nat)(ops:Array ed)(L:Nat->Nat)(E:Nat->Env)(H:Nat->aB):Prop:=
 ∀(p:Nat)(o:ed),p<ops.size->ops[L p]?=Z o->dL F s (cq T ng n ops.toList o) (E p) (H p)=Z (E (p+1),H (p+1))
def Iu{d:Nat}(h:(cq T ng n ops.toList o).dst=Z d):o.dst=Z d:=by unfold cq at h;cases q:yq ng n ops.toList o<;>rw[q] at h;cases h;exact h
def kH.op(q:kH T ng n ops L l)(u:p<ops.size):∃o,ops[L p]?=Z o:=⟨_,qv (q.bound p u)⟩
def kH.WI(C:kH T ng n ops L l)(h:I8 ops i j):∀p,p<ops.size->L p=i->∃q,q<p/\L q=j:=by
 induction h with
 |Tw y h=>intro p u A;subst A;exact C.lower p _ u y _ h
 |vP y h _ s=>
  intro p u A;subst A;have⟨a,M,G⟩:=C.lower p _ u y _ h;have⟨q,y,I⟩:=s a J G;exact⟨q,J,I⟩
def Ar(C:JY F s T ng n ops L E H)(c:kH T ng n ops L l){a t:Nat} :∀(b:Nat),a<=b->b<=ops.size->(∀(k:Nat)(o:ed),a<=k->k<b->ops[L k]?=Z o->o.dst≠Z t)->bX (E b) t=bX (E a) t:=by
 intro b;induction b with
 |zero=>intro h _ _;rw[y8.1 h]
 |succ b q=>
  intro U O y;by_cases G:a=b+1;rw[G];have⟨o,u⟩:=c.op (p:=b) J;have⟨v,I⟩:=acX (C b _ J u);rw[I,<-q J J (λk o V M c=>y k o V J c)];rcases A:(cq T ng n ops.toList o).dst with _|d;rfl;simp only[gG,Env.bS];have:=y b _ J J u;rw[Iu A] at this;rw[bM (λ(e:t=d)=>this (by rw[e]))]
def SL(T:tU)(ng n:Nat)(ops:Array ed)(L:Nat->Nat)(a b:Nat):Prop:=
 ∀(k:Nat)(o:ed),a<=k->k<b->ops[L k]?=Z o->(cq T ng n ops.toList o).op.kind≠3
def Re{o:kD}(h:o.kind≠3):o.kind<=2:=aw (ajN o)
def Vs(I:JY F s T ng n ops L E H)(M:kH T ng n ops L l){a x:Nat}(U:x<(H a).ax):∀(b:Nat),a<=b->b<=ops.size->SL T ng n ops L a b->(H b).tr.get x=(H a).tr.get x/\(H a).ax<=(H b).ax:=by
 intro b;induction b with
 |zero=>intro h _ _;rw[y8.1 h];exact⟨Q,fE _⟩
 |succ b u=>
  intro W O G;by_cases C:a=b+1;rw[C];exact⟨Q,fE _⟩;have⟨o,A⟩:=M.op (p:=b) J;have⟨V,C⟩:=u J J (λk o V C u=>G k o V J u);rcases LZ (Re (G b _ J J A)) (I b _ J A) with q|⟨y,q⟩;rw[q];exact⟨V,C⟩;rw[q,<-V];simp only[aB.new,Tr.bS];rw[bM J];exact⟨Q,J⟩
def Sa(y:JY F s T ng n ops L E H)(U:kH T ng n ops L l){a:Nat}(S:eQ M ρ (H a) w):∀(b:Nat),a<=b->b<=ops.size->SL T ng n ops L a b->eQ M ρ (H b) w/\Ext ρ (H a) w ρ (H b) w:=by
 intro b;induction b with
 |zero=>intro h _ _;rw[<-y8.1 h];exact⟨S,.refl _ _ _⟩
 |succ b u=>
  intro C C I;by_cases C:a=b+1;rw[<-C];exact⟨S,.refl _ _ _⟩;have⟨o,A⟩:=U.op (p:=b) J;have⟨C,G⟩:=u J J (λk o V u O=>I k o V J O);rcases LZ (Re (I b _ J J A)) (y b _ J A) with q|⟨y,q⟩;rw[q];exact⟨C,G⟩;rw[q];have⟨c,W⟩:=C.grow y;exact⟨c,G.trans W⟩
def u7(C:iM s)(y:JY F s T ng n ops L E H)(G:kH T ng n ops L l){a:Nat} :∀(b:Nat),a<=b->b<=ops.size->eV (H a) (H b):=by
 intro b;induction b with
 |zero=>intro h _;rw[y8.1 h];exact .refl _
 |succ b q=>
  intro u I;by_cases A:a=b+1;rw[A];exact .refl _;have⟨o,u⟩:=G.op (p:=b) J;exact(q J J).trans (Cd C (y b _ J u))
def Kf(v:iM s)(C:JY F s T ng n ops L E H)(y:kH T ng n ops L l)(B:∀(k:Nat)(r:cn)(g:List Nat),l[k]?=Z (r,g)->still (E (k+1)) (H (k+1)) c g=cd)(j:c<(H 0).clock){p q:Nat}(j:p<q)(j:q<=ops.size)(z:ops[L p]?=Z o)(D:(cq T ng n ops.toList o).op.kind=1\/(cq T ng n ops.toList o).op.kind=2)(I:∀(u:Nat)(d:ed),p<u->u<q->ops[L u]?=Z d->(cq T ng n ops.toList d).op.kind=3->¬I8 ops (L u) (L p))(V:(cq T ng n ops.toList o).op.kind=1->∀t,(cq T ng n ops.toList o).op.through=Z (.tmp t)->(∀(i:Nat)(d:ed),ops[i]?=Z d->d.dst=Z t->I8 ops (L p) i)->leads (bX (E p) t)=Z b)(h:(cq T ng n ops.toList o).op.kind=2->∀t,(cq T ng n ops.toList o).dst=Z t->leads (bX (E (p+1)) t)=Z b)(x:b<(H (p+1)).ax):(H q).tr.get b=(H (p+1)).tr.get b:=by
 by_cases w:SL T ng n ops L (p+1) q;exact(Vs C y x q J j w).1
 .have P:∃(u:Nat) (d:ed),p<u/\u<q/\ops[L u]?=Z d/\(cq T ng n ops.toList d).op.kind=3:=by apply ix;intro N;exact w λu d w m f e=>N ⟨u,d,J,m,f,e⟩
  have⟨u,d,w,m,f,e⟩:=P;rcases y.still p o J z D with N|⟨A,t,r,g,D,D,D,k4,P,S⟩;exact absurd (N u d w J f e) (I u d w m f e)
  .have N:leads (bX (E (A+1)) t)=Z b:=by
    rcases P with⟨e,u,w⟩|⟨e,W⟩;rw[Ar C y (a:=p) (A+1) J J (λk f d P m W=>?_)];exact V e t u w;obtain⟨u,X,X⟩:=y.WI (w (L k) f m W) p J rfl;have:=y.inj u k J J X;omega
    rw[Ar C y (a:=p+1) (A+1) J J (λk f d P m P=>?_)];exact h e t W;have:=y.inj p k J J (y.once (L p) (L k) o f t z m (Iu W) P);omega
   have⟨z,G,O⟩:=mg (B A r g D) t k4 b N;have g:∀a,a<=A+1->b<(H a).ax->(H a).tr.get b=Z z:=by
    intro a z r;have U:=u7 v C y (a:=a) (A+1) z J;have z:=u7 v C y (a:=0) a J J;rcases O with⟨cs,B,N,m,rfl,O⟩|rfl
    exact U.bU b cs B N m r G (aw z.clock);exact U.mp b r G
   rw[g (p+1) J x];have x:∀a,p+1<=a->a<=ops.size->b<(H a).ax:=λa V h=>aw ((u7 v C y (a:=p+1) a V h).ax)
   by_cases h:q<=A+1;exact g q h (x q J j);have:=(Vs C y (x (A+1) J J) q J j (λk M j y j x=>aw (S k M J J j x (I k M J y j x)))).1;rw[this,G]
def VD:aa->Nat
 |dB (Z ⟨b,_,_⟩)=>b+1
 |c6 (Z ⟨b,_,_⟩) _ _=>b+1
 |.map (Z m)=>m+1
 |_=>0
def Zy:aa->Nat
 |.func (.yield l) _ _=>l+1
 |.func _ _ q=>(q.toList.map VD).foldl (· + ·) 0
 |v=>VD v
def foldl_add:∀(l:List Nat)(a:Nat),a<=l.foldl (· + ·) a/\∀x∈l,x<=l.foldl (· + ·) a
 |[],a=>⟨fE _,λ_ h=>by simp at h⟩
 |y::l,a=>by have⟨V,u⟩:=foldl_add l (a+y);simp only[sC];refine⟨J,λx q=>?_⟩;rcases bd.1 q with rfl|q;omega;exact u x q
def CR.off{y A:fP}(q:∀x,x≠N->y x=A x){v c:aa}(u:VD v<=N)(h:CR y v c):CR A v c:=by
 cases h with
 |bool=>exact .bool _
 |int=>exact .int _ _
 |str=>exact .str _
 |yo=>exact .yo
 |ptr h=>simp only[VD] at u;exact .ptr (by rw[<-q _ J];exact h)
 |gE=>exact .gE _ _
 |slice h C=>simp only[VD] at u;exact .slice (by rw[<-q _ J];exact h) C
 |wa=>exact .wa
 |map h=>simp only[VD] at u;exact .map (by rw[<-q _ J];exact h)
 |uQ=>exact .uQ
 |pY=>exact .pY
def KR.off{A G:fP}{N:Nat}(u:∀x,x≠N->A x=G x){v c:aa}(q:Zy v<=N)(h:KR A v c):KR G v c:=by
 cases h with
 |cell h=>
  refine .cell (h.off u ?_);cases h<;>first|exact q|exact kp _
 | @fn f l m h=>
  simp only[Zy] at q;refine .fn f ?_;have C:∀x∈l,VD x<=N:=λx y=>wV ((foldl_add (l.map VD) 0).2 _ (iT.2 ⟨x,y,Q⟩)) q;clear q;induction h with
  |nil=>exact .nil
  |cons V _ s=>exact .cons (V.off u (C _ (iz ..))) (s λx y=>C x (vU _ y))
 |yield h=>simp only[Zy] at q;exact .yield (by rw[<-u _ J];exact h)
end
def VR.ajQ{s:Mk}{c:aa}(h:VR ρ (Wq s N) c):∃y,ρ N=Z y/\∀(u:fP)(M:Nat),u M=Z y->VR u (Wq s M) c:=by
 cases s with
 |ptr=>
  cases h with
  |val h=>cases h with
   |cell h=>cases h with
    |cell h=>cases h with
     | @ptr _ _ r h=>exact⟨r,h,λu M q=>.val (.cell (.cell (.ptr q)))⟩
 |sl l C=>
  cases h with
  |val h=>cases h with
   |cell h=>cases h with
    |cell h=>cases h with
     | @slice _ _ _ _ _ _ r h A=>exact⟨r,h,λu M q=>.val (.cell (.cell (.slice q A)))⟩
 |mp=>
  cases h with
  |val h=>cases h with
   |cell h=>cases h with
    |cell h=>cases h with
     | @map _ r h=>exact⟨r,h,λu M q=>.val (.cell (.cell (.map q)))⟩
def acu(s:Mk)(N:Nat):leads (Wq s N)=Z N:=by cases s<;>rfl
structure Stood(w w':c5):Prop where
 size:w.heap.size<=w'.heap.size
 os:w'.os=w.os
 tape:w'.tape=w.tape
 output:w'.output=w.output
 yZ:∀k,k<w.heap.size->w'.heap[k]?=w.heap[k]?
def eQ.stood(S:eQ M ρ h w)(W:Stood w w'):eQ M ρ h w':=
 ⟨λb r q=>⟨(S.low b r q).1,Jy (S.low b r q).2 W.size⟩,λb r o q u=>jg.mono ρ.le_refl (W.yZ _ (S.low b r q).2) (S.obj b r o q u),S.inj,S.wf⟩
def Ext.stood{I ρ g:fP}{u w w':c5}(X:Ext I m u ρ h w)(W:Stood w w')(a:ρ.le g)(A:∀x r,g x=Z r->ρ x=K->x=N/\w.heap.size<=r.ch)(b:m.ax<=N):Ext I m u g h w':=by
 have u:∀x r,g x=Z r->ρ x=Z r\/(x=N/\w.heap.size<=r.ch):=by intro x r q;rcases G:ρ x with _|U;exact ft (A x r q G);have:=a x U G;rw[q] at this;exact fc this.symm
 refine⟨fP.le_trans X.le a,X.ax,wV X.size W.size,W.os.trans X.os,W.tape.trans X.tape,W.output.trans X.output,?_,?_,?_,?_⟩;intro k C y;rw[W.yZ k (Jy C X.size)];exact X.yZ k C y;intro x r q M;rcases u x r q with h|⟨_,h⟩;exact X.own x r h M;exact fc (wV X.size h);intro x r q y;rcases u x r q with h|⟨rfl,_⟩;exact X.new x r h y;exact b;intro x r o q O;rcases u x r q with h|⟨_,h⟩;exact X.live x r o h O;exact fc (wV X.size h)
section
variable{P:b7}{T:tU}{ng:Nat}{E:vd}{F:Nat->Option cY}{s:aG->Env->aB->R}
def Qw{ops:List ed}(q:(cq T ng n ops o).op.kind≠3):cq T ng n ops o= { dst:=o.dst,guard:=guardOf ops o,op:=dT T o.op } :=by unfold cq at q⊢;cases u:yq ng n ops o;rw[u] at q;exact absurd rfl q;rfl
def WG(hF:Ha P T ng E F)(hT:eG P T)(hI:yI P T ng E s)(ho:ops[i]?=Z o){m V G:aB}(X:(cq T ng n ops.toList o).op.kind=2)(q:dL F s (cq T ng n ops.toList o) e m=Z (e',V))(S:eQ (iD T ng E) ρ G w)(hG:d_ ng ρ)(hE:ER ρ W a2.tmps)(hn:n<=a.tmps.size)(u:∀x∈o.op.operands.toList,ev e x=ev W x/\a.eval x=a2.eval x)(Jm:cI o (yielded ops a.tmps)=wanted e (guardOf ops.toList o))(Ue:m.ax<V.ax->ρ m.ax=K)(yW:o.dst.isSome=cd->m.ax<V.ax->G.tr.get m.ax=V.tr.get m.ax)(D:V.ax<=G.ax)(b:gr)(k:List B1)(cs:List gr)(cz:List Nat):∃g w' c1 v,Steps P (lone (on b a (.inRegion ops (i::cz)::k)) cs w) (lone (on b (a.put o.dst c1) (.inRegion ops cz::k)) cs w')/\e'=gG e o.dst v/\VR g v c1/\(∀d,o.dst=Z d->d<a.tmps.size)/\eQ (iD T ng E) g G w'/\ρ.le g/\(∀x,ρ x=K->(m.ax<V.ax->x≠m.ax)->g x=K)/\(∀(ρ0:fP)(H:aB)(w0:c5),H.ax<=m.ax->Ext ρ0 H w0 ρ G w->Ext ρ0 H w0 g G w'):=by
 have hcm:=Qw (T:=T) (ng:=ng) (n:=n) (ops:=ops.toList) (o:=o) (by rw[X];decide);have t:=nO (o:=(cq T ng n ops.toList o).op) J;cases hw:wanted e (cq T ng n ops.toList o).guard
 .have p:dL F s (cq T ng n ops.toList o) e G=Z (e',G):=by unfold dL at q⊢;simp only[hw,z6,oN,CB] at q⊢;exact⟨q.1,trivial⟩
  have⟨t,U,cv,v,D,Kp,X6,uM,f,C⟩:=CL hF hT hI ho p S hG (a:=a) (a2:=a2) hE hn u Jm b k cs cz;refine⟨t,U,cv,v,D,Kp,X6,uM,f,C.le,?_,λρ0 H w0 _ X'=>X'.trans C⟩;intro x u _;rcases hp:t x with _|r;rfl;have l:=C.new x r hp u;have c:=(f.low x r hp).1;omega
 .have O:=q;unfold dL at O;simp only[hw,mi] at O;split at O
  .rename_i p y p;simp only[oN,CB] at O;obtain⟨I,rfl⟩:=O;obtain⟨y,B,rfl,rfl,am5⟩:=CK X p;have gP:m.ax<(m.new (Wo y B)).ax:=by simp[aB.new]
   have O2:=Ue gP
   let N:=G.ax+(B.map Zy).foldl (· + ·) 0
   let X:aB:=⟨N,0,.nil⟩
   have SZ:eQ (iD T ng E) ρ X w:=by
    refine⟨λx r q=>⟨?_,(S.low x r q).2⟩,λx r p _ M=>?_,λx p r r' z _ _ _ hz _=>?_,λx p M=>?_⟩;have:=(S.low x r q).1;show x<G.ax+_;omega
    simp[X,Tr.get] at M;simp[X,Tr.get] at hz;simp[X,Tr.get] at M
   have hcZ:dL F s (cq T ng n ops.toList o) e X=Z (gG e (cq T ng n ops.toList o).dst (Wq y N),X.new (Wo y B)):=by unfold dL;simp only[hw,mi];rw[am5 X]
   have⟨t,U,cv,v,D,Kp,X6,uM,f,C⟩:=CL hF hT hI ho hcZ SZ hG (a:=a) (a2:=a2) hE hn u Jm b k cs cz;have J':Stood w U:=⟨C.size,C.os,C.tape,C.output,λj hj=>C.yZ j hj (λx r _ ⟨p,M,_⟩=>by simp[X,Tr.get] at M)⟩;have hdd:(cq T ng n ops.toList o).dst=o.dst:=by rw[hcm]
   rw[hdd] at Kp I;rcases hd:o.dst with _|d;rw[hd] at D I;refine⟨ρ,U,undef,.tuple #[],D,I.symm,VR.undef,λd h=>(by cases h),S.stood J',ρ.le_refl,λx u _=>u,?_⟩;intro ρ0 H w0 Y' X';exact X'.stood J' (N:=m.ax) ρ.le_refl (λx r l c=>by rw[l] at c;cases c) Y'
   .rw[hd] at D I Kp;have hvN:v=Wq y N:=by have:=congrArg (λen:Env=>bX en d) Kp;simp only[gG,Env.bS,if_true] at this;exact this.symm
    rw[hvN] at X6;have⟨A,NQ,hmk⟩:=X6.ajQ;have Ad:=rV (r:=A) O2;have ak7:(X.new (Wo y B)).tr.get N=Z (Wo y B):=by simp only[aB.new,Tr.bS];rw[bH rfl]
    have asU:G.tr.get m.ax=Z (Wo y B):=by rw[yW (by rw[hd];rfl) gP];simp only[aB.new,Tr.bS,if_true]
    have hblk:w.heap.size<=A.ch:=by rcases C.live N A _ NQ ak7 with h|⟨_,_,_,_,h,_⟩;exact h;simp[X,Tr.get] at h
    have hρ1:∀x,x≠N->t x=ρ x:=by
     intro x hxN;rcases hp:ρ x with _|r;rcases yi:t x with _|r;rfl;have l:=C.new x r yi hp;have c:=(f.low x r yi).1;simp only[aB.new,X] at l c;omega
     exact C.le x r hp
    have afQ:jg (iD T ng E) (iC ρ m.ax A) A (Wo y B) U:=by
     have hO:=f.obj N A _ NQ ak7;have hB:jg (iD T ng E) t A (.ch B b9 0 0) U->jg (iD T ng E) (iC ρ m.ax A) A (.ch B b9 0 0) U:=by rintro⟨fN,el,fr,q1,t,X,q5,C,q7⟩;refine⟨fN,el,fr,q1,t,X,q5,C,λj C hj=>?_⟩;have⟨c',O,NT⟩:=q7 j C hj;refine⟨c',O,KR.mono Ad (NT.off hρ1 ?_)⟩;have:=(foldl_add (B.map Zy) 0).2 (Zy C) (iT.2 ⟨C,cK hj,Q⟩);show Zy C<=G.ax+_;omega
     cases y with
     |ptr=>exact hB hO
     |sl B c1=>exact hB hO
     |mp=>
      have⟨B,C,q1,t,X⟩:=hO;refine⟨B,C,q1,?_,X⟩;generalize B.toList=L at t⊢;cases t;exact .nil
    have B:∀x r,iC ρ m.ax A x=Z r->(x=m.ax/\r=A)\/(x≠m.ax/\ρ x=Z r):=by intro x r u;unfold iC at u;by_cases e:x=m.ax;rw[bH e] at u;cases u;exact fc ⟨e,Q⟩;rw[bM e] at u;exact ft ⟨e,u⟩
    refine⟨iC ρ m.ax A,U,cv,Wq y m.ax,D,I.symm,hmk _ _ (by simp[iC]),λt h=>uM t (by rw[hd];exact h),?_,Ad,?_,?_⟩;refine⟨λx r q=>?_,λx r p q M=>?_,λx p r r' z q y X hz t=>?_,S.wf⟩;rcases B x r q with⟨rfl,rfl⟩|⟨_,q⟩;exact⟨J,(f.low N r NQ).2⟩;exact⟨(S.low x r q).1,Jy (S.low x r q).2 J'.size⟩;rcases B x r q with⟨rfl,rfl⟩|⟨_,q⟩;rw[asU] at M;cases M;exact afQ;exact jg.mono Ad (J'.yZ _ (S.low x r q).2) (S.obj x r p q M);rcases B x r q with⟨D,f⟩|⟨_,q⟩<;>rcases B p r' y with⟨ey,C⟩|⟨_,y⟩;exact absurd (D.trans ey.symm) t;have:=(S.low p r' y).2;rw[f];omega;have:=(S.low x r q).2;rw[C];omega;exact S.inj x p r r' z q y X hz t
    intro x u X;unfold iC;rw[bM (X gP)];exact u;intro ρ0 H w0 Y' X';refine X'.stood J' (N:=m.ax) Ad (λx r l c=>?_) Y';rcases B x r l with⟨D,f⟩|⟨_,B⟩;exact⟨D,by rw[f];exact hblk⟩;rw[B] at c;cases c
  cases O
end
section
variable{P:b7}{T:tU}{ng:Nat}{u:vd}{F:Nat->Option cY}{s:aG->Env->aB->R}{n c:Nat}{ops:Array ed}{X:Nat->Nat}{l:List (cn×List Nat)}{E:Nat->Env}{H:Nat->aB}
def GS{q:Array aa}(y:ops[j]?=Z o)(u:o.dst=Z t):yielded ops q j=match q.getD t undef with|dd b=>Z b|_=>K:=by
 simp only[yielded,y,Option.bind_some,u];rw[bV];rcases q[t]? with _|v;rfl;cases v<;>rfl
def WH{u:cn}(C:u.op.kind=2)(q:dL F s u e m=Z (e',V))(M:m.ax<V.ax):∀t,u.dst=Z t->leads (bX e' t)=Z m.ax:=by
 intro t c;have I:=nO (o:=u.op) J;unfold dL at q;cases A:wanted e u.guard
 simp only[A,z6,oN,CB] at q;rw[q.2] at M;omega;simp only[A,mi] at q;split at q;rename_i O U a;simp only[oN,CB] at q;have⟨y,_⟩:=q;have⟨b,d,G,_,_⟩:=CK C a;rw[<-y,c,G];simp only[gG,Env.bS,if_true];exact acu b _;cases q
def aoL(q:dL F s (cq T ng n ops.toList o) e h=Z (e',h')):yq ng n ops.toList o=cd:=by unfold cq at q;cases u:yq ng n ops.toList o;rw[u] at q;simp[dL,wanted,dh] at q;rfl
open Classical in
def ae0(hF:Ha P T ng u F)(hT:eG P T)(hI:yI P T ng u s)(hK:iM s)(L:JY F s T ng n ops X E H)(C:kH T ng n ops X l)(Q5:∀(k:Nat)(ao:cn)(pz:List Nat),l[k]?=Z (ao,pz)->still (E (k+1)) (H (k+1)) c pz=cd)(IF:c<(H 0).clock)(hwf:WF (H 0))(b:gr)(kk:List B1)(cs:List gr)(ρ0:fP)(w0:c5):∀(D:Nat->Prop)(L':List Nat),Ord ops D L'->(∀i o,ops[i]?=Z o->D i->∀k∈jq .any o,D k)->∀(ρ:fP)(w:c5)(a:Act)(q1:Nat),q1<=ops.size->(∀(p:Nat)(m:ed),p<ops.size->ops[X p]?=Z m->(cq T ng n ops.toList m).op.kind=3->(D (X p)↔p<q1))->eQ (iD T ng u) ρ (H q1) w->d_ ng ρ->n<=a.tmps.size->Ext ρ0 (H 0) w0 ρ (H q1) w->(∀(p:Nat)(o:ed)(t:Nat),p<ops.size->ops[X p]?=Z o->o.dst=Z t->D (X p)->VR ρ (bX (E (p+1)) t) (a.tmps.getD t undef))->(∀t,(∀(i:Nat)(o:ed),ops[i]?=Z o->o.dst=Z t->¬D i)->VR ρ (bX (E 0) t) (a.tmps.getD t undef))->(∀(p:Nat)(o:ed),p<ops.size->ops[X p]?=Z o->(cq T ng n ops.toList o).op.kind=2->¬D (X p)->(H p).ax<(H (p+1)).ax->ρ (H p).ax=K)->∃g w' a',Steps P (lone (on b a (.inRegion ops L'::kk)) cs w) (lone (on b a' (.inRegion ops []::kk)) cs w')/\eQ (iD T ng u) g (H ops.size) w'/\ER g (E ops.size) a'.tmps/\a'.tmps.size=a.tmps.size/\a'.defers=a.defers/\Ext ρ0 (H 0) w0 g (H ops.size) w':=by
 have II:∀a b,a<=b->b<=ops.size->(H a).ax<=(H b).ax:=λa b V y=>(u7 hK L C b V y).ax;intro D L' hO;induction hO with
 | @nil D B=>
  intro hDc ρ w a q1 EN hDq S hG hn X' hv hv0 Ue;have eF:SL T ng n ops X q1 ops.size:=by intro k o V y A f;have:=(hDq k o y A f).1 (B _ (C.bound k y));omega
  have⟨S1,X1⟩:=Sa L C S ops.size EN (fE _) eF;refine⟨ρ,w,a,Steps.refl P _,S1,?_,Q,Q,X'.trans X1⟩;intro t;by_cases O:∃(i:Nat) (o:ed),ops[i]?=Z o/\o.dst=Z t;have⟨i,o,M,hd⟩:=O;obtain⟨p,N,rfl⟩:=C.agQ i (gj.1 M).1;have:=hv p o t N M hd (B _ (C.bound p N));rwa [<-Ar L C ops.size (a:=p+1) J (fE _) (λk q V y A f=>aw (C.inj p k N y (C.once (X p) (X k) o q t M A hd f)))] at this
  have:=hv0 t (λi o V y=>absurd ⟨i,o,V,y⟩ O);rwa [<-Ar L C ops.size (a:=0) J (fE _) (λk q V y A f=>O ⟨X k,q,A,f⟩)] at this
 | @cons D i L' o M sO he hl ihl=>
  intro hDc ρ w a q1 EN hDq S hG hn X' hv hv0 Ue;have NQ:i<ops.size:=(gj.1 M).1;have⟨p,N,hpi⟩:=C.agQ i NQ;subst hpi;have aeO:∀j,I8 ops (X p) j->D j:=λj U=>U.closed hDc (λm tC=>by rw[M] at tC;cases tC;exact he);have Z2:∀j,I8 ops j (X p)->¬D j:=by
   intro j U hDj;have B:∃G,ops[j]?=Z G:=by
    cases U with
    |Tw h _=>exact⟨_,h⟩
    |vP h _ _=>exact⟨_,h⟩
   have⟨G,W'⟩:=B;exact sO (U.closed hDc (λm tC=>hDc j m tC hDj))
  have Se:∀t,(∀(j:Nat)(G:ed),ops[j]?=Z G->G.dst=Z t->I8 ops (X p) j\/I8 ops j (X p))->VR ρ (bX (E p) t) (a.tmps.getD t undef):=by
   intro t I;by_cases O:∃(j:Nat) (G:ed),ops[j]?=Z G/\G.dst=Z t
   .have⟨j,G,W',hdj⟩:=O;obtain⟨pj,XT,rfl⟩:=C.agQ j (gj.1 W').1;rcases I _ G W' hdj with U|U;have⟨B,gP,z⟩:=C.WI U p N rfl;have:=C.inj B pj J XT z;subst this;have:=hv B G t XT W' hdj (aeO _ U);rwa [<-Ar L C p (a:=B+1) J J (λk q V y A f=>aw (C.inj B k XT J (C.once _ _ G q t W' A hdj f)))] at this
    have⟨pp,gP,z⟩:=C.WI U pj XT rfl;have hpp:=C.inj pp p J N z;subst hpp;have:=hv0 t (λj' oj' V y=>by rw[C.once j' (X pj) oj' G t V W' y hdj];exact Z2 _ U);rwa [<-Ar L C pp (a:=0) J J (λk q V y A f=>aw (C.inj pj k XT J (C.once _ _ G q t W' A hdj f)))] at this
   have:=hv0 t (λj G V y=>absurd ⟨j,G,V,y⟩ O);rwa [<-Ar L C p (a:=0) J J (λk q V y A f=>O ⟨X k,q,A,f⟩)] at this
  let SS:List Nat:=(ops.toList.filterMap (·.dst)).filter λt=>decide (¬VR ρ (bX (E p) t) (a.tmps.getD t undef))
  have azF:∀t,t∉SS->VR ρ (bX (E p) t) (a.tmps.getD t undef):=by intro t I;by_cases O:∃(j:Nat) (G:ed),ops[j]?=Z G/\G.dst=Z t;have⟨j,G,W',hdj⟩:=O;apply ix;intro eF;refine I (EG.2 ⟨List.mem_filterMap.2 ⟨G,?_,hdj⟩,ak eF⟩);exact cK (i:=j) (ak W');exact Se t (λj G V y=>absurd ⟨j,G,V,y⟩ O)
  have ak8:∀t,VR ρ (bX (E p) t) (a.tmps.getD t undef)->t∉SS:=by intro t I B;have:=(EG.1 B).2;simp only[decide_eq_true_eq] at this;exact this I
  let W:=Ph SS (E p)
  let a2:Act:= {a with tmps:=LI SS a.tmps}
  have hE2:ER ρ W a2.tmps:=by
   intro t;show VR ρ (bX (Ph SS (E p)) t) ((LI SS a.tmps).getD t undef);rw[CI,CH];by_cases I:t∈SS
   rw[bH I,bH I];exact VR.undef;rw[bM I,bM I];exact azF t I
  have Hz:∀x∈o.op.operands.toList,ev (E p) x=ev W x/\a.eval x=a2.eval x:=by
   intro x hx;cases x with
   |tmp t=>
    have I:=ak8 t (Se t (λj G V y=>C.reads (X p) o t M hx j G V y));simp only[ev,Act.eval,W,a2];rw[CI,CH,bM I,bM I];exact⟨Q,Q⟩
   |_=>exact⟨Q,Q⟩
  have abU:=L p o N M;have fV:=aoL abU;have Jm:cI o (yielded ops a.tmps)=wanted (E p) (guardOf ops.toList o):=by
   unfold guardOf;rcases O1:o.guard with _|x;simp[cI,O1,wanted];have⟨B,bb⟩:=x;dsimp only;have hgs:(H7 ops.toList B).isSome=cd:=by simp only[yq,pU,O1] at fV;exact fV.1.2
   have⟨t,I⟩:=nG.1 hgs;have azC:=C.guard (X p) o B bb M O1;have uM:∃z,ops[B]?=Z z/\z.dst=Z t:=by unfold H7 at I;split at I;rename_i z hog;exact⟨z,ak hog,I⟩;cases I
   have⟨z,hog,hdg⟩:=uM;have aAy:=Se t (λj G V y=>by rw[<-C.once B j z G t hog V hdg y];exact fc azC);have Wm:=ak8 t aAy;have V:=Nb (a:=a2) hE2 (ops:=ops) (o:=o) (g:=Z (t,bb)) (ft ⟨B,bb,t,O1,I,Q⟩);have y:yielded ops a.tmps B=yielded ops a2.tmps B:=by
    have hmk:(LI SS a.tmps).getD t undef=a.tmps.getD t undef:=by rw[CH,bM Wm]
    rw[GS hog hdg,GS hog hdg];simp only[a2,hmk]
   rw[I];have A:wanted (E p) (Z (t,bb))=wanted W (Z (t,bb)):=by simp only[wanted,W];rw[CI,bM Wm]
   show cI o (yielded ops a.tmps)=wanted (E p) (Z (t,bb));rw[A,<-V];simp only[cI,O1,y]
  have ajn:∀(k:Nat)(q:ed),k<p->ops[X k]?=Z q->(cq T ng n ops.toList q).op.kind=3->k<q1:=λk q V y A=>
   (hDq k q J y A).1 (aeO _ (C.eager p k q V N y A))
  have IJ:∃q' B w1 cv v,q'<=ops.size/\Steps P (lone (on b a (.inRegion ops (X p::L')::kk)) cs w) (lone (on b (a.put o.dst cv) (.inRegion ops L'::kk)) cs w1)/\E (p+1)=gG (E p) o.dst v/\VR B v cv/\(∀d,o.dst=Z d->d<a.tmps.size)/\eQ (iD T ng u) B (H q') w1/\ρ.le B/\Ext ρ0 (H 0) w0 B (H q') w1/\(∀(k:Nat)(m:ed),k<ops.size->ops[X k]?=Z m->(cq T ng n ops.toList m).op.kind=3->((D (X k)\/X k=X p)↔k<q'))/\(∀(k:Nat),k<ops.size->k≠p->(H k).ax<(H (k+1)).ax->ρ (H k).ax=K->B (H k).ax=K):=by
   by_cases hk3:(cq T ng n ops.toList o).op.kind=3
   .have hqp:q1<=p:=by apply ix;intro h;exact sO ((hDq p o N M hk3).2 J)
    have⟨S1,X1⟩:=Sa L C S p hqp J (λk q V y A f=>aw (ajn k q y A f));have⟨B,w1,cv,v,s1,hE1,X6,uM,S2,X2⟩:=CL hF hT hI M abU S1 hG (a:=a) (a2:=a2) hE2 hn Hz Jm b kk cs L';refine⟨p+1,B,w1,cv,v,J,s1,hE1,X6,uM,S2,X2.le,(X'.trans X1).trans X2,?_,?_⟩
    .intro k m V y A;have:=hDq k m V y A;constructor
     rintro(h|h);have:=this.1 h;omega;have:=C.inj k p V N h;omega
     intro h;by_cases hkp:k=p;exact ft (by rw[hkp]);exact fc (this.2 (ajn k m J y A))
    .intro k V y A f;rcases hr:B (H k).ax with _|r;rfl
     .have g1:=X2.new _ r hr f;have g2:=(S2.low _ r hr).1;rcases Bb k p with h|h
      have:=II (k+1) p J J;omega;have:=II (p+1) k J J;omega
   .have aAd:=Re hk3;have⟨z,afS,HA,S1,X1,arT⟩:∃z,z<=ops.size/\p<z/\eQ (iD T ng u) ρ (H z) w/\Ext ρ0 (H 0) w0 ρ (H z) w/\(∀(k:Nat)(m:ed),k<ops.size->ops[X k]?=Z m->(cq T ng n ops.toList m).op.kind=3->(D (X k)↔k<z)):=by
     by_cases hqp:p<q1;exact⟨q1,EN,hqp,S,X',hDq⟩
     .have eF:SL T ng n ops X q1 (p+1):=by intro k q V y A f;by_cases hkp:k=p;subst hkp;rw[M] at A;cases A;exact hk3 f;have:=ajn k q J A f;omega
      have⟨S1,X1⟩:=Sa L C S (p+1) J J eF;refine⟨p+1,J,J,S1,X'.trans X1,λk q V y A=>?_⟩;rw[hDq k q V y A];constructor;intro h;omega;intro h;by_cases hkp:k=p;subst hkp;rw[M] at y;cases y;exact absurd A hk3;exact ajn k q J y A
    have hna:∀(u':Nat)(m:ed),p<u'->u'<z->ops[X u']?=Z m->(cq T ng n ops.toList m).op.kind=3->¬I8 ops (X u') (X p):=
     λu' m V y A f ha=>Z2 _ ha ((arT u' m J A f).2 y)
    have ai8:∀(k:Nat)(m:ed),k<ops.size->ops[X k]?=Z m->(cq T ng n ops.toList m).op.kind=3->((D (X k)\/X k=X p)↔k<z):=by
     intro k m V y A;have:=arT k m V y A;constructor
     rintro(h|h);exact this.1 h;rw[h,M] at y;cases y;exact absurd A hk3;intro h;exact fc (this.2 h)
    by_cases yD:(cq T ng n ops.toList o).op.kind=2
    .have⟨B,w1,cv,v,s1,hE1,X6,uM,S2,hle,Wj,hX⟩:=WG hF hT hI M yD abU S1 hG (a:=a) (a2:=a2) hE2 hn Hz Jm (Ue p o N M yD sO)
      (λ_ gP=>Kf hK L C Q5 IF HA afS M (ft yD) hna (λh=>by rw[yD] at h;cases h) (λ_ t I=>WH yD abU gP t I) gP)
      (II (p+1) z HA afS) b kk cs L'
     refine⟨z,B,w1,cv,v,afS,s1,hE1,X6,uM,S2,hle,hX ρ0 (H 0) w0 (II 0 p J J) X1,ai8,?_⟩;intro k V y A f;refine Wj _ f λgP heq=>?_;rcases Bb k p with h|h;have:=II (k+1) p J J;omega;have:=II (p+1) k J J;omega
    .
     have Ug:=Pq J abU;have fg:dL F s (cq T ng n ops.toList o) (E p) (H z)=Z (E (p+1),H z):=by
      have Gg:=abU;rw[Ug] at Gg;have hnc:=nO (o:=(cq T ng n ops.toList o).op) aAd;unfold dL at Gg⊢;cases hw:wanted (E p) (cq T ng n ops.toList o).guard
      simp only[hw,z6,oN,CB] at Gg⊢;exact⟨Gg.1,trivial⟩
      .simp only[hw,mi] at Gg⊢;split at Gg
       .rename_i v V Dk;simp only[oN,CB] at Gg;have⟨Nj,JD⟩:=Gg;subst JD;have ann:dh (E p) (H z) (cq T ng n ops.toList o).op=Z (v,H z):=by
         by_cases hk0:(cq T ng n ops.toList o).op.kind=0;exact(LV hk0 Dk).2 (H z)
         .have hk1:(cq T ng n ops.toList o).op.kind=1:=J
          have⟨_,x,hx,am5,ati⟩:=EW hk1 Dk;refine am5 (H z) λbb hbb=>?_;have⟨wT,ro,op',s',Wk⟩:=ati bb hbb;have aBb:WF (H p):=(u7 hK L C (a:=0) p J J).wf hwf;have:=Kf hK L C Q5 IF HA afS M (fc hk1) hna (b:=bb) (λ_ t I _=>by rw[hx] at I;cases I;exact hbb) (λh=>by rw[hk1] at h;cases h)
           (by rw[Ug];exact aBb bb _ Wk)
          rw[this,Ug]
        rw[ann];simp only[oN,CB];exact⟨Nj,trivial⟩
       cases Gg
     have⟨B,w1,cv,v,s1,hE1,X6,uM,S2,X2⟩:=CL hF hT hI M fg S1 hG (a:=a) (a2:=a2) hE2 hn Hz Jm b kk cs L';refine⟨z,B,w1,cv,v,afS,s1,hE1,X6,uM,S2,X2.le,X1.trans X2,ai8,?_⟩;intro k V y A f;rcases hr:B (H k).ax with _|r;rfl;have g1:=X2.new _ r hr f;have g2:=(S2.low _ r hr).1;omega
  have⟨q',B,w1,cv,v,aAK,s1,hE1,X6,uM,S1,z,X1,ai8,azS⟩:=IJ;have afR:∀t,o.dst≠Z t->(a.put o.dst cv).tmps.getD t undef=a.tmps.getD t undef:=by intro t I;rcases hd:o.dst with _|d;rfl;have:d≠t:=λe=>I (by rw[hd,e]);simp[Act.put,bV,pn,this]
  have⟨ρ2,w2,a2',s2,S2,E2,z2,d2,X2⟩:=ihl
   (by intro j G U hDj k hk;rcases hDj with h|h;exact fc (hDc j G U h k hk);subst h;rw[M] at U;cases U;exact fc (he k hk))
   B w1 (a.put o.dst cv) q' aAK ai8 S1 (hG.mono z) (by rw[zk];exact hn) X1
   (by
    intro pj G t XT U hd hDj;by_cases hji:pj=p;subst hji;rw[M] at U;cases U;rw[hE1,hd];have gP:=uM t hd;simp only[gG,Env.bS,if_true,Act.put];simp[bV,gP,X6]
    have ayV:D (X pj):=hDj.resolve_right (λh=>hji (C.inj pj p XT N h));rw[afR t (λh=>hji (C.inj pj p XT N (C.once (X pj) (X p) G o t U M hd h)))];exact(hv pj G t XT U hd ayV).mono z)
   (by intro t I;have mJ:o.dst≠Z t:=λh=>I (X p) o M h (ft Q);rw[afR t mJ];exact(hv0 t (λj G V y A=>I j G V y (fc A))).mono z)
   (by intro k q V y A f h5;have hnD:¬D (X k):=λh=>f (fc h);have hkp:k≠p:=λh=>f (ft (by rw[h]));exact azS k V hkp h5 (Ue k q V y A hnD h5))
  exact⟨ρ2,w2,a2',s1.trans s2,S2,E2,z2.trans (zk _ _ _),d2.trans (put_defers _ _ _),X2⟩
end
def ae1(B:Ha P T ng (eZ T ng) F)(u:eG P T):PS P T ng (eZ T ng) F:=by
 intro s f E n ops e h e' h' C m t ρ w a b k cs S L D N;have H:eZ T ng n ops.toList≠zM:=by intro y;rw[y] at C;simp[zM,mF,dL,wanted,dh] at C
 have⟨y,q⟩:=Ts H;have⟨x,H,v,G,M,W,O⟩:=OC _ _ _ _ _ _ C;rw[q.len] at M W;have i:JY F s T ng n ops y x H:=by intro p o U x;have⟨C,A⟩:=q.get p o U x;exact(O p _ C A).1
 have x:=R9 q.any q.text q.gc m t;have y:eQ (iD T ng (eZ T ng)) ρ (H 0) w:=by rw[G];exact S.clock _
 have⟨g,w',m,l,c,I,z,d,X⟩:=ae0 B u E f i q (λk E C A=>(O k E C A).2) (c:=h.clock) (by rw[G];exact sM _) y.wf b k cs ρ w
  (λ_=>False) _ x (λ_ _ _ h=>h.elim) ρ w a 0 (kp _) (λj x _ _ _=>⟨λh=>h.elim,λh=>J⟩) y L N (.refl _ _ _)
  (λ_ _ _ _ _ _ h=>h.elim) (λt _=>by rw[v];exact D t)
  (λp o U _ _ _ _=>by rcases D:ρ (H p).ax with _|r;rfl;have H:=(y.low _ r D).1;have D:=(u7 f i q (a:=0) p J J).ax;omega)
 rw[M] at I;rw[W] at c X;refine⟨g,w',m,l,c,I,z,d,?_⟩;rw[G] at X;exact(Ext.clock (ρ:=ρ) (h:=h) (w:=w) (h.clock+1)).trans X
def Qu(T:tU)(ng:Nat)(f:Func):Option cY:=
 match f.body with
 |none=>K
 |some c=>match f.results.toList.mapM (Ey T) with
  |none=>K
  |some a=>bif f.name== "runtime.NumGoroutine" then K else Z { res:=a,body:=dD T ng f.ntmps (eZ T ng) c }
def Pe{α q:Type}{f:α->Option q} :∀ {l:List α} {r:List q},l.mapM f=Z r->bQ (λa b=>f a=Z b) l r
 |[],r,h=>by simp only[List.mapM_nil] at h;cases h;exact .nil
 |a::l,r,h=>by rw[List.mapM_cons] at h;rcases q:f a with _|b;simp[q] at h;rcases u:l.mapM f with _|y;simp[q,u] at h;simp[q,u] at h;subst h;exact .cons q (Pe u)
def WS(h:∀f u,F f=Z u->∃a,P.funcs[f]?=Z a/\Qu T ng a=Z u):Ha P T ng (eZ T ng) F:=by
 intro f u C;have⟨a,G,q⟩:=h f u C
 suffices hs:u.Ap=.no/\∃a c,P.funcs[f]?=Z a/\a.body=Z c/\(a.name== "runtime.NumGoroutine")=b9/\bQ (λr I=>Ey T r=Z I) a.results.toList u.res/\u.body=dD T ng a.ntmps (eZ T ng) c by
  rw[hs.1];exact hs.2
 unfold Qu at q;split at q;cases q;rename_i c u;split at q;cases q;rename_i y y;cases A:a.name== "runtime.NumGoroutine";rw[A] at q;cases q;exact⟨Q,a,c,G,u,A,Pe y,Q⟩;rw[A] at q;cases q
section
variable{P:b7}{T:tU}{ng:Nat}{F:Nat->Option cY}
def qV(y:Ha P T ng (eZ T ng) F)(u:eG P T){q f:Nat}(G:call F q f args h=Z (v,h'))(S:eQ (iD T ng (eZ T ng)) ρ h w)(I:d_ ng ρ)(C:bQ (VR ρ) args U)(cs:List gr):∃a g w' c A,P.funcs[f]?=Z a/\a.body.isSome=cd/\(a.name== "runtime.NumGoroutine")=b9/\Steps P (lone (pe P f ⟨U⟩ .normal) cs w) (lone A cs w')/\A.fn=f/\A.leaving P w' (.returned c)/\VR g v c/\eQ (iD T ng (eZ T ng)) g h' w'/\Ext ρ h w g h' w':=
 BK y u (ads y u (ae1 y u) q) G S I C cs
end
def XL(P:b7)(t:Nat):TypeDesc->Bool
 |.struct _=> !P.stoodInHeld t
 |_=>cd
def tB(P:b7)(t:Nat):Option TI:=
 match P.info? t,P.underlying t with
 |some q,Z u=>match q.zero with
  |none=>K
  |some z=>
   bif z.cells.toList.all dt&&(tL u||ar q.size 1)&&ar (Y z.cells.toList) q.size&&XL P t u&&(tL u||plain z)
   then Z { u:=u,size:=q.size,bytes:=q.bytes,zero:=z.cells.toList,agg:=tL u } else K
 |_,_=>K
def VB(P:b7):eG P (tB P):=by intro t i h;unfold tB at h;split at h;rename_i G u I q;split at h;cases h;rename_i z U;cases C:(z.cells.toList.all dt&&(tL u||ar G.size 1)&&ar (Y z.cells.toList) G.size&&XL P t u&&(tL u||plain z));rw[C] at h;cases h;rw[C] at h;cases h;simp only[pU] at C;have⟨⟨⟨⟨V,y⟩,u⟩,M⟩,O⟩:=C;refine⟨q,⟨G,I,Q,Q,z,U,Q⟩,Q,V,?_,qm u,?_,?_⟩;intro q;dsimp only at q;rw[q] at y;exact qm (ak y);intro y y;dsimp only at y;rw[y] at M;simpa [XL] using M;intro q W y y A;dsimp only at q;rw[I] at y;cases y;rw[U] at A;cases A;rw[q] at O;simpa using O;cases h
def QL(P:b7)(ng:Nat)(G:Nat->Option Func)(f:Nat):Option cY:=match G f with
 |some a=>Qu (tB P) ng a
 |none=>K
def Xl{G:Nat->Option Func}(u:∀f a,G f=Z a->P.funcs[f]?=Z a):Ha P (tB P) ng (eZ (tB P) ng) (QL P ng G):=by refine WS λf A q=>?_;unfold QL at q;split at q;rename_i a y;exact⟨a,u f a y,q⟩;cases q
def OY(cs:List aa):aB:=⟨1,0,.node (Z (.ch cs cd 0 0)) .nil .nil⟩
section
open Go.ChangeShapes Go.WideShapes Go.ChangeAt
variable{H:Type}{c:TypeId×aa->H}{P:b7}
end
def Lg(s a:aG->Env->aB->R):Prop:=∀c e h r,s c e h=Z r->a c e h=Z r
section
variable{F:Nat->Option cY}{s E:aG->Env->aB->R}
def Tg(H:Lg s E){o:Bool}(q:py F s o f args h=Z r):py F E o f args h=Z r:=by
 unfold py at q⊢;rcases A:F f with _|a;rw[A] at q;cases q
 .rw[A] at q;dsimp only at q⊢;cases u:a.Ap with
  |Rx=>rw[u] at q;exact q
  |run p k=>rw[u] at q;exact q
  |no=>
   rw[u] at q;dsimp only at q⊢;rcases y:s a.body (params .nil 0 args) h with _|x;rw[y] at q;cases q;rw[y] at q;rw[H _ _ _ _ y];exact q
def Kr(H:Lg s E)(q:uw F s f args h=Z r):uw F E f args h=Z r:=Tg H q
def adh(H:Lg s E){l:Nat}{q:aG}(u:yA s l q e h=Z r):yA E l q e h=Z r:=by unfold yA at u⊢;split at u;rename_i y G A body I;rcases C:s q e (gm h l y G A body .busy) with _|x;rw[C] at u;cases u;rw[C] at u;rw[H _ _ _ _ C];exact u;cases u
def adj(H:Lg s E){l:Nat}(q:tS s l args h=Z r):tS E l args h=Z r:=by
 unfold tS at q⊢;split at q
 .rename_i u G y body C;rcases C:fW u G args with _|e;rw[C] at q;cases q
  .rw[C] at q;dsimp only at q⊢;rcases A:s y e h with _|x;rw[A] at q;cases q
   .have⟨x,I,V⟩:=x;rw[A] at q;rw[H _ _ _ _ A];cases x with
    |normal=>exact adh H q
    |exit id=>cases q
    |ret=>cases q
 cases q
def aeU(H:Lg s E)(q:fB F s G args h=Z r):fB F E G args h=Z r:=by unfold fB at q⊢;split at q;exact Tg H q;exact adj H q;cases q
def Gt(H:Lg s E){o:cn}{r:Env×aB}(q:dL F s o e h=Z r):dL F E o e h=Z r:=by unfold dL at q⊢;cases y:wanted e o.guard;rw[y] at q;exact q;rw[y] at q;simp only[mi] at q⊢;split at q;rename_i f args A;rcases u:fB F s (ev e f) (qi e args) h with _|x;rw[u] at q;cases q;rw[u] at q;rw[aeU H u];exact q;exact q
def Rv(H:Lg s E):∀ {l:List cn} {e:Env} {h:aB} {r:Env×aB},zi F s l e h=Z r->zi F E l e h=Z r
 |[],_,_,_,q=>q
 |o::l,e,h,r,q=>by unfold zi at q⊢;rcases u:dL F s o e h with _|x;rw[u] at q;cases q;rw[u] at q;rw[Gt H u];exact Rv H q
def Kz(H:Lg s E){k:Nat} :∀ {l:List (cn×List Nat)} {e:Env} {h:aB} {r:Env×aB},mF F s k l e h=Z r->mF F E k l e h=Z r
 |[],_,_,_,q=>q
 |(o,a)::l,e,h,r,q=>by unfold mF at q⊢;rcases u:dL F s o e h with _|x;rw[u] at q;cases q;have⟨A,V⟩:=x;rw[u] at q;rw[Gt H u];dsimp only at q⊢;cases y:still A V k a;rw[y] at q;cases q;rw[y] at q;exact Kz H q
def ahC(H:Lg s E):Lg (dg F s) (dg F E):=by
 intro c e h r q;cases c with
 |skip=>exact q
 |ret=>exact q
 |bad=>exact q
 |exit id=>exact q
 |ops l=>
  unfold dg at q⊢;rcases u:zi F s l e h with _|x;simp only[u] at q;cases q;simp only[u] at q;simp only[Rv H u];exact q
 |draw l=>
  unfold dg at q⊢;rcases u:mF F s h.clock l e {h with clock:=h.clock+1} with _|x;simp only[u] at q;cases q;simp only[u] at q;simp only[Kz H u];exact q
 |seq a b=>
  unfold dg at q⊢;rcases u:s a e h with _|x;simp only[u] at q;cases q
  .have⟨x,I,V⟩:=x;simp only[u] at q;simp only[H _ _ _ _ u];cases x with
   |normal=>exact H _ _ _ _ q
   |exit id=>exact q
   |ret=>exact q
 |cond l a b=>
  unfold dg at q⊢;dsimp only at q⊢;split at q
  .first|exact H _ _ _ _ q|(rename_i A;rw[A];exact H _ _ _ _ q)
  .first|exact H _ _ _ _ q|(rename_i A;rw[A];exact H _ _ _ _ q)
  cases q
 |block id c=>
  unfold dg at q⊢;rcases u:s c e h with _|x;simp only[u] at q;cases q;simp only[u] at q;simp only[H _ _ _ _ u];exact q
 |loop c=>
  unfold dg at q⊢;rcases u:s c e h with _|x;simp only[u] at q;cases q
  .have⟨x,I,V⟩:=x;simp only[u] at q;simp only[H _ _ _ _ u];cases x with
   |normal=>exact H _ _ _ _ q
   |exit id=>exact q
   |ret=>exact q
 |RO f G C body=>
  unfold dg at q⊢;dsimp only at q⊢;split at q
  .rename_i g first y A
   rcases u:uw F s g (first.toList++[Value.func (.yield h.ax) #[] #[]]++y.toList) (h.new (.loop e G C body .ready)) with _|x;rw[u] at q;cases q;rw[u] at q;rw[Kr H u];exact q
  cases q
def fH(n:Nat):run F (n+1)=dg F (run F n):=Q
def aaZ:∀n,Lg (run F n) (run F (n+1))
 |0=>λ_ _ _ _ h=>by cases h
 |n+1=>ahC (aaZ n)
def tT{n m:Nat}(h:n<=m):Lg (run F n) (run F m):=by
 induction h with
 |refl=>exactλ_ _ _ _ h=>h
 |step _ s=>exactλc e h r q=>aaZ _ c e h r (s c e h r q)
end
section
variable(F:Nat->Option cY)
def aN(c:aG)(e:Env)(h:aB)(a:bJ->Env->aB->Prop):Prop:=∃n x e' h',run F n c e h=Z (x,e',h')/\a x e' h'
def bm(l:List cn)(e:Env)(h:aB)(a:Env->aB->Prop):Prop:=∃n e' h',zi F (run F n) l e h=Z (e',h')/\a e' h'
def ck(k:Nat)(l:List (cn×List Nat))(e:Env)(h:aB)(a:Env->aB->Prop):Prop:=∃n e' h',mF F (run F n) k l e h=Z (e',h')/\a e' h'
def aY(f:Nat)(args:List aa)(h:aB)(a:aa->aB->Prop):Prop:=∃n v h',uw F (run F n) f args h=Z (v,h')/\a v h'
def dQ(G:aa)(args:List aa)(h:aB)(a:aa->aB->Prop):Prop:=∃n v h',fB F (run F n) G args h=Z (v,h')/\a v h'
end
def J0(F:Nat->Option cY)(b:aG)(a:bJ->Env->aB->Prop):bJ->Env->aB->Prop
 |.normal=>λe h=>aN F b e h a
 |.exit id=>a (.exit id)
 |.ret=>a .ret
@[simp] def alG(F b a e h):J0 F b a .normal e h=aN F b e h a:=rfl
@[simp] def ap7(F b a id e h):J0 F b a (.exit id) e h=a (.exit id) e h:=rfl
@[simp] def auQ(F b a e h):J0 F b a .ret e h=a .ret e h:=rfl
def PX(I:Env->aB->Prop)(a:bJ->Env->aB->Prop):bJ->Env->aB->Prop
 |.normal=>I
 |.exit id=>a (.exit id)
 |.ret=>a .ret
@[simp] def akg(I a e h):PX I a .normal e h=I e h:=rfl
@[simp] def aoJ(I a id e h):PX I a (.exit id) e h=a (.exit id) e h:=rfl
@[simp] def ap5(I a e h):PX I a .ret e h=a .ret e h:=rfl
def PU(id:Nat)(a:bJ->Env->aB->Prop):bJ->Env->aB->Prop
 |.normal=>a .normal
 |.exit i=>bif ar i id then a .normal else a (.exit i)
 |.ret=>a .ret
@[simp] def YM(id a e h):PU id a .normal e h=a .normal e h:=rfl
@[simp] def aif(id a e h):PU id a (.exit id) e h=a .normal e h:=by simp[PU]
def Mb(id a i e h):PU id a (.exit i) e h=(bif ar i id then a .normal else a (.exit i)) e h:=Q
def Mc(id q i e h)(u:¬i=id):PU id q (.exit i) e h=q (.exit i) e h:=by
 have q:ar i id=b9:=by cases q:ar i id;rfl;exact absurd (qm q) u
 rw[Mb,q];rfl
@[simp] def awj(id a e h):PU id a .ret e h=a .ret e h:=rfl
section
variable{F:Nat->Option cY}{Q1:bJ->Env->aB->Prop}{e:Env}{h:aB}
def aN.mono{c:aG}{q:bJ->Env->aB->Prop}(H:aN F c e h Q1)(u:∀x e h,Q1 x e h->q x e h):aN F c e h q:=by have⟨n,x,e',h',A,y⟩:=H;exact⟨n,x,e',h',A,u _ _ _ y⟩
def aY.mono{R q:aa->aB->Prop}(H:aY F f args h R)(y:∀v h,R v h->q v h):aY F f args h q:=by have⟨n,v,h',A,u⟩:=H;exact⟨n,v,h',A,y _ _ u⟩
def dQ.mono{R q:aa->aB->Prop}(H:dQ F G args h R)(y:∀v h,R v h->q v h):dQ F G args h q:=by have⟨n,v,h',A,u⟩:=H;exact⟨n,v,h',A,y _ _ u⟩
def adv:aN F .skip e h Q1↔Q1 .normal e h:=by
 constructor
 .rintro⟨n,x,e',h',u,q⟩;cases n with
  |zero=>cases u
  |succ n=>cases u;exact q
 intro q;exact⟨1,.normal,e,h,Q,q⟩
def ahm:aN F .ret e h Q1↔Q1 .ret e h:=by
 constructor
 .rintro⟨n,x,e',h',u,q⟩;cases n with
  |zero=>cases u
  |succ n=>cases u;exact q
 intro q;exact⟨1,.ret,e,h,Q,q⟩
def adu{id:Nat} :aN F (.exit id) e h Q1↔Q1 (.exit id) e h:=by
 constructor
 .rintro⟨n,x,e',h',u,q⟩;cases n with
  |zero=>cases u
  |succ n=>cases u;exact q
 intro q;exact⟨1,.exit id,e,h,Q,q⟩
def ahn{a b:aG} :aN F (.seq a b) e h Q1↔aN F a e h (J0 F b Q1):=by
 constructor
 .rintro⟨n,x,e',h',q,u⟩;cases n with
  |zero=>cases q
  |succ n=>
   rw[fH] at q;unfold dg at q;dsimp only at q;rcases A:run F n a e h with _|y;simp only[A] at q;cases q
   .have⟨y,G,V⟩:=y;simp only[A] at q;refine⟨n,y,G,V,A,?_⟩;cases y with
    |normal=>exact⟨n,x,e',h',q,u⟩
    |exit id=>cases q;exact u
    |ret=>cases q;exact u
 .rintro⟨n,x,e',h',q,u⟩;cases x with
  |normal=>
   have⟨m,y,W,I,C,u⟩:=u;refine⟨max n m+1,y,W,I,?_,u⟩;rw[fH];unfold dg;dsimp only;simp only[tT (nY n m) _ _ _ _ q];exact tT (nE n m) _ _ _ _ C
  |exit id=>
   refine⟨n+1,_,_,_,?_,u⟩;rw[fH];unfold dg;dsimp only;simp only[q]
  |ret=>
   refine⟨n+1,_,_,_,?_,u⟩;rw[fH];unfold dg;dsimp only;simp only[q]
def H0{c:aU}{a b:aG}{t:Bool}(y:ev e c=dd t):aN F (.cond c a b) e h Q1↔aN F (bif t then a else b) e h Q1:=by
 constructor
 .rintro⟨n,x,e',h',q,u⟩;cases n with
  |zero=>cases q
  |succ n=>
   rw[fH] at q;unfold dg at q;dsimp only at q;rw[y] at q;cases t<;>exact⟨n,x,e',h',q,u⟩
 rintro⟨n,x,e',h',q,u⟩;refine⟨n+1,x,e',h',?_,u⟩;rw[fH];unfold dg;dsimp only;rw[y];cases t<;>exact q
def Zj{id:Nat}{c:aG} :aN F (.block id c) e h Q1↔aN F c e h (PU id Q1):=by
 constructor
 .rintro⟨n,x,e',h',q,u⟩;cases n with
  |zero=>cases q
  |succ n=>
   rw[fH] at q;unfold dg at q;dsimp only at q;rcases C:run F n c e h with _|y;simp only[C] at q;cases q
   .have⟨y,G,V⟩:=y;simp only[C] at q;refine⟨n,y,G,V,C,?_⟩;cases y with
    |normal=>cases q;exact u
    |ret=>cases q;exact u
    |exit i=>
     rw[Mb];dsimp only at q;cases A:ar i id<;>rw[A] at q<;>cases q<;>exact u
 .rintro⟨n,x,e',h',q,u⟩;cases x with
  |normal=>
   refine⟨n+1,_,_,_,?_,u⟩;rw[fH];unfold dg;dsimp only;simp only[q]
  |ret=>
   refine⟨n+1,_,_,_,?_,u⟩;rw[fH];unfold dg;dsimp only;simp only[q]
  |exit i=>
   rw[Mb] at u;cases A:ar i id;rw[A] at u;refine⟨n+1,.exit i,e',h',?_,u⟩;rw[fH];unfold dg;dsimp only;simp only[q,A,z6];rw[A] at u;refine⟨n+1,.normal,e',h',?_,u⟩;rw[fH];unfold dg;dsimp only;simp only[q,A,mi]
def CP{c:aG} :aN F (.loop c) e h Q1↔aN F c e h (J0 F (.loop c) Q1):=by
 constructor
 .rintro⟨n,x,e',h',q,u⟩;cases n with
  |zero=>cases q
  |succ n=>
   rw[fH] at q;unfold dg at q;dsimp only at q;rcases A:run F n c e h with _|y;simp only[A] at q;cases q
   .have⟨y,G,V⟩:=y;simp only[A] at q;refine⟨n,y,G,V,A,?_⟩;cases y with
    |normal=>exact⟨n,x,e',h',q,u⟩
    |exit id=>cases q;exact u
    |ret=>cases q;exact u
 .rintro⟨n,x,e',h',q,u⟩;cases x with
  |normal=>
   have⟨m,y,W,I,C,u⟩:=u;refine⟨max n m+1,y,W,I,?_,u⟩;rw[fH];unfold dg;dsimp only;simp only[tT (nY n m) _ _ _ _ q];exact tT (nE n m) _ _ _ _ C
  |exit id=>
   refine⟨n+1,_,_,_,?_,u⟩;rw[fH];unfold dg;dsimp only;simp only[q]
  |ret=>
   refine⟨n+1,_,_,_,?_,u⟩;rw[fH];unfold dg;dsimp only;simp only[q]
def aN.loop{c:aG}(I:Nat->Env->aB->Prop)(A:∀n e h,I n e h->aN F c e h (PX (λe h=>∃a,a<n/\I a e h) Q1)){n:Nat}(m:I n e h):aN F (.loop c) e h Q1:=by
 induction n using Nat.strongRecOn generalizing e h with
 |ind n s=>
  rw[CP];refine(A n e h m).mono λx e h q=>?_;cases x with
  |normal=>have⟨a,u,y⟩:=q;exact s a u y
  |exit id=>exact q
  |ret=>exact q
def ahl{l:List cn} :aN F (.ops l) e h Q1↔bm F l e h (Q1 .normal):=by
 constructor
 .rintro⟨n,x,e',h',q,A⟩;cases n with
  |zero=>cases q
  |succ n=>
   rw[fH] at q;unfold dg at q;dsimp only at q;rcases u:zi F (run F n) l e h with _|y;simp only[u] at q;cases q;simp only[u] at q;cases q;exact⟨n,_,_,u,A⟩
 rintro⟨n,e',h',q,A⟩;refine⟨n+1,.normal,e',h',?_,A⟩;rw[fH];unfold dg;dsimp only;simp only[q]
def tick(h:aB):aB:= {h with clock:=h.clock+1}
def adt{l:List (cn×List Nat)} :aN F (.draw l) e h Q1↔ck F h.clock l e (tick h) (Q1 .normal):=by
 constructor
 .rintro⟨n,x,e',h',q,u⟩;cases n with
  |zero=>cases q
  |succ n=>
   rw[fH] at q;unfold dg at q;dsimp only at q;rcases A:mF F (run F n) h.clock l e {h with clock:=h.clock+1} with _|y;simp only[A] at q;cases q;simp only[A] at q;cases q;exact⟨n,_,_,A,u⟩
 rintro⟨n,e',h',q,u⟩;refine⟨n+1,.normal,e',h',?_,u⟩;rw[fH];unfold dg;dsimp only;rw[show({h with clock:=h.clock+1} :aB)=tick h from Q];simp only[q]
def agX{R:Env->aB->Prop} :bm F [] e h R↔R e h:=by constructor;rintro⟨n,e',h',u,q⟩;cases u;exact q;intro q;exact⟨0,e,h,Q,q⟩
def abw{R:Env->aB->Prop} :ck F k [] e h R↔R e h:=by constructor;rintro⟨n,e',h',u,q⟩;cases u;exact q;intro q;exact⟨0,e,h,Q,q⟩
def Fo(F:Nat->Option cY)(o:cn)(e:Env)(h:aB)(R:Env->aB->Prop):Prop:=∃n e' h',dL F (run F n) o e h=Z (e',h')/\R e' h'
def u6{o:cn}{l:List cn}{R:Env->aB->Prop} :bm F (o::l) e h R↔Fo F o e h (λe h=>bm F l e h R):=by constructor;rintro⟨n,e',h',q,A⟩;unfold zi at q;rcases u:dL F (run F n) o e h with _|y;rw[u] at q;cases q;rw[u] at q;exact⟨n,_,_,u,n,_,_,q,A⟩;rintro⟨n,C,V,u,m,e',h',q,A⟩;refine⟨max n m,e',h',?_,A⟩;unfold zi;rw[Gt (tT (nY n m)) u];exact Rv (tT (nE n m)) q
def qW{o:cn}{a:List Nat}{l:List (cn×List Nat)}{R:Env->aB->Prop} :ck F k ((o,a)::l) e h R↔Fo F o e h (λe h=>still e h k a=cd/\ck F k l e h R):=by constructor;rintro⟨n,e',h',q,C⟩;unfold mF at q;rcases u:dL F (run F n) o e h with _|y;rw[u] at q;cases q;rw[u] at q;dsimp only at q;cases A:still y.1 y.2 k a;rw[A] at q;cases q;rw[A] at q;exact⟨n,_,_,u,A,n,_,_,q,C⟩;rintro⟨n,G,V,u,A,m,e',h',q,C⟩;refine⟨max n m,e',h',?_,C⟩;unfold mF;rw[Gt (tT (nY n m)) u];dsimp only;rw[A];exact Kz (tT (nE n m)) q
def calls:kD->Bool
 |.call _ _=>cd
 |_=>b9
def UT{a:kD}{R:Env->aB->Prop}(C:calls a=b9):Fo F ⟨d,K,a⟩ e h R↔ ∃v V,dh e h a=Z (v,V)/\R (gG e d v) V:=by
 have b:∀n,dL F (run F n) ⟨d,K,a⟩ e h=(match dh e h a with|some (v,h')=>Z (gG e d v,h')|none=>K):=by intro n;unfold dL;simp only[wanted,mi];split;cases C;rfl
 constructor;rintro⟨n,e',h',q,A⟩;rw[b] at q;rcases u:dh e h a with _|y;rw[u] at q;cases q;rw[u] at q;cases q;exact⟨_,_,Q,A⟩;rintro⟨v,V,u,A⟩;exact⟨0,_,_,by rw[b,u],A⟩
def Al{b c:Bool}{a:kD}{R:Env->aB->Prop}(C:bX e t=dd c):Fo F ⟨d,Z (t,b),a⟩ e h R↔(bif c==b then Fo F ⟨d,K,a⟩ e h R else R (gG e d (.tuple #[])) h):=by
 have u:wanted e (Z (t,b))=(c==b):=by simp[wanted,C]
 cases y:(c==b)
 .have c:∀n,dL F (run F n) ⟨d,Z (t,b),a⟩ e h=Z (gG e d (.tuple #[]),h):=by intro n;unfold dL;dsimp only;rw[u,y];rfl
  simp only[Fo,c,z6];constructor;rintro⟨n,e',h',A,q⟩;cases A;exact q;intro q;exact⟨0,_,_,Q,q⟩
 have c:∀n,dL F (run F n) ⟨d,Z (t,b),a⟩ e h=dL F (run F n) ⟨d,K,a⟩ e h:=by intro n;unfold dL;dsimp only;rw[u,y];rfl
 simp only[Fo,c,mi]
def L7{f:aU}{args:List aU}{R:Env->aB->Prop} :Fo F ⟨d,K,.call f args⟩ e h R↔dQ F (ev e f) (qi e args) h (λv h=>R (gG e d v) h):=by
 have a:∀n,dL F (run F n) ⟨d,K,.call f args⟩ e h=(match fB F (run F n) (ev e f) (qi e args) h with|some (v,h')=>Z (gG e d v,h')|none=>K):=by intro n;rfl
 constructor;rintro⟨n,e',h',q,A⟩;rw[a] at q;rcases u:fB F (run F n) (ev e f) (qi e args) h with _|y;rw[u] at q;cases q;rw[u] at q;cases q;exact⟨n,_,_,u,A⟩;rintro⟨n,v,V,u,A⟩;exact⟨n,_,_,by rw[a,u],A⟩
def dQ.func{f:Nat}{first a:Array aa}{args:List aa}{R:aa->aB->Prop}(H:aY F f (first.toList++args++a.toList) h R):dQ F (.func (.func f) first a) args h R:=by have⟨n,v,h',u,q⟩:=H;exact⟨n,v,h',BL u,q⟩
def dQ.Rx{f:Nat}{a:cY}{first b:Array aa}{args:List aa}{R:aa->aB->Prop}(y:F f=Z a)(q:a.Ap=.Rx){v:aa}{h':aB}(u:Y6 (first.toList++args++b.toList) h=Z (v,h'))(H:R v h'):dQ F (.func (.func f) first b) args h R:=
 ⟨0,v,h',(by simp only[AI.fB,py,y,q,mi];exact u),H⟩
def Fm(a:List I7)(R:aa->aB->Prop):bJ->Env->aB->Prop
 |.normal,e,h=>∃vs,results e h a=Z vs/\gI vs=cd/\R (result vs) h
 |.ret,e,h=>∃vs,results e h a=Z vs/\gI vs=cd/\R (result vs) h
 |.exit _,_,_=>False
@[simp] def Tz{rs R} :Fm rs R .normal e h↔ ∃vs,results e h rs=Z vs/\gI vs=cd/\R (result vs) h:=ED
@[simp] def ae6{rs R} :Fm rs R .ret e h↔ ∃vs,results e h rs=Z vs/\gI vs=cd/\R (result vs) h:=ED
@[simp] def apd{rs R id} :Fm rs R (.exit id) e h↔False:=ED
def aY.ofP{q:cY}{R:aa->aB->Prop}(C:F f=Z q)(A:q.Ap=.no)(H:aN F q.body (params .nil 0 args) h (Fm q.res R)):aY F f args h R:=by
 have⟨n,x,e',h',G,q⟩:=H;cases x with
 |exit id=>exact q.elim
 |normal=>
  have⟨vs,y,u,q⟩:=q;refine⟨n,_,h',?_,q⟩;unfold uw py;rw[C];dsimp only;rw[A];dsimp only;rw[G];dsimp only;rw[y];dsimp only;rw[u];rfl
 |ret=>
  have⟨vs,y,u,q⟩:=q;refine⟨n,_,h',?_,q⟩;unfold uw py;rw[C];dsimp only;rw[A];dsimp only;rw[G];dsimp only;rw[y];dsimp only;rw[u];rfl
def aY.of{a:List I7}{R:aa->aB->Prop}(q:F f=Z ⟨a,body,.no⟩)(H:aN F body (params .nil 0 args) h (Fm a R)):aY F f args h R:=
 aY.ofP q rfl H
end
structure cy(h:aB):Prop where
 wf:∀b o,h.tr.get b=Z o->b<h.ax
 st:∀b cs ro o s,h.tr.get b=Z (.ch cs ro o s)->s<=h.clock
structure az(S:Nat->Prop)(h h':aB):Prop where
 ax:h.ax<=h'.ax
 clock:h.clock<=h'.clock
 same:∀b,b<h.ax->¬S b->h'.tr.get b=h.tr.get b
 ok:cy h'
def aV:Nat->Prop:=λ_=>False
def az.refl(q:cy h):az S h h:=⟨fE _,fE _,λ_ _ _=>rfl,q⟩
def az.trans'{S A y:Nat->Prop}(a:az A h I)(b:az y I O)(V:∀b,b<h.ax->A b->S b)(G:∀b,b<h.ax->y b->S b):az S h O:=
 ⟨wV a.ax b.ax,wV a.clock b.clock,λx q C=>by rw[b.same x (Jy q a.ax) (λu=>C (G x q u)),a.same x q (λu=>C (V x q u))],b.ok⟩
def az.trans(a:az S h I)(b:az S I O):az S h O:=a.trans' b aj aj
def az.cX{S q:Nat->Prop}(a:az S h I)(y:∀b,b<h.ax->S b->q b):az q h I:=
 ⟨a.ax,a.clock,λb u A=>a.same b u (λh=>A (y b u h)),a.ok⟩
def az.cr(a:az aV h I):az S h I:=a.cX λ_ _ h=>h.elim
def az.get{S:Nat->Prop}{h h':aB}(g:az S h h')(y:cy h){b:Nat}{o:qo}(q:h.tr.get b=Z o)(u:¬S b:=by exactλh=>h):h'.tr.get b=Z o:=by rw[g.same b (y.wf b o q) u,q]
def bk(q:cy h):az aV h (tick h):=
 ⟨fE _,hQ _,λ_ _ _=>rfl,⟨q.wf,λb cs u o s y=>OE (q.st b cs u o s y)⟩⟩
def aZ(u:cy h)(cs:List aa)(o:Nat):az aV h (aM h cs o):=by refine⟨hQ _,fE _,λb q _=>?_,⟨λb C q=>?_,λb y A G s q=>?_⟩⟩;simp only[aM,aB.new,Tr.bS];rw[bM J];simp only[aM,aB.new,Tr.bS] at q⊢;by_cases e:b=h.ax;omega;rw[bM e] at q;exact sW (u.wf b C q);simp only[aM,aB.new,Tr.bS] at q⊢;by_cases e:b=h.ax;rw[bH e] at q;cases q;exact kp _;rw[bM e] at q;exact u.st b y A G s q
@[simp] def bY(h:aB)(cs:List aa)(o:Nat):(aM h cs o).tr.get h.ax=Z (.ch cs b9 o 0):=by simp[aM,aB.new,Tr.bS]
@[simp] def xN(h:aB)(cs:List aa)(o:Nat):(aM h cs o).ax=h.ax+1:=rfl
@[simp] def Qr(h:aB)(cs:List aa)(o:Nat):(aM h cs o).clock=h.clock:=rfl
@[simp] def apU(h:aB):(tick h).ax=h.ax:=rfl
@[simp] def awx(h:aB):(tick h).tr=h.tr:=rfl
def fm{b a n:Nat}{c:Bool}{o s:Nat}(q:h.tr.get b=Z (.ch cs c o s))(u:a+n<=Y cs):cC h b a n=Z ((cs.drop a).take n):=by
 unfold cC;rw[q];have:Y ((cs.drop a).take n)=n:=by simp;omega
 simp[this]
def aK(h:aB)(b a n:Nat):cC (tick h) b a n=cC h b a n:=Q
def put(h:aB)(b off:Nat)(cs vs:List aa)(o:Nat):aB:= {h with clock:=h.clock+1,tr:=h.tr.set b (.ch (bg cs off vs) b9 o h.clock)}
@[simp] def bc(h:aB)(b a:Nat)(cs vs:List aa)(o:Nat):(put h b a cs vs o).tr.get b=Z (.ch (bg cs a vs) b9 o h.clock):=by simp[put,Tr.bS]
def aX(u:cy h){b off:Nat}{o s:Nat}(I:h.tr.get b=Z (.ch cs b9 o s)):az (· =b) h (put h b off cs vs o):=by refine⟨fE _,hQ _,λx q c=>?_,⟨λx G q=>?_,λx A C a y q=>?_⟩⟩;simp only[put,Tr.bS];rw[bM c];simp only[put,Tr.bS] at q⊢;by_cases e:x=b;subst e;exact u.wf _ _ I;rw[bM e] at q;exact u.wf x G q;simp only[put,Tr.bS] at q⊢;by_cases e:x=b;rw[bH e] at q;cases q;exact hQ _;rw[bM e] at q;exact OE (u.st x A C a y q)
def kT(u:cy h)(b:Nat):az (· =b) h {h with tr:=h.tr.del b} :=by refine⟨fE _,fE _,λx q a=>?_,⟨λx G q=>?_,λx A C I y q=>?_⟩⟩;simp only[Tr.iw];rw[bM a];simp only[Tr.iw] at q⊢;by_cases e:x=b;rw[bH e] at q;cases q;rw[bM e] at q;exact u.wf x G q;simp only[Tr.iw] at q⊢;by_cases e:x=b;rw[bH e] at q;cases q;rw[bM e] at q;exact u.st x A C I y q
structure ly(α:Type) where
 enc:α->List aa
 sz:Nat
 len:∀x,Y (enc x)=sz
 pos:0<sz
 plain:∀x,(enc x).all plain=cd
namespace ly
variable{α:Type}(E:ly α)
def flat(a:List α):List aa:=a.flatMap E.enc
@[simp] def afc:E.flat []=[]:=rfl
@[simp] def iJ(x:α)(a:List α):E.flat (x::a)=E.enc x++E.flat a:=by simp[flat]
@[simp] def dX(a q:List α):E.flat (a++q)=E.flat a++E.flat q:=by simp[flat]
@[simp] def eN(a:List α):Y (E.flat a)=Y a*E.sz:=by
 induction a with
 |nil=>simp
 |cons x a s=>simp[E.len,s,qB,ik]
def mq(a:List α)(i:Nat):(E.flat a).drop (i*E.sz)=E.flat (a.drop i):=by
 induction a generalizing i with
 |nil=>simp
 |cons x a s=>
  cases i with
  |zero=>simp
  |succ i=>
   rw[iJ,List.drop_succ_cons,<-s i,nV,E.len,show(i+1)*E.sz-E.sz=i*E.sz by rw[qB];omega];have:(E.enc x).drop ((i+1)*E.sz)=[]:=by apply Gb;rw[E.len,qB];omega
   rw[this,z1]
def ij(a:List α)(i:Nat):(E.flat a).take (i*E.sz)=E.flat (a.take i):=by
 induction a generalizing i with
 |nil=>simp
 |cons x a s=>
  cases i with
  |zero=>simp
  |succ i=>
   rw[iJ,List.take_succ_cons,iJ,<-s i,o9,E.len,show(i+1)*E.sz-E.sz=i*E.sz by rw[qB];omega];have:(E.enc x).take ((i+1)*E.sz)=E.enc x:=by apply nz;rw[E.len,qB];omega
   rw[this]
def Cq(a:List α)(i:Nat)(x:α)(h:a[i]?=Z x):((E.flat a).drop (i*E.sz)).take E.sz=E.enc x:=by rw[mq];have q:=(cR.mp h).1;rw[fj q,iJ,o9,E.len,Nat.sub_self,List.take_zero,ye,(cR.mp h).2];exact nz (by rw[E.len];exact fE _)
def rm(b:List α)(i a n:Nat)(x:α)(h:b[i]?=Z x)(q:a+n<=E.sz):((E.flat b).drop (i*E.sz+a)).take n=((E.enc x).drop a).take n:=by rw[<-Cq E b i x h,<-pa,Uc,zD,lA J]
def tz(a:List α)(i:Nat)(x:α)(h:i<Y a):bg (E.flat a) (i*E.sz) (E.enc x)=E.flat (a.set i x):=by unfold bg;rw[ij,E.len,show i*E.sz+E.sz=(i+1)*E.sz by rw[qB];omega,mq,List.set_eq_take_append_cons_drop,bH h,dX,iJ,KN]
end ly
def bj{α:Type}(E:ly α)(h:aB)(v:aa)(d:List α):Prop:=
 ∃a q,v=c6 a (Y d) q/\((d=[]/\(a=K\/∃b c,a=Z ⟨b,c,K⟩))\/∃b c cs u o s,a=Z ⟨b,c,K⟩/\h.tr.get b=Z (.ch cs u o s)/\c+Y d*E.sz<=Y cs/\(cs.drop c).take (Y d*E.sz)=E.flat d)
def bD(v:aa)(b:Nat):Prop:=∃a n q,v=c6 (Z ⟨b,a,K⟩) n q
def bj.grow{E:ly α}{c:List α}(s:bj E h v c)(u:cy h)(g:az S h h')(G:∀b,bD v b->¬S b):bj E h' v c:=by obtain⟨a,q,rfl,s⟩:=s;refine⟨a,q,Q,?_⟩;rcases s with s|⟨b,q,cs,A,o,st,rfl,C,y,I⟩;exact fc s;exact ft ⟨b,q,cs,A,o,st,Q,g.get u C (G b ⟨_,_,_,Q⟩),y,I⟩
def bj.cr{E:ly α}{a:List α}(s:bj E h v a)(q:cy h)(g:az aV h h'):bj E h' v a:=s.grow q g λ_ _ h=>h
def bj.nil{α:Type}(E:ly α)(h:aB)(q:Nat):bj E h (c6 K 0 q) []:=⟨K,q,Q,fc ⟨Q,fc Q⟩⟩
def bj.read{E:ly α}{c:List α}(s:bj E h v c){x:α}(C:c[i]?=Z x):∃b d q,v=c6 (Z ⟨b,d,K⟩) (Y c) q/\i<Y c/\(∃cs y o s,h.tr.get b=Z (.ch cs y o s))/\∀o n,o+n<=E.sz->cC h b (d+i*E.sz+o) n=Z (((E.enc x).drop o).take n):=by
 obtain⟨a,q,rfl,s⟩:=s;have u:=(cR.mp C).1;rcases s with s|⟨b,d,cs,y,o,st,rfl,A,y,I⟩
 rw[s.1] at u;simp at u;refine⟨b,d,q,Q,u,⟨_,_,_,_,A⟩,λG n q=>?_⟩;have V:(i+1)*E.sz<=Y c*E.sz:=Gd _ u;rw[qB] at V;rw[fm A J];congr 1;rw[<-E.rm c i G n x C q,<-I,Uc,zD,pa,lA J,DJ]
def bx{α:Type}(E:ly α)(A:Nat)(h:aB)(v:aa)(a:List α):Prop:=
 (a=[]/\v=c6 K 0 0)\/∃b s,v=c6 (Z ⟨b,0,K⟩) (Y a) (Y a)/\h.tr.get b=Z (.ch (E.flat a) b9 E.sz s)/\a≠[]/\A<=b
def bx.sl{E:ly α}{c:List α}(a:bx E A h v c):bj E h v c:=by rcases a with⟨rfl,rfl⟩|⟨b,s,rfl,q,_,_⟩;exact .nil E h _;exact⟨_,_,Q,ft ⟨b,0,_,_,_,_,Q,q,ag,by simp[nz]⟩⟩
def bx.grow{E:ly α}{c:List α}(a:bx E A h v c)(q:cy h)(g:az S h h')(y:∀b,bD v b->¬S b):bx E A h' v c:=by rcases a with a|⟨b,s,rfl,u,c,C⟩;exact fc a;exact ft ⟨b,s,Q,g.get q u (y b ⟨_,_,_,Q⟩),c,C⟩
def bx.of{E:ly α}{u:List α}(a:bx E A h v u)(o:bD v b):A<=b:=by obtain⟨u,n,q,rfl⟩:=o;rcases a with⟨_,h⟩|⟨y,s,h,_,_,u⟩;cases h;cases h;exact u
def CJ{E:ly α}{q:List α}(I:Y z=E.sz)(s:bj E h v q):news h z b9 v=Z (Y q,E.flat q):=by obtain⟨a,A,rfl,s⟩:=s;rcases s with⟨rfl,rfl|⟨b,u,rfl⟩⟩|⟨b,u,cs,u,o,st,rfl,C,u,G⟩;simp[news];simp[news];rcases q with _|⟨y,q⟩;simp[news];unfold news;dsimp only;rw[show ar (Y (y::q)) 0=b9 from Q,I,fm C u,G];rfl
end Go.AI
namespace Go.AI
variable{S:Nat->Prop}{V:aa->aB->Prop}{g:List aU}{b bytes p k o s t:Nat}{c v:aa}{cs vs z:List aa}{f:aU}{h h' j a:aB}{q:List I7}{B:fP}
section
variable(F:Nat->Option cY)
def ZR(d:Option Nat)(l:List cn)(e:Env)(R:Env->aB->Prop):Option (aa×aB)->Prop
 |some (v,h)=>bm F l (gG e d v) h R
 |none=>False
def ZQ(k:Nat)(a:List Nat)(d:Option Nat)(l:List (cn×List Nat))(e:Env)(R:Env->aB->Prop):Option (aa×aB)->Prop
 |some (v,h)=>still (gG e d v) h k a=cd/\ck F k l (gG e d v) h R
 |none=>False
def aew(R:aa->aB->Prop)(h:aB):Option (List aa)->Prop
 |some vs=>gI vs=cd/\R (result vs) h
 |none=>False
def alL(d:Option Nat)(l:List cn)(e:Env)(R:Env->aB->Prop):aa->aB->Prop:=λv h=>bm F l (gG e d v) h R
def aim(k:Nat)(a:List Nat)(d:Option Nat)(l:List (cn×List Nat))(e:Env)(R:Env->aB->Prop):aa->aB->Prop:=λv h=>still (gG e d v) h k a=cd/\ck F k l (gG e d v) h R
end
section
variable{F:Nat->Option cY}{i:bJ->Env->aB->Prop}{R:Env->aB->Prop}{e:Env}{h:aB}{d:Option Nat}{l:List cn}{k:Nat}{n:List Nat}{m:List (cn×List Nat)}
@[simp] def an3(v:aa)(h:aB):ZR F d l e R (Z (v,h))=bm F l (gG e d v) h R:=rfl
@[simp] def an1(v:aa)(h:aB):ZQ F k n d m e R (Z (v,h))=(still (gG e d v) h k n=cd/\ck F k m (gG e d v) h R):=rfl
@[simp] def an2:ZR F d l e R K=False:=rfl
@[simp] def an0:ZQ F k n d m e R K=False:=rfl
@[simp] def apc(V:aa->aB->Prop)(vs:List aa):aew V h (Z vs)=(gI vs=cd/\V (result vs) h):=rfl
@[simp ↓] def aCl:aN F .skip e h i↔i .normal e h:=adv
@[simp ↓] def aFR:aN F .ret e h i↔i .ret e h:=ahm
@[simp ↓] def aCk{id:Nat} :aN F (.exit id) e h i↔i (.exit id) e h:=adu
@[simp ↓] def aFS{a b:aG} :aN F (.seq a b) e h i↔aN F a e h (J0 F b i):=ahn
@[simp ↓] def awo{id:Nat}{c:aG} :aN F (.block id c) e h i↔aN F c e h (PU id i):=Zj
@[simp ↓] def aFQ{l:List cn} :aN F (.ops l) e h i↔bm F l e h (i .normal):=ahl
@[simp ↓] def aCj{l:List (cn×List Nat)} :aN F (.draw l) e h i↔ck F h.clock l e (tick h) (i .normal):=adt
@[simp ↓] def aCm{c:aU}{a b:aG}(q:ev e c=dd cd):aN F (.cond c a b) e h i↔aN F a e h i:=H0 q
@[simp ↓] def awq{c:aU}{a b:aG}(q:ev e c=dd b9):aN F (.cond c a b) e h i↔aN F b e h i:=H0 q
@[simp ↓] def aFO:bm F [] e h R↔R e h:=agX
@[simp ↓] def aCg:ck F k [] e h R↔R e h:=abw
@[simp ↓] def q_op{a:kD}(y:calls a=b9):bm F (⟨d,K,a⟩::l) e h R↔ZR F d l e R (dh e h a):=by rw[u6,UT y];constructor;rintro⟨v,j,u,q⟩;rw[u];exact q;intro q;rcases u:dh e h a with _|x;rw[u] at q;exact q.elim;rw[u] at q;exact⟨_,_,rfl,q⟩
@[simp ↓] def q_do{a:kD}{b:Bool}(q:bX e t=dd b):bm F (⟨d,Z (t,b),a⟩::l) e h R↔bm F (⟨d,K,a⟩::l) e h R:=by rw[u6,Al q,u6];simp
@[simp ↓] def aCi{a:kD}{b:Bool}(q:bX e t=dd (!b)):bm F (⟨d,Z (t,b),a⟩::l) e h R↔bm F l (gG e d (.tuple #[])) h R:=by rw[u6,Al q];cases b<;>rfl
@[simp ↓] def aFM{a:kD}{b:Bool}(q:bX e t=dd b):ck F k ((⟨d,Z (t,b),a⟩,n)::m) e h R↔ck F k ((⟨d,K,a⟩,n)::m) e h R:=by rw[qW,Al q,qW];simp
@[simp ↓] def awp{a:kD}{b:Bool}(q:bX e t=dd (!b)):ck F k ((⟨d,Z (t,b),a⟩,n)::m) e h R↔(still (gG e d (.tuple #[])) h k n=cd/\ck F k m (gG e d (.tuple #[])) h R):=by rw[qW,Al q];cases b<;>rfl
@[simp ↓] def aFN{a:kD}(y:calls a=b9):ck F k ((⟨d,K,a⟩,n)::m) e h R↔ZQ F k n d m e R (dh e h a):=by rw[qW,UT y];constructor;rintro⟨v,j,u,q⟩;rw[u];exact q;intro q;rcases u:dh e h a with _|x;rw[u] at q;exact q.elim;rw[u] at q;exact⟨_,_,rfl,q⟩
def ag6 :bm F (⟨d,K,.call f g⟩::l) e h R↔dQ F (ev e f) (qi e g) h (alL F d l e R):=by rw[u6,L7];rfl
def aaX :ck F k ((⟨d,K,.call f g⟩,n)::m) e h R↔dQ F (ev e f) (qi e g) h (aim F k n d m e R):=by rw[qW,L7];rfl
def bm.call{f:Nat}{g:List aU}{V:aa->aB->Prop}(H:aY F f (qi e g) h V)(a:∀v h',V v h'->bm F l (gG e d v) h' R):bm F (⟨d,K,.call (.func f) g⟩::l) e h R:=by rw[ag6];have⟨n,v,h',u,q⟩:=H;refine⟨n,v,h',?_,a v h' q⟩;have:=BL u;simpa [ev,AI.fB] using this
def bm.fB(H:dQ F (ev e f) (qi e g) h V)(a:∀v h',V v h'->bm F l (gG e d v) h' R):bm F (⟨d,K,.call f g⟩::l) e h R:=by rw[ag6];exact H.mono a
@[simp] def aih :Fm q V .normal e h↔aew V h (results e h q):=by rw[Tz];cases results e h q<;>simp[aew]
@[simp] def aoE :Fm q V .ret e h↔aew V h (results e h q):=by rw[ae6];cases results e h q<;>simp[aew]
@[simp] def ap0(t:Nat)(v:aa):gG e (Z t) v=Tr.set e t v:=rfl
@[simp] def apZ(v:aa):gG e K v=e:=rfl
@[simp] def ayB(t:Nat):ev e (.tmp t)=bX e t:=rfl
@[simp] def arx(v:aa):ev e (.const v)=v:=rfl
@[simp] def ape(g:Nat):ev e (.global g)=dB (Z ⟨g,0,K⟩):=rfl
@[simp] def avi(f:Nat):ev e (.func f)=.func (.func f) #[] #[]:=rfl
attribute [simp] Env.bS
@[simp] def akN(t:Nat):bX .nil t=.tuple #[]:=rfl
@[simp] def aop(i:Nat):params e i []=e:=rfl
@[simp] def alA(i:Nat)(v:aa)(r:List aa):params e i (v::r)=params (Tr.set e i v) (i+1) r:=rfl
@[simp] def auU:qi e []=[]:=rfl
@[simp] def ap_(x:aU)(a:List aU):qi e (x::a)=ev e x::qi e a:=rfl
@[simp] def ao9(a:kD):calls a=(match a with|.call _ _=>cd|_=>b9):=by cases a<;>rfl
attribute [simp] dh agg width xz di jv jS FD XS flat cellsOf plain oM bound results result gI rR simple still
def gi(h:aB)(z:List aa)(bytes:Nat)(q:Bool)(s x:aa):Option (aa×aB):=
 match news h z q x with
 |some (n,cs)=>dz h z bytes s n cs
 |none=>K
@[simp ↓ high] def aoi(z:List aa)(bytes:Nat)(q:Bool)(s x:aU):dh e h (.append z bytes q s x)=gi h z bytes q (ev e s) (ev e x):=rfl
@[simp] def alF(cs vs:List aa):bg cs 0 vs=vs++cs.drop (Y vs):=by simp[bg]
@[simp] def alE(c:aa)(cs vs:List aa)(k:Nat):bg (c::cs) (k+1) vs=c::bg cs k vs:=by simp[bg,Nat.add_right_comm k 1]
@[simp] def alK(h:aB)(b i:Nat)(vs:List aa):gq h b i vs=match h.tr.get b with
  |some (.ch cs b9 o _)=>if i+Y vs<=Y cs then Z (put h b i cs vs o) else K
  |_=>K:=by
 unfold gq;rcases h.tr.get b with _|x;rfl
 .cases x with
  |ch cs u o s=>
   cases u;dsimp only;by_cases q:i+Y vs<=Y cs<;>simp[q,put];rfl
  |loop=>rfl
  |map=>rfl
  |itr=>rfl
@[simp] def ay(h:aB)(b i n:Nat):cC h b i n=match h.tr.get b with
  |some (.ch cs _ _ _)=>if i+n<=Y cs then Z ((cs.drop i).take n) else if n=0 then Z [] else K
  |_=>K:=by
 unfold cC;rcases h.tr.get b with _|x;rfl
 .cases x with
  |ch cs C o s=>
   dsimp only;have A:Y ((cs.drop i).take n)=min n (Y cs-i):=ag
   by_cases u:i+n<=Y cs
   .have:Y ((cs.drop i).take n)=n:=J
    simp[u,this]
   .simp only[u,if_false];by_cases y:n=0;subst y;simp
    .have:¬(Y ((cs.drop i).take n))=n:=J
     have q:ar (Y ((cs.drop i).take n)) n=b9:=by cases q:ar (Y ((cs.drop i).take n)) n;rfl;exact absurd (qm q) this
     simp only[q,y,if_false,Jl]
  |loop=>rfl
  |map=>rfl
  |itr=>rfl
def xD(h:aB)(cs:List aa)(o b:Nat):(aM h cs o).tr.get b=if b=h.ax then Z (.ch cs b9 o 0) else h.tr.get b:=by simp[aM,aB.new,Tr.bS]
def KP(h:aB)(b a:Nat)(cs vs:List aa)(o j:Nat):(put h b a cs vs o).tr.get j=if j=b then Z (.ch (bg cs a vs) b9 o h.clock) else h.tr.get j:=by simp[put,Tr.bS]
attribute [simp] xD KP
@[simp] def at2(h:aB)(b a:Nat)(cs vs:List aa)(o:Nat):(put h b a cs vs o).ax=h.ax:=rfl
@[simp] def ao_(h:aB)(b a:Nat)(cs vs:List aa)(o:Nat):(put h b a cs vs o).clock=h.clock+1:=rfl
@[simp] def al4(h:aB):(tick h).clock=h.clock+1:=rfl
def az.new(g:az S h a)(cs:List aa)(o:Nat):az S h (aM a cs o):=g.trans (aZ g.ok cs o).cr
def az.tick{S:Nat->Prop}{h a:aB}(g:az S h a):az S h (tick a):=g.trans (bk g.ok).cr
def az.put{S:Nat->Prop}{h a:aB}{b off:Nat}{cs vs:List aa}{o:Nat}(g:az S h a)(u:∃s,a.tr.get b=Z (.ch cs b9 o s))(q:h.ax<=b\/S b):az S h (put a b off cs vs o):=by have⟨s,u⟩:=u;refine g.trans' (aX g.ok u) aj λx y e=>?_;rcases q with q|q;omega;rw[e];exact q
@[simp] def aqW(p:aa->Bool):([]:List aa).all p=cd:=rfl
end
section
variable{F:Nat->Option cY}{d:bJ->Env->aB->Prop}{e:Env}{h:aB}
def Iw(h:aB)(l:Nat):aB:= {h with tr:=h.tr.del l}
def zI(l:Nat)(e:Env)(d:bJ->Env->aB->Prop)(h:aB):Prop:=
 match h.tr.get l with
 |some (.loop _ _ _ _ .ready)=>d .normal e (Iw h l)
 |some (.loop _ _ _ _ (.done K))=>d .ret e (Iw h l)
 |some (.loop _ _ _ _ (.done (Z id)))=>d (.exit id) e (Iw h l)
 |_=>False
def aN.RO{f:aU}{y:List Nat}{a b:aG}{g:Nat}{first caps:Array aa}(A:ev e f=.func (.func g) first caps)(H:aY F g (first.toList++[.func (.yield h.ax) #[] #[]]++caps.toList) (h.new (.loop e y a b .ready)) (λ_ h'=>zI h.ax e d h')):aN F (.RO f y a b) e h d:=by
 obtain⟨n,v,h',C,q⟩:=H;have u:run F (n+1) (.RO f y a b) e h=(match h'.tr.get h.ax with
    |some (.loop _ _ _ _ .ready)=>Z (.normal,e,{h' with tr:=h'.tr.del h.ax})
    |some (.loop _ _ _ _ (.done K))=>Z (.ret,e,{h' with tr:=h'.tr.del h.ax})
    |some (.loop _ _ _ _ (.done (Z id)))=>Z (.exit id,e,{h' with tr:=h'.tr.del h.ax})
    |_=>K):=by
  rw[fH];unfold dg;dsimp only;rw[A];dsimp only;rw[C];rfl
 unfold zI at q;split at q;rename_i y;rw[y] at u;exact⟨n+1,_,_,_,u,q⟩;rename_i y;rw[y] at u;exact⟨n+1,_,_,_,u,q⟩;rename_i y;rw[y] at u;exact⟨n+1,_,_,_,u,q⟩;exact q.elim
def aeJ(l:Nat)(q:Env)(g:List Nat)(e f:aG)(R:aa->aB->Prop):bJ->Env->aB->Prop
 |.normal,_,h=>(∃a b c d,h.tr.get l=Z (.loop a b c d .busy)/\a=q/\b=g/\c=e/\d=f)/\R (dd cd) (gm h l q g e f .ready)
 |.ret,_,h=>(∃a b c d,h.tr.get l=Z (.loop a b c d .busy)/\a=q/\b=g/\c=e/\d=f)/\R (dd b9) (gm h l q g e f (.done K))
 |.exit id,_,h=>(∃a b c d,h.tr.get l=Z (.loop a b c d .busy)/\a=q/\b=g/\c=e/\d=f)/\R (dd b9) (gm h l q g e f (.done (Z id)))
def dQ.yield{l:Nat}{q:Env}{e:List Nat}{j O:aG}{a b:Array aa}{g:List aa}{R:aa->aB->Prop}{z:Env}(M:h.tr.get l=Z (.loop q e j O .ready))(p:fW q e g=Z z)(H:aN F j z h (λx T G=>x=.normal/\G.tr.get l=Z (.loop q e j O .ready)/\aN F O T (gm G l q e j O .busy) (aeJ l q e j O R))):dQ F (.func (.yield l) a b) g h R:=by
 obtain⟨n,x,T,G,O,rfl,x,m,y,G,U,C,u⟩:=H;have I:=tT (nY n m) _ _ _ _ O;have W:=tT (nE n m) _ _ _ _ C;have z:fB F (run F (max n m)) (.func (.yield l) a b) g h=(match(y,G,U) with
   |(.normal,_,h)=>nk l h .ready cd
   |(.ret,_,h)=>nk l h (.done K) b9
   |(.exit id,_,h)=>nk l h (.done (Z id)) b9:Option (aa×aB)):=by
  clear u;unfold fB;dsimp only;unfold tS;rw[M];dsimp only;rw[p];dsimp only;rw[I];dsimp only;unfold yA;rw[x];dsimp only;simp only[W];cases y<;>rfl
 cases y with
 |normal=>
  obtain⟨⟨_,_,_,_,A,rfl,rfl,rfl,rfl⟩,u⟩:=u;exact⟨max n m,_,_,by rw[z];dsimp only;unfold nk;rw[A],u⟩
 |ret=>
  obtain⟨⟨_,_,_,_,A,rfl,rfl,rfl,rfl⟩,u⟩:=u;exact⟨max n m,_,_,by rw[z];dsimp only;unfold nk;rw[A],u⟩
 |exit id=>
  obtain⟨⟨_,_,_,_,A,rfl,rfl,rfl,rfl⟩,u⟩:=u;exact⟨max n m,_,_,by rw[z];dsimp only;unfold nk;rw[A],u⟩
end
def bZ(n:Int)(h: -9223372036854775808<=n)(h':n<9223372036854775808):IntKind.i64.wrap n=n:=by simp only[IntKind.wrap,IntKind.signed,IntKind.bits];simp;omega
def r9{u:Type}{E:ly u}(C:cy h){n0 bytes:Nat}{v w:aa}{xs q:List u}(u:Y z=E.sz)(a:bx E n0 h v xs)(O:bj E h w q)(c:Y xs+Y q<1000000)(W:bytes<=1000)(M:n0<=h.ax):∃A h',gi h z bytes b9 v w=Z (A,h')/\bx E n0 h' A (xs++q)/\az (bD v) h h':=by
 unfold gi;rw[CJ u O];dsimp only;have A:=E.pos;have U:E.sz≠0:=J
 rcases q with _|⟨y,q⟩;refine⟨v,h,?_,ak a,.refl C⟩;rcases a with⟨rfl,rfl⟩|⟨b,s,rfl,_,_,_⟩;simp[dz,u,A];simp[dz,u,A]
 .have I:roomy (Y xs+(Y q+1))=cd:=by simp[roomy];simp at c;omega
  have G:roomy ((Y xs+(Y q+1))*bytes)=cd:=by have:(Y xs+(Y q+1))*bytes<=1000000*1000:=Nat.mul_le_mul (by simp at c;omega) W;simp[roomy];omega
  rcases a with⟨rfl,rfl⟩|⟨b,s,rfl,c,W,W⟩;simp only[List.length_nil,Je] at I G;refine⟨c6 (Z ⟨h.ax,0,K⟩) (Y q+1) (Y q+1),aM h (E.flat (y::q)) E.sz,?_,ft ⟨h.ax,0,ag,ag,ag,M⟩,(aZ C _ _).cr⟩;simp[dz,u,A,I,G]
  .refine⟨c6 (Z ⟨h.ax,0,K⟩) (Y xs+(Y q+1)) (Y xs+(Y q+1)),aM {h with tr:=h.tr.del b} (E.flat xs++E.flat (y::q)) E.sz,?_,ft ⟨h.ax,0,ag,?_,ag,M⟩,?_⟩
   .have W:¬(Y xs)+(Y q+1)<=Y xs:=J
    have M:(E.flat xs).take (Y xs*E.sz)=E.flat xs:=nz ag;simp[dz,u,A,I,G,c,W,M,U]
   have:=bY {h with tr:=h.tr.del b} (E.flat xs++E.flat (y::q)) E.sz;rw[ly.dX];exact this;refine((kT C b).cX ?_).trans (aZ (kT C b).ok _ _).cr;rintro x _ rfl;exact⟨_,_,_,Q⟩
def Old(b:Nat)(h:aB):Prop:=b<h.ax
def Old.lt(o:Old b h):b<h.ax:=o
@[simp] def ael(h:aB)(cs:List aa)(o:Nat):Old h.ax (aM h cs o):=sM _
@[simp] def acQ(h:aB)(cs:List aa)(o:Nat):Old h.ax (aM h cs o)=True:=ag
@[simp] def awi(b:Nat)(h:aB)(c a:Nat)(cs vs:List aa)(o:Nat):Old b (put h c a cs vs o)↔Old b h:=ED
@[simp] def auk(b:Nat)(h:aB):Old b (tick h)↔Old b h:=ED
@[simp] def aoh(H:Old b h):Old b (aM h cs o):=sW H
@[simp] def aB1(H:Old b h):(b=h.ax)=False:=by have:b<h.ax:=H;exact propext ⟨λe=>J,zv⟩
@[simp] def awg(H:Old b h):(h.ax=b)=False:=by have:b<h.ax:=H;exact propext ⟨λe=>J,zv⟩
@[simp] def awh(H:Old b h):(b=h.ax+k)=False:=by have:b<h.ax:=H;exact propext ⟨λe=>J,zv⟩
@[simp] def auj(H:Old b h):(h.ax+k=b)=False:=by have:b<h.ax:=H;exact propext ⟨λe=>J,zv⟩
def az.bU(g:az S h h')(H:Old b h):Old b h':=Jy H g.ax
def az.got(g:az aV h h')(H:Old b h):h'.tr.get b=h.tr.get b:=g.same b H (λh=>h)
def cy.bU(q:cy h){o:qo}(u:h.tr.get b=Z o):Old b h:=q.wf _ _ u
def az.var(g:az S h a)(q vs:List aa):az S h (AI.put (AI.aM a q 0) a.ax 0 q vs 0):=
 (g.new q 0).put ⟨_,bY _ _ _⟩ (fc g.ax)
def vS(H:Old b h)(cs:List aa)(o:Nat):(aM h cs o).tr.get b=h.tr.get b:=by rw[xD,bM (by intro e;have:=H.lt;omega)]
def bh(H:Old b h)(cs:List aa)(o a n:Nat):cC (aM h cs o) b a n=cC h b a n:=by unfold cC;rw[xD,bM (by intro e;have:=H.lt;omega)]
def cw{b c:Nat}(H:¬b=c)(cs vs:List aa)(o a q n:Nat):cC (put h c q cs vs o) b a n=cC h b a n:=by unfold cC;rw[KP,bM H]
def aD{a:Bool}(q:h.tr.get b=Z (.ch cs a o s))(a n:Nat):cC h b a n=if a+n<=Y cs then Z ((cs.drop a).take n) else if n=0 then Z [] else K:=by rw[ay,q]
def aJ(h:aB)(b q:Nat)(cs vs:List aa)(o a n:Nat):cC (put h b q cs vs o) b a n=if a+n<=Y (bg cs q vs) then Z (((bg cs q vs).drop a).take n) else if n=0 then Z [] else K:=
 aD (bc h b q cs vs o) a n
def dO(h:aB)(cs:List aa)(o a n:Nat):cC (aM h cs o) h.ax a n=if a+n<=Y cs then Z ((cs.drop a).take n) else if n=0 then Z [] else K:=
 aD (bY h cs o) a n
def KO(o:qo)(H:Old b h):(h.new o).tr.get b=h.tr.get b:=by simp only[aB.new,Tr.bS];rw[bM (by intro e;have:=H.lt;omega)]
def zI.ready{l:Nat}{e:Env}{d:bJ->Env->aB->Prop}{h:aB}{a:Env}{b:List Nat}{c f:aG}(q:h.tr.get l=Z (.loop a b c f .ready))(H:d .normal e (Iw h l)):zI l e d h:=by unfold zI;rw[q];exact H
section
variable{F:Nat->Option cY}{d:bJ->Env->aB->Prop}{R:Env->aB->Prop}{e:Env}{h:aB}{l:List cn}{k:Nat}{m:List (cn×List Nat)}
def aN.cut{c:aG}(P:aB->Prop)(q:P j)(a:∀h',P h'->aN F c e h' d):aN F c e j d:=a j q
def bm.cut(P:aB->Prop)(q:P j)(a:∀h',P h'->bm F l e h' R):bm F l e j R:=a j q
def ck.cut(P:aB->Prop)(q:P j)(a:∀h',P h'->ck F k m e h' R):ck F k m e j R:=a j q
def ck.call{d:Option Nat}{f:Nat}{g:List aU}{a:List Nat}{V:aa->aB->Prop}(H:aY F f (qi e g) h V)(b:∀v h',V v h'->still (gG e d v) h' k a=cd/\ck F k m (gG e d v) h' R):ck F k ((⟨d,K,.call (.func f) g⟩,a)::m) e h R:=by rw[aaX];have⟨n,v,h',u,q⟩:=H;refine⟨n,v,h',?_,b v h' q⟩;have:=BL u;simpa [ev,AI.fB] using this
def ck.fB{d:Option Nat}{a:List Nat}(H:dQ F (ev e f) (qi e g) h V)(b:∀v h',V v h'->still (gG e d v) h' k a=cd/\ck F k m (gG e d v) h' R):ck F k ((⟨d,K,.call f g⟩,a)::m) e h R:=by rw[aaX];exact H.mono b
end
def jQ(z:List aa)(o bytes p a:Nat):aG:=(G_ [o_ 6 (.mv (.const (c6 K 0 0)))] (G_ [m_ 10 0,m_ 11 1,o_ 12 (.slice o (t_ 10) (Z (t_ 11)) K K)] (G_ [m_ 13 2,z_ 14 13,m_ 7 14] (J_ (G_ [m_ 15 7,o_ 16 (.bin .eql [1] (t_ 15) (i_ 0))] (I_ 16 (G_ [m_ 17 0,m_ 6 17] .ret) .skip)) (G_ [m_ 18 0,z_ 19 18,m_ 8 19] (J_ (G_ [m_ 20 1,m_ 21 8,o_ 22 (.bin .eql [1] (t_ 20) (t_ 21))] (I_ 22 (G_ [m_ 23 0,m_ 24 2,o_ 25 (.append z bytes b9 (t_ 23) (t_ 24)),m_ 6 25] .ret) .skip)) (J_ (G_ [m_ 26 8,m_ 27 7,B_ 28 .add 26 27,m_ 29 0,o_ 30 (.WL (t_ 29)),B_ 31 .gtr 28 30] (I_ 31 (G_ [m_ 32 0,m_ 33 1,o_ 34 (.slice o (t_ 32) K (Z (t_ 33)) K),m_ 35 8,m_ 36 7,B_ 37 .add 35 36,m_ 38 1,B_ 39 .sub 37 38,o_ 40 (.append z bytes cd (t_ 34) (t_ 39)),m_ 9 40] (G_ [m_ 41 9,m_ 42 1,o_ 43 (.slice o (t_ 41) (Z (t_ 42)) K K),m_ 44 2,o_ 45 (.copy o (t_ 43) (t_ 44))] (J_ (V_ [D_ (m_ 46 9),D_ (m_ 47 1),D_ (m_ 48 7),D_ (B_ 49 .add 47 48),(o_ 50 (.slice o (t_ 46) (Z (t_ 49)) K K),[]),D_ (m_ 51 0),D_ (m_ 52 1),(o_ 53 (.slice o (t_ 51) (Z (t_ 52)) K K),[]),(o_ 54 (.copy o (t_ 50) (t_ 53)),[])]) (G_ [m_ 55 9,m_ 6 55] .ret)))) .skip)) (G_ [m_ 56 0,m_ 57 8,m_ 58 7,B_ 59 .add 57 58,o_ 60 (.slice o (t_ 56) K (Z (t_ 59)) K),m_ 0 60] (J_ (G_ [m_ 61 2,m_ 62 0,m_ 63 1,m_ 64 7,B_ 65 .add 63 64,o_ 66 (.slice o (t_ 62) (Z (t_ 65)) K K),o_ 67 (.call (.func p) [t_ 61,t_ 66]),o_ 68 (.un .not (t_ 67))] (I_ 68 (J_ (V_ [D_ (m_ 69 0),D_ (m_ 70 1),D_ (m_ 71 7),D_ (B_ 72 .add 70 71),(o_ 73 (.slice o (t_ 69) (Z (t_ 72)) K K),[]),D_ (m_ 74 0),D_ (m_ 75 1),(o_ 76 (.slice o (t_ 74) (Z (t_ 75)) K K),[]),(o_ 77 (.copy o (t_ 73) (t_ 76)),[])]) (G_ [m_ 78 0,m_ 79 1,o_ 80 (.slice o (t_ 78) (Z (t_ 79)) K K),m_ 81 2,o_ 82 (.copy o (t_ 80) (t_ 81))] (G_ [m_ 83 0,m_ 6 83] .ret))) .skip)) (G_ [m_ 84 0,m_ 85 8,o_ 86 (.slice o (t_ 84) (Z (t_ 85)) K K),m_ 87 2,o_ 88 (.copy o (t_ 86) (t_ 87))] (G_ [m_ 89 0,m_ 90 1,o_ 91 (.slice o (t_ 89) (Z (t_ 90)) K K),m_ 92 7,o_ 93 (.call (.func a) [t_ 91,t_ 92])] (G_ [m_ 94 0,m_ 6 94] .ret))))))))))))
def aQ(cs vs:List aa)(a i b o:Nat):List aa:=(cs.drop a).take (i*o)++vs++(cs.drop (a+i*o)).take ((b-i)*o)
def anT{a i o b:Nat}(q:Y vs=o)(I:i<b)(C:a+(b+1)*o<=Y cs):bg (bg cs (a+(i+1)*o) ((cs.drop (a+i*o)).take ((b-i)*o))) (a+i*o) vs=cs.take a++aQ cs vs a i b o++cs.drop (a+(b+1)*o):=by
 have A:(i+1)*o=i*o+o:=by rw[qB];omega
 have A:(b+1)*o=b*o+o:=by rw[qB];omega
 have G:i*o+(b-i)*o=b*o:=by rw[<-qB];congr 1;omega
 have y:Y ((cs.drop (a+i*o)).take ((b-i)*o))=(b-i)*o:=by simp;omega
 unfold bg aQ;rw[y,q];have u:(cs.take (a+(i+1)*o)++(cs.drop (a+i*o)).take ((b-i)*o)++cs.drop (a+(i+1)*o+(b-i)*o)).take (a+i*o)=cs.take a++(cs.drop a).take (i*o):=by rw[KN,List.take_append_of_le_length (by simp;omega),zD,lA J,List.take_add]
 have y:(cs.take (a+(i+1)*o)++(cs.drop (a+i*o)).take ((b-i)*o)++cs.drop (a+(i+1)*o+(b-i)*o)).drop (a+i*o+o)=(cs.drop (a+i*o)).take ((b-i)*o)++cs.drop (a+(b+1)*o):=by
  rw[KN,nV,List.length_take,lA J,show a+i*o+o-(a+(i+1)*o)=0 by omega,List.drop_zero,Gb (by simp;omega),z1,show a+(i+1)*o+(b-i)*o=a+(b+1)*o by omega]
 rw[u,y];simp only[KN]
def Ut{F:Nat->Option cY}{f p E:Nat}{a:cY}(N:F f=Z ⟨[.tmp 6],jQ z o bytes p E,.no⟩)(E:F p=Z a)(S:a.Ap=.Rx)(a:0<o){b off a q i x y xc:Nat}{s c:Nat}{L:List aa}{A:Nat}(T:i<a)(d:a<q)(d:a<1000000)(d:dR h b cs s)(w:off+q*o<=Y cs)(w:h.tr.get x=Z (.ch L b9 A c))(A:cC h x y o=Z vs)(V:b≠x):aY F f [c6 (Z ⟨b,off,K⟩) a q,dC ef i,c6 (Z ⟨x,y,K⟩) 1 xc] h (λv h'=>v=c6 (Z ⟨b,off,K⟩) (a+1) q/\h'.ax=h.ax/\h.clock<=h'.clock/\(∀y,y<h.ax->y≠b->h'.tr.get y=h.tr.get y)/\∃L,h'.tr.get b=Z (.ch (cs.take off++aQ cs vs off i a o++cs.drop (off+(a+1)*o)) b9 0 L)):=by
 have⟨L,c⟩:∃L,L=a+1:=⟨_,Q⟩;have⟨I,r⟩:∃I,I=i+1:=⟨_,Q⟩;rw[<-c];have W:IntKind.i64.wrap ((a:Int)+1)=(L:Int):=by rw[bZ _ J J];omega
 have j:IntKind.i64.wrap ((i:Int)+1)=(I:Int):=by rw[bZ _ J J];omega
 have m:((i:Int)==(a:Int))=b9:=by simp;omega
 have D:¬q<L:=J
 have u:L<=q:=J
 have n:i<=a:=J
 have l:i<=L:=J
 have t:I<=L:=J
 have B:Nat.min 1 (L-i)=1:=by show min 1 (L-i)=1;omega
 have k:Nat.min (L-i) (L-I)=a-i:=by show min (L-i) (L-I)=a-i;omega
 have g:¬a-i=0:=J
 have G:i*o+(a-i)*o=a*o:=by rw[<-qB];congr 1;omega
 have G:L*o=a*o+o:=by rw[c,qB];omega
 have G:I*o=i*o+o:=by rw[r,qB];omega
 have G:L*o<=q*o:=Gd _ u;have G:Y vs=o:=by unfold cC at A;rw[w] at A;dsimp only at A;split at A;rename_i L;cases A;exact qm L;cases A
 have L:cC h b (off+i*o) ((a-i)*o)=Z ((cs.drop (off+i*o)).take ((a-i)*o)):=fm d J;have H:Y ((cs.drop (off+i*o)).take ((a-i)*o))=(a-i)*o:=by simp;omega
 have P:min ((a-i)*o) (Y cs-(off+i*o))=(a-i)*o:=J
 have O:off+I*o+(a-i)*o<=Y cs:=J
 have M:Y (bg cs (off+I*o) ((cs.drop (off+i*o)).take ((a-i)*o)))=Y cs:=by simp[bg];omega
 have U:off+i*o+o<=Y cs:=J
 have C:¬x=b:=λe=>V e.symm;refine aY.of N ?_;unfold jQ;simp[W,j,m,D,u,n,l,t,B,k,g,d];refine bm.fB (V:=λv h'=>v=dd b9/\h'=h) (dQ.Rx E S (v:=.bool b9) (h':=h) ?_ ⟨Q,Q⟩) ?_
 .have E:ar x b=b9:=by cases e:ar x b;rfl;exact absurd (qm e) C
  simp[Y6,w,d,E]
 rintro _ h'⟨rfl,e⟩;subst e;simp[W,j,m,D,u,n,l,t,B,k,g,d,L,aK,cw,A,G,H,P,O,M,U,C,-ay];refine⟨J,λy _ y=>av y,?_⟩;rw[r,c,anT G T (by rw[<-c];omega)];simp only[KN]
def jR(o:Nat)(g:List aa)(h:aB):Option (aa×aB):=
 match g with
 |[c6 (Z ⟨b,c,K⟩) a q,dC ef (.ofNat i),c6 (Z ⟨x,u,K⟩) m _]=>
  match h.tr.get b,h.tr.get x with
  |some (.ch cs b9 d _),Z (.ch _ b9 _ _)=>
   if ar a q&&eR i a&&ar m 1&&ar d o&&ar (c+q*o) (Y cs)&& !(ar b x)&&eR a 1000000 then
    match cC h x u o with
    |some vs=>Z (c6 (Z ⟨h.ax+8,0,K⟩) (a+1) (a+1),aM {h with ax:=h.ax+8,tr:=h.tr.del b} (aQ cs vs c i a o) o)
    |none=>K
   else K
  |_,_=>K
 |_=>K
section
variable{P:b7}{l:dy}{B d:fP}{h e:aB}{w i:c5}
def To(k:KR B v c)(q:dt v=cd):dt c=cd:=by
 cases k with
 |cell k=>cases k<;>first|exact q|cases q
 |fn=>cases q
 |yield=>cases q
end
section
variable{P:b7}{T:tU}{d:Nat}{F:Nat->Option cY}
def J6{a b c:aa}{l:List aa}(h:bQ (VR B) [a,b,c] l):∃x y z,l=[x,y,z]/\VR B a x/\VR B b y/\VR B c z:=by
 cases h with
 |cons j h=>cases h with
  |cons q h=>cases h with
   |cons u h=>cases h with
    |nil=>exact⟨_,_,_,Q,j,q,u⟩
def fp{b o a u:Nat}(h:VR B (c6 (Z ⟨b,o,K⟩) a u) c):∃r y q,B b=Z r/\xg r o a u y q/\c=c6 (Z y) a q:=by
 have:=CR.HV h rfl;cases this with
 |slice h' A=>exact⟨_,_,_,h',A,Q⟩
end
def Sl(F:Nat->Option cY)(p:Nat)(f:Nat):Option cY:=bif ar f p then Z ⟨[],.bad,.Rx⟩ else F f
section
variable{P:b7}{T:tU}{d:Nat}{F:Nat->Option cY}
def ZH{a:vd}(y:Ha P T d a F)(u:ZS P T p):Ha P T d a (Sl F p):=by intro f A h;unfold Sl at h;cases q:ar f p;rw[q] at h;exact y f A h;rw[q] at h;cases h;rw[qm q];exact u
end
end Go.AI
