/- Parts of the proof. -/
import Derived.Test.YtdhnndleffachaaGreatDoorP01
import Derived.WideKeyArgs
import Derived.OpenShut
import Derived.Test.YtdhnndleffachaaGreatDoorProg
import Derived.KernelRfl
set_option linter.all false
namespace Go.AI
variable{W:World}
def Kept(W W':World):Prop:=W'.os=W.os/\W'.output=W.output/\W.heap.size<=W'.heap.size/\∀i,i<W.heap.size->W'.heap[i]?=W.heap[i]?
theorem Kept.keptBut{W W':World}(h:Kept W W')(may:MemPlace->Prop):W.keptBut W' may:=by
 refine⟨h.1,h.2.1,fun i hi=>?_⟩;rw[h.2.2.2 i hi];cases hx:W.heap[i]? with
 |none=>rfl
 |some o=>
  cases o with
  |cells cc t fr=>exact⟨rfl,rfl,rfl,fun _ _=>rfl⟩
  |map es cl=>exact .inr ⟨rfl,rfl⟩
  |_=>rfl
theorem Kept.sameAt{W W':World}(h:Kept W W'){p:MemPlace}(hp:p.block<W.heap.size):W.sameAt W' p:=by
 cases p with
 |cell b off=>simp only[World.sameAt,World.cell?,h.2.2.2 b hp]
 |map b=>exact h.2.2.2 b hp
theorem Kept.frozen{W W':World}(h:Kept W W'){b off:Nat}(hb:b<W.heap.size):W'.frozen? ⟨b,off,none⟩=W.frozen? ⟨b,off,none⟩:=by simp only[World.frozen?,h.2.2.2 b hb]
section
variable{P:Program}{T:r8}{ng:Nat}{F:Nat->Option bZ}
theorem law_read(hF:Hx P T ng (eI T ng) F)(hT:dv P T){f:Nat}{args cq:List Value}{h:ab}(H:aE F f args h (fun v _=>v=.bool true)){ρ:eU}(S:dI (ig T ng (eI T ng)) ρ h W)(hG:cQ ng ρ)(ha:All2 (VR ρ) args cq)(LV:∀b,¬eH h b):Calls P f ⟨cq⟩ W (fun e W'=>e=.returned (.bool true)/\Kept W W'):=by
 obtain⟨n,v,h',hr,rfl⟩:=H;intro e_;obtain⟨fn,ρ',w',c,fr,_,_,_,h4,h5,h6,h7,_,h9⟩:=z7 hF hT hr S hG ha e_;have OO:=h7.nh;subst OO;exact⟨.returned (.bool true),w',fr,⟨rfl,h9.os,h9.output,h9.size,fun i hi=>h9.uQ i hi (fun b r _ hw=>absurd hw (LV b))⟩,h4,h5,h6⟩
end
section
open Go.ChangeShapes Go.WideShapes Go.ChangeAt
variable{H:Type}{enc:TypeId×Value->H}{P:Program}
theorem post_of_read{f:Func}{s:ChangeSpec}{apart fresh handsOn again:Bool}{W W':World}{args:Array Value}{v:Value}{ds gs:List (DataW H)}{before:List MemPlace}(hW:DataW.Whole enc P f.params.toList s.vars apart W args.toList ds gs before)(abD:∀(b:Nat)(sp:Nat->Bool)(hd:Bool),DataW.TrodAll enc P W' b sp hd f.resultTypes.toList (v.resultList f.resultTypes.size) (s.fn H (ds++gs)).results [])(Bv:∀sp:Nat->Bool,(∀p∈before,sp p.block=true)->DataW.TrodAll enc P W' 0 sp true f.params.toList args.toList (s.fn H (ds++gs)).args before)(adK:∀sp:Nat->Bool,(∀p∈before,sp p.block=true)->DataW.TrodVars enc P W' sp s.vars (s.fn H (ds++gs)).vars [])(hk:Kept W W')(eX:∀(j:Nat)(t:TypeId)(r:Value),f.resultTypes[j]?=some t->(v.resultList f.resultTypes.size)[j]?=some r->Value.okWide P W' .any 0 t r):s.post enc P f apart fresh handsOn again W args v W':=by
 have hold:∀p∈before,(fun b=>decide (b<W.heap.size)) p.block=true:=fun p hp=>by simpa using hW.lt p hp
 refine⟨ds,gs,before,[],before,[],hW,abD _ _ _,Bv _ hold,adK _ hold,World.keptBut_mono (fun p hp=>⟨hp,.inr (.inl hp)⟩) (hk.keptBut _),fun _=>?_⟩;have dQ:=hW.lt;obtain⟨_,_,_,_,_,hz,hn⟩:=hW;refine⟨eX,_,_,([]++before)++[],⟨[]++before,[],trodAll_append (Bv _ (fun _ _=>rfl)) (abD _ _ _),adK _ (fun _ _=>rfl),rfl,?_,?_⟩,?_⟩
 .intro b off hp;simp only[List.nil_append,List.append_nil] at hp;rw[hk.frozen (b:=b) (dQ (.cell b off) hp)];exact hz b off hp
 .intro ha;simpa using hn ha
 .intro p hp _;simpa using hp
end
end Go.AI
namespace Go.AI
open Go.ChangeShapes Go.WideShapes
variable{a:Addr}{h:ab}{k:Option Nat}{v:Value}{ρ:eU}
inductive Ty where
 |bool
 |int (k:IntKind)
 |str
 |unit
 |pair (a b:Ty)
 |sl (e:Ty)
namespace Ty
def sz:Ty->Nat
 |.bool=>1
 |.int _=>1
 |.str=>1
 |.unit=>0
 |.pair a b=>a.sz+b.sz
 |.sl _=>1
def den:Ty->Type
 |.bool=>Bool
 |.int _=>Int
 |.str=>ByteArray
 |.unit=>Unit
 |.pair a b=>a.den×b.den
 |.sl e=>List e.den
def rep(e:Ty):Nat->Ty
 |0=>.unit
 |n+1=>.pair e (e.rep n)
end Ty
def SliceR{α:Type}(R:List Value->α->Prop)(sz:Nat)(h:ab)(v:Value)(xs:List α):Prop:=
 ∃a cap,v=.slice a xs.length cap/\((xs=[]/\(a=none\/∃b off,a=some ⟨b,off,none⟩))\/∃b off cs ro o s,a=some ⟨b,off,none⟩/\h.tr.get b=some (.aC cs ro o s)/\∀i x,xs[i]?=some x->((cs.drop (off+i*sz)).take sz).length=sz/\R ((cs.drop (off+i*sz)).take sz) x)
def rep:(T:Ty)->ab->List Value->T.den->Prop
 |.bool,_,cs,b=>cs=[.bool b]
 |.int k,_,cs,n=>cs=[.int k n]
 |.str,_,cs,s=>cs=[.string s]
 |.unit,_,cs,_=>cs=[]
 |.pair a b,h,cs,(x,y)=>∃c1 c2,cs=c1++c2/\rep a h c1 x/\rep b h c2 y
 |.sl e,h,cs,xs=>∃v,cs=[v]/\SliceR (rep e h) e.sz h v xs
theorem SliceR.mono{α:Type}{R R':List Value->α->Prop}{sz:Nat}{h h':ab}{xs:List α}(s:SliceR R sz h v xs)(ok:bl h)(g:aa aG h h')(hR:∀c x,R c x->R' c x):SliceR R' sz h' v xs:=by
 obtain⟨a,cap,rfl,s⟩:=s;refine⟨a,cap,rfl,?_⟩;rcases s with s|⟨b,off,cs,ro,o,st,rfl,hb,he⟩
 .exact .inl s
 .exact .inr ⟨b,off,cs,ro,o,st,rfl,g.get ok hb,fun i x hx=>⟨(he i x hx).1,hR _ _ (he i x hx).2⟩⟩
theorem vx:∀ {T:Ty} {h h':ab} {cs:List Value} {y:T.den},bl h->aa aG h h'->rep T h cs y->rep T h' cs y
 |.bool,_,_,_,_,_,_,r=>r
 |.int _,_,_,_,_,_,_,r=>r
 |.str,_,_,_,_,_,_,r=>r
 |.unit,_,_,_,_,_,_,r=>r
 |.pair a b,_,_,_,(x,y),ok,g,⟨c1,c2,e,r1,r2⟩=>⟨c1,c2,e,vx ok g r1,vx ok g r2⟩
 |.sl e,_,_,_,_,ok,g,⟨v,hv,s⟩=>⟨v,hv,s.mono ok g fun _ _ r=>vx ok g r⟩
theorem EP:∀ {T:Ty} {h:ab} {cs:List Value} {y:T.den},rep T h cs y->cs.length=T.sz
 |.bool,_,_,_,r=>by rw[show _=[_] from r];rfl
 |.int _,_,_,_,r=>by rw[show _=[_] from r];rfl
 |.str,_,_,_,r=>by rw[show _=[_] from r];rfl
 |.unit,_,_,_,r=>by rw[show _=[] from r];rfl
 |.pair a b,_,_,(x,y),⟨c1,c2,e,r1,r2⟩=>by rw[e,IZ,EP r1,EP r2];rfl
 |.sl e,_,_,_,⟨v,hv,_⟩=>by rw[hv];rfl
def Bd(k:Option Nat):(T:Ty)->T.den->Prop
 |.bool,_=>True
 |.int _,_=>True
 |.str,_=>True
 |.unit,_=>True
 |.pair a b,(x,y)=>Bd k a x/\Bd k b y
 |.sl e,(xs:List e.den)=>(∀K,k=some K->xs.length<=K)/\∀x∈xs,Bd k e x
section
variable(P:Program)
def mh(f:TypeId->Option Ty):Nat->List Field->Option (Ty×Nat)
 |off,[]=>some (.unit,off)
 |off,x::xs=>bif Nat.beq x.offset off then match f x.type with
   |none=>none
   |some a=>bif Nat.beq a.sz (P.cellsOf x.type) then match mh f (off+a.sz) xs with
     |some (b,n)=>some (.pair a b,n)
     |none=>none
    else none
  else none
def tyOf:Nat->TypeId->Option Ty
 |0,_=>none
 |d+1,t=>match P.underlying t with
  |some .bool=>some .bool
  |some (.int k)=>some (.int k)
  |some .string=>some .str
  |some (.slice e)=>match tyOf d e with
   |some a=>bif Nat.blt 0 (P.bytesOf e)&&(Nat.beq a.sz (P.cellsOf e)&&Nat.blt 0 a.sz) then some (.sl a) else none
   |none=>none
  |some (.struct fs)=>match mh P (tyOf d) 0 fs.toList with
   |some (a,n)=>bif Nat.beq n (P.cellsOf t) then some a else none
   |none=>none
  |some (.array n e)=>match tyOf d e with
   |some a=>bif Nat.beq a.sz (P.cellsOf e)&&Nat.beq (n*a.sz) (P.cellsOf t) then some (a.rep n) else none
   |none=>none
  |_=>none
end
theorem vJ{a b:Nat}(h:Nat.beq a b=true):a=b:=qW h
structure zQ(CC:cn)(ρ:eU)(h:ab)(w:World):Prop where
 ok:bl h
 ro:∀b,¬eH h b
 Tb:dI CC ρ h w
section
variable{H:Type}{enc:TypeId×Value->H}{P:Program}{w:World}{held:Bool}{CC:cn}
theorem zQ.add(L:zQ CC ρ h w){aC base:Nat}{acs:List Value}{e_:Array Value}{el:TypeId}{fr:Nat×Nat}(hb:w.heap[aC]?=some (.cells e_ el fr))(adm:base<=e_.size)(hk:∀(j:Nat)(v:Value),acs[j]?=some v->∃c,e_[base+j]?=some c/\KR ρ v c):∃ρ',ρ.le ρ'/\ρ' h.next=some ⟨aC,base,acs.length,0,e_.size-base⟩/\zQ CC ρ' (h.new (.aC acs true 0 0)) w/\aa aG h (h.new (.aC acs true 0 0)):=by
 have Ja:ρ h.next=none:=by
  cases hr:ρ h.next with
  |none=>rfl
  |some r=>exact absurd (L.Tb.low _ _ hr).1 (by omega)
 let ρ':eU:=fun b=>if b=h.next then some ⟨aC,base,acs.length,0,e_.size-base⟩ else ρ b
 have hle:ρ.le ρ':=by intro b r hr;show(if b=h.next then _ else ρ b)=some r;rw[bc (by rintro rfl;rw[Ja] at hr;cases hr)];exact hr
 have xQ:ρ' h.next=some ⟨aC,base,acs.length,0,e_.size-base⟩:=by show(if h.next=h.next then _ else _)=_;rw[aY rfl]
 have dW:∀b,(h.new (.aC acs true 0 0)).tr.get b=if b=h.next then some (.aC acs true 0 0) else h.tr.get b:=by intro b;simp[ab.new,Tr.aW]
 have eX:bl (h.new (.aC acs true 0 0)):=by
  refine⟨fun b o hb=>?_,fun b cs ro o s hb=>?_⟩
  .rw[dW] at hb;show b<h.next+1;split at hb
   .omega
   .exact Nat.lt_succ_of_lt (L.ok.wf b o hb)
  .rw[dW] at hb;split at hb
   .cases hb;exact Nat.zero_le _
   .exact L.ok.st b cs ro o s hb
 have LV:∀b,¬eH (h.new (.aC acs true 0 0)) b:=by
  rintro b⟨o,ho,hr⟩;rw[dW] at ho;split at ho
  .cases ho;cases hr
  .exact L.ro b ⟨o,ho,hr⟩
 have hgr:aa aG h (h.new (.aC acs true 0 0)):=by refine⟨Nat.le_succ _,dH _,fun b hb _=>?_,eX⟩;rw[dW,bc (by omega)]
 refine⟨ρ',hle,xQ,⟨eX,LV,⟨fun b r hr=>?_,fun b r o hr ho=>?_,fun b b' r r' o _ _ hw=>absurd hw (LV b),fun b o ho=>eX.wf b o ho⟩⟩,hgr⟩
 .by_cases e:b=h.next
  .rw[e] at hr;rw[xQ] at hr;cases hr;exact⟨by rw[e];exact Nat.lt_succ_self _,(Array.getElem?_eq_some_iff.mp hb).1⟩
  .have DD:ρ b=some r:=by
    have:ρ' b=ρ b:=by show(if b=h.next then _ else ρ b)=_;rw[bc e]
    rw[<-this];exact hr
   exact⟨Nat.lt_succ_of_lt (L.Tb.low _ _ DD).1,(L.Tb.low _ _ DD).2⟩
 .rw[dW] at ho;by_cases e:b=h.next
  .rw[aY e] at ho;cases ho;rw[e,xQ] at hr;cases hr;exact⟨e_,el,fr,hb,rfl,rfl,⟨by dsimp only;omega,fun h=>absurd rfl h⟩,(fun h=>by cases h),fun j v hv=>by obtain⟨c,hc,hkr⟩:=hk j v hv;exact⟨c,hc,hkr.mono hle⟩⟩
  .rw[bc e] at ho;have DD:ρ b=some r:=by
    have:ρ' b=ρ b:=by show(if b=h.next then _ else ρ b)=_;rw[bc e]
    rw[<-this];exact hr
   have X7:=L.Tb.obj b r o DD ho;cases o with
   |aC cs ro op st=>
    obtain⟨c2,el2,fr2,h1,h2,h3,h4,h5,h6⟩:=X7;exact⟨c2,el2,fr2,h1,h2,h3,h4,h5,fun j v hv=>by obtain⟨c,hc,hkr⟩:=h6 j v hv;exact⟨c,hc,hkr.mono hle⟩⟩
   |loop=>exact absurd ⟨_,ho,rfl⟩ (L.ro b)
   |map=>exact absurd ⟨_,ho,rfl⟩ (L.ro b)
   |itr=>exact absurd ⟨_,ho,rfl⟩ (L.ro b)
def Laid(k:Option Nat)(CC:cn)(w:World)(T:Ty)(ρ:eU)(h:ab)(cs:List Value):Prop:=
 ∃ρ' h' acs y,ρ.le ρ'/\aa aG h h'/\zQ CC ρ' h' w/\All2 (KR ρ') acs cs/\rep T h' acs y/\Bd k T y
def WB(k:Option Nat)(P:Program)(t:TypeId)(d:DataW H):Prop:=∀K,k=some K->∀n∈d.weights P t,n<=K
theorem RC{k:Option Nat}{P:Program}{e:TypeId}{K:Nat}(hk:k=some K):∀ {l:List (DataW H)},(∀n∈DataW.weightsAll P e l,n<=K)->∀ {i:Nat} {d:DataW H},l[i]?=some d->WB k P e d
 |[],_,_,_,hi=>by simp at hi
 |x::l,h,i,d,hi=>by
  rw[DataW.weightsAll] at h;cases i with
  |zero=>
   simp at hi;subst hi;intro K2 Cn n hn;rw[hk] at Cn;cases Cn;exact h n (List.mem_append_left _ hn)
  |succ i=>exact RC hk (fun n hn=>h n (List.mem_append_right _ hn)) (by simpa using hi)
theorem Tl{P:Program}{K:Nat} :∀ {ts:List TypeId} {l:List (DataW H)},(∀n∈DataW.weightsEach P ts l,n<=K)->∀ {i:Nat} {t:TypeId} {d:DataW H},ts[i]?=some t->l[i]?=some d->∀n∈d.weights P t,n<=K
 |[],_,_,_,_,_,ht,_=>by simp at ht
 |_::_,[],_,_,_,_,_,hi=>by simp at hi
 |u::ts,x::l,h,i,t,d,ht,hi=>by
  rw[DataW.weightsEach] at h;cases i with
  |zero=>
   simp at hi ht;subst hi ht;exact fun n hn=>h n (List.mem_append_left _ hn)
  |succ i=>exact Tl (fun n hn=>h n (List.mem_append_right _ hn)) (by simpa using ht) (by simpa using hi)
theorem Jh{a b:Ty}{c1 c2:List Value}(h1:Laid k CC w a ρ h c1)(h2:∀ρ' h',zQ CC ρ' h' w->Laid k CC w b ρ' h' c2):Laid k CC w (.pair a b) ρ h (c1++c2):=by obtain⟨ρ1,m1,a1,y1,l1,g1,L1,k1,r1,b1⟩:=h1;obtain⟨ρ2,m2,a2,y2,l2,g2,L2,k2,r2,b2⟩:=h2 ρ1 m1 L1;exact⟨ρ2,m2,a1++a2,(y1,y2),eU.le_trans l1 l2,g1.trans g2,L2,(k1.mono fun _ _ h=>h.mono l2).app k2,⟨a1,a2,rfl,vx L1.ok g2 r1,r2⟩,b1,b2⟩
theorem Nt{k:Option Nat}{e:Ty} :∀ {css:List (List Value)} {ρ:eU} {h:ab},zQ CC ρ h w->(∀cs∈css,∀ρ' h',zQ CC ρ' h' w->Laid k CC w e ρ' h' cs)->∃ρ' h' Pf ys,ρ.le ρ'/\aa aG h h'/\zQ CC ρ' h' w/\All2 (All2 (KR ρ')) Pf css/\All2 (rep e h') Pf ys/\∀y∈ys,Bd k e y
 |[],ρ,h,L,_=>⟨ρ,h,[],[],ρ.le_refl,.refl L.ok,L,.nil,.nil,fun y hy=>by cases hy⟩
 |cs::css,ρ,h,L,H=>by
  obtain⟨ρ1,m1,a1,y1,l1,g1,L1,k1,r1,b1⟩:=H cs (Dq ..) ρ h L;obtain⟨ρ2,m2,a2,y2,l2,g2,L2,k2,r2,b2⟩:=Nt L1 (fun c hc=>H c (EE _ hc));exact⟨ρ2,m2,a1::a2,y1::y2,eU.le_trans l1 l2,g1.trans g2,L2,.cons (k1.mono fun _ _ h=>h.mono l2) k2,.cons (vx L1.ok g2 r1) r2,fun y hy=>by
   rcases List.mem_cons.1 hy with rfl|hy
   .exact b1
   .exact b2 y hy⟩
theorem Ix{α β:Type}{R:α->β->Prop} :∀ {l:List (List α)} {m:List (List β)},All2 (All2 R) l m->All2 R l.flatten m.flatten
 |_,_,.nil=>.nil
 |_,_,.cons h hs=>by simpa using h.app (Ix hs)
theorem So{α:Type}{sz:Nat} :∀ {l:List (List α)} {i:Nat} {c:List α},(∀c∈l,c.length=sz)->l[i]?=some c->(l.flatten.drop (i*sz)).take sz=c
 |[],i,c,_,h=>by simp at h
 |x::l,0,c,hl,h=>by cases h;have:=hl x (Dq ..);simp[List.take_append,this]
 |x::l,i+1,c,hl,h=>by
  have hx:=hl x (Dq ..);have h':l[i]?=some c:=by simpa using h
  rw[List.flatten_cons,List.drop_append,Xt (by rw[hx,tW];omega),List.nil_append,hx,show(i+1)*sz-sz=i*sz by rw[tW];omega];exact So (fun c hc=>hl c (EE _ hc)) h'
theorem MR{α:Type}{sz:Nat}(hz:0<sz):∀ {l:List (List α)} {j:Nat} {c:α},(∀c∈l,c.length=sz)->l.flatten[j]?=some c->∃x,l[j/sz]?=some x/\x[j%sz]?=some c
 |[],j,c,_,h=>by simp at h
 |x::l,j,c,hl,h=>by
  have hx:=hl x (Dq ..);rw[List.flatten_cons] at h;by_cases hj:j<sz
  .rw[FX (by omega)] at h;exact⟨x,by rw[Nat.div_eq_of_lt hj];rfl,by rw[Nat.mod_eq_of_lt hj];exact h⟩
  .rw[HA (by omega),hx] at h;obtain⟨y,hy,hc⟩:=MR hz (fun c hc=>hl c (EE _ hc)) h;refine⟨y,?_,?_⟩
   .rw[Nat.div_eq j sz,aY ⟨hz,by omega⟩];simpa using hy
   .rw[Nat.mod_eq_sub_mod (by omega)];exact hc
theorem Nz{α β:Type}{f:α->Option β} :∀ {l:List α} {r:List β},l.mapM f=some r->r.length=l.length/\∀(i:Nat)(a:α)(b:β),l[i]?=some a->r[i]?=some b->f a=some b
 |[],r,h=>by simp at h;subst h;simp
 |a::l,r,h=>by
  rw[List.mapM_cons] at h;simp only[Option.bind_eq_bind,Option.bind_eq_some_iff,Option.pure_def,mw] at h;obtain⟨b,hb,bs,Ia,rfl⟩:=h;obtain⟨h1,h2⟩:=Nz Ia;refine⟨by simp[h1],fun i x y hx hy=>?_⟩;cases i with
  |zero=>simp at hx hy;subst hx;subst hy;exact hb
  |succ i=>exact h2 i x y (by simpa using hx) (by simpa using hy)
theorem Cz{n:Nat}{cs:List Value}(h:w.cells? 0 a n=some cs):cs.length=n/\∀k c,cs[k]?=some c->w.cell? (a.add k)=some c:=by unfold World.cells? at h;rw[aY (Nat.zero_le _)] at h;obtain⟨h1,h2⟩:=Nz h;simp at h1;refine⟨h1,fun k c hc=>?_⟩;have hk:=(bK.mp hc).1;exact h2 k k c (by rw[List.getElem?_range (by omega)]) hc
theorem Si(h:w.cell? a=some v):a.spot=none/\∃e_ el fr,w.heap[a.block]?=some (.cells e_ el fr)/\e_[a.off]?=some v:=by
 unfold World.cell? at h;split at h
 .rename_i e_ el fr hh;split at h
  .cases h
  .rename_i hs;exact⟨by cases hsp:a.spot with|none=>rfl|some _=>rw[hsp] at hs;simp at hs,e_,el,fr,hh,h⟩
 .cases h
theorem Dn{α:Type}{R:Nat->α->Prop} :∀ {n:Nat},(∀i,i<n->∃x,R i x)->∃l:List α,l.length=n/\∀i x,l[i]?=some x->R i x
 |0,_=>⟨[],rfl,by simp⟩
 |n+1,h=>by
  obtain⟨l,hl,hr⟩:=Dn (n:=n) fun i hi=>h i (by omega);obtain⟨x,hx⟩:=h n (by omega);refine⟨l++[x],by simp[hl],fun i y hy=>?_⟩;by_cases e:i<n
  .rw[FX (by omega)] at hy;exact hr i y hy
  .have dQ:=(bK.mp hy).1;simp[hl] at dQ;have:i=n:=by omega
   subst this;rw[HA (by omega),hl,Nat.sub_self] at hy;cases hy;exact hx
theorem D3{f:TypeId->Option Ty} :∀ {fl:List Field} {off n:Nat} {T:Ty},mh P f off fl=some (T,n)->off<=n
 |[],off,n,T,h=>by simp[mh] at h;omega
 |x::fl,off,n,T,h=>by
  unfold mh at h;cases hb:Nat.beq x.offset off with
  |false=>rw[hb] at h;cases h
  |true=>
   rw[hb] at h;simp only[cond_true] at h;cases ha:f x.type with
   |none=>rw[ha] at h;cases h
   |some a=>
    rw[ha] at h;dsimp only at h;cases hc:Nat.beq a.sz (P.cellsOf x.type) with
    |false=>rw[hc] at h;cases h
    |true=>
     rw[hc] at h;simp only[cond_true] at h;cases hr:mh P f (off+a.sz) fl with
     |none=>rw[hr] at h;cases h
     |some q=>
      obtain⟨b,m⟩:=q;rw[hr] at h;cases h;have:=D3 hr;omega
theorem Iv(a:Addr)(n:Nat):(a.add n).block=a.block:=by unfold Addr.add;split<;>rfl
theorem Sa(a:Addr)(n:Nat):(a.add n).off=a.off+n:=by
 unfold Addr.add;split
 .rename_i h;rw[h];rfl
 .rfl
theorem Ji(L:zQ CC ρ h w):Laid k CC w .unit ρ h []:=⟨ρ,h,[],(),ρ.le_refl,.refl L.ok,L,.nil,rfl,trivial⟩
theorem KP{k:Option Nat} :∀ {d:Nat} {t:TypeId} {T:Ty},tyOf P d t=some T->∀ {n:Nat} {cs:List Value} {x:DataW H×List MemPlace} {ρ:eU} {h:ab},DataW.trod enc P w 0 (fun _=>true) held n t cs=some x->WB k P t x.1->zQ CC ρ h w->(∃(k:Nat) (e_:Array Value) (el:TypeId) (fr:Nat×Nat),w.heap[k]?=some (.cells e_ el fr))->Laid k CC w T ρ h cs:=by
 intro d;induction d with
 |zero=>intro t T hT;simp[tyOf] at hT
 |succ d ih=>
  intro t T hT n cs x ρ h hx hW L ct;unfold tyOf at hT;split at hT
  .rename_i hu;cases hT;obtain⟨b,rfl,_⟩:=DataW.trod_bool hu hx;exact⟨ρ,h,[.bool b],b,ρ.le_refl,.refl L.ok,L,.cons (.cell (.bool b)) .nil,rfl,trivial⟩
  .rename_i ki hu;cases hT;obtain⟨m,rfl,_⟩:=DataW.trod_int hu hx;exact⟨ρ,h,[.int ki m],m,ρ.le_refl,.refl L.ok,L,.cons (.cell (.int ki m)) .nil,rfl,trivial⟩
  .rename_i hu;cases hT;obtain⟨s,rfl,_⟩:=DataW.trod_string hu hx;exact⟨ρ,h,[.string s],s,ρ.le_refl,.refl L.ok,L,.cons (.cell (.str s)) .nil,rfl,trivial⟩
  .rename_i e hu;split at hT
   .rename_i a ha;cases hb:(Nat.blt 0 (P.bytesOf e)&&(Nat.beq a.sz (P.cellsOf e)&&Nat.blt 0 a.sz)) with
    |false=>rw[hb] at hT;cases hT
    |true=>
     rw[hb] at hT;cases hT;simp only[zr] at hb;have Eo:0<P.bytesOf e:=by simpa [Nat.blt_eq] using hb.1
     have tg:=vJ hb.2.1;have Ep:0<a.sz:=by simpa [Nat.blt_eq] using hb.2.2
     rcases DataW.trod_slice hu hx with⟨rfl,_⟩|⟨ad,len,cap,elems,bw,m,rfl,rfl,hxe,_,XZ,_,nu,he,hr,_⟩
     .exact⟨ρ,h,[.slice none 0 0],[],ρ.le_refl,.refl L.ok,L,.cons (.cell (.qb 0 0)) .nil,⟨_,rfl,none,0,rfl,.inl ⟨rfl,.inl rfl⟩⟩,fun _ _=>Nat.zero_le _,fun y hy=>by cases hy⟩
     .obtain⟨rh,hr⟩:=hr rfl;rw[<-tg] at he hr;have hWs:∀K,k=some K->len<=K/\∀n∈DataW.weightsAll P e (elems.map (·.1)),n<=K:=by
       intro K hK;have hw:∀n∈DataW.weights P t (.slice (elems.map (·.1)) (bw.map (·.1))),n<=K:=by have:=hW K hK;rw[hxe] at this;exact this
       rw[DataW.weights,hu] at hw;simp only[gU_,List.mem_cons,rM] at hw;have h1:=hw _ (.inl rfl);refine⟨?_,fun n hn=>hw n (.inr (.inl hn))⟩;have h2:(elems.length+bw.length)*1<=(elems.length+bw.length)*P.bytesOf e:=Nat.mul_le_mul_left _ Eo;omega
      have hWe:∀i,i<len->∀y,elems[i]?=some y->WB k P e y.1:=by intro i _ y hy K hK;exact RC hK (hWs K hK).2 (i:=i) (d:=y.1) (by simp[hy]) K hK
      have one:∀i,i<cap->∃ci y,w.cells? 0 (ad.add (i*a.sz)) a.sz=some ci/\DataW.trod enc P w 0 (fun _=>true) held m e ci=some y/\(i<len->WB k P e y.1):=by
       intro i hi;have hy:∃y,(w.cells? 0 (ad.add (i*a.sz)) a.sz).bind (DataW.trod enc P w 0 (fun _=>true) held m e)=some y/\(i<len->WB k P e y.1):=by
        by_cases fu:i<len
        .have h1:=he i fu;obtain⟨y,hy⟩:=ay elems i;rw[hy] at h1;exact⟨_,h1,fun hl=>hWe i hl y hy⟩
        .have h1:=hr (i-len) (by omega);rw[show len+(i-len)=i by omega,ff (by omega)] at h1;exact⟨_,h1,fun hl=>absurd hl fu⟩
       obtain⟨y,hy,hwy⟩:=hy;rw[Option.bind_eq_some_iff] at hy;obtain⟨ci,hc,hy⟩:=hy;exact⟨ci,y,hc,hy,hwy⟩
      by_cases Dy:cap=0
      .subst Dy;have KG:len=0:=by omega
       subst KG;obtain⟨kb,e_,el,fr,hk⟩:=ct;obtain⟨ρ',hle,xQ,L',g⟩:=L.add (acs:=[]) hk (Nat.zero_le _) (fun j v hv=>by simp at hv);exact⟨ρ',_,[.slice (some ⟨h.next,0,none⟩) 0 0],[],hle,g,L',.cons (.cell (.slice xQ ⟨.inr ⟨rfl,rfl⟩,.inl rfl,dH _⟩)) .nil,⟨_,rfl,_,0,rfl,.inl ⟨rfl,.inr ⟨_,_,rfl⟩⟩⟩,fun _ _=>Nat.zero_le _,fun y hy=>by cases hy⟩
      .obtain⟨c0,y0,ark,_⟩:=one 0 (by omega);obtain⟨KG,hg0⟩:=Cz ark;have XO:=hg0 0 (c0[0]'(by omega)) (ff (by omega));have akt:(ad.add (0*a.sz)).add 0=ad:=by simp[Addr.add]
       rw[akt] at XO;obtain⟨hsp,e_,el,fr,H9,oJ⟩:=Si XO;have adm:ad.off<=e_.size:=Nat.le_of_lt (Array.getElem?_eq_some_iff.mp oJ).1;have had:ad=⟨ad.block,ad.off,none⟩:=by cases ad;simp at hsp;simp[hsp]
       obtain⟨css,AN,KC⟩:=Dn (n:=len) (R:=fun i ci=>w.cells? 0 (ad.add (i*a.sz)) a.sz=some ci/\∃y,DataW.trod enc P w 0 (fun _=>true) held m e ci=some y/\WB k P e y.1) (fun i hi=>by obtain⟨ci,y,h1,h2,h3⟩:=one i (by omega);exact⟨ci,h1,y,h2,h3 hi⟩)
       have cj:∀c∈css,c.length=a.sz:=by intro c hc;obtain⟨i,hi,rfl⟩:=List.mem_iff_getElem.mp hc;exact(Cz (KC i _ (ff hi)).1).1
       obtain⟨ρ1,m1,Pf,ys,l1,g1,L1,k1,r1,b1⟩:=Nt (k:=k) (e:=a) L (css:=css) (fun c hc ρ' h' L'=>by obtain⟨i,hi,rfl⟩:=List.mem_iff_getElem.mp hc;obtain⟨_,y,hy,hwy⟩:=KC i _ (ff hi);exact ih ha hy hwy L' ct)
       have Sw:=Ix k1;obtain⟨ρ2,l2,xQ,L2,g2⟩:=L1.add (acs:=Pf.flatten) H9 adm (fun j v hv=>by
        obtain⟨c,hc,hkr⟩:=Sw.get hv;obtain⟨ci,hci,hck⟩:=MR Ep cj hc;have akG:=(Cz (KC _ _ hci).1).2 _ _ hck;obtain⟨_,ccs2,el2,fr2,cC,afF⟩:=Si akG;have akC:((ad.add (j/a.sz*a.sz)).add (j%a.sz)).block=ad.block:=by rw[Iv,Iv]
        have alj:((ad.add (j/a.sz*a.sz)).add (j%a.sz)).off=ad.off+(j/a.sz*a.sz)+j%a.sz:=by rw[Sa,Sa]
        rw[akC,H9] at cC;cases cC;refine⟨c,?_,hkr⟩;rw[alj,AL,Nat.mul_comm,Nat.div_add_mod] at afF;exact afF)
       have vC:ys.length=len:=by rw[<-r1.length,k1.length,AN]
       refine⟨ρ2,_,[.slice (some ⟨m1.next,0,none⟩) len cap],ys,eU.le_trans l1 l2,g1.trans g2,L2,.cons (.cell (.slice xQ ⟨.inl had,.inl rfl,XZ⟩)) .nil,⟨_,rfl,_,cap,by rw[vC],.inr ⟨m1.next,0,Pf.flatten,true,0,0,rfl,by simp[ab.new,Tr.aW],fun i y hy=>?_⟩⟩,fun K hK=>by rw[vC];exact(hWs K hK).1,b1⟩;have fu:=(bK.mp hy).1;have XJ:i<Pf.length:=by rw[r1.length];exact fu
       obtain⟨y',EI,aly⟩:=r1.get (ff XJ);rw[hy] at EI;cases EI;have KA:∀c∈Pf,c.length=a.sz:=by intro c hc;obtain⟨i,hi,rfl⟩:=List.mem_iff_getElem.mp hc;obtain⟨y,_,hrp⟩:=r1.get (ff hi);exact EP hrp
       have Dx:=So KA (ff XJ);rw[Ek,Dx];exact⟨EP aly,vx L1.ok g2 aly⟩
   .cases hT
  .rename_i fs hu;split at hT
   .rename_i a m hf;cases hb:Nat.beq m (P.cellsOf t) with
    |false=>rw[hb] at hT;cases hT
    |true=>
     rw[hb] at hT;cases hT;obtain⟨xs,kf,rfl,hxe,AN,u6,Ew⟩:=DataW.trod_struct hu hx;have key:∀(fl:List Field)(off m:Nat)(T:Ty)(ρ:eU)(h:ab),(∀f∈fl,∃y,DataW.trod enc P w 0 (fun _=>true) held kf f.type ((cs.drop f.offset).take (P.cellsOf f.type))=some y/\WB k P f.type y.1)->mh P (tyOf P d) off fl=some (T,m)->m<=cs.length->zQ CC ρ h w->Laid k CC w T ρ h ((cs.drop off).take (m-off)):=by
      intro fl;induction fl with
      |nil=>
       intro off m T ρ h _ hf _ L;simp only[mh,mw,yU] at hf;obtain⟨rfl,rfl⟩:=hf;rw[Nat.sub_self,List.take_zero];exact Ji L
      |cons f fl ihf=>
       intro off m T ρ h hy hf hm L;unfold mh at hf;cases hb:Nat.beq f.offset off with
       |false=>rw[hb] at hf;cases hf
       |true=>
        rw[hb] at hf;simp only[cond_true] at hf;have afZ:=vJ hb;cases ha:tyOf P d f.type with
        |none=>rw[ha] at hf;cases hf
        |some a=>
         rw[ha] at hf;dsimp only at hf;cases hc:Nat.beq a.sz (P.cellsOf f.type) with
         |false=>rw[hc] at hf;cases hf
         |true=>
          rw[hc] at hf;simp only[cond_true] at hf;have tg:=vJ hc;cases hr:mh P (tyOf P d) (off+a.sz) fl with
          |none=>rw[hr] at hf;cases hf
          |some q=>
           obtain⟨b,m'⟩:=q;rw[hr] at hf;cases hf;have hle:=D3 hr;obtain⟨y,hy1,hwy⟩:=hy f (Dq ..);rw[afZ,<-tg] at hy1;have vo:(cs.drop off).take (m-off)=(cs.drop off).take a.sz++(cs.drop (off+a.sz)).take (m-(off+a.sz)):=by rw[<-List.drop_drop,show m-off=a.sz+(m-(off+a.sz)) by omega,List.take_add]
           rw[vo];exact Jh (ih ha hy1 hwy L ct) fun ρ' h' L'=>ihf _ _ _ _ _ (fun g hg=>hy g (EE _ hg)) hr hm L'
     have:=key fs.toList 0 m T ρ h (fun f hf=>by
      obtain⟨i,hi,rfl⟩:=List.mem_iff_getElem.mp hf;have h1:=Ew i (fs.toList[i]) (by simp);obtain⟨y,hy⟩:=ay xs i (by rw[u6];simpa using hi);rw[hy] at h1;refine⟨_,h1,fun K hK=>?_⟩;have hw:∀n∈DataW.weights P t (.agg (xs.map (·.1))),n<=K:=by have:=hW K hK;rw[hxe] at this;exact this
      rw[DataW.weights,hu] at hw;exact Tl hw (i:=i) (by simp;exact⟨_,Array.getElem?_eq_getElem (by simpa using hi),by simp⟩) (by simp[hy])) hf (by rw[AN,vJ hb];exact dH _) L
     rw[vJ hb,<-AN] at this;simpa using this
   .cases hT
  .rename_i m e hu;split at hT
   .rename_i a ha;cases hb:(Nat.beq a.sz (P.cellsOf e)&&Nat.beq (m*a.sz) (P.cellsOf t)) with
    |false=>rw[hb] at hT;cases hT
    |true=>
     rw[hb] at hT;cases hT;simp only[zr] at hb;have tg:=vJ hb.1;have asM:=vJ hb.2;obtain⟨xs,kf,rfl,hxe,AN,u6,Ew⟩:=DataW.trod_array hu hx;rw[<-tg] at Ew;have key:∀(q off:Nat)(ρ:eU)(h:ab),off+q=m->zQ CC ρ h w->Laid k CC w (a.rep q) ρ h (cs.drop (off*a.sz)):=by
      intro q;induction q with
      |zero=>
       intro off ρ h hoq L;rw[Xt (by rw[AN,<-asM];exact FW _ (by omega))];exact Ji L
      |succ q ihq=>
       intro off ρ h hoq L;have h1:=Ew off (by omega);obtain⟨y,hy⟩:=ay xs off;rw[hy] at h1;have hwy:WB k P e y.1:=by
        intro K hK;have hw:∀n∈DataW.weights P t (.agg (xs.map (·.1))),n<=K:=by have:=hW K hK;rw[hxe] at this;exact this
        rw[DataW.weights,hu] at hw;exact RC hK hw (i:=off) (by simp[hy]) K hK
       have vo:cs.drop (off*a.sz)=(cs.drop (off*a.sz)).take a.sz++cs.drop ((off+1)*a.sz):=by rw[tW,Nat.one_mul,<-List.drop_drop,List.take_append_drop]
       rw[vo];exact Jh (ih ha h1 hwy L ct) fun ρ' h' L'=>ihq (off+1) ρ' h' (by omega) L'
     have:=key m 0 ρ h (by omega) L;simpa using this
   .cases hT
  .cases hT
end
end Go.AI
namespace Go.AI
variable{b:Bool}{op:kM}{t:Nat}
section
variable{F:Nat->Option bZ}{R:Env->ab->Prop}{e:Env}{h:ab}{l:List bm}{d:Option Nat}{k:Nat}{m:List (bm×List Nat)}{mU:List Nat}
theorem Jw{R:Env->ab->Prop}(hg:ai e t=.tuple #[]):AY F ⟨d,some (t,b),op⟩ e h R↔R (fN e d (.tuple #[])) h:=by
 have hw:wanted e (some (t,b))=false:=by simp[wanted,hg]
 have key:∀n,cU F (run F n) ⟨d,some (t,b),op⟩ e h=some (fN e d (.tuple #[]),h):=by intro n;unfold cU;dsimp only;rw[hw];rfl
 constructor
 .rintro⟨n,e',h',hr,hq⟩;rw[key] at hr;cases hr;exact hq
 .intro hq;exact⟨0,_,_,key 0,hq⟩
@[simp ↓] theorem axo(hg:ai e t=.tuple #[]):aF F (⟨d,some (t,b),op⟩::l) e h R↔aF F l (fN e d (.tuple #[])) h R:=by rw[rR,Jw hg]
@[simp ↓] theorem auc(hg:ai e t=.tuple #[]):aZ F k ((⟨d,some (t,b),op⟩,mU)::m) e h R↔(still (fN e d (.tuple #[])) h k mU=true/\aZ F k m (fN e d (.tuple #[])) h R):=by rw[pb,Jw hg]
end
end Go.AI
namespace Go.AI
open Go.ChangeShapes Go.WideShapes Go.ChangeAt
def Hr(agg:Bool)(acs:List Value):Value:=bif agg then .agg ⟨acs⟩ else acs.headD (.tuple #[])
def aggT(P:Program)(t:TypeId):Bool:=match P.underlying t with
 |some (.struct _)=>true
 |some (.array _ _)=>true
 |_=>false
section
variable{H:Type}{enc:TypeId×Value->H}{P:Program}{w:World}{held:Bool}{CC:cn}
def LaidV(k:Option Nat)(CC:cn)(w:World)(agg:Bool)(T:Ty)(ρ:eU)(h:ab)(v:Value):Prop:=
 ∃ρ' h' acs y,ρ.le ρ'/\aa aG h h'/\zQ CC ρ' h' w/\VR ρ' (Hr agg acs) v/\rep T h' acs y/\Bd k T y
theorem laidV_of{k:Option Nat}{d:Nat}{t:TypeId}{T:Ty}{base:Nat}{v:Value}{dd:DataW H}{ps:List MemPlace}{ρ:eU}{h:ab}(hT:tyOf P d t=some T)(CN:Value.okWide P w .any base t v)(hx:DataW.Trod enc P w 0 (fun _=>true) held t v dd ps)(hW:WB k P t dd)(L:zQ CC ρ h w)(ct:∃(k:Nat) (e_:Array Value) (el:TypeId) (fr:Nat×Nat),w.heap[k]?=some (.cells e_ el fr)):LaidV k CC w (aggT P t) T ρ h v:=by
 obtain⟨n,hx⟩:=hx;obtain⟨ρ',h',acs,y,l,g,L',kk,r⟩:=KP hT hx hW L ct;refine⟨ρ',h',acs,y,l,g,L',?_,r⟩;unfold Hr;have Lb:aggT P t=false->(∀cs,v≠ .agg cs)->VR ρ' (bif aggT P t then .agg ⟨acs⟩ else acs.headD (.tuple #[])) v:=by
  intro ha hv;have hc:v.cells.toList=[v]:=by cases v<;>first|rfl|exact absurd rfl (hv _)
  rw[hc] at kk;rw[ha];cases kk with
  |cons hk hs=>exact hk.vr
 cases d with
 |zero=>simp[tyOf] at hT
 |succ d=>
  unfold tyOf at hT;split at hT
  .rename_i hu;obtain⟨b,rfl⟩:=okWide_bool hu CN;exact Lb (by simp[aggT,hu]) (fun _ e=>by cases e)
  .rename_i k' hu;obtain⟨b,rfl⟩:=okWide_int hu CN;exact Lb (by simp[aggT,hu]) (fun _ e=>by cases e)
  .rename_i hu;obtain⟨b,rfl⟩:=okWide_string hu CN;exact Lb (by simp[aggT,hu]) (fun _ e=>by cases e)
  .rename_i e hu;obtain⟨a,len,cap,rfl⟩:=okWide_slice hu CN;exact Lb (by simp[aggT,hu]) (fun _ e=>by cases e)
  .rename_i fs hu;simp only[Value.okWide,hu] at CN;obtain⟨cs,rfl,_⟩:=CN;have ha:aggT P t=true:=by simp[aggT,hu]
   rw[ha];obtain⟨cl⟩:=cs;exact .val (.agg kk)
  .rename_i m e hu;simp only[Value.okWide,hu] at CN;obtain⟨cs,rfl,_⟩:=CN;have ha:aggT P t=true:=by simp[aggT,hu]
   rw[ha];obtain⟨cl⟩:=cs;exact .val (.agg kk)
  .cases hT
theorem lain_heap1{cs:List Value}(KC:∀v∈cs,cr v=true){w:World}(hw:∃el fr,w.heap[0]?=some (.cells ⟨cs⟩ el fr)):zQ CC (fun b=>if b=0 then some ⟨0,0,cs.length,0,cs.length⟩ else none) (I2 cs) w:=by
 obtain⟨el,fr,hw⟩:=hw;have dW:∀b o,(I2 cs).tr.get b=some o->b=0/\o=.aC cs true 0 0:=by
  intro b o h;cases b with
  |zero=>simp only[I2,Tr.get,mw] at h;exact⟨rfl,h.symm⟩
  |succ b=>
   simp only[I2,Tr.get] at h;cases hb:Nat.beq (b%2) 0<;>rw[hb] at h<;>simp at h
 have LV:∀b,¬eH (I2 cs) b:=by rintro b⟨o,ho,hr⟩;rw[(dW b o ho).2] at hr;cases hr
 refine⟨⟨fun b o h=>?_,fun b c ro o s h=>?_⟩,LV,⟨fun b r h=>?_,fun b r o h ho=>?_,fun b b' r r' o _ _ hw=>absurd hw (LV b),fun b o h=>?_⟩⟩
 .rw[(dW b o h).1];exact Nat.zero_lt_one
 .have:=(dW b _ h).2;cases this;exact dH _
 .by_cases e:b=0
  .simp only[e,if_true,mw] at h;subst h;subst e;exact⟨Nat.zero_lt_one,(Array.getElem?_eq_some_iff.mp hw).1⟩
  .simp[e] at h
 .obtain⟨rfl,rfl⟩:=dW b o ho;simp only[if_true,mw] at h;subst h;exact⟨⟨cs⟩,el,fr,hw,rfl,rfl,by simp,(fun h=>by cases h),fun j v hv=>⟨v,by simpa using hv,.cell (pK (KC v (bU hv)))⟩⟩
 .rw[(dW b o h).1];exact Nat.zero_lt_one
end
end Go.AI
namespace Go.Proofs.YtdhnndleffachaaGreatDoor
open Go.AI
noncomputable def dY(f a:Nat)(x:Func)(r:Option Func):Option Func:=bif Nat.beq f a then some x else r
theorem aI{P:Program}{f a:Nat}{x fn:Func}{r:Option Func}(hx:P.funcs[a]?=some x)(k:r=some fn->P.funcs[f]?=some fn)(h:dY f a x r=some fn):P.funcs[f]?=some fn:=(acm h hx).elim id k
noncomputable def funcAt(f:Nat):Option Func:=
 dY f 10 Tryz.f10<|
 dY f 11 Tryz.f11<|
 dY f 13 Tryz.f13<|
 dY f 14 Tryz.f14<|
 dY f 24 Tryz.f24<|
 dY f 28 Tryz.f28<|
 dY f 31 Tryz.f31<|
 dY f 34 Tryz.f34<|
 dY f 35 Tryz.f35<|
 dY f 36 Tryz.f36<|
 dY f 59 Tryz.f59<|
 dY f 66 Tryz.f66<|
 dY f 67 Tryz.f67<|
 dY f 68 Tryz.f68<|
 dY f 69 Tryz.f69<|
 dY f 70 Tryz.f70<|
 dY f 77 Tryz.f77<|
 dY f 78 Tryz.f78<|
 dY f 79 Tryz.f79<|
 dY f 80 Tryz.f80<|
 dY f 81 Tryz.f81<|
 dY f 82 Tryz.f82<|
 dY f 83 Tryz.f83<|
 dY f 84 Tryz.f84<|
 dY f 85 Tryz.f85<|
 dY f 86 Tryz.f86<|
 dY f 87 Tryz.f87<|
 dY f 88 Tryz.f88<|
 dY f 89 Tryz.f89<|
 dY f 101 Tryz.f101<|
 dY f 119 Tryz.f119<|
 dY f 120 Tryz.f120<|
 dY f 121 Tryz.f121<|
 dY f 122 Tryz.f122<|
 dY f 126 Tryz.f126<|
 dY f 127 Tryz.f127<|
 dY f 128 Tryz.f128<|
 dY f 129 Tryz.f129<|
 dY f 131 Tryz.f131<|
 dY f 132 Tryz.f132<|
 dY f 135 Tryz.f135<|
 dY f 136 Tryz.f136<|
 dY f 137 Tryz.f137<|
 dY f 138 Tryz.f138<|
 dY f 139 Tryz.f139<|
 dY f 140 Tryz.f140<|
 dY f 141 Tryz.f141<|
 dY f 142 Tryz.f142<|
 dY f 143 Tryz.f143<|
 dY f 144 Tryz.f144<|
 dY f 145 Tryz.f145<|
 dY f 146 Tryz.f146<|
 dY f 147 Tryz.f147<|
 dY f 148 Tryz.f148<|
 dY f 149 Tryz.f149<|
 dY f 150 Tryz.f150<|
 dY f 161 Tryz.f161<|
 dY f 162 Tryz.f162<|
 dY f 166 Tryz.f166<|
 dY f 167 Tryz.f167<|
 dY f 185 Tryz.f185<|
 dY f 186 Tryz.f186<|
 dY f 187 Tryz.f187<|
 dY f 188 Tryz.f188<|
 dY f 192 Tryz.f192<|
 dY f 193 Tryz.f193<|
 dY f 194 Tryz.f194<|
 dY f 195 Tryz.f195<|
 dY f 196 Tryz.f196<|
 dY f 197 Tryz.f197<|
 dY f 198 Tryz.f198<|
 dY f 199 Tryz.f199<|
 dY f 200 Tryz.f200<|
 dY f 201 Tryz.f201<|
 dY f 202 Tryz.f202<|
 dY f 203 Tryz.f203<|
 dY f 204 Tryz.f204<|
 dY f 205 Tryz.f205<|
 dY f 206 Tryz.f206<|
 dY f 207 Tryz.f207<|
 dY f 209 Tryz.f209<|
 dY f 210 Tryz.f210<|
 dY f 211 Tryz.f211<|
 dY f 229 Tryz.f229<|
 dY f 230 Tryz.f230<|
 dY f 231 Tryz.f231<|
 dY f 232 Tryz.f232<|
 dY f 233 Tryz.f233<|
 dY f 234 Tryz.f234<|
 dY f 235 Tryz.f235<|
 dY f 236 Tryz.f236<|
 dY f 237 Tryz.f237<|
 dY f 238 Tryz.f238<|
 dY f 239 Tryz.f239<|
 dY f 240 Tryz.f240<|
 dY f 241 Tryz.f241<|
 dY f 244 Tryz.f244<|
 dY f 245 Tryz.f245<|
 dY f 246 Tryz.f246<|
 dY f 256 Tryz.f256<|
 dY f 257 Tryz.f257<|
 dY f 258 Tryz.f258<|
 dY f 259 Tryz.f259<|
 dY f 260 Tryz.f260<|
 dY f 265 Tryz.f265<|
 dY f 266 Tryz.f266<|
 dY f 267 Tryz.f267<|
 dY f 268 Tryz.f268<|
 dY f 269 Tryz.f269<|
 dY f 270 Tryz.f270<|
 dY f 271 Tryz.f271<|
 dY f 272 Tryz.f272<|
 dY f 274 Tryz.f274<|
 dY f 277 Tryz.f277<|
 dY f 278 Tryz.f278<|
 dY f 279 Tryz.f279<|
 dY f 281 Tryz.f281<|
 dY f 282 Tryz.f282 none
theorem T1:∀f fn,funcAt f=some fn->Tryz.prog.funcs[f]?=some fn:=fun _ _=>
 aI Tryz.func10<|
 aI Tryz.func11<|
 aI Tryz.func13<|
 aI Tryz.func14<|
 aI Tryz.func24<|
 aI Tryz.func28<|
 aI Tryz.func31<|
 aI Tryz.func34<|
 aI Tryz.func35<|
 aI Tryz.func36<|
 aI Tryz.func59<|
 aI Tryz.func66<|
 aI Tryz.func67<|
 aI Tryz.func68<|
 aI Tryz.func69<|
 aI Tryz.func70<|
 aI Tryz.func77<|
 aI Tryz.func78<|
 aI Tryz.func79<|
 aI Tryz.func80<|
 aI Tryz.func81<|
 aI Tryz.func82<|
 aI Tryz.func83<|
 aI Tryz.func84<|
 aI Tryz.func85<|
 aI Tryz.func86<|
 aI Tryz.func87<|
 aI Tryz.func88<|
 aI Tryz.func89<|
 aI Tryz.func101<|
 aI Tryz.func119<|
 aI Tryz.func120<|
 aI Tryz.func121<|
 aI Tryz.func122<|
 aI Tryz.func126<|
 aI Tryz.func127<|
 aI Tryz.func128<|
 aI Tryz.func129<|
 aI Tryz.func131<|
 aI Tryz.func132<|
 aI Tryz.func135<|
 aI Tryz.func136<|
 aI Tryz.func137<|
 aI Tryz.func138<|
 aI Tryz.func139<|
 aI Tryz.func140<|
 aI Tryz.func141<|
 aI Tryz.func142<|
 aI Tryz.func143<|
 aI Tryz.func144<|
 aI Tryz.func145<|
 aI Tryz.func146<|
 aI Tryz.func147<|
 aI Tryz.func148<|
 aI Tryz.func149<|
 aI Tryz.func150<|
 aI Tryz.func161<|
 aI Tryz.func162<|
 aI Tryz.func166<|
 aI Tryz.func167<|
 aI Tryz.func185<|
 aI Tryz.func186<|
 aI Tryz.func187<|
 aI Tryz.func188<|
 aI Tryz.func192<|
 aI Tryz.func193<|
 aI Tryz.func194<|
 aI Tryz.func195<|
 aI Tryz.func196<|
 aI Tryz.func197<|
 aI Tryz.func198<|
 aI Tryz.func199<|
 aI Tryz.func200<|
 aI Tryz.func201<|
 aI Tryz.func202<|
 aI Tryz.func203<|
 aI Tryz.func204<|
 aI Tryz.func205<|
 aI Tryz.func206<|
 aI Tryz.func207<|
 aI Tryz.func209<|
 aI Tryz.func210<|
 aI Tryz.func211<|
 aI Tryz.func229<|
 aI Tryz.func230<|
 aI Tryz.func231<|
 aI Tryz.func232<|
 aI Tryz.func233<|
 aI Tryz.func234<|
 aI Tryz.func235<|
 aI Tryz.func236<|
 aI Tryz.func237<|
 aI Tryz.func238<|
 aI Tryz.func239<|
 aI Tryz.func240<|
 aI Tryz.func241<|
 aI Tryz.func244<|
 aI Tryz.func245<|
 aI Tryz.func246<|
 aI Tryz.func256<|
 aI Tryz.func257<|
 aI Tryz.func258<|
 aI Tryz.func259<|
 aI Tryz.func260<|
 aI Tryz.func265<|
 aI Tryz.func266<|
 aI Tryz.func267<|
 aI Tryz.func268<|
 aI Tryz.func269<|
 aI Tryz.func270<|
 aI Tryz.func271<|
 aI Tryz.func272<|
 aI Tryz.func274<|
 aI Tryz.func277<|
 aI Tryz.func278<|
 aI Tryz.func279<|
 aI Tryz.func281<|
 aI Tryz.func282 fun h=>nomatch h
noncomputable def FF0:Nat->Option bZ:=LK (Ku Tryz.prog 1 funcAt) 218
noncomputable def FF:Nat->Option bZ:=Hv FF0 166 2
set_option maxRecDepth 100000
def iZ:ak:=(J_ (G_ [m_ 51 6,C_ 52 .leq 51 22] (H_ 52 2)) (J_ (P_ 3 (J_ (V_ [L_ 55 2 1,m_ 56 6,L_ 58 2 3,m_ 59 6,(F_ 57 24 [t_ 55,t_ 56],[3]),F_ 60 24 [t_ 58,t_ 59],X_ 61 .neq 57 60]) (I_ 61 (G_ [M_ 2 false] .ret) .skip))) (O_ [m_ 53 6,C_ 54 .add 53 1,m_ 6 54])))
def ja:ak:=(J_ (G_ [m_ 30 5,f_ 31 1 1,l_ 32 31,z_ 33 32,B_ 34 .lss 30 33] (H_ 34 0)) (J_ (P_ 1 (J_ (V_ [f_ 37 1 3,l_ 38 37,m_ 39 5,a_ 40 4 38 39,f_ 41 2 40,l_ 42 41,f_ 43 1 1,l_ 44 43,m_ 45 5,a_ 46 4 44 45,f_ 47 2 46,l_ 48 47,C_ 49 .add 48 1,B_ 50 .gtr 42 49]) (I_ 50 (G_ [M_ 2 false] .ret) .skip))) (O_ [m_ 35 5,C_ 36 .add 35 1,m_ 5 36])))
abbrev oN:Nat:=10
def oK:ak:=(G_ [x_ 1 0,M_ 2 false] (J_ (G_ [L_ 7 2 1,F_ 8 11 [t_ 7]] (I_ 8 (G_ [M_ 2 true] .ret) .skip)) (G_ [L_ 10 2 1,F_ 11 28 [t_ 10],m_ 9 11,E_ 12 0 9,E_ 13 1 9,K_ 3 VN,K_ 4 LI,s_ 2 3 12,s_ 2 4 13] (J_ (G_ [f_ 14 0 4,l_ 15 14,Y_ 16 .neq 15 0] (I_ 16 (G_ [L_ 17 2 3,F_ 18 14 [t_ 17],m_ 2 18] .ret) .skip)) (J_ (G_ [L_ 19 2 3,F_ 20 14 [t_ 19],m_ 21 20,q_ 22 21 false (.ee 1 (t_ 3)),q_ 23 21 false (.load none (t_ 22)),q_ 24 21 false (.tS (t_ 23)),q_ 25 21 false (.ee 1 (t_ 1)),q_ 26 21 false (.load none (t_ 25)),q_ 27 21 false (.tS (t_ 26)),q_ 28 21 false (.bin .neq [1] (t_ 24) (t_ 27)),o_ 29 (.pick (t_ 21) (b_ true) (t_ 28))] (I_ 29 (G_ [M_ 2 false] .ret) .skip)) (J_ (G_ [k_ 5 0] (Q_ 0 ja)) (J_ (G_ [k_ 6 2] (Q_ 2 iZ)) (G_ [M_ 2 true] .ret))))))))
theorem xe:FF oN=some ⟨[(.tmp 2)],oK,.no⟩:=by kernel_rfl
def jw:ak:=(J_ (G_ [m_ 13 5,f_ 14 1 1,l_ 15 14,m_ 16 3,a_ 17 4 15 16,f_ 18 3 17,l_ 19 18,z_ 20 19,B_ 21 .lss 13 20] (H_ 21 2)) (J_ (P_ 3 (V_ [m_ 24 4,f_ 25 1 1,l_ 26 25,m_ 27 3,a_ 28 4 26 27,f_ 29 3 28,l_ 30 29,m_ 31 5,a_ 32 6 30 31,f_ 33 0 32,l_ 34 33,z_ 35 34,B_ 36 .add 24 35,f_ 37 1 1,l_ 38 37,m_ 39 3,a_ 40 4 38 39,f_ 41 3 40,l_ 42 41,m_ 43 5,a_ 44 6 42 43,f_ 45 1 44,l_ 46 45,z_ 47 46,B_ 48 .add 36 47,m_ 4 48])) (O_ [m_ 22 5,C_ 23 .add 22 1,m_ 5 23])))
def oe:ak:=(J_ (G_ [m_ 6 3,f_ 7 1 1,l_ 8 7,z_ 9 8,B_ 10 .lss 6 9] (H_ 10 0)) (J_ (P_ 1 (G_ [k_ 4 0] (J_ (G_ [k_ 5 0] (Q_ 2 jw)) (G_ [f_ 49 1 1,l_ 50 49,m_ 51 3,a_ 52 4 50 51,f_ 53 3 52,l_ 54 53,z_ 55 54,C_ 56 .gtr 55 24,m_ 57 56,q_ 58 57 false (.mv (t_ 4)),q_ 59 57 false (.bin .gtr [] (t_ 58) (i_ 120)),o_ 60 (.pick (t_ 57) (b_ true) (t_ 59))] (I_ 60 (G_ [M_ 2 true] .ret) .skip))))) (O_ [m_ 11 3,C_ 12 .add 11 1,m_ 3 12])))
abbrev qa:Nat:=11
def pX:ak:=(G_ [x_ 1 0,M_ 2 false] (J_ (G_ [k_ 3 0] (Q_ 0 oe)) (G_ [f_ 61 1 1,l_ 62 61,z_ 63 62,C_ 64 .gtr 63 10,m_ 2 64] .ret)))
theorem xB:FF qa=some ⟨[(.tmp 2)],pX,.no⟩:=by kernel_rfl
def zJ:ak:=(N_ 17 16 15 0 1 28 (G_ [m_ 18 16,a_ 19 4 14 16,L_ 20 4 19,K_ 5 Wt,m_ 4 18,s_ 4 5 20] (G_ [L_ 21 4 5,F_ 22 35 [t_ 21],m_ 6 22] (G_ [m_ 23 6,Y_ 24 .neq 23 0] (I_ 24 (G_ [m_ 25 6,m_ 26 4,F_ 27 36 [t_ 25,t_ 26],s_ 2 2 27] .ret) .skip)))))
abbrev DO:Nat:=13
def Dc:ak:=(G_ [x_ 1 0,K_ 2 LI] (J_ (G_ [L_ 7 2 1,F_ 8 34 [t_ 7],K_ 3 LI,s_ 2 3 8] (G_ [L_ 9 2 3,o_ 10 (.build LI []),o_ 11 (.bin .neq [9,1,1] (t_ 9) (t_ 10))] (I_ 11 (G_ [L_ 12 2 3,s_ 2 2 12] .ret) .skip))) (J_ (G_ [f_ 13 1 1,l_ 14 13,z_ 15 14,k_ 16 0] (Q_ 0 zJ)) (G_ [o_ 29 (.build LI []),s_ 2 2 29] .ret))))
theorem Mr:FF DO=some ⟨[(.cell 2 (some 2))],Dc,.no⟩:=by kernel_rfl
abbrev tu:Nat:=14
def sD:ak:=(G_ [x_ 1 0,M_ 2 false] (G_ [f_ 3 0 1,l_ 4 3,z_ 5 4,Y_ 6 .eql 5 0,m_ 7 6,q_ 8 7 true (.ee 1 (t_ 1)),q_ 9 7 true (.load none (t_ 8)),q_ 10 7 true (.tS (t_ 9)),q_ 11 7 true (.bin .eql [1] (t_ 10) (i_ 0)),o_ 12 (.pick (t_ 7) (t_ 11) (b_ false)),m_ 2 12] .ret))
theorem z6:FF tu=some ⟨[(.tmp 2)],sD,.no⟩:=by kernel_rfl
def lH:ak:=(J_ (G_ [m_ 27 8,f_ 28 1 2,l_ 29 28,m_ 30 6,a_ 31 4 29 30,f_ 32 3 31,l_ 33 32,m_ 34 7,a_ 35 6 33 34,f_ 36 1 35,l_ 37 36,z_ 38 37,B_ 39 .lss 27 38] (H_ 39 4)) (J_ (P_ 5 (G_ [f_ 42 1 2,l_ 43 42,m_ 44 6,a_ 45 4 43 44,f_ 46 3 45,l_ 47 46,m_ 48 7,a_ 49 6 47 48,f_ 50 1 49,l_ 51 50,m_ 52 8,a_ 53 8 51 52,f_ 54 0 53,l_ 55 54,m_ 56 1,X_ 57 .eql 55 56] (I_ 57 (O_ [m_ 58 5,C_ 59 .add 58 1,m_ 5 59]) .skip))) (O_ [m_ 40 8,C_ 41 .add 40 1,m_ 8 41])))
def lJ:ak:=(J_ (G_ [m_ 16 7,f_ 17 1 2,l_ 18 17,m_ 19 6,a_ 20 4 18 19,f_ 21 3 20,l_ 22 21,z_ 23 22,B_ 24 .lss 16 23] (H_ 24 2)) (J_ (P_ 3 (G_ [k_ 8 0] (Q_ 4 lH))) (O_ [m_ 25 7,C_ 26 .add 25 1,m_ 7 26])))
def qS:ak:=(J_ (G_ [m_ 9 6,f_ 10 1 2,l_ 11 10,z_ 12 11,B_ 13 .lss 9 12] (H_ 13 0)) (J_ (P_ 1 (G_ [k_ 7 0] (Q_ 2 lJ))) (O_ [m_ 14 6,C_ 15 .add 14 1,m_ 6 15])))
abbrev uz:Nat:=24
def ug:ak:=(.seq (.ops [⟨(some 2),none,(.box (.tmp 0))⟩,⟨(some 4),none,(.mv (.const (.int .i64 0)))⟩]) (.seq (.ops [⟨(some 5),none,(.mv (.const (.int .i64 0)))⟩]) (.seq (.seq (.ops [⟨(some 6),none,(.mv (.const (.int .i64 0)))⟩]) (.block 0 (.loop qS))) (.seq (.ops [⟨(some 60),none,(.mv (.tmp 5))⟩,⟨(some 4),none,(.mv (.tmp 60))⟩]) .ret))))
theorem Bo:FF uz=some ⟨[(.tmp 4)],ug,.no⟩:=by kernel_rfl
abbrev NJ:Nat:=28
def Md:ak:=(G_ [x_ 1 0,K_ 2 VN,K_ 3 LI] (J_ (G_ [L_ 5 2 1,F_ 6 13 [t_ 5],K_ 4 LI,s_ 2 4 6] (G_ [L_ 7 2 4,o_ 8 (.build LI []),o_ 9 (.bin .neq [9,1,1] (t_ 7) (t_ 8))] (I_ 9 (J_ (V_ [o_ 10 (.build VN []),L_ 11 2 4,(s_ 2 2 10,[4]),s_ 2 3 11]) .ret) .skip))) (G_ [L_ 12 2 1,F_ 13 31 [t_ 12,(.func 59)],E_ 14 0 13,E_ 15 1 13,s_ 2 2 14,s_ 2 3 15] .ret)))
theorem W0:FF NJ=some ⟨[(.cell 2 (some 2)),(.cell 3 (some 2))],Md,.no⟩:=by kernel_rfl
def tJ:ak:=(N_ 39 38 37 2 3 57 (G_ [m_ 40 38,a_ 41 4 36 38,L_ 42 4 41,K_ 9 Wt,m_ 8 40,s_ 4 9 42] (G_ [m_ 43 1,L_ 44 4 9,F_ 45 69 [t_ 44],o_ 46 (.call (t_ 43) [t_ 45]),s_ 4 9 46] (J_ (G_ [L_ 47 4 9,F_ 48 70 [t_ 47]] (I_ 48 (G_ [o_ 49 (.build VN []),m_ 50 8,F_ 51 36 [(i_ 10),t_ 50],s_ 2 4 49,s_ 2 5 51] .ret) .skip)) (O_ [f_ 52 1 2,l_ 53 52,m_ 54 8,L_ 55 4 9,a_ 56 4 53 54,s_ 4 56 55])))))
def tK:ak:=(N_ 18 17 16 0 1 30 (G_ [m_ 19 17,a_ 20 3 15 17,L_ 21 3 20,K_ 7 ahv,m_ 6 19,s_ 3 7 21] (V_ [f_ 22 0 2,l_ 23 22,m_ 24 6,f_ 25 2 7,l_ 26 25,(F_ 27 67 [t_ 26],[22]),a_ 28 3 23 24,f_ 29 2 28,s_ 1 29 27])))
abbrev BN:Nat:=31
def Be:ak:=(G_ [x_ 2 0,K_ 4 VN,K_ 5 LI] (G_ [f_ 10 0 2,l_ 11 10,F_ 12 66 [t_ 11],f_ 13 0 2,s_ 1 13 12] (J_ (G_ [f_ 14 0 2,l_ 15 14,z_ 16 15,k_ 17 0] (Q_ 0 tK)) (G_ [f_ 31 1 2,l_ 32 31,F_ 33 68 [t_ 32],f_ 34 1 2,s_ 1 34 33] (J_ (G_ [f_ 35 1 2,l_ 36 35,z_ 37 36,k_ 38 0] (Q_ 2 tJ)) (G_ [L_ 58 2 2,o_ 59 (.build LI []),s_ 2 4 58,s_ 2 5 59] .ret))))))
theorem J2:FF BN=some ⟨[(.cell 4 (some 2)),(.cell 5 (some 2))],Be,.no⟩:=by kernel_rfl
def tz:ak:=(N_ 108 107 106 5 6 122 (G_ [m_ 109 107,a_ 110 4 105 107,L_ 111 4 110,K_ 13 Wt,m_ 12 109,s_ 4 13 111] (G_ [L_ 112 2 1,L_ 113 4 13,o_ 114 (.build acR [(0,(2,(t_ 112))),(2,(4,(t_ 113)))]),K_ 14 acR,s_ 7 14 114] (G_ [L_ 115 7 14,F_ 116 82 [t_ 115],m_ 15 116] (G_ [m_ 117 15,Y_ 118 .neq 117 0] (I_ 118 (G_ [m_ 119 15,m_ 120 12,F_ 121 36 [t_ 119,t_ 120],s_ 2 2 121] .ret) .skip))))))
def tA:ak:=(N_ 83 82 81 3 4 103 (G_ [m_ 84 82,a_ 85 4 80 82,L_ 86 4 85,K_ 9 Wt,m_ 8 84,s_ 4 9 86] (G_ [L_ 87 2 1,L_ 88 4 9,o_ 89 (.build acR [(0,(2,(t_ 87))),(2,(4,(t_ 88)))]),K_ 10 acR,s_ 7 10 89] (J_ (G_ [L_ 90 7 10,m_ 91 3,F_ 92 81 [t_ 90,t_ 91],m_ 11 92] (G_ [m_ 93 11,Y_ 94 .neq 93 0] (I_ 94 (G_ [m_ 95 11,m_ 96 8,F_ 97 36 [t_ 95,t_ 96],s_ 2 2 97] .ret) .skip))) (O_ [m_ 98 3,f_ 99 0 9,l_ 100 99,v_ 101 acS 1 100,A_ 102 acS 16 98 101,m_ 3 102])))))
def FV:ak:=(P_ 2 (G_ [f_ 37 0 6,l_ 38 37,F_ 39 78 [t_ 38],o_ 40 (.un .not (t_ 39)),m_ 36 40] (I_ 36 (O_ [k_ 7 12]) (G_ [m_ 42 3,f_ 43 0 6,l_ 44 43,F_ 45 79 [t_ 42,t_ 44],m_ 41 45] (I_ 41 (O_ [k_ 7 7]) (G_ [f_ 47 1 6,l_ 48 47,F_ 49 80 [t_ 48,(i_ 1),(i_ 200)],o_ 50 (.un .not (t_ 49)),m_ 46 50] (I_ 46 (O_ [k_ 7 3]) (G_ [f_ 52 2 6,l_ 53 52,z_ 54 53,f_ 55 1 6,l_ 56 55,B_ 57 .gtr 54 56,m_ 51 57] (I_ 51 (O_ [k_ 7 9]) (G_ [m_ 59 4,f_ 60 1 6,l_ 61 60,B_ 62 .add 59 61,C_ 63 .gtr 62 200,m_ 58 63] (I_ 58 (O_ [k_ 7 10]) .skip)))))))))))
def Xw:ak:=(J_ (G_ [m_ 64 7,Y_ 65 .neq 64 0] (I_ 65 (G_ [m_ 66 7,m_ 67 5,F_ 68 36 [t_ 66,t_ 67],s_ 2 2 68] .ret) .skip)) (G_ [m_ 69 3,f_ 70 0 6,l_ 71 70,v_ 72 acS 1 71,A_ 73 acS 16 69 72,m_ 3 73] (O_ [m_ 74 4,f_ 75 1 6,l_ 76 75,B_ 77 .add 74 76,m_ 4 77])))
def tB:ak:=(N_ 32 31 30 0 1 78 (G_ [m_ 33 31,a_ 34 3 29 31,L_ 35 3 34,K_ 6 ahv,m_ 5 33,s_ 3 6 35] (G_ [k_ 7 0] (J_ FV Xw))))
abbrev BI:Nat:=34
def A0:ak:=(G_ [x_ 1 0,K_ 2 LI] (J_ (G_ [f_ 17 0 1,l_ 18 17,z_ 19 18,C_ 20 .gtr 19 10,m_ 21 20,q_ 22 21 false (.ee 1 (t_ 1)),q_ 23 21 false (.load none (t_ 22)),q_ 24 21 false (.tS (t_ 23)),q_ 25 21 false (.bin .gtr [] (t_ 24) (i_ 10)),o_ 26 (.pick (t_ 21) (b_ true) (t_ 25))] (I_ 26 (G_ [F_ 27 36 [(i_ 2),(i_ 0)],s_ 2 2 27] .ret) .skip)) (G_ [Z_ 3] (G_ [k_ 4 0] (J_ (G_ [f_ 28 0 1,l_ 29 28,z_ 30 29,k_ 31 0] (Q_ 0 tB)) (J_ (G_ [f_ 79 1 1,l_ 80 79,z_ 81 80,k_ 82 0] (Q_ 3 tA)) (J_ (G_ [f_ 104 1 1,l_ 105 104,z_ 106 105,k_ 107 0] (Q_ 5 tz)) (G_ [f_ 123 1 1,l_ 124 123,F_ 125 83 [t_ 124,(.func 84)],m_ 16 125] (J_ (G_ [m_ 126 16,C_ 127 .lss 126 0] (I_ 127 (G_ [F_ 128 36 [(i_ 6),(i_ 0)],s_ 2 2 128] .ret) .skip)) (J_ (G_ [f_ 129 1 1,l_ 130 129,m_ 131 16,a_ 132 4 130 131,f_ 133 1 132,l_ 134 133,C_ 135 .gtr 134 0] (I_ 135 (G_ [m_ 136 16,F_ 137 36 [(i_ 5),t_ 136],s_ 2 2 137] .ret) .skip)) (G_ [o_ 138 (.build LI []),s_ 2 2 138] .ret)))))))))))
theorem JW:FF BI=some ⟨[(.cell 2 (some 2))],A0,.no⟩:=by kernel_rfl
abbrev zF:Nat:=35
def zn:ak:=(G_ [x_ 1 0,k_ 2 0] (J_ (V_ [L_ 4 4 1,L_ 5 4 1,o_ 7 (.build LI [(0,(1,(.const (.int .i64 (Int.negSucc 0))))),(1,(1,(.const (.int .i64 (Int.negSucc 0)))))]),v_ 8 LI 2 7,f_ 9 2 1,l_ 10 9,(F_ 6 85 [t_ 5],[8,9]),(F_ 11 86 [t_ 8,t_ 10],[1]),(⟨(some 12),none,(.build [(.string ⟨⟨[]⟩⟩),(.int .i64 0),(.int .i64 0),(.slice none 0 0),(.slice none 0 0),(.slice none 0 0)] [(0,(4,(t_ 4))),(4,(1,(t_ 6))),(5,(1,(t_ 11)))])⟩,[]),x_ 13 12,m_ 3 13]) (J_ (P_ 0 (J_ (V_ [L_ 15 4 1,f_ 18 3 1,l_ 19 18,z_ 20 19,(F_ 16 87 [t_ 15],[18]),z_ 17 16,B_ 21 .lss 17 20,m_ 14 21]) (I_ 14 (G_ [k_ 2 5] .ret) (G_ [m_ 23 3,F_ 24 88 [t_ 23],o_ 25 (.un .not (t_ 24)),m_ 22 25] (I_ 22 (G_ [k_ 2 7] .ret) (G_ [m_ 27 3,F_ 28 89 [t_ 27],o_ 29 (.un .not (t_ 28)),m_ 26 29] (I_ 26 (G_ [k_ 2 6] .ret) .skip))))))) (G_ [k_ 2 0] .ret))))
theorem HS:FF zF=some ⟨[(.tmp 2)],zn,.no⟩:=by kernel_rfl
abbrev BK:Nat:=36
def Ba:ak:=(G_ [K_ 4 LI] (G_ [m_ 5 0,m_ 6 1,o_ 7 (.build LI [(0,(1,(t_ 5))),(1,(1,(t_ 6)))]),s_ 2 4 7] .ret))
theorem JZ:FF BK=some ⟨[(.cell 4 (some 2))],Ba,.no⟩:=by kernel_rfl
set_option maxRecDepth 100000
def QI:ak:=(V_ [m_ 118 15,l_ 119 3,f_ 120 0 17,l_ 121 120,a_ 122 1 119 121,l_ 123 122,m_ 124 4,f_ 125 1 17,l_ 126 125,m_ 127 13,a_ 128 2 126 127,L_ 129 2 128,(o_ 130 (.call (t_ 124) [t_ 129]),[3,120,122]),o_ 131 (.build LJ [(0,(1,(t_ 123))),(1,(2,(t_ 130)))]),v_ 132 LJ 3 131,A_ 133 LJ 24 118 132,m_ 15 133])
def we:ak:=(N_ 115 114 113 10 11 134 (G_ [a_ 116 2 112 114,L_ 117 2 116,K_ 17 Ry,s_ 2 17 117] QI))
def wg:ak:=(N_ 103 102 101 8 9 139 (G_ [m_ 104 102,a_ 105 1 100 102,l_ 106 105,m_ 13 104,m_ 14 106] (G_ [Z_ 15] (J_ (G_ [f_ 107 3 1,l_ 108 107,m_ 109 11,a_ 110 6 108 109,f_ 111 0 110,l_ 112 111,z_ 113 112,k_ 114 0] (Q_ 10 we)) (O_ [m_ 135 14,m_ 136 11,m_ 137 15,F_ 138 122 [t_ 1,t_ 135,t_ 136,t_ 137]])))))
def wh:ak:=(N_ 96 95 94 6 7 145 (G_ [m_ 97 95,a_ 98 1 93 95,l_ 99 98,m_ 11 97,m_ 12 99] (J_ (G_ [m_ 100 12,z_ 101 100,k_ 102 0] (Q_ 8 wg)) (O_ [f_ 140 3 1,l_ 141 140,m_ 142 11,a_ 143 6 141 142,f_ 144 0 143,u_ (.store 1 (t_ 144) (.const (.slice none 0 0)))]))))
def wq:ak:=(N_ 53 52 51 4 5 64 (G_ [m_ 54 52,a_ 55 2 50 52,L_ 56 2 55,K_ 10 yK,m_ 9 54,s_ 2 10 56] (V_ [f_ 57 7 8,l_ 58 57,m_ 59 9,m_ 60 4,L_ 61 2 10,(o_ 62 (.call (t_ 60) [t_ 61]),[57]),a_ 63 2 58 59,s_ 2 63 62])))
def QP:ak:=(V_ [m_ 39 4,f_ 40 2 8,L_ 41 2 40,m_ 43 4,f_ 44 4 8,L_ 45 2 44,(o_ 42 (.call (t_ 39) [t_ 41]),[44]),f_ 47 2 8,o_ 46 (.call (t_ 43) [t_ 45]),s_ 2 47 42,f_ 48 4 8,s_ 2 48 46])
def QO:ak:=(O_ [f_ 74 1 6,l_ 75 74,m_ 76 7,L_ 77 8 8,a_ 78 8 75 76,s_ 8 78 77])
def wv:ak:=(N_ 35 34 33 2 3 79 (G_ [m_ 36 34,a_ 37 8 32 34,L_ 38 8 37,K_ 8 L0,m_ 7 36,s_ 8 8 38] (J_ QP (J_ (G_ [f_ 49 7 8,l_ 50 49,z_ 51 50,k_ 52 0] (Q_ 4 wq)) (J_ (G_ [f_ 65 1 8,l_ 66 65,C_ 67 .geq 66 0] (I_ 67 (O_ [l_ 68 3,f_ 69 1 8,l_ 70 69,a_ 71 1 68 70,l_ 72 71,f_ 73 1 8,s_ 1 73 72]) .skip)) QO)))))
def QN:ak:=(V_ [f_ 80 3 1,l_ 81 80,m_ 82 5,m_ 83 4,f_ 84 2 6,f_ 85 1 84,L_ 86 2 85,(o_ 87 (.call (t_ 83) [t_ 86]),[80]),a_ 88 6 81 82,f_ 89 2 88,f_ 90 1 89,s_ 2 90 87])
def wy:ak:=(N_ 27 26 25 0 1 91 (G_ [m_ 28 26,a_ 29 6 24 26,L_ 30 6 29,K_ 6 EA,m_ 5 28,s_ 6 6 30] (J_ (G_ [f_ 31 1 6,l_ 32 31,z_ 33 32,k_ 34 0] (Q_ 2 wv)) QN)))
abbrev Ay:Nat:=59
def Fo:ak:=(G_ [x_ 1 0,K_ 2 Wt] (G_ [L_ 18 4 1,F_ 19 119 [t_ 18],s_ 4 1 19] (G_ [L_ 20 4 1,F_ 21 120 [t_ 20],K_ 3 VO,s_ 1 3 21] (G_ [o_ 22 (.tX 121 [t_ 3]),m_ 4 22] (J_ (G_ [f_ 23 3 1,l_ 24 23,z_ 25 24,k_ 26 0] (Q_ 0 wy)) (J_ (G_ [L_ 92 4 1,F_ 93 101 [t_ 92],z_ 94 93,k_ 95 0] (Q_ 6 wh)) (G_ [f_ 146 2 1,l_ 147 146,C_ 148 .add 147 1,f_ 149 2 1,s_ 1 149 148] (G_ [L_ 150 4 1,F_ 151 77 [t_ 150],s_ 4 2 151] .ret))))))))
theorem Px:FF Ay=some ⟨[(.cell 2 (some 4))],Fo,.no⟩:=by kernel_rfl
abbrev lx:Nat:=66
def lf:ak:=(G_ [Z_ 2] (J_ (G_ [m_ 3 0,o_ 4 (.bin .eql [3] (t_ 3) (.const (.slice none 0 0)))] (I_ 4 (G_ [Z_ 2] .ret) .skip)) (G_ [o_ 5 (.gC 0 [] []),m_ 6 0,A_ 7 ahv 48 5 6,m_ 2 7] .ret)))
theorem lh:FF lx=some ⟨[(.tmp 2)],lf,.no⟩:=by kernel_rfl
abbrev vY:Nat:=67
def vH:ak:=(G_ [Z_ 2] (J_ (G_ [m_ 3 0,o_ 4 (.bin .eql [3] (t_ 3) (.const (.slice none 0 0)))] (I_ 4 (G_ [Z_ 2] .ret) .skip)) (G_ [o_ 5 (.gC 0 [] []),m_ 6 0,A_ 7 D6 8 5 6,m_ 2 7] .ret)))
theorem jo:FF vY=some ⟨[(.tmp 2)],vH,.no⟩:=by kernel_rfl
abbrev nz:Nat:=68
def mZ:ak:=(G_ [Z_ 2] (J_ (G_ [m_ 3 0,o_ 4 (.bin .eql [3] (t_ 3) (.const (.slice none 0 0)))] (I_ 4 (G_ [Z_ 2] .ret) .skip)) (G_ [o_ 5 (.gC 0 [] []),m_ 6 0,A_ 7 Wt 56 5 6,m_ 2 7] .ret)))
theorem ni:FF nz=some ⟨[(.tmp 2)],mZ,.no⟩:=by kernel_rfl
def tG:ak:=(N_ 50 49 48 4 5 62 (G_ [m_ 51 49,a_ 52 8 47 49,L_ 53 8 52,K_ 8 L0,m_ 7 51,s_ 8 8 53] (V_ [f_ 54 1 4,l_ 55 54,m_ 56 7,f_ 57 7 8,l_ 58 57,(F_ 59 128 [t_ 58],[54]),a_ 60 8 55 56,f_ 61 7 60,s_ 1 61 59])))
def tH:ak:=(N_ 29 28 27 2 3 41 (G_ [m_ 30 28,a_ 31 2 26 28,L_ 32 2 31,K_ 6 Ry,m_ 5 30,s_ 2 6 32] (V_ [f_ 33 0 4,l_ 34 33,m_ 35 5,f_ 36 1 6,l_ 37 36,(F_ 38 128 [t_ 37],[33]),a_ 39 2 34 35,f_ 40 1 39,s_ 1 40 38])))
def tI:ak:=(N_ 17 16 15 0 1 74 (G_ [m_ 18 16,a_ 19 6 14 16,L_ 20 6 19,K_ 4 EA,m_ 3 18,s_ 6 4 20] (G_ [f_ 21 0 4,l_ 22 21,F_ 23 127 [t_ 22],f_ 24 0 4,s_ 1 24 23] (J_ (G_ [f_ 25 0 4,l_ 26 25,z_ 27 26,k_ 28 0] (Q_ 2 tH)) (G_ [f_ 42 1 4,l_ 43 42,F_ 44 129 [t_ 43],f_ 45 1 4,s_ 1 45 44] (J_ (G_ [f_ 46 1 4,l_ 47 46,z_ 48 47,k_ 49 0] (Q_ 4 tG)) (G_ [f_ 63 2 4,f_ 64 3 63,l_ 65 64,F_ 66 67 [t_ 65],f_ 67 2 4,f_ 68 3 67,s_ 1 68 66] (O_ [f_ 69 3 1,l_ 70 69,m_ 71 3,L_ 72 6 4,a_ 73 6 70 71,s_ 6 73 72]))))))))
abbrev BM:Nat:=69
def Bc:ak:=(G_ [x_ 1 0,K_ 2 Wt] (G_ [f_ 9 3 1,l_ 10 9,F_ 11 126 [t_ 10],f_ 12 3 1,s_ 1 12 11] (J_ (G_ [f_ 13 3 1,l_ 14 13,z_ 15 14,k_ 16 0] (Q_ 0 tI)) (G_ [L_ 75 4 1,s_ 4 2 75] .ret))))
theorem J1:FF BM=some ⟨[(.cell 2 (some 4))],Bc,.no⟩:=by kernel_rfl
def wZ:ak:=(N_ 10 9 8 0 1 22 (G_ [a_ 11 6 7 9,L_ 12 6 11,K_ 5 EA,s_ 6 5 12] (O_ [m_ 13 3,f_ 14 0 5,l_ 15 14,z_ 16 15,f_ 17 1 5,l_ 18 17,z_ 19 18,B_ 20 .add 16 19,B_ 21 .add 13 20,m_ 3 21])))
abbrev zD:Nat:=70
def zk:ak:=(G_ [x_ 1 0,M_ 2 false] (G_ [k_ 3 0] (J_ (G_ [f_ 6 3 1,l_ 7 6,z_ 8 7,k_ 9 0] (Q_ 0 wZ)) (G_ [f_ 23 3 1,l_ 24 23,z_ 25 24,C_ 26 .gtr 25 40,m_ 27 26,q_ 28 27 false (.mv (t_ 3)),q_ 29 27 false (.bin .gtr [] (t_ 28) (i_ 300)),o_ 30 (.pick (t_ 27) (b_ true) (t_ 29)),m_ 31 30,q_ 32 31 false (.ee 2 (t_ 1)),q_ 33 31 false (.load none (t_ 32)),q_ 34 31 false (.bin .gtr [] (t_ 33) (i_ 100)),o_ 35 (.pick (t_ 31) (b_ true) (t_ 34)),m_ 2 35] .ret))))
theorem HO:FF zD=some ⟨[(.tmp 2)],zk,.no⟩:=by kernel_rfl
abbrev DP:Nat:=77
def Dd:ak:=(G_ [x_ 1 0,K_ 2 Wt] (J_ (V_ [L_ 3 4 1,L_ 4 4 1,(F_ 5 138 [t_ 4],[1]),F_ 6 137 [t_ 3,t_ 5],F_ 7 136 [t_ 6],F_ 8 135 [t_ 7],s_ 4 2 8]) .ret))
theorem Ms:FF DP=some ⟨[(.cell 2 (some 4))],Dd,.no⟩:=by kernel_rfl
def zH:ak:=(N_ 16 15 14 0 1 52 (G_ [m_ 17 15,m_ 3 17] (G_ [m_ 18 0,m_ 19 3,o_ 20 (.index none (t_ 18) (t_ 19)),m_ 4 20] (G_ [m_ 21 4,o_ 22 (.bin .geq [] (t_ 21) (.const (.int .u8 97))),m_ 23 22,q_ 24 23 true (.mv (t_ 4)),q_ 25 23 true (.bin .leq [] (t_ 24) (.const (.int .u8 122))),o_ 26 (.pick (t_ 23) (t_ 25) (b_ false)),m_ 27 26,q_ 28 27 false (.mv (t_ 4)),q_ 29 27 false (.bin .geq [] (t_ 28) (.const (.int .u8 65))),q_ 30 27 false (.mv (t_ 29)),q_ 31 30 true (.mv (t_ 4)),q_ 32 30 true (.bin .leq [] (t_ 31) (.const (.int .u8 90))),q_ 33 27 false (.pick (t_ 30) (t_ 32) (b_ false)),o_ 34 (.pick (t_ 27) (b_ true) (t_ 33)),m_ 35 34,q_ 36 35 false (.mv (t_ 4)),q_ 37 35 false (.bin .eql [1] (t_ 36) (.const (.int .u8 95))),o_ 38 (.pick (t_ 35) (b_ true) (t_ 37)),m_ 39 38,q_ 40 39 false (.mv (t_ 3)),q_ 41 39 false (.bin .gtr [] (t_ 40) (i_ 0)),q_ 42 39 false (.mv (t_ 41)),q_ 43 42 true (.mv (t_ 4)),q_ 44 42 true (.bin .geq [] (t_ 43) (.const (.int .u8 48))),q_ 45 39 false (.pick (t_ 42) (t_ 44) (b_ false)),q_ 46 39 false (.mv (t_ 45)),q_ 47 46 true (.mv (t_ 4)),q_ 48 46 true (.bin .leq [] (t_ 47) (.const (.int .u8 57))),q_ 49 39 false (.pick (t_ 46) (t_ 48) (b_ false)),o_ 50 (.pick (t_ 39) (b_ true) (t_ 49)),o_ 51 (.un .not (t_ 50))] (I_ 51 (G_ [M_ 2 false] .ret) .skip)))))
abbrev DL:Nat:=78
def C6:ak:=(G_ [M_ 2 false] (J_ (G_ [m_ 5 0,o_ 6 (.Lz (t_ 5)),C_ 7 .lss 6 1,m_ 8 7,q_ 9 8 false (.mv (t_ 0)),q_ 10 8 false (.Lz (t_ 9)),q_ 11 8 false (.bin .gtr [] (t_ 10) (i_ 12)),o_ 12 (.pick (t_ 8) (b_ true) (t_ 11))] (I_ 12 (G_ [M_ 2 false] .ret) .skip)) (J_ (G_ [m_ 13 0,o_ 14 (.Lz (t_ 13)),k_ 15 0] (Q_ 0 zH)) (G_ [M_ 2 true] .ret))))
theorem Ml:FF DL=some ⟨[(.tmp 2)],C6,.no⟩:=by kernel_rfl
abbrev iK:Nat:=79
def iI:ak:=(G_ [M_ 4 false] (G_ [m_ 5 0,m_ 6 1,F_ 7 139 [t_ 5,t_ 6],C_ 8 .geq 7 0,m_ 4 8] .ret))
theorem ox:FF iK=some ⟨[(.tmp 4)],iI,.no⟩:=by kernel_rfl
abbrev zC:Nat:=80
def zi:ak:=(G_ [M_ 6 false] (G_ [m_ 7 0,m_ 8 1,B_ 9 .geq 7 8,m_ 10 9,q_ 11 10 true (.mv (t_ 0)),q_ 12 10 true (.mv (t_ 2)),q_ 13 10 true (.bin .leq [] (t_ 11) (t_ 12)),o_ 14 (.pick (t_ 10) (t_ 13) (b_ false)),m_ 6 14] .ret))
theorem HM:FF zC=some ⟨[(.tmp 6)],zi,.no⟩:=by kernel_rfl
def oQ:ak:=(N_ 13 12 11 0 1 25 (G_ [a_ 14 6 10 12,L_ 15 6 14,K_ 7 EA,s_ 6 7 15] (O_ [m_ 16 5,f_ 17 0 7,l_ 18 17,z_ 19 18,f_ 20 1 7,l_ 21 20,z_ 22 21,B_ 23 .add 19 22,B_ 24 .add 16 23,m_ 5 24])))
abbrev qO:Nat:=81
def qI:ak:=(G_ [x_ 2 0,k_ 4 0] (G_ [k_ 5 0] (J_ (G_ [f_ 8 2 2,f_ 9 3 8,l_ 10 9,z_ 11 10,k_ 12 0] (Q_ 0 oQ)) (J_ (P_ 2 (G_ [f_ 27 2 2,f_ 28 0 27,l_ 29 28,F_ 30 78 [t_ 29],o_ 31 (.un .not (t_ 30)),m_ 26 31] (I_ 26 (G_ [k_ 4 12] .ret) (G_ [m_ 33 1,f_ 34 2 2,f_ 35 0 34,l_ 36 35,F_ 37 79 [t_ 33,t_ 36],m_ 32 37] (I_ 32 (G_ [k_ 4 7] .ret) (G_ [f_ 39 2 2,f_ 40 1 39,l_ 41 40,F_ 42 80 [t_ 41,(i_ 0),(i_ 6)],o_ 43 (.un .not (t_ 42)),m_ 44 43,q_ 45 44 false (.ee 2 (t_ 2)),q_ 46 44 false (.ee 2 (t_ 45)),q_ 47 44 false (.load none (t_ 46)),q_ 48 44 false (.ee 2 (t_ 2)),q_ 49 44 false (.ee 1 (t_ 48)),q_ 50 44 false (.load none (t_ 49)),q_ 51 44 false (.call (.func 80) [t_ 47,t_ 50,(i_ 100)]),q_ 52 44 false (.un .not (t_ 51)),o_ 53 (.pick (t_ 44) (b_ true) (t_ 52)),m_ 38 53] (I_ 38 (G_ [k_ 4 3] .ret) (G_ [f_ 55 2 2,f_ 56 3 55,l_ 57 56,z_ 58 57,F_ 59 80 [t_ 58,(i_ 1),(i_ 40)],o_ 60 (.un .not (t_ 59)),m_ 61 60,q_ 62 61 false (.mv (t_ 5)),q_ 63 61 false (.bin .gtr [] (t_ 62) (i_ 300)),o_ 64 (.pick (t_ 61) (b_ true) (t_ 63)),m_ 54 64] (I_ 54 (G_ [k_ 4 2] .ret) .skip))))))))) (G_ [k_ 4 0] .ret)))))
theorem yO:FF qO=some ⟨[(.tmp 4)],qI,.no⟩:=by kernel_rfl
def jT:ak:=(N_ 62 61 60 6 7 71 (G_ [a_ 63 8 59 61,L_ 64 8 63,K_ 12 L0,s_ 8 12 64] (G_ [L_ 65 7 1,L_ 66 8 12,F_ 67 143 [t_ 65,t_ 66],m_ 13 67] (G_ [m_ 68 13,Y_ 69 .neq 68 0] (I_ 69 (G_ [m_ 70 13,m_ 2 70] .ret) .skip)))))
def jU:ak:=(N_ 47 46 45 4 5 57 (G_ [a_ 48 2 44 46,L_ 49 2 48,K_ 9 Ry,s_ 2 9 49] (G_ [L_ 50 7 1,m_ 51 6,L_ 52 2 9,F_ 53 142 [t_ 50,t_ 51,t_ 52],m_ 10 53] (G_ [m_ 54 10,Y_ 55 .neq 54 0] (I_ 55 (G_ [m_ 56 10,m_ 2 56] .ret) .skip)))))
def jV:ak:=(N_ 39 38 37 2 3 72 (G_ [m_ 40 38,a_ 41 6 36 38,L_ 42 6 41,K_ 7 EA,m_ 6 40,s_ 6 7 42] (J_ (G_ [f_ 43 0 7,l_ 44 43,z_ 45 44,k_ 46 0] (Q_ 4 jU)) (G_ [f_ 58 1 7,l_ 59 58,z_ 60 59,k_ 61 0] (Q_ 6 jT)))))
def jW:ak:=(N_ 19 18 17 0 1 29 (G_ [a_ 20 6 16 18,L_ 21 6 20,K_ 4 EA,s_ 6 4 21] (G_ [L_ 22 7 1,f_ 23 2 4,L_ 24 4 23,F_ 25 140 [t_ 22,t_ 24],m_ 5 25] (G_ [m_ 26 5,Y_ 27 .neq 26 0] (I_ 27 (G_ [m_ 28 5,m_ 2 28] .ret) .skip)))))
abbrev qN:Nat:=82
def qH:ak:=(G_ [x_ 1 0,k_ 2 0] (J_ (G_ [f_ 14 2 1,f_ 15 3 14,l_ 16 15,z_ 17 16,k_ 18 0] (Q_ 0 jW)) (G_ [f_ 30 2 1,L_ 31 4 30,F_ 32 141 [t_ 31],f_ 33 6 1,s_ 1 33 32] (J_ (G_ [f_ 34 2 1,f_ 35 3 34,l_ 36 35,z_ 37 36,k_ 38 0] (Q_ 2 jV)) (G_ [k_ 2 0] .ret)))))
theorem yN:FF qN=some ⟨[(.tmp 2)],qH,.no⟩:=by kernel_rfl
def fk:ak:=(N_ 9 8 7 0 1 18 (G_ [m_ 10 8,m_ 5 10] (G_ [m_ 11 1,m_ 12 0,m_ 13 5,a_ 14 4 12 13,L_ 15 4 14,o_ 16 (.call (t_ 11) [t_ 15])] (I_ 16 (G_ [m_ 17 5,m_ 4 17] .ret) .skip))))
abbrev fL:Nat:=83
def fH:ak:=(.seq (.ops [⟨(some 4),none,(.mv (.const (.int .i64 0)))⟩]) (.seq (.seq (.ops [⟨(some 6),none,(.mv (.tmp 0))⟩,⟨(some 7),none,(.tS (.tmp 6))⟩,⟨(some 8),none,(.mv (.const (.int .i64 0)))⟩]) (.block 0 (.loop fk))) (.seq (.ops [⟨(some 4),none,(.mv (.const (.int .i64 (Int.negSucc 0))))⟩]) .ret)))
theorem lk:FF fL=some ⟨[(.tmp 4)],fH,.no⟩:=by kernel_rfl
abbrev kv:Nat:=84
def xn:ak:=(G_ [x_ 1 0,M_ 2 false] (G_ [f_ 3 0 1,l_ 4 3,⟨(some 5),none,(.bin .eql [2] (t_ 4) (.const (.string ⟨⟨[109,97,105,110]⟩⟩)))⟩,m_ 2 5] .ret))
theorem Fw:FF kv=some ⟨[(.tmp 2)],xn,.no⟩:=by kernel_rfl
def tD:ak:=(N_ 56 55 54 6 7 74 (G_ [a_ 57 1 53 55,l_ 58 57,m_ 14 58] (P_ 8 (G_ [m_ 65 5,m_ 66 14,a_ 67 1 65 66,l_ 68 67,C_ 69 .lss 68 0,m_ 64 69] (I_ 64 .skip (G_ [m_ 71 12,C_ 72 .lss 71 0,m_ 70 72] (I_ 70 (O_ [m_ 73 14,m_ 12 73]) (O_ [m_ 59 5,m_ 60 4,m_ 61 12,m_ 62 14,F_ 63 145 [t_ 59,t_ 60,t_ 61,t_ 62],m_ 12 63]))))))))
def kC:ak:=(N_ 47 46 45 4 5 85 (G_ [a_ 48 1 44 46,l_ 49 48,m_ 11 49] (G_ [k_ 12 (Int.negSucc 0)] (J_ (G_ [m_ 50 8,m_ 51 11,a_ 52 1 50 51,l_ 53 52,z_ 54 53,k_ 55 0] (Q_ 6 tD)) (G_ [m_ 75 5,m_ 76 11,a_ 77 1 75 76,l_ 78 77,m_ 79 12,X_ 80 .neq 78 79] (I_ 80 (O_ [m_ 81 5,m_ 82 11,m_ 83 12,a_ 84 1 81 82,s_ 1 84 83,M_ 9 true]) .skip))))))
def tE:ak:=(J_ (G_ [m_ 42 9] (H_ 42 2)) (P_ 3 (G_ [M_ 9 false] (G_ [m_ 43 3,o_ 44 (.slice 1 (t_ 43) (some (i_ 1)) none none),z_ 45 44,k_ 46 0] (Q_ 4 kC)))))
def tF:ak:=(N_ 29 28 27 0 1 37 (G_ [m_ 30 28,a_ 31 1 26 28,l_ 32 31,m_ 6 30,m_ 7 32] (O_ [m_ 33 4,m_ 34 7,m_ 35 6,a_ 36 1 33 34,s_ 1 36 35])))
abbrev BL:Nat:=85
def Bb:ak:=(G_ [x_ 1 0,Z_ 2] (G_ [L_ 15 4 1,F_ 16 138 [t_ 15],m_ 3 16] (G_ [f_ 17 3 1,l_ 18 17,z_ 19 18,o_ 20 (.gK D6 8 (t_ 19) (t_ 19)),m_ 4 20] (G_ [o_ 21 (.gC 1 D6 [(0,(1,(.const (.int .i64 (Int.negSucc 0)))))]),f_ 22 3 1,l_ 23 22,z_ 24 23,F_ 25 144 [t_ 21,t_ 24],m_ 5 25] (J_ (G_ [m_ 26 3,z_ 27 26,k_ 28 0] (Q_ 0 tF)) (G_ [m_ 38 5,o_ 39 (.dx none 1 (t_ 38) (i_ 0)),u_ (.store 1 (t_ 39) (i_ 0))] (G_ [L_ 40 4 1,F_ 41 101 [t_ 40],m_ 8 41] (J_ (G_ [M_ 9 true] (Q_ 2 tE)) (G_ [m_ 86 5,o_ 87 (.dx none 1 (t_ 86) (i_ 0)),u_ (.store 1 (t_ 87) (.const (.int .i64 (Int.negSucc 0))))] (G_ [m_ 88 5,m_ 2 88] .ret))))))))))
theorem J0:FF BL=some ⟨[(.tmp 2)],Bb,.no⟩:=by kernel_rfl
def jL:ak:=(J_ (G_ [m_ 34 8,m_ 35 7,z_ 36 35,B_ 37 .lss 34 36] (H_ 37 0)) (P_ 1 (V_ [m_ 38 8,m_ 39 7,m_ 40 8,o_ 41 (.slice 2 (t_ 39) (some (t_ 40)) none none),m_ 42 7,m_ 43 8,o_ 44 (.slice 2 (t_ 42) none (some (t_ 43)) none),o_ 45 (.copy 2 (t_ 41) (t_ 44)),B_ 46 .add 38 45,m_ 8 46])))
abbrev cY:Nat:=86
def j7:ak:=(G_ [Z_ 4] (J_ (G_ [m_ 9 1,C_ 10 .lss 9 0] (I_ 10 (O_ [⟨(some 11),none,.bad⟩,⟨none,none,.bad⟩]) .skip)) (G_ [m_ 13 0,z_ 14 13,o_ 15 (.conv .u64 (t_ 14)),m_ 16 1,o_ 17 (.conv .u64 (t_ 16)),F_ 18 146 [t_ 15,t_ 17],m_ 12 18,E_ 19 0 12,E_ 20 1 12,m_ 5 19,m_ 6 20] (J_ (G_ [m_ 21 5,o_ 22 (.bin .gtr [] (t_ 21) (.const (.int .u64 0))),m_ 23 22,q_ 24 23 false (.mv (t_ 6)),q_ 25 23 false (.bin .gtr [] (t_ 24) (.const (.int .u64 9223372036854775807))),o_ 26 (.pick (t_ 23) (b_ true) (t_ 25))] (I_ 26 (O_ [⟨(some 27),none,.bad⟩,⟨none,none,.bad⟩]) .skip)) (G_ [m_ 28 6,o_ 29 (.conv .i64 (t_ 28)),o_ 30 (.gK LI 16 (t_ 29) (t_ 29)),m_ 7 30] (G_ [m_ 31 7,m_ 32 0,o_ 33 (.copy 2 (t_ 31) (t_ 32)),m_ 8 33] (J_ (Q_ 0 jL) (G_ [m_ 47 7,m_ 4 47] .ret))))))))
theorem eM:FF cY=some ⟨[(.tmp 4)],j7,.no⟩:=by kernel_rfl
abbrev BO:Nat:=87
def Bf:ak:=(G_ [x_ 1 0,Z_ 2] (G_ [K_ 3 VO] (G_ [f_ 6 3 1,l_ 7 6,z_ 8 7,o_ 9 (.gK Rw 1 (t_ 8) (t_ 8)),K_ 4 VO,s_ 1 4 9] (G_ [o_ 5 (.alloc [.nilFunc])] (G_ [o_ 10 (.tX 147 [t_ 4,t_ 1,t_ 5,t_ 3]),s_ 1 5 10] (G_ [l_ 11 5,o_ 12 (.call (t_ 11) [(i_ 0)])] (G_ [l_ 13 3,m_ 2 13] .ret)))))))
theorem J4:FF BO=some ⟨[(.tmp 2)],Bf,.no⟩:=by kernel_rfl
def jt:ak:=(N_ 57 56 55 6 7 75 (G_ [m_ 58 56,a_ 59 8 54 56,L_ 60 8 59,K_ 10 L0,m_ 9 58,s_ 8 10 60] (O_ [f_ 61 1 10,l_ 62 61,C_ 63 .lss 62 0,m_ 64 63,q_ 65 64 false (.mv (t_ 0)),q_ 66 64 false (.ee 1 (t_ 10)),q_ 67 64 false (.load none (t_ 66)),q_ 68 64 false (.mv (t_ 5)),q_ 69 64 false (.mv (t_ 9)),q_ 70 64 false (.call (.func 149) [t_ 65,t_ 67,t_ 68,t_ 69]),o_ 71 (.pick (t_ 64) (b_ true) (t_ 70)),m_ 72 71,q_ 73 72 true (.mv (t_ 3)),o_ 74 (.pick (t_ 72) (t_ 73) (b_ false)),m_ 3 74])))
def ju:ak:=(N_ 41 40 39 4 5 52 (G_ [a_ 42 2 38 40,L_ 43 2 42,K_ 8 Ry,s_ 2 8 43] (O_ [m_ 44 0,f_ 45 0 8,l_ 46 45,m_ 47 5,F_ 48 149 [t_ 44,t_ 46,t_ 47,(.const (.int .i64 (Int.negSucc 0)))],m_ 49 48,q_ 50 49 true (.mv (t_ 3)),o_ 51 (.pick (t_ 49) (t_ 50) (b_ false)),m_ 3 51])))
def n7:ak:=(N_ 33 32 31 2 3 76 (G_ [m_ 34 32,a_ 35 6 30 32,L_ 36 6 35,K_ 6 EA,m_ 5 34,s_ 6 6 36] (J_ (G_ [f_ 37 0 6,l_ 38 37,z_ 39 38,k_ 40 0] (Q_ 4 ju)) (G_ [f_ 53 1 6,l_ 54 53,z_ 55 54,k_ 56 0] (Q_ 6 jt)))))
def jv:ak:=(N_ 17 16 15 0 1 25 (G_ [m_ 18 16,m_ 4 18] (O_ [m_ 19 0,m_ 20 4,F_ 21 149 [t_ 19,t_ 20,(i_ 0),(.const (.int .i64 (Int.negSucc 0)))],m_ 22 21,q_ 23 22 true (.mv (t_ 3)),o_ 24 (.pick (t_ 22) (t_ 23) (b_ false)),m_ 3 24])))
abbrev p_:Nat:=88
def pW:ak:=(G_ [M_ 2 false] (G_ [M_ 3 true] (J_ (G_ [m_ 11 0,n_ 12 11,f_ 13 0 12,f_ 14 1 13,l_ 15 14,k_ 16 0] (Q_ 0 jv)) (J_ (G_ [m_ 26 0,n_ 27 26,f_ 28 0 27,f_ 29 3 28,l_ 30 29,z_ 31 30,k_ 32 0] (Q_ 2 n7)) (G_ [m_ 77 3,m_ 2 77] .ret)))))
theorem xA:FF p_=some ⟨[(.tmp 2)],pW,.no⟩:=by kernel_rfl
def kG:ak:=(N_ 73 72 71 6 7 86 (G_ [m_ 74 72,a_ 75 8 70 72,L_ 76 8 75,K_ 11 D6,K_ 12 L0,s_ 1 11 74,s_ 8 12 76] (G_ [L_ 77 8 12,F_ 78 132 [t_ 77]] (P_ 8 (.ET (t_ 78) [79] (O_ [K_ 13 yK,s_ 2 13 79]) (P_ 9 (G_ [l_ 80 1,L_ 81 2 13,l_ 82 4,l_ 83 11,F_ 84 150 [t_ 80,t_ 81,t_ 82,t_ 83],o_ 85 (.un .not (t_ 84))] (I_ 85 (G_ [u_ (.store 1 (t_ 2) (b_ false))] .ret) .skip))))))))
def kH:ak:=(N_ 41 40 39 4 5 67 (G_ [m_ 42 40,a_ 43 2 38 40,L_ 44 2 43,K_ 9 yK,m_ 8 42,s_ 2 9 44] (G_ [m_ 45 3,l_ 46 4,a_ 47 1 45 46,l_ 48 47,m_ 49 8,a_ 50 1 48 49,l_ 51 50,m_ 10 51] (J_ (V_ [l_ 52 1,L_ 53 2 9,m_ 54 10,l_ 55 1,n_ 56 55,f_ 57 0 56,f_ 58 3 57,l_ 59 58,m_ 60 10,a_ 61 6 59 60,f_ 62 1 61,l_ 63 62,z_ 64 63,F_ 65 150 [t_ 52,t_ 53,t_ 54,t_ 64],o_ 66 (.un .not (t_ 65))]) (I_ 66 (G_ [u_ (.store 1 (t_ 2) (b_ false))] .ret) .skip)))))
def kI:ak:=(N_ 34 33 32 2 3 68 (G_ [a_ 35 2 31 33,L_ 36 2 35,K_ 7 Ry,s_ 2 7 36] (G_ [f_ 37 1 7,l_ 38 37,z_ 39 38,k_ 40 0] (Q_ 4 kH))))
def qd:ak:=(N_ 26 25 24 0 1 97 (G_ [m_ 27 25,a_ 28 6 23 25,L_ 29 6 28,K_ 4 D6,K_ 5 EA,s_ 1 4 27,s_ 6 5 29] (J_ (G_ [f_ 30 0 5,l_ 31 30,z_ 32 31,k_ 33 0] (Q_ 2 kI)) (J_ (G_ [f_ 69 1 5,l_ 70 69,z_ 71 70,k_ 72 0] (Q_ 6 kG)) (G_ [l_ 87 1,f_ 88 2 5,f_ 89 1 88,L_ 90 2 89,l_ 91 4,f_ 92 1 5,l_ 93 92,z_ 94 93,F_ 95 150 [t_ 87,t_ 90,t_ 91,t_ 94],o_ 96 (.un .not (t_ 95))] (I_ 96 (G_ [u_ (.store 1 (t_ 2) (b_ false))] .ret) .skip))))))
abbrev tp:Nat:=89
def sy:ak:=(G_ [x_ 1 0,K_ 2 Rw] (G_ [l_ 14 1,n_ 15 14,f_ 16 0 15,L_ 17 4 16,F_ 18 101 [t_ 17],m_ 3 18] (J_ (G_ [l_ 19 1,n_ 20 19,f_ 21 0 20,f_ 22 3 21,l_ 23 22,z_ 24 23,k_ 25 0] (Q_ 0 qd)) (G_ [u_ (.store 1 (t_ 2) (b_ true))] .ret))))
theorem zZ:FF tp=some ⟨[(.cell 2 none)],sy,.no⟩:=by kernel_rfl
set_option maxRecDepth 100000
def qy:ak:=(N_ 25 24 23 2 3 38 (G_ [a_ 26 1 22 24,l_ 27 26,m_ 7 27] (O_ [m_ 28 3,m_ 29 7,m_ 30 3,m_ 31 7,a_ 32 1 30 31,l_ 33 32,m_ 34 4,v_ 35 D6 1 34,A_ 36 D6 8 33 35,a_ 37 1 28 29,s_ 1 37 36])))
def wY:ak:=(N_ 16 15 14 0 1 39 (G_ [m_ 17 15,a_ 18 6 13 15,L_ 19 6 18,K_ 5 EA,m_ 4 17,s_ 6 5 19] (G_ [f_ 20 2 5,f_ 21 3 20,l_ 22 21,z_ 23 22,k_ 24 0] (Q_ 2 qy))))
abbrev uS:Nat:=101
def zj:ak:=(G_ [x_ 1 0,Z_ 2] (G_ [f_ 8 3 1,l_ 9 8,z_ 10 9,o_ 11 (.gK VO 24 (t_ 10) (t_ 10)),m_ 3 11] (J_ (G_ [f_ 12 3 1,l_ 13 12,z_ 14 13,k_ 15 0] (Q_ 0 wY)) (G_ [m_ 40 3,m_ 2 40] .ret))))
theorem HN:FF uS=some ⟨[(.tmp 2)],zj,.no⟩:=by kernel_rfl
def nH:ak:=(N_ 22 21 20 2 3 46 (G_ [a_ 23 1 19 21,l_ 24 23,m_ 5 24] (G_ [f_ 25 3 1,l_ 26 25,m_ 27 3,a_ 28 6 26 27,f_ 29 2 28,f_ 30 3 29,l_ 31 30,z_ 32 31,C_ 33 .gtr 32 1,m_ 34 33,q_ 35 34 true (.load (some 4) (t_ 1)),q_ 36 34 true (.call (.func 101) [t_ 35]),q_ 37 34 true (.mv (t_ 5)),q_ 38 34 true (.dx none 1 (t_ 36) (t_ 37)),q_ 39 34 true (.load none (t_ 38)),q_ 40 34 true (.tS (t_ 39)),q_ 41 34 true (.bin .gtr [] (t_ 40) (i_ 1)),o_ 42 (.pick (t_ 34) (t_ 41) (b_ false))] (I_ 42 (O_ [m_ 43 3,m_ 44 5,F_ 45 185 [t_ 1,t_ 43,t_ 44]]) .skip))))
def uC:ak:=(N_ 10 9 8 0 1 47 (G_ [m_ 11 9,m_ 3 11] (G_ [f_ 12 3 1,l_ 13 12,m_ 14 3,a_ 15 6 13 14,f_ 16 2 15,f_ 17 3 16,l_ 18 17,F_ 19 67 [t_ 18],z_ 20 19,k_ 21 0] (Q_ 2 nH))))
abbrev wS:Nat:=119
def wF:ak:=(G_ [x_ 1 0,K_ 2 Wt] (J_ (G_ [f_ 6 3 1,l_ 7 6,z_ 8 7,k_ 9 0] (Q_ 0 uC)) (G_ [L_ 48 4 1,s_ 4 2 48] .ret)))
theorem Ed:FF wS=some ⟨[(.cell 2 (some 4))],wF,.no⟩:=by kernel_rfl
def nQ:ak:=(N_ 49 48 47 6 7 60 (G_ [a_ 50 2 46 48,L_ 51 2 50,K_ 10 yK,s_ 2 10 51] (G_ [f_ 52 0 10,l_ 53 52] (I_ 53 (O_ [m_ 54 3,f_ 55 0 8,l_ 56 55,f_ 57 1 10,l_ 58 57,F_ 59 187 [t_ 54,t_ 56,t_ 58]]) .skip))))
def nS:ak:=(N_ 42 41 40 4 5 61 (G_ [a_ 43 2 39 41,L_ 44 2 43,K_ 8 Ry,s_ 2 8 44] (G_ [f_ 45 1 8,l_ 46 45,z_ 47 46,k_ 48 0] (Q_ 6 nQ))))
def nZ:ak:=(N_ 35 34 33 2 3 62 (G_ [a_ 36 6 32 34,L_ 37 6 36,K_ 6 EA,s_ 6 6 37] (G_ [f_ 38 0 6,l_ 39 38,z_ 40 39,k_ 41 0] (Q_ 4 nS))))
def n6:ak:=(N_ 18 17 16 0 1 30 (G_ [m_ 19 17,m_ 4 19] (O_ [m_ 20 3,m_ 21 3,n_ 22 21,f_ 23 0 22,l_ 24 23,m_ 25 4,v_ 26 D6 1 25,A_ 27 D6 8 24 26,n_ 28 20,f_ 29 0 28,s_ 1 29 27])))
abbrev wV:Nat:=120
def wK:ak:=(G_ [x_ 1 0,Z_ 2] (G_ [L_ 11 4 1,F_ 12 186 [t_ 11],o_ 13 (.build VN [(1,(1,(t_ 12)))]),x_ 14 13,m_ 3 14] (J_ (G_ [f_ 15 2 1,l_ 16 15,k_ 17 0] (Q_ 0 n6)) (J_ (G_ [f_ 31 3 1,l_ 32 31,z_ 33 32,k_ 34 0] (Q_ 2 nZ)) (G_ [m_ 63 3,n_ 64 63,f_ 65 0 64,l_ 66 65,m_ 2 66] .ret)))))
theorem Ei:FF wV=some ⟨[(.tmp 2)],wK,.no⟩:=by kernel_rfl
abbrev BQ:Nat:=121
def Bi:ak:=(G_ [x_ 2 0,K_ 3 yK] (J_ (G_ [f_ 4 0 2,l_ 5 4] (I_ 5 (O_ [l_ 6 1,f_ 7 1 2,l_ 8 7,a_ 9 1 6 8,l_ 10 9,f_ 11 1 2,s_ 1 11 10]) .skip)) (G_ [L_ 12 2 2,s_ 2 3 12] .ret)))
theorem J7:FF BQ=some ⟨[(.cell 3 (some 2))],Bi,.no⟩:=by kernel_rfl
def x7:ak:=(N_ 19 18 17 0 1 30 (G_ [a_ 20 3 16 18,L_ 21 3 20,K_ 10 LJ,s_ 3 10 21] (O_ [m_ 22 8,f_ 23 0 10,l_ 24 23,f_ 25 1 10,L_ 26 2 25,o_ 27 (.build L0 [(0,(1,(i_ 1))),(1,(1,(t_ 24))),(2,(2,(t_ 26)))]),v_ 28 L0 8 27,A_ 29 L0 80 22 28,m_ 8 29])))
abbrev Jo:Nat:=122
def KT:ak:=(V_ [m_ 41 0,n_ 42 41,f_ 43 3 42,l_ 44 43,m_ 45 2,m_ 46 8,m_ 47 0,n_ 48 47,f_ 49 3 48,l_ 50 49,m_ 51 2,a_ 52 6 50 51,f_ 53 1 52,l_ 54 53,(A_ 55 L0 80 46 54,[43]),a_ 56 6 44 45,f_ 57 1 56,s_ 1 57 55])
def KU:ak:=(V_ [m_ 58 0,n_ 59 58,f_ 60 3 59,l_ 61 60,m_ 62 1,m_ 63 0,n_ 64 63,f_ 65 3 64,l_ 66 65,m_ 67 1,a_ 68 6 66 67,f_ 69 1 68,l_ 70 69,m_ 71 8,(A_ 72 L0 80 70 71,[60]),a_ 73 6 61 62,f_ 74 1 73,s_ 1 74 72])
def IB:ak:=(G_ [Z_ 8] (J_ (G_ [m_ 11 3,m_ 12 0,n_ 13 12,f_ 14 2 13,l_ 15 14,F_ 16 188 [t_ 11,t_ 15],z_ 17 16,k_ 18 0] (Q_ 0 x7)) (J_ (G_ [m_ 31 0,n_ 32 31,f_ 33 3 32,l_ 34 33,m_ 35 1,a_ 36 6 34 35,f_ 37 2 36,f_ 38 0 37,l_ 39 38,Y_ 40 .eql 39 3] (I_ 40 (J_ KT .ret) .skip)) KU)))
theorem TK:FF Jo=some ⟨[],IB,.no⟩:=by kernel_rfl
abbrev mB:Nat:=126
def mn:ak:=(G_ [Z_ 2] (J_ (G_ [m_ 3 0,o_ 4 (.bin .eql [3] (t_ 3) (.const (.slice none 0 0)))] (I_ 4 (G_ [Z_ 2] .ret) .skip)) (G_ [o_ 5 (.gC 0 [] []),m_ 6 0,A_ 7 EA 96 5 6,m_ 2 7] .ret)))
theorem mo:FF mB=some ⟨[(.tmp 2)],mn,.no⟩:=by kernel_rfl
abbrev po:Nat:=127
def oZ:ak:=(G_ [Z_ 2] (J_ (G_ [m_ 3 0,o_ 4 (.bin .eql [3] (t_ 3) (.const (.slice none 0 0)))] (I_ 4 (G_ [Z_ 2] .ret) .skip)) (G_ [o_ 5 (.gC 0 [] []),m_ 6 0,A_ 7 Ry 32 5 6,m_ 2 7] .ret)))
theorem pa:FF po=some ⟨[(.tmp 2)],oZ,.no⟩:=by kernel_rfl
abbrev pt:Nat:=128
def o7:ak:=(G_ [Z_ 2] (J_ (G_ [m_ 3 0,o_ 4 (.bin .eql [3] (t_ 3) (.const (.slice none 0 0)))] (I_ 4 (G_ [Z_ 2] .ret) .skip)) (G_ [o_ 5 (.gC 0 [] []),m_ 6 0,A_ 7 yK 16 5 6,m_ 2 7] .ret)))
theorem iU:FF pt=some ⟨[(.tmp 2)],o7,.no⟩:=by kernel_rfl
abbrev pg:Nat:=129
def oS:ak:=(G_ [Z_ 2] (J_ (G_ [m_ 3 0,o_ 4 (.bin .eql [3] (t_ 3) (.const (.slice none 0 0)))] (I_ 4 (G_ [Z_ 2] .ret) .skip)) (G_ [o_ 5 (.gC 0 [] []),m_ 6 0,A_ 7 L0 80 5 6,m_ 2 7] .ret)))
theorem o9:FF pg=some ⟨[(.tmp 2)],oS,.no⟩:=by kernel_rfl
abbrev xU:Nat:=132
def C7:ak:=(.seq (.ops [⟨(some 1),none,(.box (.tmp 0))⟩,⟨(some 2),none,(.mv (.const .nilFunc))⟩]) (.seq (.ops [⟨(some 3),none,(.tX 192 [(.tmp 1)])⟩,⟨(some 2),none,(.mv (.tmp 3))⟩]) .ret))
theorem Mm:FF xU=some ⟨[(.tmp 2)],C7,.no⟩:=by kernel_rfl
def pw:ak:=(N_ 165 164 163 18 19 176 (G_ [m_ 166 164,a_ 167 2 162 164,L_ 168 2 167,K_ 22 yK,m_ 21 166,s_ 2 22 168] (V_ [f_ 169 7 20,l_ 170 169,m_ 171 21,m_ 172 3,L_ 173 2 22,(F_ 174 195 [t_ 172,t_ 173],[169]),a_ 175 2 170 171,s_ 2 175 174])))
def RG:ak:=(V_ [m_ 151 3,f_ 152 2 20,L_ 153 2 152,m_ 155 3,f_ 156 4 20,L_ 157 2 156,(F_ 154 195 [t_ 151,t_ 153],[156]),f_ 159 2 20,F_ 158 195 [t_ 155,t_ 157],s_ 2 159 154,f_ 160 4 20,s_ 2 160 158])
def RF:ak:=(O_ [f_ 185 1 14,l_ 186 185,m_ 187 19,L_ 188 8 20,a_ 189 8 186 187,s_ 8 189 188])
def px:ak:=(N_ 147 146 145 16 17 190 (G_ [m_ 148 146,a_ 149 8 144 146,L_ 150 8 149,K_ 20 L0,m_ 19 148,s_ 8 20 150] (J_ RG (J_ (G_ [f_ 161 7 20,l_ 162 161,z_ 163 162,k_ 164 0] (Q_ 18 pw)) (J_ (G_ [f_ 177 1 20,l_ 178 177,C_ 179 .geq 178 0] (I_ 179 (O_ [m_ 180 3,f_ 181 1 20,l_ 182 181,F_ 183 194 [t_ 180,t_ 182],f_ 184 1 20,s_ 1 184 183]) .skip)) RF)))))
def py:ak:=(N_ 130 129 128 14 15 141 (G_ [m_ 131 129,a_ 132 2 127 129,L_ 133 2 132,K_ 18 yK,m_ 17 131,s_ 2 18 133] (V_ [f_ 134 1 16,l_ 135 134,m_ 136 17,m_ 137 3,L_ 138 2 18,(F_ 139 195 [t_ 137,t_ 138],[134]),a_ 140 2 135 136,s_ 2 140 139])))
def pz:ak:=(N_ 113 112 111 12 13 142 (G_ [m_ 114 112,a_ 115 2 110 112,L_ 116 2 115,K_ 16 Ry,m_ 15 114,s_ 2 16 116] (J_ (V_ [f_ 117 0 14,l_ 118 117,m_ 119 15,m_ 120 3,f_ 121 0 16,l_ 122 121,(F_ 123 194 [t_ 120,t_ 122],[117]),a_ 124 2 118 119,f_ 125 0 124,s_ 1 125 123]) (G_ [f_ 126 1 16,l_ 127 126,z_ 128 127,k_ 129 0] (Q_ 14 py)))))
def RB:ak:=(V_ [f_ 191 3 1,l_ 192 191,m_ 193 13,m_ 194 3,f_ 195 2 14,f_ 196 1 195,L_ 197 2 196,(F_ 198 195 [t_ 194,t_ 197],[191]),a_ 199 6 192 193,f_ 200 2 199,f_ 201 1 200,s_ 2 201 198])
def pA:ak:=(N_ 105 104 103 10 11 202 (G_ [m_ 106 104,a_ 107 6 102 104,L_ 108 6 107,K_ 14 EA,m_ 13 106,s_ 6 14 108] (J_ (G_ [f_ 109 0 14,l_ 110 109,z_ 111 110,k_ 112 0] (Q_ 12 pz)) (J_ (G_ [f_ 143 1 14,l_ 144 143,z_ 145 144,k_ 146 0] (Q_ 16 px)) RB))))
def pB:ak:=(N_ 80 79 78 8 9 86 (G_ [a_ 81 2 77 79,L_ 82 2 81,K_ 12 yK,s_ 2 12 82] (O_ [m_ 83 3,L_ 84 2 12,F_ 85 195 [t_ 83,t_ 84]])))
def pC:ak:=(N_ 65 64 63 6 7 94 (G_ [a_ 66 8 62 64,L_ 67 8 66,K_ 10 L0,s_ 8 10 67] (G_ [m_ 68 3,f_ 69 2 10,L_ 70 2 69,F_ 71 195 [t_ 68,t_ 70]] (G_ [m_ 72 3,f_ 73 4 10,L_ 74 2 73,F_ 75 195 [t_ 72,t_ 74]] (J_ (G_ [f_ 76 7 10,l_ 77 76,z_ 78 77,k_ 79 0] (Q_ 8 pB)) (G_ [f_ 87 1 10,l_ 88 87,C_ 89 .geq 88 0] (I_ 89 (O_ [m_ 90 3,f_ 91 1 10,l_ 92 91,F_ 93 194 [t_ 90,t_ 92]]) .skip)))))))
def pD:ak:=(N_ 53 52 51 4 5 60 (G_ [a_ 54 2 50 52,L_ 55 2 54,K_ 8 Ry,s_ 2 8 55] (O_ [m_ 56 3,f_ 57 0 8,l_ 58 57,F_ 59 194 [t_ 56,t_ 58]])))
def pE:ak:=(N_ 46 45 44 2 3 100 (G_ [a_ 47 6 43 45,L_ 48 6 47,K_ 6 EA,s_ 6 6 48] (J_ (G_ [f_ 49 0 6,l_ 50 49,z_ 51 50,k_ 52 0] (Q_ 4 pD)) (J_ (G_ [f_ 61 1 6,l_ 62 61,z_ 63 62,k_ 64 0] (Q_ 6 pC)) (O_ [m_ 95 3,f_ 96 2 6,f_ 97 1 96,L_ 98 2 97,F_ 99 195 [t_ 95,t_ 98]])))))
def pF:ak:=(N_ 36 35 34 0 1 41 (G_ [m_ 37 35,m_ 4 37] (O_ [m_ 38 3,m_ 39 4,F_ 40 194 [t_ 38,t_ 39]])))
abbrev xX:Nat:=135
def xq:ak:=(G_ [x_ 1 0,K_ 2 Wt] (J_ (V_ [L_ 23 4 1,L_ 24 4 1,(F_ 25 138 [t_ 24],[1]),F_ 26 137 [t_ 23,t_ 25],s_ 4 1 26]) (G_ [o_ 27 (.gC 1 D6 [(0,(1,(.const (.int .i64 (Int.negSucc 0)))))]),f_ 28 2 1,l_ 29 28,F_ 30 144 [t_ 27,t_ 29],o_ 31 (.build [(.slice none 0 0),(.int .i64 0)] [(0,(1,(t_ 30)))]),x_ 32 31,m_ 3 32] (J_ (G_ [f_ 33 1 1,l_ 34 33,k_ 35 0] (Q_ 0 pF)) (J_ (G_ [f_ 42 3 1,l_ 43 42,z_ 44 43,k_ 45 0] (Q_ 2 pE)) (J_ (G_ [f_ 101 3 1,l_ 102 101,z_ 103 102,k_ 104 0] (Q_ 10 pA)) (G_ [m_ 203 3,n_ 204 203,f_ 205 1 204,l_ 206 205,f_ 207 2 1,s_ 1 207 206] (G_ [L_ 208 4 1,s_ 4 2 208] .ret))))))))
theorem Fy:FF xX=some ⟨[(.cell 2 (some 4))],xq,.no⟩:=by kernel_rfl
def PC:ak:=(V_ [m_ 54 4,m_ 55 4,n_ 56 55,f_ 57 1 56,l_ 58 57,f_ 59 1 6,l_ 60 59,A_ 61 L0 80 58 60,n_ 62 54,f_ 63 1 62,s_ 1 63 61])
def J9:ak:=(G_ [m_ 64 5,m_ 65 3,F_ 66 196 [t_ 1,t_ 64,t_ 65]] (G_ [m_ 67 4,f_ 68 2 6,L_ 69 4 68,n_ 70 67,f_ 71 2 70,s_ 4 71 69] (O_ [f_ 72 3 1,l_ 73 72,m_ 74 5,o_ 75 (.build am3 [(0,(1,(i_ 1)))]),o_ 76 (.build EA [(2,(4,(t_ 75)))]),a_ 77 6 73 74,s_ 6 77 76])))
def n9:ak:=(J_ (G_ [m_ 18 4,n_ 19 18,f_ 20 2 19,f_ 21 0 20,l_ 22 21,Y_ 23 .eql 22 2] (H_ 23 2)) (P_ 3 (G_ [m_ 24 4,n_ 25 24,f_ 26 2 25,f_ 27 3 26,l_ 28 27,o_ 29 (.dx none 1 (t_ 28) (i_ 0)),l_ 30 29,m_ 5 30] (G_ [f_ 31 3 1,l_ 32 31,m_ 33 5,a_ 34 6 32 33,L_ 35 6 34,K_ 6 EA,s_ 6 6 35] (J_ (G_ [m_ 36 5,m_ 37 3,X_ 38 .eql 36 37,m_ 39 38,q_ 40 39 false (.ee 0 (t_ 6)),q_ 41 39 false (.load none (t_ 40)),q_ 42 39 false (.tS (t_ 41)),q_ 43 39 false (.bin .gtr [] (t_ 42) (i_ 0)),o_ 44 (.pick (t_ 39) (b_ true) (t_ 43)),m_ 45 44,q_ 46 45 false (.load (some 4) (t_ 1)),q_ 47 45 false (.call (.func 101) [t_ 46]),q_ 48 45 false (.mv (t_ 5)),q_ 49 45 false (.dx none 1 (t_ 47) (t_ 48)),q_ 50 45 false (.load none (t_ 49)),q_ 51 45 false (.tS (t_ 50)),q_ 52 45 false (.bin .gtr [] (t_ 51) (i_ 1)),o_ 53 (.pick (t_ 45) (b_ true) (t_ 52))] (I_ 53 (.exit 2) .skip)) (J_ PC J9))))))
def uD:ak:=(J_ (G_ [m_ 7 3,f_ 8 3 1,l_ 9 8,z_ 10 9,B_ 11 .lss 7 10] (H_ 11 0)) (J_ (P_ 1 (G_ [f_ 14 3 1,l_ 15 14,m_ 16 3,a_ 17 6 15 16,m_ 4 17] (Q_ 2 n9))) (O_ [m_ 12 3,C_ 13 .add 12 1,m_ 3 13])))
abbrev wW:Nat:=136
def wL:ak:=(G_ [x_ 1 0,K_ 2 Wt] (J_ (G_ [k_ 3 0] (Q_ 0 uD)) (G_ [L_ 78 4 1,s_ 4 2 78] .ret)))
theorem Ej:FF wW=some ⟨[(.cell 2 (some 4))],wL,.no⟩:=by kernel_rfl
set_option maxRecDepth 100000
def uW:ak:=(N_ 123 122 121 10 11 136 (G_ [m_ 124 122,a_ 125 1 120 122,l_ 126 125,m_ 21 124,m_ 22 126] (V_ [f_ 127 2 12,f_ 128 3 127,l_ 129 128,m_ 130 21,m_ 131 5,m_ 132 22,a_ 133 1 131 132,l_ 134 133,a_ 135 1 129 130,s_ 1 135 134])))
def mg:ak:=(N_ 98 97 96 8 9 116 (G_ [a_ 99 3 95 97,L_ 100 3 99,K_ 20 LJ,s_ 3 20 100] (V_ [f_ 101 0 12,l_ 102 101,m_ 103 13,f_ 104 0 12,l_ 105 104,m_ 106 13,a_ 107 2 105 106,f_ 108 1 107,l_ 109 108,f_ 110 1 20,L_ 111 2 110,v_ 112 yK 2 111,(A_ 113 yK 16 109 112,[101]),a_ 114 2 102 103,f_ 115 1 114,s_ 1 115 113])))
def pN:ak:=(N_ 65 64 63 6 7 87 (G_ [m_ 66 64,a_ 67 2 62 64,L_ 68 2 67,K_ 17 yK,m_ 16 66,s_ 2 17 68] (G_ [m_ 69 5,m_ 70 8,m_ 71 11,a_ 72 1 70 71,l_ 73 72,m_ 74 16,a_ 75 1 73 74,l_ 76 75,a_ 77 1 69 76,l_ 78 77,m_ 18 78] (G_ [m_ 79 18,C_ 80 .geq 79 0] (I_ 80 (O_ [m_ 81 15,m_ 82 18,L_ 83 2 17,o_ 84 (.build LJ [(0,(1,(t_ 82))),(1,(2,(t_ 83)))]),v_ 85 LJ 3 84,A_ 86 LJ 24 81 85,m_ 15 86]) .skip)))))
def uX:ak:=(N_ 57 56 55 4 5 117 (G_ [m_ 58 56,a_ 59 2 54 56,L_ 60 2 59,K_ 14 Ry,m_ 13 58,s_ 2 14 60] (G_ [Z_ 15] (J_ (G_ [f_ 61 1 14,l_ 62 61,z_ 63 62,k_ 64 0] (Q_ 6 pN)) (G_ [m_ 88 15,F_ 89 197 [t_ 88,(.func 198)]] (G_ [f_ 90 0 12,l_ 91 90,m_ 92 13,a_ 93 2 91 92,f_ 94 1 93,u_ (.store 1 (t_ 94) (.const (.slice none 0 0)))] (G_ [m_ 95 15,z_ 96 95,k_ 97 0] (Q_ 8 mg))))))))
def uY:ak:=(N_ 45 44 43 2 3 141 (G_ [a_ 46 1 42 44,l_ 47 46,m_ 11 47] (G_ [f_ 48 3 2,l_ 49 48,m_ 50 11,a_ 51 6 49 50,L_ 52 6 51,K_ 12 EA,s_ 6 12 52] (J_ (G_ [f_ 53 0 12,l_ 54 53,z_ 55 54,k_ 56 0] (Q_ 4 uX)) (J_ (G_ [f_ 118 2 12,f_ 119 3 118,l_ 120 119,z_ 121 120,k_ 122 0] (Q_ 10 uW)) (O_ [m_ 137 9,L_ 138 6 12,v_ 139 EA 6 138,A_ 140 EA 96 137 139,m_ 9 140]))))))
def uZ:ak:=(N_ 31 30 29 0 1 39 (G_ [m_ 32 30,a_ 33 1 28 30,l_ 34 33,m_ 6 32,m_ 7 34] (O_ [m_ 35 5,m_ 36 7,m_ 37 6,a_ 38 1 35 36,s_ 1 38 37])))
abbrev xW:Nat:=137
def De:ak:=(G_ [x_ 2 0,K_ 4 Wt] (G_ [o_ 23 (.gC 1 D6 [(0,(1,(.const (.int .i64 (Int.negSucc 0)))))]),f_ 24 3 2,l_ 25 24,z_ 26 25,F_ 27 144 [t_ 23,t_ 26],m_ 5 27] (J_ (G_ [m_ 28 1,z_ 29 28,k_ 30 0] (Q_ 0 uZ)) (G_ [L_ 40 4 2,F_ 41 101 [t_ 40],m_ 8 41] (G_ [Z_ 9] (J_ (G_ [m_ 42 1,z_ 43 42,k_ 44 0] (Q_ 2 uY)) (G_ [m_ 142 9,f_ 143 3 2,s_ 1 143 142] (G_ [L_ 144 4 2,s_ 4 4 144] .ret))))))))
theorem Mt:FF xW=some ⟨[(.cell 4 (some 4))],De,.no⟩:=by kernel_rfl
abbrev qv:Nat:=138
def wE:ak:=(G_ [x_ 1 0,Z_ 2] (G_ [L_ 4 4 1,F_ 5 87 [t_ 4],m_ 3 5] (G_ [m_ 6 3,F_ 7 199 [t_ 6]] (G_ [m_ 8 3,m_ 2 8] .ret))))
theorem Ec:FF qv=some ⟨[(.tmp 2)],wE,.no⟩:=by kernel_rfl
def iY:ak:=(N_ 9 8 7 0 1 18 (G_ [m_ 10 8,m_ 5 10] (G_ [m_ 11 1,m_ 12 0,m_ 13 5,a_ 14 1 12 13,l_ 15 14,o_ 16 (.bin .eql [2] (t_ 11) (t_ 15))] (I_ 16 (G_ [m_ 17 5,m_ 4 17] .ret) .skip))))
abbrev jJ:Nat:=139
def jE:ak:=(.seq (.ops [⟨(some 4),none,(.mv (.const (.int .i64 0)))⟩]) (.seq (.seq (.ops [⟨(some 6),none,(.mv (.tmp 0))⟩,⟨(some 7),none,(.tS (.tmp 6))⟩,⟨(some 8),none,(.mv (.const (.int .i64 0)))⟩]) (.block 0 (.loop iY))) (.seq (.ops [⟨(some 4),none,(.mv (.const (.int .i64 (Int.negSucc 0))))⟩]) .ret)))
theorem qp:FF jJ=some ⟨[(.tmp 4)],jE,.no⟩:=by kernel_rfl
abbrev my:Nat:=140
def sg:ak:=(G_ [x_ 2 0,x_ 3 1,k_ 4 0] (J_ (P_ 0 (G_ [f_ 6 0 3,l_ 7 6,F_ 8 80 [t_ 7,(i_ 1),(i_ 3)],o_ 9 (.un .not (t_ 8)),m_ 5 9] (I_ 5 (G_ [k_ 4 4] .ret) (J_ (V_ [f_ 11 3 3,l_ 12 11,z_ 13 12,f_ 14 0 3,l_ 15 14,o_ 16 (.dx (some 4) 1 (.global 0) (t_ 15)),l_ 17 16,X_ 18 .neq 13 17,m_ 10 18]) (I_ 10 (G_ [k_ 4 9] .ret) (G_ [f_ 20 3 3,l_ 21 20,o_ 22 (.tX 201 [t_ 2]),F_ 23 200 [t_ 21,t_ 22],m_ 19 23] (I_ 19 (G_ [k_ 4 3] .ret) (J_ (V_ [f_ 25 0 3,l_ 26 25,Y_ 27 .eql 26 3,m_ 28 27,q_ 29 28 true (.ee 3 (t_ 3)),q_ 30 28 true (.load none (t_ 29)),q_ 31 28 true (.dx none 1 (t_ 30) (i_ 0)),q_ 32 28 true (.load none (t_ 31)),q_ 33 28 true (.ee 3 (t_ 3)),q_ 34 28 true (.load none (t_ 33)),q_ 35 28 true (.dx none 1 (t_ 34) (i_ 1)),q_ 36 28 true (.load none (t_ 35)),q_ 37 28 true (.bin .eql [1] (t_ 32) (t_ 36)),o_ 38 (.pick (t_ 28) (t_ 37) (b_ false)),m_ 39 38,q_ 40 39 false (.ee 0 (t_ 3)),q_ 41 39 false (.load none (t_ 40)),q_ 42 39 false (.bin .eql [1] (t_ 41) (i_ 2)),q_ 43 39 false (.mv (t_ 42)),q_ 44 43 true (.ee 1 (t_ 3)),q_ 45 43 true (.load (some 2) (t_ 44)),q_ 46 43 true (.build yK []),q_ 47 43 true (.bin .neq [9,0,1] (t_ 45) (t_ 46)),q_ 48 39 false (.pick (t_ 43) (t_ 47) (b_ false)),o_ 49 (.pick (t_ 39) (b_ true) (t_ 48)),m_ 24 49]) (I_ 24 (G_ [k_ 4 5] .ret) .skip))))))))) (G_ [L_ 50 7 2,f_ 51 1 3,L_ 52 2 51,F_ 53 202 [t_ 50,t_ 52],m_ 4 53] .ret)))
theorem zU:FF my=some ⟨[(.tmp 4)],sg,.no⟩:=by kernel_rfl
def tC:ak:=(N_ 25 24 23 2 3 38 (G_ [a_ 26 1 22 24,l_ 27 26,m_ 7 27] (O_ [m_ 28 3,m_ 29 7,m_ 30 3,m_ 31 7,a_ 32 1 30 31,l_ 33 32,m_ 34 4,v_ 35 D6 1 34,A_ 36 D6 8 33 35,a_ 37 1 28 29,s_ 1 37 36])))
def x5:ak:=(N_ 16 15 14 0 1 39 (G_ [m_ 17 15,a_ 18 6 13 15,L_ 19 6 18,K_ 5 EA,m_ 4 17,s_ 6 5 19] (G_ [f_ 20 2 5,f_ 21 3 20,l_ 22 21,z_ 23 22,k_ 24 0] (Q_ 2 tC))))
abbrev BJ:Nat:=141
def A8:ak:=(G_ [x_ 1 0,Z_ 2] (G_ [f_ 8 3 1,l_ 9 8,z_ 10 9,o_ 11 (.gK VO 24 (t_ 10) (t_ 10)),m_ 3 11] (J_ (G_ [f_ 12 3 1,l_ 13 12,z_ 14 13,k_ 15 0] (Q_ 0 x5)) (G_ [m_ 40 3,m_ 2 40] .ret))))
theorem JX:FF BJ=some ⟨[(.tmp 2)],A8,.no⟩:=by kernel_rfl
def qc:ak:=(N_ 34 33 32 0 1 43 (G_ [a_ 35 2 31 33,L_ 36 2 35,K_ 9 yK,s_ 2 9 36] (G_ [L_ 37 7 3,L_ 38 2 9,F_ 39 202 [t_ 37,t_ 38],m_ 10 39] (G_ [m_ 40 10,Y_ 41 .neq 40 0] (I_ 41 (G_ [m_ 42 10,m_ 6 42] .ret) .skip)))))
abbrev mz:Nat:=142
def sq:ak:=(G_ [x_ 3 0,x_ 5 2,k_ 6 0] (J_ (G_ [m_ 11 1,Y_ 12 .eql 11 0] (I_ 12 (G_ [k_ 6 5] .ret) .skip)) (J_ (G_ [L_ 13 7 3,f_ 14 0 5,l_ 15 14,F_ 16 203 [t_ 13,t_ 15],m_ 7 16] (G_ [m_ 17 7,Y_ 18 .neq 17 0] (I_ 18 (G_ [m_ 19 7,m_ 6 19] .ret) .skip))) (J_ (J_ (V_ [f_ 20 1 5,l_ 21 20,z_ 22 21,f_ 23 6 3,l_ 24 23,m_ 25 1,a_ 26 1 24 25,l_ 27 26,z_ 28 27,X_ 29 .neq 22 28]) (I_ 29 (G_ [k_ 6 9] .ret) .skip)) (J_ (G_ [f_ 30 1 5,l_ 31 30,z_ 32 31,k_ 33 0] (Q_ 0 qc)) (G_ [k_ 6 0] .ret))))))
theorem zW:FF mz=some ⟨[(.tmp 6)],sq,.no⟩:=by kernel_rfl
abbrev tm:Nat:=143
def Qu:List bm:=[⟨(some 18),none,(.ee 0 (.tmp 5))⟩,⟨(some 19),none,(.load none (.tmp 18))⟩,⟨(some 20),none,(.un .not (.tmp 19))⟩,⟨(some 21),none,(.mv (.tmp 20))⟩,⟨(some 22),(some (21,true)),(.ee 1 (.tmp 3))⟩,⟨(some 23),(some (21,true)),(.load none (.tmp 22))⟩,⟨(some 24),(some (21,true)),(.bin .neq [1] (.tmp 23) (.const (.int .i64 (Int.negSucc 0))))⟩,⟨(some 25),none,(.pick (.tmp 21) (.tmp 24) (.const (.bool false)))⟩,⟨(some 26),none,(.mv (.tmp 25))⟩,⟨(some 27),(some (26,false)),(.ee 1 (.tmp 5))⟩,⟨(some 28),(some (26,false)),(.load none (.tmp 27))⟩,⟨(some 29),(some (26,false)),(.un .not (.tmp 28))⟩,⟨(some 30),(some (26,false)),(.mv (.tmp 29))⟩,⟨(some 31),(some (30,true)),(.ee 2 (.tmp 3))⟩,⟨(some 32),(some (30,true)),(.load (some 2) (.tmp 31))⟩,⟨(some 33),(some (30,true)),(.build yK [])⟩,⟨(some 34),(some (30,true)),(.bin .neq [9,0,1] (.tmp 32) (.tmp 33))⟩,⟨(some 35),(some (26,false)),(.pick (.tmp 30) (.tmp 34) (.const (.bool false)))⟩,⟨(some 36),none,(.pick (.tmp 26) (.const (.bool true)) (.tmp 35))⟩,⟨(some 37),none,(.mv (.tmp 36))⟩,⟨(some 38),(some (37,false)),(.ee 2 (.tmp 5))⟩,⟨(some 39),(some (37,false)),(.load none (.tmp 38))⟩,⟨(some 40),(some (37,false)),(.un .not (.tmp 39))⟩,⟨(some 41),(some (37,false)),(.mv (.tmp 40))⟩,⟨(some 42),(some (41,true)),(.ee 4 (.tmp 3))⟩,⟨(some 43),(some (41,true)),(.load (some 2) (.tmp 42))⟩,⟨(some 44),(some (41,true)),(.build yK [])⟩,⟨(some 45),(some (41,true)),(.bin .neq [9,0,1] (.tmp 43) (.tmp 44))⟩,⟨(some 46),(some (37,false)),(.pick (.tmp 41) (.tmp 45) (.const (.bool false)))⟩,⟨(some 47),none,(.pick (.tmp 37) (.const (.bool true)) (.tmp 46))⟩,⟨(some 48),none,(.mv (.tmp 47))⟩,⟨(some 49),(some (48,false)),(.load none (.tmp 6))⟩,⟨(some 50),(some (48,false)),(.un .not (.tmp 49))⟩,⟨(some 51),(some (48,false)),(.mv (.tmp 50))⟩,⟨(some 52),(some (51,true)),(.ee 6 (.tmp 3))⟩,⟨(some 53),(some (51,true)),(.load none (.tmp 52))⟩,⟨(some 54),(some (51,true)),(.bin .neq [1] (.tmp 53) (.const (.int .i64 0)))⟩,⟨(some 55),(some (51,true)),(.mv (.tmp 54))⟩,⟨(some 56),(some (55,false)),(.ee 7 (.tmp 3))⟩,⟨(some 57),(some (55,false)),(.load none (.tmp 56))⟩,⟨(some 58),(some (55,false)),(.tS (.tmp 57))⟩,⟨(some 59),(some (55,false)),(.bin .gtr [] (.tmp 58) (.const (.int .i64 0)))⟩,⟨(some 60),(some (51,true)),(.pick (.tmp 55) (.const (.bool true)) (.tmp 59))⟩,⟨(some 61),(some (48,false)),(.pick (.tmp 51) (.tmp 60) (.const (.bool false)))⟩,⟨(some 62),none,(.pick (.tmp 48) (.const (.bool true)) (.tmp 61))⟩]
def KL:ak:=(J_ (G_ [f_ 63 0 5,l_ 64 63,m_ 65 64,q_ 66 65 true (.load none (t_ 6)),q_ 67 65 true (.mv (t_ 66)),q_ 68 67 true (.ee 1 (t_ 3)),q_ 69 67 true (.load none (t_ 68)),q_ 70 67 true (.bin .eql [1] (t_ 69) (.const (.int .i64 (Int.negSucc 0)))),q_ 71 65 true (.pick (t_ 67) (t_ 70) (b_ false)),q_ 72 65 true (.un .not (t_ 71)),o_ 73 (.pick (t_ 65) (t_ 72) (b_ false))] (I_ 73 (G_ [L_ 74 7 2,f_ 75 1 3,l_ 76 75,F_ 77 203 [t_ 74,t_ 76],m_ 7 77] (G_ [m_ 78 7,Y_ 79 .neq 78 0] (I_ 79 (G_ [m_ 80 7,m_ 4 80] .ret) .skip))) .skip)) (G_ [o_ 81 (.tX 205 [t_ 2,t_ 3]),o_ 82 (.tX 206 [t_ 2,t_ 3]),o_ 83 (.tX 207 [t_ 6,t_ 3,t_ 2]),o_ 84 (.gC 3 [.nilFunc,.nilFunc,.nilFunc] [(0,(1,(t_ 81))),(1,(1,(t_ 82))),(2,(1,(t_ 83)))]),F_ 85 204 [t_ 84],m_ 4 85] .ret))
def si:ak:=(G_ [x_ 2 0,x_ 3 1,k_ 4 0] (J_ (G_ [f_ 8 0 3,l_ 9 8,F_ 10 80 [t_ 9,(i_ 1),(i_ 22)],o_ 11 (.un .not (t_ 10))] (I_ 11 (G_ [k_ 4 4] .ret) .skip)) (G_ [f_ 12 0 3,l_ 13 12,F_ 14 193 [t_ 13],K_ 5 w9_,s_ 3 5 14] (G_ [f_ 15 0 3,l_ 16 15,Y_ 17 .eql 16 20,K_ 6 Rw,s_ 1 6 17] (J_ (J_ (.ops Qu) (I_ 62 (G_ [k_ 4 5] .ret) .skip)) KL)))))
theorem zV:FF tm=some ⟨[(.tmp 4)],si,.no⟩:=by kernel_rfl
def tY:ak:=(J_ (G_ [m_ 34 8,m_ 35 7,z_ 36 35,B_ 37 .lss 34 36] (H_ 37 0)) (P_ 1 (V_ [m_ 38 8,m_ 39 7,m_ 40 8,o_ 41 (.slice 1 (t_ 39) (some (t_ 40)) none none),m_ 42 7,m_ 43 8,o_ 44 (.slice 1 (t_ 42) none (some (t_ 43)) none),o_ 45 (.copy 1 (t_ 41) (t_ 44)),B_ 46 .add 38 45,m_ 8 46])))
abbrev iW:Nat:=144
def ve:ak:=(G_ [Z_ 4] (J_ (G_ [m_ 9 1,C_ 10 .lss 9 0] (I_ 10 (O_ [⟨(some 11),none,.bad⟩,⟨none,none,.bad⟩]) .skip)) (G_ [m_ 13 0,z_ 14 13,o_ 15 (.conv .u64 (t_ 14)),m_ 16 1,o_ 17 (.conv .u64 (t_ 16)),F_ 18 146 [t_ 15,t_ 17],m_ 12 18,E_ 19 0 12,E_ 20 1 12,m_ 5 19,m_ 6 20] (J_ (G_ [m_ 21 5,o_ 22 (.bin .gtr [] (t_ 21) (.const (.int .u64 0))),m_ 23 22,q_ 24 23 false (.mv (t_ 6)),q_ 25 23 false (.bin .gtr [] (t_ 24) (.const (.int .u64 9223372036854775807))),o_ 26 (.pick (t_ 23) (b_ true) (t_ 25))] (I_ 26 (O_ [⟨(some 27),none,.bad⟩,⟨none,none,.bad⟩]) .skip)) (G_ [m_ 28 6,o_ 29 (.conv .i64 (t_ 28)),o_ 30 (.gK D6 8 (t_ 29) (t_ 29)),m_ 7 30] (G_ [m_ 31 7,m_ 32 0,o_ 33 (.copy 1 (t_ 31) (t_ 32)),m_ 8 33] (J_ (Q_ 0 tY) (G_ [m_ 47 7,m_ 4 47] .ret))))))))
theorem mG:FF iW=some ⟨[(.tmp 4)],ve,.no⟩:=by kernel_rfl
def BZ:ak:=(J_ (G_ [m_ 9 2,m_ 10 3,X_ 11 .neq 9 10] (H_ 11 0)) (P_ 1 (J_ (J_ (V_ [m_ 12 1,m_ 13 2,a_ 14 1 12 13,l_ 15 14,m_ 16 1,m_ 17 3,a_ 18 1 16 17,l_ 19 18,B_ 20 .lss 15 19]) (I_ 20 (O_ [m_ 21 3,m_ 22 2,m_ 2 21,m_ 3 22]) .skip)) (O_ [m_ 23 0,m_ 24 2,a_ 25 1 23 24,l_ 26 25,m_ 2 26]))))
abbrev GC:Nat:=145
def Fm:ak:=(.seq (.ops [⟨(some 8),none,(.mv (.const (.int .i64 0)))⟩]) (.seq (.block 0 (.loop BZ)) (.seq (.ops [⟨(some 27),none,(.mv (.tmp 2))⟩,⟨(some 8),none,(.mv (.tmp 27))⟩]) .ret)))
theorem Pw:FF GC=some ⟨[(.tmp 8)],Fm,.no⟩:=by kernel_rfl
abbrev ml:Nat:=146
def wJ:ak:=(G_ [o_ 4 (.mv (.const (.int .u64 0))),o_ 5 (.mv (.const (.int .u64 0)))] (J_ (.cond (b_ false) (G_ [m_ 11 0,o_ 12 (.conv .u32 (t_ 11)),m_ 13 1,o_ 14 (.conv .u32 (t_ 13)),F_ 15 208 [t_ 12,t_ 14],m_ 10 15,E_ 16 0 10,E_ 17 1 10,m_ 6 16,m_ 7 17] (G_ [m_ 18 6,o_ 19 (.conv .u64 (t_ 18)),m_ 20 7,o_ 21 (.conv .u64 (t_ 20)),m_ 4 19,m_ 5 21] .ret)) .skip) (G_ [m_ 23 0,m_ 24 1,F_ 25 209 [t_ 23,t_ 24],m_ 22 25,E_ 26 0 22,E_ 27 1 22,m_ 8 26,m_ 9 27] (G_ [m_ 28 8,m_ 29 9,m_ 4 28,m_ 5 29] .ret))))
theorem Eh:FF ml=some ⟨[(.tmp 4),(.tmp 5)],wJ,.no⟩:=by kernel_rfl
abbrev ky:Nat:=147
def xp:ak:=(G_ [l_ 8 1,m_ 9 0,a_ 10 1 8 9,u_ (.store 1 (t_ 10) (b_ true))] (J_ (G_ [f_ 11 3 2,l_ 12 11,m_ 13 0,a_ 14 6 12 13,f_ 15 2 14,f_ 16 3 15,l_ 17 16,F_ 18 148 [t_ 17]] (P_ 0 (.ET (t_ 18) [19,20] (O_ [m_ 7 20]) (P_ 1 (G_ [l_ 21 1,m_ 22 7,a_ 23 1 21 22,l_ 24 23,o_ 25 (.un .not (t_ 24))] (I_ 25 (O_ [l_ 26 3,m_ 27 7,o_ 28 (.call (t_ 26) [t_ 27])]) .skip)))))) (O_ [l_ 29 4,m_ 30 0,v_ 31 D6 1 30,A_ 32 D6 8 29 31,s_ 1 4 32])))
theorem Fx:FF ky=some ⟨[],xp,.no⟩:=by kernel_rfl
abbrev ia:Nat:=148
def kX:ak:=(.seq (.ops [⟨(some 1),none,(.box (.tmp 0))⟩,⟨(some 2),none,(.mv (.const .nilFunc))⟩]) (.seq (.ops [⟨(some 3),none,(.tX 210 [(.tmp 1)])⟩,⟨(some 2),none,(.mv (.tmp 3))⟩]) .ret))
theorem tT:FF ia=some ⟨[(.tmp 2)],kX,.no⟩:=by kernel_rfl
abbrev lD:Nat:=149
def qK:ak:=(G_ [M_ 8 false] (J_ (G_ [m_ 9 0,n_ 10 9,f_ 11 5 10,l_ 12 11,m_ 13 1,a_ 14 2 12 13,f_ 15 0 14,l_ 16 15,C_ 17 .geq 16 0] (I_ 17 (G_ [M_ 8 false] .ret) .skip)) (G_ [m_ 18 0,n_ 19 18,f_ 20 5 19,l_ 21 20,m_ 22 1,m_ 23 2,m_ 24 3,o_ 25 (.build LI [(0,(1,(t_ 23))),(1,(1,(t_ 24)))]),a_ 26 2 21 22,s_ 2 26 25] (G_ [M_ 8 true] .ret))))
theorem yQ:FF lD=some ⟨[(.tmp 8)],qK,.no⟩:=by kernel_rfl
abbrev lz:Nat:=150
def qJ:ak:=(G_ [x_ 5 1,M_ 8 false] (J_ (G_ [f_ 10 0 5,l_ 11 10,o_ 12 (.un .not (t_ 11))] (I_ 12 (G_ [M_ 8 true] .ret) .skip)) (J_ (V_ [m_ 13 0,n_ 14 13,f_ 15 5 14,l_ 16 15,f_ 17 1 5,l_ 18 17,a_ 19 2 16 18,L_ 20 2 19,K_ 9 LI,s_ 2 9 20]) (J_ (P_ 0 (G_ [f_ 22 0 9,l_ 23 22,C_ 24 .lss 23 0,m_ 21 24] (I_ 21 (G_ [M_ 8 false] .ret) (G_ [f_ 26 0 9,l_ 27 26,m_ 28 2,X_ 29 .eql 27 28,m_ 25 29] (I_ 25 (G_ [f_ 30 1 9,l_ 31 30,m_ 32 3,B_ 33 .lss 31 32,m_ 8 33] .ret) .skip))))) (J_ (V_ [m_ 34 0,n_ 35 34,f_ 36 4 35,l_ 37 36,f_ 38 0 9,l_ 39 38,m_ 40 2,F_ 41 211 [t_ 37,t_ 39,t_ 40],m_ 8 41]) .ret)))))
theorem yP:FF lz=some ⟨[(.tmp 8)],qJ,.no⟩:=by kernel_rfl
abbrev kZ:Nat:=161
def kY:ak:=(G_ [M_ 4 false] (G_ [m_ 5 0,m_ 6 1,F_ 7 162 [t_ 5,t_ 6],C_ 8 .geq 7 0,m_ 4 8] .ret))
theorem tU:FF kZ=some ⟨[(.tmp 4)],kY,.no⟩:=by kernel_rfl
def eZ:ak:=(N_ 9 8 7 0 1 18 (G_ [m_ 10 8,m_ 5 10] (G_ [m_ 11 1,m_ 12 0,m_ 13 5,a_ 14 1 12 13,l_ 15 14,X_ 16 .eql 11 15] (I_ 16 (G_ [m_ 17 5,m_ 4 17] .ret) .skip))))
abbrev fU:Nat:=162
def fT:ak:=(.seq (.ops [⟨(some 4),none,(.mv (.const (.int .i64 0)))⟩]) (.seq (.seq (.ops [⟨(some 6),none,(.mv (.tmp 0))⟩,⟨(some 7),none,(.tS (.tmp 6))⟩,⟨(some 8),none,(.mv (.const (.int .i64 0)))⟩]) (.block 0 (.loop eZ))) (.seq (.ops [⟨(some 4),none,(.mv (.const (.int .i64 (Int.negSucc 0))))⟩]) .ret)))
theorem jq:FF fU=some ⟨[(.tmp 4)],fT,.no⟩:=by kernel_rfl
abbrev iM:Nat:=166
theorem oz:FF iM=some ⟨[],.bad,.run (rmV 2) fun _ _ _ _=>JC⟩:=by kernel_rfl
abbrev iL:Nat:=167
def iJ:ak:=(G_ [Z_ 6] (G_ [m_ 8 0,m_ 9 1,m_ 10 2,m_ 11 0,z_ 12 11,o_ 13 (.slice 2 (t_ 8) (some (t_ 9)) (some (t_ 10)) (some (t_ 12)))] (J_ (G_ [m_ 14 1,m_ 15 2,X_ 16 .eql 14 15] (I_ 16 (G_ [m_ 17 0,m_ 6 17] .ret) .skip)) (G_ [m_ 18 0,z_ 19 18,m_ 7 19] (J_ (V_ [m_ 20 0,m_ 21 1,o_ 22 (.slice 2 (t_ 20) none (some (t_ 21)) none),m_ 23 0,m_ 24 2,o_ 25 (.slice 2 (t_ 23) (some (t_ 24)) none none),A_ 26 yK 16 22 25,m_ 0 26]) (G_ [m_ 27 0,m_ 28 0,z_ 29 28,m_ 30 7,o_ 31 (.slice 2 (t_ 27) (some (t_ 29)) (some (t_ 30)) none),u_ (.clear yK (t_ 31))] (G_ [m_ 32 0,m_ 6 32] .ret)))))))
theorem oy:FF iL=some ⟨[(.tmp 6)],iJ,.no⟩:=by kernel_rfl
def JU:ak:=(V_ [m_ 65 0,n_ 66 65,f_ 67 3 66,l_ 68 67,m_ 69 2,a_ 70 6 68 69,f_ 71 0 70,l_ 72 71,m_ 73 9,f_ 74 1 10,l_ 75 74,m_ 76 7,m_ 77 7,C_ 78 .add 77 1,L_ 80 2 11,v_ 81 yK 2 80,(F_ 79 167 [t_ 75,t_ 76,t_ 78],[11,81]),(A_ 82 yK 16 79 81,[67,71]),a_ 83 2 72 73,f_ 84 1 83,s_ 1 84 82])
def nE:ak:=(N_ 56 55 54 0 1 85 (G_ [m_ 57 55,a_ 58 2 53 55,L_ 59 2 58,K_ 10 Ry,m_ 9 57,s_ 2 10 59] (G_ [f_ 60 1 10,l_ 61 60,m_ 62 7,a_ 63 2 61 62,L_ 64 2 63,K_ 11 yK,s_ 2 11 64] JU)))
abbrev wR:Nat:=185
def wD:ak:=(G_ [m_ 12 0,n_ 13 12,f_ 14 3 13,l_ 15 14,z_ 16 15,m_ 6 16] (G_ [m_ 17 0,n_ 18 17,L_ 19 4 18,F_ 20 101 [t_ 19],m_ 21 2,a_ 22 1 20 21,l_ 23 22,m_ 24 1,F_ 25 162 [t_ 23,t_ 24],m_ 7 25] (G_ [m_ 26 0,n_ 27 26,f_ 28 3 27,l_ 29 28,m_ 30 1,a_ 31 6 29 30,m_ 8 31] (J_ (V_ [m_ 32 8,n_ 33 32,f_ 34 2 33,f_ 35 3 34,l_ 36 35,m_ 37 8,n_ 38 37,f_ 39 2 38,f_ 40 3 39,l_ 41 40,m_ 42 2,m_ 44 6,(F_ 43 162 [t_ 41,t_ 42],[35]),a_ 45 1 36 43,s_ 1 45 44]) (J_ (G_ [m_ 46 0,n_ 47 46,f_ 48 3 47,l_ 49 48,m_ 50 2,a_ 51 6 49 50,f_ 52 0 51,l_ 53 52,z_ 54 53,k_ 55 0] (Q_ 0 nE)) (O_ [m_ 86 0,m_ 87 0,n_ 88 87,f_ 89 3 88,l_ 90 89,m_ 91 2,v_ 92 D6 1 91,o_ 93 (.build am3 [(0,(1,(i_ 2))),(3,(1,(t_ 92)))]),o_ 94 (.build EA [(2,(4,(t_ 93)))]),v_ 95 EA 6 94,A_ 96 EA 96 90 95,n_ 97 86,f_ 98 3 97,s_ 1 98 96]))))))
theorem Eb:FF wR=some ⟨[],wD,.no⟩:=by kernel_rfl
def qz:ak:=(N_ 91 90 89 8 9 99 (G_ [a_ 92 2 88 90,L_ 93 2 92,K_ 15 Ry,s_ 2 15 93] (O_ [m_ 94 12,f_ 95 0 15,l_ 96 95,v_ 97 D6 1 96,A_ 98 D6 8 94 97,m_ 12 98])))
def qB:ak:=(N_ 80 79 78 6 7 86 (G_ [m_ 81 79,m_ 13 81] (O_ [m_ 82 12,m_ 83 13,v_ 84 D6 1 83,A_ 85 D6 8 82 84,m_ 12 85])))
def qC:ak:=(N_ 40 39 38 2 3 104 (G_ [m_ 41 39,a_ 42 6 37 39,L_ 43 6 42,K_ 8 EA,m_ 7 41,s_ 6 8 43] (G_ [m_ 44 6,m_ 45 7,a_ 46 1 44 45,l_ 47 46,K_ 9 VO,s_ 1 9 47] (J_ (G_ [f_ 48 2 8,f_ 49 1 48,f_ 50 0 49,l_ 51 50] (I_ 51 (O_ [l_ 52 9,f_ 53 2 8,f_ 54 1 53,f_ 55 1 54,l_ 56 55,a_ 57 1 52 56,u_ (.store 1 (t_ 57) (b_ true))]) .skip)) (J_ (G_ [f_ 58 1 8,l_ 59 58,F_ 60 230 [t_ 59]] (P_ 4 (.ET (t_ 60) [61,62] (O_ [K_ 11 L0,s_ 8 11 62]) (P_ 5 (J_ (G_ [f_ 63 1 11,l_ 64 63,C_ 65 .geq 64 0] (I_ 65 (O_ [l_ 66 3,f_ 67 1 11,l_ 68 67,v_ 69 D6 1 68,l_ 70 9,F_ 71 231 [t_ 66,t_ 69,t_ 70]]) .skip)) (O_ [l_ 72 9,L_ 73 8 11,F_ 74 232 [t_ 72,t_ 73]])))))) (G_ [Z_ 12] (J_ (G_ [m_ 75 7,Y_ 76 .eql 75 0] (I_ 76 (G_ [f_ 77 1 1,l_ 78 77,k_ 79 0] (Q_ 6 qB)) .skip)) (J_ (G_ [f_ 87 0 8,l_ 88 87,z_ 89 88,k_ 90 0] (Q_ 8 qz)) (O_ [l_ 100 3,m_ 101 12,l_ 102 9,F_ 103 231 [t_ 100,t_ 101,t_ 102]])))))))))
def qD:ak:=(N_ 22 21 20 0 1 30 (G_ [m_ 23 21,m_ 4 23] (V_ [l_ 24 3,m_ 25 4,f_ 26 2 1,l_ 27 26,o_ 28 (.gK Rw 1 (t_ 27) (t_ 27)),a_ 29 1 24 25,s_ 1 29 28])))
abbrev zE:Nat:=186
def zl:ak:=(G_ [x_ 1 0,Z_ 2] (G_ [f_ 16 2 1,l_ 17 16,o_ 18 (.gK VO 24 (t_ 17) (t_ 17)),K_ 3 VO,s_ 1 3 18] (J_ (G_ [l_ 19 3,z_ 20 19,k_ 21 0] (Q_ 0 qD)) (G_ [L_ 32 4 1,F_ 33 229 [t_ 32],m_ 31 33,E_ 34 0 31,E_ 35 1 31,m_ 5 34,m_ 6 35] (J_ (G_ [f_ 36 3 1,l_ 37 36,z_ 38 37,k_ 39 0] (Q_ 2 qC)) (G_ [l_ 105 3,m_ 2 105] .ret))))))
theorem HP:FF zE=some ⟨[(.tmp 2)],zl,.no⟩:=by kernel_rfl
def kD:ak:=(N_ 74 73 72 4 5 95 (G_ [m_ 75 73,a_ 76 1 71 73,l_ 77 76,m_ 10 75,m_ 11 77] (G_ [m_ 78 11,m_ 79 1,X_ 80 .eql 78 79,m_ 81 80,q_ 82 81 false (.mv (t_ 11)),q_ 83 81 false (.mv (t_ 2)),q_ 84 81 false (.bin .eql [1] (t_ 82) (t_ 83)),o_ 85 (.pick (t_ 81) (b_ true) (t_ 84))] (I_ 85 (O_ [m_ 86 0,n_ 87 86,f_ 88 0 87,l_ 89 88,m_ 90 10,m_ 91 1,m_ 92 2,o_ 93 (.Mi (t_ 91) (t_ 92)),a_ 94 1 89 90,s_ 1 94 93]) .skip))))
def kE:ak:=(N_ 42 41 40 2 3 66 (G_ [m_ 43 41,a_ 44 1 39 41,l_ 45 44,m_ 8 43,m_ 9 45] (G_ [m_ 46 7,m_ 47 1,X_ 48 .eql 46 47,m_ 49 48,q_ 50 49 true (.mv (t_ 9)),q_ 51 49 true (.mv (t_ 2)),q_ 52 49 true (.bin .eql [1] (t_ 50) (t_ 51)),o_ 53 (.pick (t_ 49) (t_ 52) (b_ false)),m_ 54 53,q_ 55 54 true (.mv (t_ 0)),q_ 56 54 true (.xY (t_ 55)),q_ 57 54 true (.ee 1 (t_ 56)),q_ 58 54 true (.load none (t_ 57)),q_ 59 54 true (.mv (t_ 6)),q_ 60 54 true (.dx none 1 (t_ 58) (t_ 59)),q_ 61 54 true (.load none (t_ 60)),q_ 62 54 true (.mv (t_ 8)),q_ 63 54 true (.dx none 1 (t_ 61) (t_ 62)),q_ 64 54 true (.load none (t_ 63)),o_ 65 (.pick (t_ 54) (t_ 64) (b_ false))] (I_ 65 .ret .skip))))
def kF:ak:=(N_ 32 31 30 0 1 67 (G_ [m_ 33 31,a_ 34 1 29 31,l_ 35 34,m_ 6 33,m_ 7 35] (G_ [m_ 36 0,n_ 37 36,f_ 38 0 37,l_ 39 38,z_ 40 39,k_ 41 0] (Q_ 2 kE))))
abbrev tn:Nat:=187
def sv:ak:=(J_ (V_ [m_ 12 0,n_ 13 12,f_ 14 0 13,l_ 15 14,m_ 16 1,a_ 17 1 15 16,l_ 18 17,m_ 19 0,n_ 20 19,f_ 21 0 20,l_ 22 21,m_ 23 2,a_ 24 1 22 23,l_ 25 24,m_ 1 18,m_ 2 25]) (J_ (G_ [m_ 26 0,n_ 27 26,f_ 28 0 27,l_ 29 28,z_ 30 29,k_ 31 0] (Q_ 0 kF)) (G_ [m_ 68 0,n_ 69 68,f_ 70 0 69,l_ 71 70,z_ 72 71,k_ 73 0] (Q_ 4 kD))))
theorem zY:FF tn=some ⟨[],sv,.no⟩:=by kernel_rfl
def DU:ak:=(N_ 49 48 47 2 3 63 (G_ [m_ 50 48,a_ 51 3 46 48,L_ 52 3 51,K_ 10 LJ,m_ 9 50,s_ 3 10 52] (G_ [f_ 53 1 10,L_ 54 2 53,L_ 55 2 8,o_ 56 (.bin .eql [9,0,1] (t_ 54) (t_ 55))] (I_ 56 (O_ [l_ 57 2,m_ 58 9,m_ 59 1,o_ 60 (.build yK [(0,(1,(b_ true))),(1,(1,(t_ 59)))]),a_ 61 3 57 58,f_ 62 1 61,s_ 2 62 60]) .skip))))
def DV:ak:=(J_ (G_ [l_ 14 2,z_ 15 14,C_ 16 .gtr 15 0] (H_ 16 0)) (P_ 1 (G_ [o_ 17 (.tX 236 [t_ 2]),o_ 6 (.alloc [.nilFunc]),s_ 1 6 17] (G_ [l_ 18 2,o_ 19 (.tX 240 [t_ 6]),F_ 20 239 [t_ 18,t_ 19],m_ 7 20] (J_ (G_ [m_ 21 7,C_ 22 .geq 21 0] (I_ 22 (G_ [m_ 23 5,l_ 24 2,m_ 25 7,a_ 26 3 24 25,L_ 27 3 26,v_ 28 LJ 3 27,A_ 29 LJ 24 23 28,m_ 5 29] (G_ [l_ 30 2,m_ 31 7,m_ 32 7,C_ 33 .add 32 1,F_ 34 241 [t_ 30,t_ 31,t_ 33],s_ 1 2 34] (.exit 1))) .skip)) (G_ [l_ 35 2,o_ 36 (.dx none 3 (t_ 35) (i_ 0)),f_ 37 0 36,l_ 38 37,o_ 39 (.build yK [(0,(1,(b_ true))),(1,(1,(t_ 38)))]),K_ 8 yK,s_ 2 8 39] (G_ [m_ 40 5,m_ 41 1,L_ 42 2 8,o_ 43 (.build LJ [(0,(1,(t_ 41))),(1,(2,(t_ 42)))]),v_ 44 LJ 3 43,A_ 45 LJ 24 40 44,m_ 5 45] (G_ [l_ 46 2,z_ 47 46,k_ 48 0] (Q_ 2 DU)))))))))
abbrev Jp:Nat:=188
def IC:ak:=(G_ [x_ 2 0,Z_ 4] (G_ [l_ 11 2,F_ 12 234 [t_ 11],F_ 13 233 [t_ 12,(.func 235)],s_ 1 2 13] (G_ [Z_ 5] (J_ (Q_ 0 DV) (G_ [m_ 64 5,m_ 4 64] .ret)))))
theorem TL:FF Jp=some ⟨[(.tmp 4)],IC,.no⟩:=by kernel_rfl
def qx:ak:=(N_ 33 32 31 0 1 40 (G_ [a_ 34 2 30 32,L_ 35 2 34,K_ 5 yK,s_ 2 5 35] (G_ [m_ 36 0,L_ 37 2 5,o_ 38 (.call (t_ 36) [t_ 37]),o_ 39 (.un .not (t_ 38))] (I_ 39 .ret .skip))))
abbrev iG:Nat:=192
def zh:ak:=(G_ [f_ 6 0 1,l_ 7 6,F_ 8 193 [t_ 7],K_ 3 w9_,s_ 3 3 8] (J_ (G_ [f_ 9 1 3,l_ 10 9,m_ 11 10,q_ 12 11 true (.mv (t_ 0)),q_ 13 11 true (.ee 2 (t_ 1)),q_ 14 11 true (.load (some 2) (t_ 13)),q_ 15 11 true (.call (t_ 12) [t_ 14]),q_ 16 11 true (.un .not (t_ 15)),o_ 17 (.pick (t_ 11) (t_ 16) (b_ false)),m_ 18 17,q_ 19 18 false (.ee 2 (t_ 3)),q_ 20 18 false (.load none (t_ 19)),q_ 21 18 false (.mv (t_ 20)),q_ 22 21 true (.mv (t_ 0)),q_ 23 21 true (.ee 4 (t_ 1)),q_ 24 21 true (.load (some 2) (t_ 23)),q_ 25 21 true (.call (t_ 22) [t_ 24]),q_ 26 21 true (.un .not (t_ 25)),q_ 27 18 false (.pick (t_ 21) (t_ 26) (b_ false)),o_ 28 (.pick (t_ 18) (b_ true) (t_ 27))] (I_ 28 .ret .skip)) (G_ [f_ 29 7 1,l_ 30 29,z_ 31 30,k_ 32 0] (Q_ 0 qx))))
theorem HL:FF iG=some ⟨[],zh,.no⟩:=by kernel_rfl
abbrev zB:Nat:=193
def zg:ak:=(G_ [K_ 2 w9_] (J_ (P_ 0 (G_ [m_ 4 0,Y_ 5 .eql 4 1,m_ 6 5,q_ 7 6 false (.mv (t_ 0)),q_ 8 6 false (.bin .eql [1] (t_ 7) (i_ 16)),o_ 9 (.pick (t_ 6) (b_ true) (t_ 8)),m_ 10 9,q_ 11 10 false (.mv (t_ 0)),q_ 12 10 false (.bin .eql [1] (t_ 11) (i_ 17)),o_ 13 (.pick (t_ 10) (b_ true) (t_ 12)),m_ 14 13,q_ 15 14 false (.mv (t_ 0)),q_ 16 14 false (.bin .eql [1] (t_ 15) (i_ 18)),o_ 17 (.pick (t_ 14) (b_ true) (t_ 16)),m_ 3 17] (I_ 3 (G_ [o_ 18 (.build w9_ [(0,(1,(b_ true))),(1,(1,(b_ true))),(2,(1,(b_ false)))]),s_ 3 2 18] .ret) (G_ [m_ 20 0,C_ 21 .geq 20 2,m_ 22 21,q_ 23 22 true (.mv (t_ 0)),q_ 24 22 true (.bin .leq [] (t_ 23) (i_ 15)),o_ 25 (.pick (t_ 22) (t_ 24) (b_ false)),m_ 19 25] (I_ 19 (G_ [o_ 26 (.build w9_ [(0,(1,(b_ true))),(1,(1,(b_ true))),(2,(1,(b_ true)))]),s_ 3 2 26] .ret) (G_ [m_ 28 0,Y_ 29 .eql 28 19,m_ 27 29] (I_ 27 (G_ [o_ 30 (.build w9_ [(0,(1,(b_ false))),(1,(1,(b_ true))),(2,(1,(b_ true)))]),s_ 3 2 30] .ret) (G_ [m_ 32 0,Y_ 33 .eql 32 20,m_ 34 33,q_ 35 34 false (.mv (t_ 0)),q_ 36 34 false (.bin .eql [1] (t_ 35) (i_ 21)),o_ 37 (.pick (t_ 34) (b_ true) (t_ 36)),m_ 31 37] (I_ 31 (G_ [o_ 38 (.build w9_ [(0,(1,(b_ true))),(1,(1,(b_ false))),(2,(1,(b_ false)))]),s_ 3 2 38] .ret) (G_ [m_ 40 0,Y_ 41 .eql 40 22,m_ 39 41] (I_ 39 (G_ [o_ 42 (.build w9_ [(0,(1,(b_ false))),(1,(1,(b_ true))),(2,(1,(b_ false)))]),s_ 3 2 42] .ret) .skip))))))))))) (G_ [o_ 43 (.build w9_ []),s_ 3 2 43] .ret)))
theorem HK:FF zB=some ⟨[(.cell 2 (some 3))],zg,.no⟩:=by kernel_rfl
abbrev uy:Nat:=194
def uf:ak:=(G_ [k_ 4 0] (J_ (G_ [m_ 5 0,n_ 6 5,f_ 7 0 6,l_ 8 7,m_ 9 1,a_ 10 1 8 9,l_ 11 10,C_ 12 .lss 11 0] (I_ 12 (J_ (V_ [m_ 13 0,n_ 14 13,f_ 15 0 14,l_ 16 15,m_ 17 1,m_ 18 0,n_ 19 18,f_ 20 1 19,l_ 21 20,a_ 22 1 16 17,s_ 1 22 21]) (O_ [m_ 23 0,n_ 24 23,f_ 25 1 24,l_ 26 25,C_ 27 .add 26 1,n_ 28 23,f_ 29 1 28,s_ 1 29 27])) .skip)) (G_ [m_ 30 0,n_ 31 30,f_ 32 0 31,l_ 33 32,m_ 34 1,a_ 35 1 33 34,l_ 36 35,m_ 4 36] .ret)))
theorem Bn:FF uy=some ⟨[(.tmp 4)],uf,.no⟩:=by kernel_rfl
abbrev vq:Nat:=195
def vf:ak:=(G_ [x_ 3 1,K_ 4 yK] (J_ (G_ [f_ 5 0 3,l_ 6 5] (I_ 6 (O_ [m_ 7 0,f_ 8 1 3,l_ 9 8,F_ 10 194 [t_ 7,t_ 9],f_ 11 1 3,s_ 1 11 10]) .skip)) (G_ [L_ 12 2 3,s_ 2 4 12] .ret)))
theorem Cy:FF vq=some ⟨[(.cell 4 (some 2))],vf,.no⟩:=by kernel_rfl
def Lh:ak:=(V_ [m_ 79 0,n_ 80 79,f_ 81 3 80,l_ 82 81,m_ 83 8,a_ 84 6 82 83,f_ 85 0 84,l_ 86 85,m_ 87 13,f_ 88 1 14,l_ 89 88,m_ 90 9,m_ 91 9,C_ 92 .add 91 1,m_ 94 10,L_ 95 2 15,v_ 96 yK 2 95,(F_ 93 167 [t_ 89,t_ 90,t_ 92],[15,96]),(F_ 97 166 [t_ 93,t_ 94,t_ 96],[81,85]),a_ 98 2 86 87,f_ 99 1 98,s_ 1 99 97])
def qE:ak:=(N_ 70 69 68 4 5 100 (G_ [m_ 71 69,a_ 72 2 67 69,L_ 73 2 72,K_ 14 Ry,m_ 13 71,s_ 2 14 73] (G_ [f_ 74 1 14,l_ 75 74,m_ 76 9,a_ 77 2 75 76,L_ 78 2 77,K_ 15 yK,s_ 2 15 78] Lh)))
def qF:ak:=(N_ 46 45 44 2 3 59 (G_ [a_ 47 1 43 45,l_ 48 47,m_ 12 48] (G_ [m_ 49 12,m_ 50 2,B_ 51 .lss 49 50,m_ 52 51,q_ 53 52 true (.mv (t_ 12)),q_ 54 52 true (.mv (t_ 1)),q_ 55 52 true (.bin .neq [1] (t_ 53) (t_ 54)),o_ 56 (.pick (t_ 52) (t_ 55) (b_ false))] (I_ 56 (O_ [m_ 57 10,C_ 58 .add 57 1,m_ 10 58]) .skip))))
def w_:ak:=(N_ 31 30 29 0 1 101 (G_ [a_ 32 1 28 30,l_ 33 32,m_ 8 33] (G_ [m_ 34 6,m_ 35 8,a_ 36 1 34 35,l_ 37 36,m_ 38 1,F_ 39 162 [t_ 37,t_ 38],m_ 9 39] (G_ [k_ 10 0] (J_ (G_ [m_ 40 6,m_ 41 8,a_ 42 1 40 41,l_ 43 42,z_ 44 43,k_ 45 0] (Q_ 2 qF)) (G_ [m_ 60 0,n_ 61 60,f_ 62 3 61,l_ 63 62,m_ 64 8,a_ 65 6 63 64,f_ 66 0 65,l_ 67 66,z_ 68 67,k_ 69 0] (Q_ 4 qE)))))))
abbrev zG:Nat:=196
def zp:ak:=(G_ [m_ 16 0,n_ 17 16,L_ 18 4 17,F_ 19 101 [t_ 18],m_ 6 19] (G_ [m_ 20 0,n_ 21 20,f_ 22 3 21,l_ 23 22,m_ 24 1,a_ 25 6 23 24,f_ 26 2 25,f_ 27 3 26,l_ 28 27,z_ 29 28,k_ 30 0] (Q_ 0 w_)))
theorem HU:FF zG=some ⟨[],zp,.no⟩:=by kernel_rfl
set_option maxRecDepth 100000
abbrev dj:Nat:=197
def dg:ak:=(G_ [m_ 5 0,z_ 6 5,m_ 4 6] (O_ [m_ 7 0,m_ 8 4,m_ 9 4,o_ 10 (.conv .u64 (t_ 9)),F_ 11 245 [t_ 10],m_ 12 1,F_ 13 244 [t_ 7,(i_ 0),t_ 8,t_ 11,t_ 12]]))
theorem ft:FF dj=some ⟨[],dg,.no⟩:=by kernel_rfl
abbrev uU:Nat:=198
def zo:ak:=(G_ [x_ 2 0,x_ 3 1,k_ 4 0] (G_ [f_ 5 0 2,l_ 6 5,f_ 7 0 3,l_ 8 7,B_ 9 .sub 6 8,m_ 4 9] .ret))
theorem HT:FF uU=some ⟨[(.tmp 4)],zo,.no⟩:=by kernel_rfl
def gI:ak:=(J_ (G_ [m_ 7 2,m_ 8 3,B_ 9 .lss 7 8] (H_ 9 0)) (J_ (P_ 1 (V_ [m_ 14 0,m_ 15 2,m_ 16 0,m_ 17 3,m_ 18 0,m_ 19 3,a_ 20 1 18 19,l_ 21 20,m_ 22 0,m_ 23 2,a_ 24 1 22 23,l_ 25 24,a_ 26 1 14 15,s_ 1 26 21,a_ 27 1 16 17,s_ 1 27 25])) (O_ [m_ 10 2,C_ 11 .add 10 1,m_ 12 3,C_ 13 .sub 12 1,m_ 2 11,m_ 3 13])))
abbrev mf:Nat:=199
def lO:ak:=(G_ [m_ 4 0,z_ 5 4,C_ 6 .sub 5 1,k_ 2 0,m_ 3 6] (Q_ 0 gI))
theorem uI:FF mf=some ⟨[],lO,.no⟩:=by kernel_rfl
abbrev fg:Nat:=200
def ji:ak:=(G_ [M_ 4 false] (G_ [m_ 5 0,m_ 6 1,F_ 7 246 [t_ 5,t_ 6],C_ 8 .geq 7 0,m_ 4 8] .ret))
theorem pY:FF fg=some ⟨[(.tmp 4)],ji,.no⟩:=by kernel_rfl
abbrev kx:Nat:=201
def pS:ak:=(G_ [M_ 3 false] (G_ [m_ 4 0,f_ 5 2 1,f_ 6 3 5,l_ 7 6,z_ 8 7,C_ 9 .sub 8 1,F_ 10 80 [t_ 4,(i_ 1),t_ 9],o_ 11 (.un .not (t_ 10)),m_ 3 11] .ret))
theorem xv:FF kx=some ⟨[(.tmp 3)],pS,.no⟩:=by kernel_rfl
abbrev mA:Nat:=202
def su:ak:=(G_ [x_ 2 0,x_ 3 1,k_ 4 0] (J_ (G_ [f_ 5 0 3,l_ 6 5,m_ 7 6,q_ 8 7 true (.ee 1 (t_ 3)),q_ 9 7 true (.load none (t_ 8)),q_ 10 7 true (.ee 2 (t_ 2)),q_ 11 7 true (.ee 2 (t_ 10)),q_ 12 7 true (.load none (t_ 11)),q_ 13 7 true (.bin .sub [] (t_ 12) (i_ 1)),q_ 14 7 true (.call (.func 80) [t_ 9,(i_ 0),t_ 13]),q_ 15 7 true (.un .not (t_ 14)),o_ 16 (.pick (t_ 7) (t_ 15) (b_ false))] (I_ 16 (G_ [k_ 4 3] .ret) .skip)) (G_ [k_ 4 0] .ret)))
theorem zX:FF mA=some ⟨[(.tmp 4)],su,.no⟩:=by kernel_rfl
abbrev tk:Nat:=203
def sf:ak:=(G_ [x_ 2 0,k_ 4 0] (J_ (G_ [m_ 5 1,f_ 6 2 2,f_ 7 2 6,l_ 8 7,C_ 9 .sub 8 1,F_ 10 80 [t_ 5,(i_ 0),t_ 9],o_ 11 (.un .not (t_ 10))] (I_ 11 (G_ [k_ 4 3] .ret) .skip)) (G_ [k_ 4 0] .ret)))
theorem zT:FF tk=some ⟨[(.tmp 4)],sf,.no⟩:=by kernel_rfl
def x6:ak:=(N_ 9 8 7 0 1 17 (G_ [a_ 10 1 6 8,l_ 11 10,m_ 4 11] (G_ [m_ 12 4,o_ 13 (.call (t_ 12) []),m_ 5 13] (G_ [m_ 14 5,Y_ 15 .neq 14 0] (I_ 15 (G_ [m_ 16 5,m_ 2 16] .ret) .skip)))))
abbrev vX:Nat:=204
def A9:ak:=(.seq (.ops [⟨(some 2),none,(.mv (.const (.int .i64 0)))⟩]) (.seq (.seq (.ops [⟨(some 6),none,(.mv (.tmp 0))⟩,⟨(some 7),none,(.tS (.tmp 6))⟩,⟨(some 8),none,(.mv (.const (.int .i64 0)))⟩]) (.block 0 (.loop x6))) (.seq (.ops [⟨(some 2),none,(.mv (.const (.int .i64 0)))⟩]) .ret)))
theorem JY:FF vX=some ⟨[(.tmp 2)],A9,.no⟩:=by kernel_rfl
abbrev iu:Nat:=205
def pT:ak:=(G_ [k_ 2 0] (G_ [L_ 3 7 0,f_ 4 2 1,L_ 5 2 4,F_ 6 202 [t_ 3,t_ 5],m_ 2 6] .ret))
theorem xx:FF iu=some ⟨[(.tmp 2)],pT,.no⟩:=by kernel_rfl
abbrev iv:Nat:=206
def pU:ak:=(G_ [k_ 2 0] (G_ [L_ 3 7 0,f_ 4 4 1,L_ 5 2 4,F_ 6 202 [t_ 3,t_ 5],m_ 2 6] .ret))
theorem xy:FF iv=some ⟨[(.tmp 2)],pU,.no⟩:=by kernel_rfl
def nD:ak:=(N_ 37 36 35 1 2 46 (G_ [a_ 38 2 34 36,L_ 39 2 38,K_ 5 yK,s_ 2 5 39] (G_ [L_ 40 7 2,L_ 41 2 5,F_ 42 202 [t_ 40,t_ 41],m_ 6 42] (G_ [m_ 43 6,Y_ 44 .neq 43 0] (I_ 44 (G_ [m_ 45 6,m_ 3 45] .ret) .skip)))))
abbrev iw:Nat:=207
def pV:ak:=(G_ [k_ 3 0] (J_ (P_ 0 (G_ [l_ 8 0,o_ 9 (.un .not (t_ 8)),m_ 7 9] (I_ 7 (G_ [k_ 3 0] .ret) (G_ [f_ 11 6 1,l_ 12 11,f_ 13 0 2,f_ 14 1 13,l_ 15 14,z_ 16 15,C_ 17 .sub 16 1,F_ 18 80 [t_ 12,(i_ 0),t_ 17],o_ 19 (.un .not (t_ 18)),m_ 10 19] (I_ 10 (G_ [k_ 3 3] .ret) (J_ (V_ [f_ 21 7 1,l_ 22 21,z_ 23 22,f_ 24 0 2,f_ 25 1 24,l_ 26 25,f_ 27 6 1,l_ 28 27,a_ 29 4 26 28,f_ 30 1 29,l_ 31 30,X_ 32 .neq 23 31,m_ 20 32]) (I_ 20 (G_ [k_ 3 9] .ret) .skip))))))) (J_ (G_ [f_ 33 7 1,l_ 34 33,z_ 35 34,k_ 36 0] (Q_ 1 nD)) (G_ [k_ 3 0] .ret))))
theorem xz:FF iw=some ⟨[(.tmp 3)],pV,.no⟩:=by kernel_rfl
abbrev uw:Nat:=209
def ud:ak:=(G_ [o_ 4 (.mv (.const (.int .u64 0))),o_ 5 (.mv (.const (.int .u64 0)))] (G_ [m_ 14 0,o_ 15 (.bin .and [] (t_ 14) (.const (.int .u64 4294967295))),m_ 6 15] (G_ [m_ 16 0,o_ 17 (.bin .shr [] (t_ 16) (.const (.int .u64 32))),m_ 7 17] (G_ [m_ 18 1,o_ 19 (.bin .and [] (t_ 18) (.const (.int .u64 4294967295))),m_ 8 19] (G_ [m_ 20 1,o_ 21 (.bin .shr [] (t_ 20) (.const (.int .u64 32))),m_ 9 21] (G_ [m_ 22 6,m_ 23 8,B_ 24 .mul 22 23,m_ 10 24] (G_ [m_ 25 7,m_ 26 8,B_ 27 .mul 25 26,m_ 28 10,o_ 29 (.bin .shr [] (t_ 28) (.const (.int .u64 32))),B_ 30 .add 27 29,m_ 11 30] (G_ [m_ 31 11,o_ 32 (.bin .and [] (t_ 31) (.const (.int .u64 4294967295))),m_ 12 32] (G_ [m_ 33 11,o_ 34 (.bin .shr [] (t_ 33) (.const (.int .u64 32))),m_ 13 34] (G_ [m_ 35 12,m_ 36 6,m_ 37 9,B_ 38 .mul 36 37,B_ 39 .add 35 38,m_ 12 39] (G_ [m_ 40 7,m_ 41 9,B_ 42 .mul 40 41,m_ 43 13,B_ 44 .add 42 43,m_ 45 12,o_ 46 (.bin .shr [] (t_ 45) (.const (.int .u64 32))),B_ 47 .add 44 46,m_ 4 47] (G_ [m_ 48 0,m_ 49 1,B_ 50 .mul 48 49,m_ 5 50] .ret))))))))))))
theorem Bl:FF uw=some ⟨[(.tmp 4),(.tmp 5)],ud,.no⟩:=by kernel_rfl
def jm:ak:=(J_ (G_ [m_ 7 3,C_ 8 .geq 7 0] (H_ 8 0)) (J_ (P_ 1 (G_ [m_ 11 0,m_ 12 3,l_ 13 1,m_ 14 3,a_ 15 1 13 14,l_ 16 15,o_ 17 (.call (t_ 11) [t_ 12,t_ 16]),o_ 18 (.un .not (t_ 17))] (I_ 18 .ret .skip))) (O_ [m_ 9 3,C_ 10 .sub 9 1,m_ 3 10])))
abbrev bQ:Nat:=210
def j5:ak:=(G_ [l_ 4 1,z_ 5 4,C_ 6 .sub 5 1,m_ 3 6] (Q_ 0 jm))
theorem qV:FF bQ=some ⟨[],j5,.no⟩:=by kernel_rfl
def zI:ak:=(J_ (G_ [m_ 7 2,C_ 8 .geq 7 0,m_ 9 8,q_ 10 9 true (.mv (t_ 2)),q_ 11 9 true (.mv (t_ 1)),q_ 12 9 true (.bin .neq [1] (t_ 10) (t_ 11)),o_ 13 (.pick (t_ 9) (t_ 12) (b_ false))] (H_ 13 0)) (P_ 1 (O_ [m_ 14 0,m_ 15 2,a_ 16 1 14 15,l_ 17 16,m_ 2 17])))
abbrev DM:Nat:=211
def C8:ak:=(G_ [M_ 6 false] (J_ (Q_ 0 zI) (G_ [m_ 18 1,m_ 19 2,X_ 20 .eql 18 19,m_ 6 20] .ret)))
theorem Mn:FF DM=some ⟨[(.tmp 6)],C8,.no⟩:=by kernel_rfl
def tL:ak:=(N_ 75 74 73 8 9 82 (G_ [a_ 76 2 72 74,L_ 77 2 76,K_ 11 Ry,s_ 2 11 77] (O_ [l_ 78 7,f_ 79 0 11,l_ 80 79,a_ 81 1 78 80,u_ (.store 1 (t_ 81) (b_ false))])))
def tM:ak:=(N_ 31 30 29 4 5 94 (G_ [m_ 32 30,m_ 6 32] (G_ [m_ 33 3,L_ 34 4 1,m_ 35 4,m_ 36 2,m_ 37 6,F_ 38 256 [t_ 34,t_ 35,t_ 36,t_ 37],v_ 39 VO 1 38,A_ 40 VO 24 33 39,m_ 3 40] (G_ [m_ 41 3,m_ 42 6,a_ 43 1 41 42,l_ 44 43,F_ 45 257 [t_ 44],K_ 7 VO,s_ 1 7 45] (J_ (V_ [l_ 46 7,f_ 47 3 1,l_ 48 47,m_ 49 6,a_ 50 6 48 49,f_ 51 2 50,f_ 52 1 51,L_ 53 2 52,F_ 54 258 [t_ 46,t_ 53]]) (J_ (G_ [f_ 55 3 1,l_ 56 55,m_ 57 6,a_ 58 6 56 57,f_ 59 1 58,l_ 60 59,F_ 61 230 [t_ 60]] (P_ 6 (.ET (t_ 61) [62,63] (O_ [K_ 9 L0,s_ 8 9 63]) (P_ 7 (O_ [l_ 64 7,L_ 65 8 9,F_ 66 232 [t_ 64,t_ 65]]))))) (J_ (G_ [f_ 67 3 1,l_ 68 67,m_ 69 6,a_ 70 6 68 69,f_ 71 0 70,l_ 72 71,z_ 73 72,k_ 74 0] (Q_ 8 tL)) (J_ (V_ [l_ 83 7,m_ 84 2,m_ 85 6,a_ 86 1 84 85,l_ 87 86,F_ 88 259 [t_ 83,t_ 87],o_ 89 (.un .not (t_ 88))]) (I_ 89 (O_ [m_ 90 2,m_ 91 6,l_ 92 7,a_ 93 1 90 91,s_ 1 93 92,M_ 5 true]) .skip)))))))))
def tN:ak:=(J_ (G_ [m_ 26 5] (H_ 26 2)) (P_ 3 (G_ [M_ 5 false,Z_ 3] (G_ [f_ 27 3 1,l_ 28 27,z_ 29 28,k_ 30 0] (Q_ 4 tM)))))
def tO:ak:=(N_ 18 17 16 0 1 25 (O_ [m_ 19 2,f_ 20 2 1,l_ 21 20,o_ 22 (.gK Rw 1 (t_ 21) (t_ 21)),v_ 23 VO 1 22,A_ 24 VO 24 19 23,m_ 2 24]))
abbrev BP:Nat:=229
def Bg:ak:=(G_ [x_ 1 0,Z_ 2,Z_ 3] (G_ [L_ 12 4 1,F_ 13 101 [t_ 12],m_ 4 13] (J_ (G_ [f_ 14 3 1,l_ 15 14,z_ 16 15,k_ 17 0] (Q_ 0 tO)) (J_ (G_ [M_ 5 true] (Q_ 2 tN)) (G_ [m_ 95 2,m_ 96 3,m_ 2 95,m_ 3 96] .ret)))))
theorem J6:FF BP=some ⟨[(.tmp 2),(.tmp 3)],Bg,.no⟩:=by kernel_rfl
abbrev gZ:Nat:=230
def gU:ak:=(.seq (.ops [⟨(some 1),none,(.box (.tmp 0))⟩,⟨(some 2),none,(.mv (.const .nilFunc))⟩]) (.seq (.ops [⟨(some 3),none,(.tX 260 [(.tmp 1)])⟩,⟨(some 2),none,(.mv (.tmp 3))⟩]) .ret))
theorem mR:FF gZ=some ⟨[(.tmp 2)],gU,.no⟩:=by kernel_rfl
def lE:ak:=(N_ 19 18 17 2 3 46 (G_ [m_ 20 18,a_ 21 1 16 18,l_ 22 21,m_ 8 20,m_ 9 22] (G_ [m_ 23 8,m_ 24 7,X_ 25 .neq 23 24,m_ 26 25,q_ 27 26 true (.mv (t_ 9)),q_ 28 26 true (.mv (t_ 27)),q_ 29 28 false (.mv (t_ 1)),q_ 30 28 false (.mv (t_ 8)),q_ 31 28 false (.call (.func 161) [t_ 29,t_ 30]),q_ 32 26 true (.pick (t_ 28) (b_ true) (t_ 31)),o_ 33 (.pick (t_ 26) (t_ 32) (b_ false))] (I_ 33 (V_ [m_ 34 0,m_ 35 7,a_ 36 1 34 35,l_ 37 36,m_ 38 8,m_ 39 0,m_ 40 8,a_ 41 1 39 40,l_ 42 41,m_ 43 7,a_ 44 1 37 38,u_ (.store 1 (t_ 44) (b_ true)),a_ 45 1 42 43,u_ (.store 1 (t_ 45) (b_ true))]) .skip))))
def qR:ak:=(N_ 13 12 11 0 1 47 (G_ [a_ 14 1 10 12,l_ 15 14,m_ 7 15] (G_ [m_ 16 2,z_ 17 16,k_ 18 0] (Q_ 2 lE))))
abbrev ux:Nat:=231
def ue:ak:=(.seq (.ops [⟨(some 10),none,(.mv (.tmp 1))⟩,⟨(some 11),none,(.tS (.tmp 10))⟩,⟨(some 12),none,(.mv (.const (.int .i64 0)))⟩]) (.block 0 (.loop qR)))
theorem Bm:FF ux=some ⟨[],ue,.no⟩:=by kernel_rfl
abbrev kS:Nat:=232
def vd:ak:=(G_ [x_ 2 0,x_ 3 1] (J_ (G_ [f_ 5 1 3,l_ 6 5,C_ 7 .geq 6 0] (I_ 7 (O_ [l_ 8 2,f_ 9 1 3,l_ 10 9,a_ 11 1 8 10,u_ (.store 1 (t_ 11) (b_ false))]) .skip)) (G_ [L_ 12 8 3,F_ 13 132 [t_ 12]] (P_ 0 (.ET (t_ 13) [14] (O_ [K_ 4 yK,s_ 2 4 14]) (P_ 1 (O_ [l_ 15 2,L_ 16 2 4,F_ 17 258 [t_ 15,t_ 16]])))))))
theorem Cx:FF kS=some ⟨[],vd,.no⟩:=by kernel_rfl
def eS:ak:=(J_ (G_ [m_ 16 6,m_ 17 0,z_ 18 17,B_ 19 .lss 16 18] (H_ 19 0)) (J_ (P_ 1 (G_ [m_ 22 0,m_ 23 6,a_ 24 3 22 23,L_ 25 3 24,K_ 7 LJ,s_ 3 7 25] (G_ [m_ 26 1,L_ 27 3 7,o_ 28 (.call (t_ 26) [t_ 27]),o_ 29 (.un .not (t_ 28))] (I_ 29 (G_ [m_ 30 0,m_ 31 5,L_ 32 3 7,a_ 33 3 30 31,s_ 3 33 32] (O_ [m_ 34 5,C_ 35 .add 34 1,m_ 5 35])) .skip)))) (O_ [m_ 20 6,C_ 21 .add 20 1,m_ 6 21])))
abbrev di:Nat:=233
def df:ak:=(G_ [Z_ 4] (G_ [m_ 8 0,m_ 9 1,F_ 10 239 [t_ 8,t_ 9],m_ 5 10] (J_ (G_ [m_ 11 5,o_ 12 (.bin .eql [1] (t_ 11) (.const (.int .i64 (Int.negSucc 0))))] (I_ 12 (G_ [m_ 13 0,m_ 4 13] .ret) .skip)) (J_ (G_ [m_ 14 5,C_ 15 .add 14 1,m_ 6 15] (Q_ 0 eS)) (G_ [m_ 36 0,m_ 37 5,o_ 38 (.slice 3 (t_ 36) (some (t_ 37)) none none),u_ (.clear LJ (t_ 38))] (G_ [m_ 39 0,m_ 40 5,o_ 41 (.slice 3 (t_ 39) none (some (t_ 40)) none),m_ 4 41] .ret))))))
theorem fq:FF di=some ⟨[(.tmp 4)],df,.no⟩:=by kernel_rfl
abbrev iy:Nat:=234
def ik:ak:=(G_ [Z_ 2] (J_ (G_ [m_ 3 0,o_ 4 (.bin .eql [3] (t_ 3) (.const (.slice none 0 0)))] (I_ 4 (G_ [Z_ 2] .ret) .skip)) (G_ [o_ 5 (.gC 0 [] []),m_ 6 0,A_ 7 LJ 24 5 6,m_ 2 7] .ret)))
theorem nj:FF iy=some ⟨[(.tmp 2)],ik,.no⟩:=by kernel_rfl
abbrev DN:Nat:=235
def C9:ak:=(G_ [x_ 1 0,M_ 2 false] (G_ [f_ 3 1 1,L_ 4 2 3,f_ 5 0 1,l_ 6 5,o_ 7 (.build yK [(0,(1,(b_ true))),(1,(1,(t_ 6)))]),o_ 8 (.bin .eql [9,0,1] (t_ 4) (t_ 7)),m_ 2 8] .ret))
theorem Mo:FF DN=some ⟨[(.tmp 2)],C9,.no⟩:=by kernel_rfl
abbrev jl:Nat:=236
def Da:ak:=(G_ [x_ 2 0,M_ 3 false] (G_ [l_ 4 1,o_ 5 (.tX 238 [t_ 2]),F_ 6 237 [t_ 4,t_ 5],m_ 3 6] .ret))
theorem Mp:FF jl=some ⟨[(.tmp 3)],Da,.no⟩:=by kernel_rfl
abbrev eO:Nat:=237
def eJ:ak:=(G_ [M_ 4 false] (G_ [m_ 5 0,m_ 6 1,F_ 7 239 [t_ 5,t_ 6],C_ 8 .geq 7 0,m_ 4 8] .ret))
theorem j8:FF eO=some ⟨[(.tmp 4)],eJ,.no⟩:=by kernel_rfl
abbrev uT:Nat:=238
def zm:ak:=(G_ [x_ 2 0,M_ 3 false] (G_ [f_ 4 1 2,L_ 5 2 4,f_ 6 0 1,l_ 7 6,o_ 8 (.build yK [(0,(1,(b_ true))),(1,(1,(t_ 7)))]),o_ 9 (.bin .eql [9,0,1] (t_ 5) (t_ 8)),m_ 3 9] .ret))
theorem HR:FF uT=some ⟨[(.tmp 3)],zm,.no⟩:=by kernel_rfl
def fm:ak:=(N_ 9 8 7 0 1 18 (G_ [m_ 10 8,m_ 5 10] (G_ [m_ 11 1,m_ 12 0,m_ 13 5,a_ 14 3 12 13,L_ 15 3 14,o_ 16 (.call (t_ 11) [t_ 15])] (I_ 16 (G_ [m_ 17 5,m_ 4 17] .ret) .skip))))
abbrev fM:Nat:=239
def fI:ak:=(.seq (.ops [⟨(some 4),none,(.mv (.const (.int .i64 0)))⟩]) (.seq (.seq (.ops [⟨(some 6),none,(.mv (.tmp 0))⟩,⟨(some 7),none,(.tS (.tmp 6))⟩,⟨(some 8),none,(.mv (.const (.int .i64 0)))⟩]) (.block 0 (.loop fm))) (.seq (.ops [⟨(some 4),none,(.mv (.const (.int .i64 (Int.negSucc 0))))⟩]) .ret)))
theorem lr:FF fM=some ⟨[(.tmp 4)],fI,.no⟩:=by kernel_rfl
abbrev xV:Nat:=240
def Db:ak:=(G_ [x_ 2 0,M_ 3 false] (G_ [l_ 4 1,L_ 5 3 2,o_ 6 (.call (t_ 4) [t_ 5]),o_ 7 (.un .not (t_ 6)),m_ 3 7] .ret))
theorem Mq:FF xV=some ⟨[(.tmp 3)],Db,.no⟩:=by kernel_rfl
abbrev g_:Nat:=241
def gW:ak:=(G_ [Z_ 6] (G_ [m_ 8 0,m_ 9 1,m_ 10 2,m_ 11 0,z_ 12 11,o_ 13 (.slice 3 (t_ 8) (some (t_ 9)) (some (t_ 10)) (some (t_ 12)))] (J_ (G_ [m_ 14 1,m_ 15 2,X_ 16 .eql 14 15] (I_ 16 (G_ [m_ 17 0,m_ 6 17] .ret) .skip)) (G_ [m_ 18 0,z_ 19 18,m_ 7 19] (J_ (V_ [m_ 20 0,m_ 21 1,o_ 22 (.slice 3 (t_ 20) none (some (t_ 21)) none),m_ 23 0,m_ 24 2,o_ 25 (.slice 3 (t_ 23) (some (t_ 24)) none none),A_ 26 LJ 24 22 25,m_ 0 26]) (G_ [m_ 27 0,m_ 28 0,z_ 29 28,m_ 30 7,o_ 31 (.slice 3 (t_ 27) (some (t_ 29)) (some (t_ 30)) none),u_ (.clear LJ (t_ 31))] (G_ [m_ 32 0,m_ 6 32] .ret)))))))
theorem mS:FF g_=some ⟨[(.tmp 6)],gW,.no⟩:=by kernel_rfl
def dM:ak:=(P_ 1 (G_ [m_ 21 2,m_ 22 1,B_ 23 .sub 21 22,m_ 12 23] (J_ (G_ [m_ 24 12,C_ 25 .leq 24 12] (I_ 25 (G_ [m_ 26 0,m_ 27 1,m_ 28 2,m_ 29 4,F_ 30 265 [t_ 26,t_ 27,t_ 28,t_ 29]] .ret) .skip)) (J_ (G_ [m_ 31 3,Y_ 32 .eql 31 0] (I_ 32 (G_ [m_ 33 0,m_ 34 1,m_ 35 2,m_ 36 4,F_ 37 266 [t_ 33,t_ 34,t_ 35,t_ 36]] .ret) .skip)) (J_ (G_ [m_ 38 10,o_ 39 (.un .not (t_ 38))] (I_ 39 (G_ [m_ 40 0,m_ 41 1,m_ 42 2,m_ 43 4,F_ 44 267 [t_ 40,t_ 41,t_ 42,t_ 43]] (O_ [m_ 45 3,C_ 46 .sub 45 1,m_ 3 46])) .skip)) (G_ [m_ 48 0,m_ 49 1,m_ 50 2,m_ 51 4,F_ 52 268 [t_ 48,t_ 49,t_ 50,t_ 51],m_ 47 52,E_ 53 0 47,E_ 54 1 47,m_ 13 53,m_ 14 54] (J_ (G_ [m_ 55 14,Y_ 56 .eql 55 2] (I_ 56 (G_ [m_ 57 0,m_ 58 1,m_ 59 2,m_ 60 4,F_ 61 269 [t_ 57,t_ 58,t_ 59,t_ 60]] (G_ [m_ 62 2,C_ 63 .sub 62 1,m_ 64 13,m_ 65 1,B_ 66 .sub 64 65,B_ 67 .sub 63 66,m_ 13 67] (O_ [k_ 14 1]))) .skip)) (J_ (G_ [m_ 68 10,m_ 69 68,q_ 70 69 true (.mv (t_ 11)),o_ 71 (.pick (t_ 69) (t_ 70) (b_ false)),m_ 72 71,q_ 73 72 true (.mv (t_ 14)),q_ 74 72 true (.bin .eql [1] (t_ 73) (i_ 1)),o_ 75 (.pick (t_ 72) (t_ 74) (b_ false))] (I_ 75 (G_ [m_ 76 0,m_ 77 1,m_ 78 2,m_ 79 4,F_ 80 270 [t_ 76,t_ 77,t_ 78,t_ 79]] (I_ 80 .ret .skip)) .skip)) (J_ (J_ (V_ [m_ 81 1,C_ 82 .gtr 81 0,m_ 83 82,q_ 84 83 true (.mv (t_ 4)),q_ 85 83 true (.mv (t_ 0)),q_ 86 83 true (.mv (t_ 1)),q_ 87 83 true (.bin .sub [] (t_ 86) (i_ 1)),q_ 88 83 true (.dx none 3 (t_ 85) (t_ 87)),q_ 89 83 true (.load (some 3) (t_ 88)),q_ 90 83 true (.mv (t_ 0)),q_ 91 83 true (.mv (t_ 13)),q_ 92 83 true (.dx none 3 (t_ 90) (t_ 91)),q_ 93 83 true (.load (some 3) (t_ 92)),q_ 94 83 true (.call (t_ 84) [t_ 89,t_ 93]),q_ 95 83 true (.bin .lss [] (t_ 94) (i_ 0)),q_ 96 83 true (.un .not (t_ 95)),o_ 97 (.pick (t_ 83) (t_ 96) (b_ false))]) (I_ 97 (G_ [m_ 98 0,m_ 99 1,m_ 100 2,m_ 101 13,m_ 102 4,F_ 103 271 [t_ 98,t_ 99,t_ 100,t_ 101,t_ 102],m_ 15 103] (G_ [m_ 104 15,m_ 1 104] (.exit 1))) .skip)) (G_ [m_ 106 0,m_ 107 1,m_ 108 2,m_ 109 13,m_ 110 4,F_ 111 272 [t_ 106,t_ 107,t_ 108,t_ 109,t_ 110],m_ 105 111,E_ 112 0 105,E_ 113 1 105,m_ 16 112,m_ 17 113] (G_ [m_ 114 17,m_ 11 114] (G_ [m_ 115 16,m_ 116 1,B_ 117 .sub 115 116,m_ 118 2,m_ 119 16,B_ 120 .sub 118 119,m_ 18 117,m_ 19 120] (G_ [m_ 121 12,C_ 122 .quo 121 8,m_ 20 122] (G_ [m_ 123 18,m_ 124 19,B_ 125 .lss 123 124] (I_ 125 (G_ [m_ 126 18,m_ 127 20,B_ 128 .geq 126 127,m_ 10 128] (G_ [m_ 129 0,m_ 130 1,m_ 131 16,m_ 132 3,m_ 133 4,F_ 134 244 [t_ 129,t_ 130,t_ 131,t_ 132,t_ 133]] (O_ [m_ 135 16,C_ 136 .add 135 1,m_ 1 136]))) (G_ [m_ 137 19,m_ 138 20,B_ 139 .geq 137 138,m_ 10 139] (G_ [m_ 140 0,m_ 141 16,C_ 142 .add 141 1,m_ 143 2,m_ 144 3,m_ 145 4,F_ 146 244 [t_ 140,t_ 142,t_ 143,t_ 144,t_ 145]] (O_ [m_ 147 16,m_ 2 147]))))))))))))))))))
abbrev hH:Nat:=244
def dU:ak:=(.seq (.ops [⟨(some 10),none,(.mv (.const (.bool true)))⟩]) (.seq (.ops [⟨(some 11),none,(.mv (.const (.bool true)))⟩]) (.block 0 (.loop dM))))
theorem gX:FF hH=some ⟨[],dU,.no⟩:=by kernel_rfl
abbrev wU:Nat:=245
def wI:ak:=(G_ [k_ 2 0] (J_ (.cond (b_ false) (G_ [m_ 3 0,o_ 4 (.conv .u32 (t_ 3)),F_ 5 273 [t_ 4],m_ 2 5] .ret) .skip) (G_ [m_ 6 0,F_ 7 274 [t_ 6],m_ 2 7] .ret)))
theorem Eg:FF wU=some ⟨[(.tmp 2)],wI,.no⟩:=by kernel_rfl
def jK:ak:=(N_ 9 8 7 0 1 18 (G_ [m_ 10 8,m_ 5 10] (G_ [m_ 11 1,m_ 12 0,m_ 13 5,a_ 14 1 12 13,l_ 15 14,o_ 16 (.call (t_ 11) [t_ 15])] (I_ 16 (G_ [m_ 17 5,m_ 4 17] .ret) .skip))))
abbrev kz:Nat:=246
def kd:ak:=(.seq (.ops [⟨(some 4),none,(.mv (.const (.int .i64 0)))⟩]) (.seq (.seq (.ops [⟨(some 6),none,(.mv (.tmp 0))⟩,⟨(some 7),none,(.tS (.tmp 6))⟩,⟨(some 8),none,(.mv (.const (.int .i64 0)))⟩]) (.block 0 (.loop jK))) (.seq (.ops [⟨(some 4),none,(.mv (.const (.int .i64 (Int.negSucc 0))))⟩]) .ret)))
theorem sG:FF kz=some ⟨[(.tmp 4)],kd,.no⟩:=by kernel_rfl
def nJ:ak:=(N_ 71 70 69 4 5 81 (G_ [a_ 72 2 68 70,L_ 73 2 72,K_ 18 Ry,s_ 2 18 73] (O_ [m_ 74 9,f_ 75 1 18,l_ 76 75,m_ 77 16,a_ 78 2 76 77,L_ 79 2 78,F_ 80 258 [t_ 74,t_ 79]])))
def nM:ak:=(N_ 46 45 44 2 3 60 (G_ [m_ 47 45,a_ 48 1 43 45,l_ 49 48,m_ 14 47,m_ 15 49] (O_ [m_ 50 9,m_ 51 14,m_ 52 9,m_ 53 14,a_ 54 1 52 53,l_ 55 54,m_ 56 55,q_ 57 56 false (.mv (t_ 15)),o_ 58 (.pick (t_ 56) (b_ true) (t_ 57)),a_ 59 1 50 51,s_ 1 59 58])))
def nN:ak:=(N_ 32 31 30 0 1 82 (G_ [a_ 33 1 29 31,l_ 34 33,m_ 12 34] (G_ [f_ 35 3 4,l_ 36 35,m_ 37 12,a_ 38 6 36 37,L_ 39 6 38,K_ 13 EA,s_ 6 13 39] (J_ (G_ [m_ 40 2,m_ 41 12,a_ 42 1 40 41,l_ 43 42,z_ 44 43,k_ 45 0] (Q_ 2 nM)) (G_ [m_ 61 1,m_ 62 12,a_ 63 1 61 62,l_ 64 63,m_ 65 3,F_ 66 162 [t_ 64,t_ 65],m_ 16 66] (G_ [f_ 67 0 13,l_ 68 67,z_ 69 68,k_ 70 0] (Q_ 4 nJ)))))))
abbrev wT:Nat:=256
def wG:ak:=(G_ [x_ 4 0,Z_ 8] (G_ [f_ 19 2 4,l_ 20 19,o_ 21 (.gK Rw 1 (t_ 20) (t_ 20)),m_ 9 21] (G_ [f_ 22 3 4,l_ 23 22,m_ 24 3,a_ 25 6 23 24,L_ 26 6 25,K_ 10 EA,s_ 6 10 26] (J_ (G_ [f_ 27 2 10,f_ 28 3 27,l_ 29 28,z_ 30 29,k_ 31 0] (Q_ 0 nN)) (G_ [m_ 83 9,m_ 8 83] .ret)))))
theorem Ee:FF wT=some ⟨[(.tmp 8)],wG,.no⟩:=by kernel_rfl
abbrev fG:Nat:=257
def jC:ak:=(G_ [Z_ 2] (J_ (G_ [m_ 3 0,o_ 4 (.bin .eql [3] (t_ 3) (.const (.slice none 0 0)))] (I_ 4 (G_ [Z_ 2] .ret) .skip)) (G_ [o_ 5 (.gC 0 [] []),m_ 6 0,A_ 7 Rw 1 5 6,m_ 2 7] .ret)))
theorem jF:FF fG=some ⟨[(.tmp 2)],jC,.no⟩:=by kernel_rfl
abbrev qw:Nat:=258
def wH:ak:=(G_ [x_ 3 1] (G_ [f_ 4 0 3,l_ 5 4] (I_ 5 (O_ [m_ 6 0,f_ 7 1 3,l_ 8 7,a_ 9 1 6 8,u_ (.store 1 (t_ 9) (b_ true))]) .skip)))
theorem Ef:FF qw=some ⟨[],wH,.no⟩:=by kernel_rfl
def iX:ak:=(N_ 14 13 12 0 1 25 (G_ [m_ 15 13,m_ 5 15] (J_ (V_ [m_ 16 0,m_ 17 5,a_ 18 1 16 17,l_ 19 18,m_ 20 1,m_ 21 5,a_ 22 1 20 21,l_ 23 22,o_ 24 (.bin .neq [0] (t_ 19) (t_ 23))]) (I_ 24 (G_ [M_ 4 false] .ret) .skip))))
abbrev jI:Nat:=259
def jD:ak:=(G_ [M_ 4 false] (J_ (G_ [m_ 6 0,z_ 7 6,m_ 8 1,z_ 9 8,X_ 10 .neq 7 9] (I_ 10 (G_ [M_ 4 false] .ret) .skip)) (J_ (G_ [m_ 11 0,z_ 12 11,k_ 13 0] (Q_ 0 iX)) (G_ [M_ 4 true] .ret))))
theorem qo:FF jI=some ⟨[(.tmp 4)],jD,.no⟩:=by kernel_rfl
def fz:ak:=(J_ (G_ [m_ 7 3,C_ 8 .geq 7 0] (H_ 8 0)) (J_ (P_ 1 (G_ [m_ 11 0,m_ 12 3,l_ 13 1,m_ 14 3,a_ 15 8 13 14,L_ 16 8 15,o_ 17 (.call (t_ 11) [t_ 12,t_ 16]),o_ 18 (.un .not (t_ 17))] (I_ 18 .ret .skip))) (O_ [m_ 9 3,C_ 10 .sub 9 1,m_ 3 10])))
abbrev bu:Nat:=260
def fW:ak:=(G_ [l_ 4 1,z_ 5 4,C_ 6 .sub 5 1,m_ 3 6] (Q_ 0 fz))
theorem lQ:FF bu=some ⟨[],fW,.no⟩:=by kernel_rfl
def cK:ak:=(J_ (J_ (V_ [m_ 18 9,m_ 19 1,B_ 20 .gtr 18 19,m_ 21 20,q_ 22 21 true (.mv (t_ 3)),q_ 23 21 true (.mv (t_ 0)),q_ 24 21 true (.mv (t_ 9)),q_ 25 21 true (.dx none 3 (t_ 23) (t_ 24)),q_ 26 21 true (.load (some 3) (t_ 25)),q_ 27 21 true (.mv (t_ 0)),q_ 28 21 true (.mv (t_ 9)),q_ 29 21 true (.bin .sub [] (t_ 28) (i_ 1)),q_ 30 21 true (.dx none 3 (t_ 27) (t_ 29)),q_ 31 21 true (.load (some 3) (t_ 30)),q_ 32 21 true (.call (t_ 22) [t_ 26,t_ 31]),q_ 33 21 true (.bin .lss [] (t_ 32) (i_ 0)),o_ 34 (.pick (t_ 21) (t_ 33) (b_ false))]) (H_ 34 2)) (J_ (P_ 3 (V_ [m_ 37 0,m_ 38 9,m_ 39 0,m_ 40 9,C_ 41 .sub 40 1,m_ 42 0,m_ 43 9,C_ 44 .sub 43 1,a_ 45 3 42 44,L_ 46 3 45,m_ 47 0,m_ 48 9,a_ 49 3 47 48,L_ 50 3 49,a_ 51 3 37 38,s_ 3 51 46,a_ 52 3 39 41,s_ 3 52 50])) (O_ [m_ 35 9,C_ 36 .sub 35 1,m_ 9 36])))
def cM:ak:=(J_ (G_ [m_ 12 8,m_ 13 2,B_ 14 .lss 12 13] (H_ 14 0)) (J_ (P_ 1 (G_ [m_ 17 8,m_ 9 17] (Q_ 2 cK))) (O_ [m_ 15 8,C_ 16 .add 15 1,m_ 8 16])))
abbrev eR:Nat:=265
def cW:ak:=(.seq (.ops [⟨(some 10),none,(.mv (.tmp 1))⟩,⟨(some 11),none,(.bin .add [] (.tmp 10) (.const (.int .i64 1)))⟩,⟨(some 8),none,(.mv (.tmp 11))⟩]) (.block 0 (.loop cM)))
theorem eN:FF eR=some ⟨[],cW,.no⟩:=by kernel_rfl
def fP:ak:=(J_ (G_ [m_ 32 12,C_ 33 .geq 32 0] (H_ 33 2)) (J_ (P_ 3 (J_ (V_ [m_ 36 0,m_ 37 8,m_ 38 0,m_ 39 8,m_ 40 12,B_ 41 .add 39 40,m_ 42 0,m_ 43 8,m_ 44 12,B_ 45 .add 43 44,a_ 46 3 42 45,L_ 47 3 46,m_ 48 0,m_ 49 8,a_ 50 3 48 49,L_ 51 3 50,a_ 52 3 36 37,s_ 3 52 47,a_ 53 3 38 41,s_ 3 53 51]) (O_ [m_ 54 0,m_ 55 9,m_ 56 12,m_ 57 8,m_ 58 3,F_ 59 277 [t_ 54,t_ 55,t_ 56,t_ 57,t_ 58]]))) (O_ [m_ 34 12,C_ 35 .sub 34 1,m_ 12 35])))
def fQ:ak:=(J_ (G_ [m_ 20 11,C_ 21 .geq 20 0] (H_ 21 0)) (J_ (P_ 1 (O_ [m_ 24 0,m_ 25 11,m_ 26 10,m_ 27 8,m_ 28 3,F_ 29 277 [t_ 24,t_ 25,t_ 26,t_ 27,t_ 28]])) (O_ [m_ 22 11,C_ 23 .sub 22 1,m_ 11 23])))
abbrev gE:Nat:=266
def gy:ak:=(G_ [m_ 13 1,m_ 8 13] (G_ [k_ 9 0] (G_ [m_ 14 2,m_ 15 1,B_ 16 .sub 14 15,m_ 10 16] (J_ (G_ [m_ 17 10,C_ 18 .sub 17 1,C_ 19 .quo 18 2,m_ 11 19] (Q_ 0 fQ)) (G_ [m_ 30 10,C_ 31 .sub 30 1,m_ 12 31] (Q_ 2 fP))))))
theorem mq:FF gE=some ⟨[],gy,.no⟩:=by kernel_rfl
def ew:ak:=(J_ (G_ [m_ 28 11,m_ 29 1,m_ 30 8,C_ 31 .quo 30 4,C_ 32 .mul 31 2,B_ 33 .add 29 32,C_ 34 .add 33 1,B_ 35 .leq 28 34] (H_ 35 0)) (J_ (P_ 1 (G_ [F_ 38 279 [t_ 9],m_ 39 10,o_ 40 (.bin .sub [] (t_ 39) (.const (.int .u64 1))),B_ 41 .and 38 40,o_ 42 (.conv .i64 (t_ 41)),m_ 12 42] (J_ (G_ [m_ 43 12,m_ 44 8,B_ 45 .geq 43 44] (I_ 45 (O_ [m_ 46 12,m_ 47 8,B_ 48 .sub 46 47,m_ 12 48]) .skip)) (V_ [m_ 49 0,m_ 50 11,m_ 51 0,m_ 52 1,m_ 53 12,B_ 54 .add 52 53,m_ 55 0,m_ 56 1,m_ 57 12,B_ 58 .add 56 57,a_ 59 3 55 58,L_ 60 3 59,m_ 61 0,m_ 62 11,a_ 63 3 61 62,L_ 64 3 63,a_ 65 3 49 50,s_ 3 65 60,a_ 66 3 51 54,s_ 3 66 64])))) (O_ [m_ 36 11,C_ 37 .add 36 1,m_ 11 37])))
abbrev eQ:Nat:=267
def eL:ak:=(G_ [m_ 13 2,m_ 14 1,B_ 15 .sub 13 14,m_ 8 15] (G_ [m_ 16 8,C_ 17 .geq 16 8] (I_ 17 (G_ [m_ 18 8,o_ 19 (.conv .u64 (t_ 18)),o_ 9 (.alloc [(.int .u64 0)]),s_ 1 9 19] (G_ [m_ 20 8,F_ 21 278 [t_ 20],m_ 10 21] (G_ [m_ 22 1,m_ 23 8,C_ 24 .quo 23 4,C_ 25 .mul 24 2,B_ 26 .add 22 25,C_ 27 .sub 26 1,m_ 11 27] (Q_ 0 ew)))) .skip)))
theorem j9:FF eQ=some ⟨[],eL,.no⟩:=by kernel_rfl
abbrev fy:Nat:=268
def fp:ak:=(G_ [k_ 8 0,k_ 9 0] (G_ [m_ 15 2,m_ 16 1,B_ 17 .sub 15 16,m_ 10 17] (G_ [K_ 11 D6] (G_ [m_ 18 1,m_ 19 10,C_ 20 .quo 19 4,C_ 21 .mul 20 1,B_ 22 .add 18 21,m_ 12 22] (G_ [m_ 23 1,m_ 24 10,C_ 25 .quo 24 4,C_ 26 .mul 25 2,B_ 27 .add 23 26,m_ 13 27] (G_ [m_ 28 1,m_ 29 10,C_ 30 .quo 29 4,C_ 31 .mul 30 3,B_ 32 .add 28 31,m_ 14 32] (J_ (G_ [m_ 33 10,C_ 34 .geq 33 8] (I_ 34 (J_ (G_ [m_ 35 10,C_ 36 .geq 35 50] (I_ 36 (G_ [m_ 37 0,m_ 38 12,m_ 39 3,F_ 40 280 [t_ 37,t_ 38,t_ 11,t_ 39],m_ 12 40] (G_ [m_ 41 0,m_ 42 13,m_ 43 3,F_ 44 280 [t_ 41,t_ 42,t_ 11,t_ 43],m_ 13 44] (O_ [m_ 45 0,m_ 46 14,m_ 47 3,F_ 48 280 [t_ 45,t_ 46,t_ 11,t_ 47],m_ 14 48]))) .skip)) (O_ [m_ 49 0,m_ 50 12,m_ 51 13,m_ 52 14,m_ 53 3,F_ 54 281 [t_ 49,t_ 50,t_ 51,t_ 52,t_ 11,t_ 53],m_ 13 54])) .skip)) (G_ [l_ 55 11] (P_ 0 (G_ [Y_ 58 .eql 55 0,m_ 57 58] (I_ 57 (G_ [m_ 59 13,m_ 8 59,k_ 9 1] .ret) (G_ [Y_ 61 .eql 55 12,m_ 60 61] (I_ 60 (G_ [m_ 62 13,m_ 8 62,k_ 9 2] .ret) (G_ [m_ 56 13,m_ 8 56,k_ 9 0] .ret))))))))))))))
theorem kO:FF fy=some ⟨[(.tmp 8),(.tmp 9)],fp,.no⟩:=by kernel_rfl
def eE:ak:=(J_ (G_ [m_ 13 8,m_ 14 9,B_ 15 .lss 13 14] (H_ 15 0)) (P_ 1 (J_ (V_ [m_ 16 0,m_ 17 8,m_ 18 0,m_ 19 9,m_ 20 0,m_ 21 9,a_ 22 3 20 21,L_ 23 3 22,m_ 24 0,m_ 25 8,a_ 26 3 24 25,L_ 27 3 26,a_ 28 3 16 17,s_ 3 28 23,a_ 29 3 18 19,s_ 3 29 27]) (G_ [m_ 30 8,C_ 31 .add 30 1,m_ 8 31] (O_ [m_ 32 9,C_ 33 .sub 32 1,m_ 9 33])))))
abbrev fh:Nat:=269
def fe:ak:=(G_ [m_ 10 1,m_ 8 10] (G_ [m_ 11 2,C_ 12 .sub 11 1,m_ 9 12] (Q_ 0 eE)))
theorem ke:FF fh=some ⟨[],fe,.no⟩:=by kernel_rfl
def ib:ak:=(J_ (G_ [m_ 107 12,m_ 108 2,B_ 109 .lss 107 108] (H_ 109 6)) (J_ (P_ 7 (J_ (J_ (V_ [m_ 112 3,m_ 113 0,m_ 114 12,a_ 115 3 113 114,L_ 116 3 115,m_ 117 0,m_ 118 12,C_ 119 .sub 118 1,a_ 120 3 117 119,L_ 121 3 120,o_ 122 (.call (t_ 112) [t_ 116,t_ 121]),C_ 123 .lss 122 0,o_ 124 (.un .not (t_ 123))]) (I_ 124 (.exit 6) .skip)) (V_ [m_ 125 0,m_ 126 12,m_ 127 0,m_ 128 12,C_ 129 .sub 128 1,m_ 130 0,m_ 131 12,C_ 132 .sub 131 1,a_ 133 3 130 132,L_ 134 3 133,m_ 135 0,m_ 136 12,a_ 137 3 135 136,L_ 138 3 137,a_ 139 3 125 126,s_ 3 139 134,a_ 140 3 127 129,s_ 3 140 138]))) (O_ [m_ 110 12,C_ 111 .add 110 1,m_ 12 111])))
def ie:ak:=(J_ (G_ [m_ 68 11,C_ 69 .geq 68 1] (H_ 69 4)) (J_ (P_ 5 (J_ (J_ (V_ [m_ 72 3,m_ 73 0,m_ 74 11,a_ 75 3 73 74,L_ 76 3 75,m_ 77 0,m_ 78 11,C_ 79 .sub 78 1,a_ 80 3 77 79,L_ 81 3 80,o_ 82 (.call (t_ 72) [t_ 76,t_ 81]),C_ 83 .lss 82 0,o_ 84 (.un .not (t_ 83))]) (I_ 84 (.exit 4) .skip)) (V_ [m_ 85 0,m_ 86 11,m_ 87 0,m_ 88 11,C_ 89 .sub 88 1,m_ 90 0,m_ 91 11,C_ 92 .sub 91 1,a_ 93 3 90 92,L_ 94 3 93,m_ 95 0,m_ 96 11,a_ 97 3 95 96,L_ 98 3 97,a_ 99 3 85 86,s_ 3 99 94,a_ 100 3 87 89,s_ 3 100 98]))) (O_ [m_ 70 11,C_ 71 .sub 70 1,m_ 11 71])))
def dy:ak:=(J_ (J_ (V_ [m_ 19 9,m_ 20 2,B_ 21 .lss 19 20,m_ 22 21,q_ 23 22 true (.mv (t_ 3)),q_ 24 22 true (.mv (t_ 0)),q_ 25 22 true (.mv (t_ 9)),q_ 26 22 true (.dx none 3 (t_ 24) (t_ 25)),q_ 27 22 true (.load (some 3) (t_ 26)),q_ 28 22 true (.mv (t_ 0)),q_ 29 22 true (.mv (t_ 9)),q_ 30 22 true (.bin .sub [] (t_ 29) (i_ 1)),q_ 31 22 true (.dx none 3 (t_ 28) (t_ 30)),q_ 32 22 true (.load (some 3) (t_ 31)),q_ 33 22 true (.call (t_ 23) [t_ 27,t_ 32]),q_ 34 22 true (.bin .lss [] (t_ 33) (i_ 0)),q_ 35 22 true (.un .not (t_ 34)),o_ 36 (.pick (t_ 22) (t_ 35) (b_ false))]) (H_ 36 2)) (P_ 3 (O_ [m_ 37 9,C_ 38 .add 37 1,m_ 9 38])))
def dz:ak:=(J_ (G_ [m_ 15 10,C_ 16 .lss 15 5] (H_ 16 0)) (J_ (P_ 1 (J_ (Q_ 2 dy) (J_ (G_ [m_ 39 9,m_ 40 2,X_ 41 .eql 39 40] (I_ 41 (G_ [M_ 8 true] .ret) .skip)) (J_ (G_ [m_ 42 2,m_ 43 1,B_ 44 .sub 42 43,C_ 45 .lss 44 50] (I_ 45 (G_ [M_ 8 false] .ret) .skip)) (J_ (V_ [m_ 46 0,m_ 47 9,m_ 48 0,m_ 49 9,C_ 50 .sub 49 1,m_ 51 0,m_ 52 9,C_ 53 .sub 52 1,a_ 54 3 51 53,L_ 55 3 54,m_ 56 0,m_ 57 9,a_ 58 3 56 57,L_ 59 3 58,a_ 60 3 46 47,s_ 3 60 55,a_ 61 3 48 50,s_ 3 61 59]) (J_ (G_ [m_ 62 9,m_ 63 1,B_ 64 .sub 62 63,C_ 65 .geq 64 2] (I_ 65 (G_ [m_ 66 9,C_ 67 .sub 66 1,m_ 11 67] (Q_ 4 ie)) .skip)) (G_ [m_ 101 2,m_ 102 9,B_ 103 .sub 101 102,C_ 104 .geq 103 2] (I_ 104 (G_ [m_ 105 9,C_ 106 .add 105 1,m_ 12 106] (Q_ 6 ib)) .skip)))))))) (O_ [m_ 17 10,C_ 18 .add 17 1,m_ 10 18])))
abbrev dK:Nat:=270
def dJ:ak:=(.seq (.ops [⟨(some 8),none,(.mv (.const (.bool false)))⟩]) (.seq (.ops [⟨(some 13),none,(.mv (.tmp 1))⟩,⟨(some 14),none,(.bin .add [] (.tmp 13) (.const (.int .i64 1)))⟩,⟨(some 9),none,(.mv (.tmp 14))⟩]) (.seq (.seq (.ops [⟨(some 10),none,(.mv (.const (.int .i64 0)))⟩]) (.block 0 (.loop dz))) (.seq (.ops [⟨(some 8),none,(.mv (.const (.bool false)))⟩]) .ret))))
theorem iE:FF dK=some ⟨[(.tmp 8)],dJ,.no⟩:=by kernel_rfl
def cE:ak:=(J_ (J_ (V_ [m_ 50 11,m_ 51 12,B_ 52 .leq 50 51,m_ 53 52,q_ 54 53 true (.mv (t_ 4)),q_ 55 53 true (.mv (t_ 0)),q_ 56 53 true (.mv (t_ 1)),q_ 57 53 true (.dx none 3 (t_ 55) (t_ 56)),q_ 58 53 true (.load (some 3) (t_ 57)),q_ 59 53 true (.mv (t_ 0)),q_ 60 53 true (.mv (t_ 12)),q_ 61 53 true (.dx none 3 (t_ 59) (t_ 60)),q_ 62 53 true (.load (some 3) (t_ 61)),q_ 63 53 true (.call (t_ 54) [t_ 58,t_ 62]),q_ 64 53 true (.bin .lss [] (t_ 63) (i_ 0)),o_ 65 (.pick (t_ 53) (t_ 64) (b_ false))]) (H_ 65 4)) (P_ 5 (O_ [m_ 66 12,C_ 67 .sub 66 1,m_ 12 67])))
def cG:ak:=(J_ (J_ (V_ [m_ 31 11,m_ 32 12,B_ 33 .leq 31 32,m_ 34 33,q_ 35 34 true (.mv (t_ 4)),q_ 36 34 true (.mv (t_ 0)),q_ 37 34 true (.mv (t_ 1)),q_ 38 34 true (.dx none 3 (t_ 36) (t_ 37)),q_ 39 34 true (.load (some 3) (t_ 38)),q_ 40 34 true (.mv (t_ 0)),q_ 41 34 true (.mv (t_ 11)),q_ 42 34 true (.dx none 3 (t_ 40) (t_ 41)),q_ 43 34 true (.load (some 3) (t_ 42)),q_ 44 34 true (.call (t_ 35) [t_ 39,t_ 43]),q_ 45 34 true (.bin .lss [] (t_ 44) (i_ 0)),q_ 46 34 true (.un .not (t_ 45)),o_ 47 (.pick (t_ 34) (t_ 46) (b_ false))]) (H_ 47 2)) (P_ 3 (O_ [m_ 48 11,C_ 49 .add 48 1,m_ 11 49])))
def eg:ak:=(P_ 1 (J_ (Q_ 2 cG) (J_ (Q_ 4 cE) (J_ (G_ [m_ 68 11,m_ 69 12,B_ 70 .gtr 68 69] (I_ 70 (.exit 0) .skip)) (J_ (V_ [m_ 71 0,m_ 72 11,m_ 73 0,m_ 74 12,m_ 75 0,m_ 76 12,a_ 77 3 75 76,L_ 78 3 77,m_ 79 0,m_ 80 11,a_ 81 3 79 80,L_ 82 3 81,a_ 83 3 71 72,s_ 3 83 78,a_ 84 3 73 74,s_ 3 84 82]) (G_ [m_ 85 11,C_ 86 .add 85 1,m_ 11 86] (O_ [m_ 87 12,C_ 88 .sub 87 1,m_ 12 88])))))))
abbrev eD:Nat:=271
def eC:ak:=(G_ [k_ 10 0] (J_ (V_ [m_ 13 0,m_ 14 1,m_ 15 0,m_ 16 3,m_ 17 0,m_ 18 3,a_ 19 3 17 18,L_ 20 3 19,m_ 21 0,m_ 22 1,a_ 23 3 21 22,L_ 24 3 23,a_ 25 3 13 14,s_ 3 25 20,a_ 26 3 15 16,s_ 3 26 24]) (G_ [m_ 27 1,C_ 28 .add 27 1,m_ 29 2,C_ 30 .sub 29 1,m_ 11 28,m_ 12 30] (J_ (Q_ 0 eg) (G_ [m_ 89 11,m_ 10 89] .ret)))))
theorem jS:FF eD=some ⟨[(.tmp 10)],eC,.no⟩:=by kernel_rfl
def dp:ak:=(J_ (J_ (V_ [m_ 123 12,m_ 124 13,B_ 125 .leq 123 124,m_ 126 125,q_ 127 126 true (.mv (t_ 4)),q_ 128 126 true (.mv (t_ 0)),q_ 129 126 true (.mv (t_ 13)),q_ 130 126 true (.dx none 3 (t_ 128) (t_ 129)),q_ 131 126 true (.load (some 3) (t_ 130)),q_ 132 126 true (.mv (t_ 0)),q_ 133 126 true (.mv (t_ 1)),q_ 134 126 true (.dx none 3 (t_ 132) (t_ 133)),q_ 135 126 true (.load (some 3) (t_ 134)),q_ 136 126 true (.call (t_ 127) [t_ 131,t_ 135]),q_ 137 126 true (.bin .lss [] (t_ 136) (i_ 0)),q_ 138 126 true (.un .not (t_ 137)),o_ 139 (.pick (t_ 126) (t_ 138) (b_ false))]) (H_ 139 8)) (P_ 9 (O_ [m_ 140 13,C_ 141 .sub 140 1,m_ 13 141])))
def dq:ak:=(J_ (J_ (V_ [m_ 105 12,m_ 106 13,B_ 107 .leq 105 106,m_ 108 107,q_ 109 108 true (.mv (t_ 4)),q_ 110 108 true (.mv (t_ 0)),q_ 111 108 true (.mv (t_ 12)),q_ 112 108 true (.dx none 3 (t_ 110) (t_ 111)),q_ 113 108 true (.load (some 3) (t_ 112)),q_ 114 108 true (.mv (t_ 0)),q_ 115 108 true (.mv (t_ 1)),q_ 116 108 true (.dx none 3 (t_ 114) (t_ 115)),q_ 117 108 true (.load (some 3) (t_ 116)),q_ 118 108 true (.call (t_ 109) [t_ 113,t_ 117]),q_ 119 108 true (.bin .lss [] (t_ 118) (i_ 0)),o_ 120 (.pick (t_ 108) (t_ 119) (b_ false))]) (H_ 120 6)) (P_ 7 (O_ [m_ 121 12,C_ 122 .add 121 1,m_ 12 122])))
def fD:ak:=(P_ 5 (J_ (Q_ 6 dq) (J_ (Q_ 8 dp) (J_ (G_ [m_ 142 12,m_ 143 13,B_ 144 .gtr 142 143] (I_ 144 (.exit 4) .skip)) (J_ (V_ [m_ 145 0,m_ 146 12,m_ 147 0,m_ 148 13,m_ 149 0,m_ 150 13,a_ 151 3 149 150,L_ 152 3 151,m_ 153 0,m_ 154 12,a_ 155 3 153 154,L_ 156 3 155,a_ 157 3 145 146,s_ 3 157 152,a_ 158 3 147 148,s_ 3 158 156]) (G_ [m_ 159 12,C_ 160 .add 159 1,m_ 12 160] (O_ [m_ 161 13,C_ 162 .sub 161 1,m_ 13 162])))))))
def dt:ak:=(J_ (J_ (V_ [m_ 50 12,m_ 51 13,B_ 52 .leq 50 51,m_ 53 52,q_ 54 53 true (.mv (t_ 4)),q_ 55 53 true (.mv (t_ 0)),q_ 56 53 true (.mv (t_ 13)),q_ 57 53 true (.dx none 3 (t_ 55) (t_ 56)),q_ 58 53 true (.load (some 3) (t_ 57)),q_ 59 53 true (.mv (t_ 0)),q_ 60 53 true (.mv (t_ 1)),q_ 61 53 true (.dx none 3 (t_ 59) (t_ 60)),q_ 62 53 true (.load (some 3) (t_ 61)),q_ 63 53 true (.call (t_ 54) [t_ 58,t_ 62]),q_ 64 53 true (.bin .lss [] (t_ 63) (i_ 0)),q_ 65 53 true (.un .not (t_ 64)),o_ 66 (.pick (t_ 53) (t_ 65) (b_ false))]) (H_ 66 2)) (P_ 3 (O_ [m_ 67 13,C_ 68 .sub 67 1,m_ 13 68])))
def du:ak:=(J_ (J_ (V_ [m_ 32 12,m_ 33 13,B_ 34 .leq 32 33,m_ 35 34,q_ 36 35 true (.mv (t_ 4)),q_ 37 35 true (.mv (t_ 0)),q_ 38 35 true (.mv (t_ 12)),q_ 39 35 true (.dx none 3 (t_ 37) (t_ 38)),q_ 40 35 true (.load (some 3) (t_ 39)),q_ 41 35 true (.mv (t_ 0)),q_ 42 35 true (.mv (t_ 1)),q_ 43 35 true (.dx none 3 (t_ 41) (t_ 42)),q_ 44 35 true (.load (some 3) (t_ 43)),q_ 45 35 true (.call (t_ 36) [t_ 40,t_ 44]),q_ 46 35 true (.bin .lss [] (t_ 45) (i_ 0)),o_ 47 (.pick (t_ 35) (t_ 46) (b_ false))]) (H_ 47 0)) (P_ 1 (O_ [m_ 48 12,C_ 49 .add 48 1,m_ 12 49])))
abbrev gk:Nat:=272
def fZ:ak:=(G_ [k_ 10 0,M_ 11 false] (J_ (V_ [m_ 14 0,m_ 15 1,m_ 16 0,m_ 17 3,m_ 18 0,m_ 19 3,a_ 20 3 18 19,L_ 21 3 20,m_ 22 0,m_ 23 1,a_ 24 3 22 23,L_ 25 3 24,a_ 26 3 14 15,s_ 3 26 21,a_ 27 3 16 17,s_ 3 27 25]) (G_ [m_ 28 1,C_ 29 .add 28 1,m_ 30 2,C_ 31 .sub 30 1,m_ 12 29,m_ 13 31] (J_ (Q_ 0 du) (J_ (Q_ 2 dt) (J_ (G_ [m_ 69 12,m_ 70 13,B_ 71 .gtr 69 70] (I_ 71 (J_ (V_ [m_ 72 0,m_ 73 13,m_ 74 0,m_ 75 1,m_ 76 0,m_ 77 1,a_ 78 3 76 77,L_ 79 3 78,m_ 80 0,m_ 81 13,a_ 82 3 80 81,L_ 83 3 82,a_ 84 3 72 73,s_ 3 84 79,a_ 85 3 74 75,s_ 3 85 83]) (G_ [m_ 86 13,m_ 10 86,M_ 11 true] .ret)) .skip)) (J_ (V_ [m_ 87 0,m_ 88 12,m_ 89 0,m_ 90 13,m_ 91 0,m_ 92 13,a_ 93 3 91 92,L_ 94 3 93,m_ 95 0,m_ 96 12,a_ 97 3 95 96,L_ 98 3 97,a_ 99 3 87 88,s_ 3 99 94,a_ 100 3 89 90,s_ 3 100 98]) (G_ [m_ 101 12,C_ 102 .add 101 1,m_ 12 102] (G_ [m_ 103 13,C_ 104 .sub 103 1,m_ 13 104] (J_ (Q_ 4 fD) (J_ (V_ [m_ 163 0,m_ 164 13,m_ 165 0,m_ 166 1,m_ 167 0,m_ 168 1,a_ 169 3 167 168,L_ 170 3 169,m_ 171 0,m_ 172 13,a_ 173 3 171 172,L_ 174 3 173,a_ 175 3 163 164,s_ 3 175 170,a_ 176 3 165 166,s_ 3 176 174]) (G_ [m_ 177 13,m_ 10 177,M_ 11 false] .ret))))))))))))
theorem lS:FF gk=some ⟨[(.tmp 10),(.tmp 11)],fZ,.no⟩:=by kernel_rfl
set_option maxRecDepth 100000
abbrev ny:Nat:=274
def Bh:ak:=(G_ [k_ 2 0] (J_ (G_ [m_ 3 0,o_ 4 (.bin .geq [] (t_ 3) (.const (.int .u64 4294967296)))] (I_ 4 (G_ [m_ 5 0,o_ 6 (.bin .shr [] (t_ 5) (.const (.int .u64 32))),m_ 0 6] (O_ [k_ 2 32])) .skip)) (J_ (G_ [m_ 7 0,o_ 8 (.bin .geq [] (t_ 7) (.const (.int .u64 65536)))] (I_ 8 (G_ [m_ 9 0,o_ 10 (.bin .shr [] (t_ 9) (.const (.int .u64 16))),m_ 0 10] (O_ [m_ 11 2,C_ 12 .add 11 16,m_ 2 12])) .skip)) (J_ (G_ [m_ 13 0,o_ 14 (.bin .geq [] (t_ 13) (.const (.int .u64 256)))] (I_ 14 (G_ [m_ 15 0,o_ 16 (.bin .shr [] (t_ 15) (.const (.int .u64 8))),m_ 0 16] (O_ [m_ 17 2,C_ 18 .add 17 8,m_ 2 18])) .skip)) (G_ [m_ 19 2,m_ 20 0,o_ 21 (.conv .u8 (t_ 20)),⟨(some 22),none,(.index none (.const (.string ⟨⟨[0,1,2,2,3,3,3,3,4,4,4,4,4,4,4,4,5,5,5,5,5,5,5,5,5,5,5,5,5,5,5,5,6,6,6,6,6,6,6,6,6,6,6,6,6,6,6,6,6,6,6,6,6,6,6,6,6,6,6,6,6,6,6,6,7,7,7,7,7,7,7,7,7,7,7,7,7,7,7,7,7,7,7,7,7,7,7,7,7,7,7,7,7,7,7,7,7,7,7,7,7,7,7,7,7,7,7,7,7,7,7,7,7,7,7,7,7,7,7,7,7,7,7,7,7,7,7,7,8,8,8,8,8,8,8,8,8,8,8,8,8,8,8,8,8,8,8,8,8,8,8,8,8,8,8,8,8,8,8,8,8,8,8,8,8,8,8,8,8,8,8,8,8,8,8,8,8,8,8,8,8,8,8,8,8,8,8,8,8,8,8,8,8,8,8,8,8,8,8,8,8,8,8,8,8,8,8,8,8,8,8,8,8,8,8,8,8,8,8,8,8,8,8,8,8,8,8,8,8,8,8,8,8,8,8,8,8,8,8,8,8,8,8,8,8,8,8,8,8,8,8,8,8,8,8,8]⟩⟩)) (t_ 21))⟩,o_ 23 (.conv .i64 (t_ 22)),B_ 24 .add 19 23,m_ 2 24] .ret)))))
theorem Bk:FF ny=some ⟨[(.tmp 2)],Bh,.no⟩:=by kernel_rfl
def dF:ak:=(P_ 1 (G_ [m_ 13 10,o_ 14 (.bin .mul [] (i_ 2) (t_ 13)),C_ 15 .add 14 1,m_ 11 15] (J_ (G_ [m_ 16 11,m_ 17 2,B_ 18 .geq 16 17] (I_ 18 (.exit 0) .skip)) (J_ (J_ (V_ [m_ 19 11,C_ 20 .add 19 1,m_ 21 2,B_ 22 .lss 20 21,m_ 23 22,q_ 24 23 true (.mv (t_ 4)),q_ 25 23 true (.mv (t_ 0)),q_ 26 23 true (.mv (t_ 3)),q_ 27 23 true (.mv (t_ 11)),q_ 28 23 true (.bin .add [] (t_ 26) (t_ 27)),q_ 29 23 true (.dx none 3 (t_ 25) (t_ 28)),q_ 30 23 true (.load (some 3) (t_ 29)),q_ 31 23 true (.mv (t_ 0)),q_ 32 23 true (.mv (t_ 3)),q_ 33 23 true (.mv (t_ 11)),q_ 34 23 true (.bin .add [] (t_ 32) (t_ 33)),q_ 35 23 true (.bin .add [] (t_ 34) (i_ 1)),q_ 36 23 true (.dx none 3 (t_ 31) (t_ 35)),q_ 37 23 true (.load (some 3) (t_ 36)),q_ 38 23 true (.call (t_ 24) [t_ 30,t_ 37]),q_ 39 23 true (.bin .lss [] (t_ 38) (i_ 0)),o_ 40 (.pick (t_ 23) (t_ 39) (b_ false))]) (I_ 40 (O_ [m_ 41 11,C_ 42 .add 41 1,m_ 11 42]) .skip)) (J_ (J_ (V_ [m_ 43 4,m_ 44 0,m_ 45 3,m_ 46 10,B_ 47 .add 45 46,a_ 48 3 44 47,L_ 49 3 48,m_ 50 0,m_ 51 3,m_ 52 11,B_ 53 .add 51 52,a_ 54 3 50 53,L_ 55 3 54,o_ 56 (.call (t_ 43) [t_ 49,t_ 55]),C_ 57 .lss 56 0,o_ 58 (.un .not (t_ 57))]) (I_ 58 .ret .skip)) (J_ (V_ [m_ 59 0,m_ 60 3,m_ 61 10,B_ 62 .add 60 61,m_ 63 0,m_ 64 3,m_ 65 11,B_ 66 .add 64 65,m_ 67 0,m_ 68 3,m_ 69 11,B_ 70 .add 68 69,a_ 71 3 67 70,L_ 72 3 71,m_ 73 0,m_ 74 3,m_ 75 10,B_ 76 .add 74 75,a_ 77 3 73 76,L_ 78 3 77,a_ 79 3 59 62,s_ 3 79 72,a_ 80 3 63 66,s_ 3 80 78]) (O_ [m_ 81 11,m_ 10 81])))))))
abbrev gG:Nat:=277
def gz:ak:=(.seq (.ops [⟨(some 12),none,(.mv (.tmp 1))⟩,⟨(some 10),none,(.mv (.tmp 12))⟩]) (.block 0 (.loop dF)))
theorem mr:FF gG=some ⟨[],gz,.no⟩:=by kernel_rfl
abbrev mM:Nat:=278
def mF:ak:=(G_ [o_ 2 (.mv (.const (.int .u64 0)))] (G_ [m_ 3 0,o_ 4 (.conv .u64 (t_ 3)),F_ 5 245 [t_ 4],o_ 6 (.bin .shl [] (.const (.int .u64 1)) (t_ 5)),m_ 2 6] .ret))
theorem vg:FF mM=some ⟨[(.tmp 2)],mF,.no⟩:=by kernel_rfl
abbrev nA:Nat:=279
def nc:ak:=(G_ [o_ 2 (.mv (.const (.int .u64 0)))] (J_ (V_ [m_ 3 0,n_ 4 3,l_ 5 4,m_ 6 0,n_ 7 6,l_ 8 7,o_ 9 (.bin .shl [] (t_ 8) (.const (.int .u64 13))),B_ 10 .xor 5 9,n_ 11 3,s_ 1 11 10]) (J_ (V_ [m_ 12 0,n_ 13 12,l_ 14 13,m_ 15 0,n_ 16 15,l_ 17 16,o_ 18 (.bin .shr [] (t_ 17) (.const (.int .u64 7))),B_ 19 .xor 14 18,n_ 20 12,s_ 1 20 19]) (J_ (V_ [m_ 21 0,n_ 22 21,l_ 23 22,m_ 24 0,n_ 25 24,l_ 26 25,o_ 27 (.bin .shl [] (t_ 26) (.const (.int .u64 17))),B_ 28 .xor 23 27,n_ 29 21,s_ 1 29 28]) (G_ [m_ 30 0,n_ 31 30,l_ 32 31,m_ 2 32] .ret)))))
theorem vL:FF nA=some ⟨[(.tmp 2)],nc,.no⟩:=by kernel_rfl
abbrev iz:Nat:=281
def il:ak:=(G_ [k_ 12 0] (G_ [m_ 14 0,m_ 15 1,m_ 16 2,m_ 17 4,m_ 18 5,F_ 19 282 [t_ 14,t_ 15,t_ 16,t_ 17,t_ 18],m_ 13 19,E_ 20 0 13,E_ 21 1 13,m_ 1 20,m_ 2 21] (G_ [m_ 23 0,m_ 24 2,m_ 25 3,m_ 26 4,m_ 27 5,F_ 28 282 [t_ 23,t_ 24,t_ 25,t_ 26,t_ 27],m_ 22 28,E_ 29 0 22,E_ 30 1 22,m_ 2 29,m_ 3 30] (G_ [m_ 32 0,m_ 33 1,m_ 34 2,m_ 35 4,m_ 36 5,F_ 37 282 [t_ 32,t_ 33,t_ 34,t_ 35,t_ 36],m_ 31 37,E_ 38 0 31,E_ 39 1 31,m_ 1 38,m_ 2 39] (G_ [m_ 40 2,m_ 12 40] .ret)))))
theorem nk:FF iz=some ⟨[(.tmp 12)],il,.no⟩:=by kernel_rfl
abbrev iA:Nat:=282
def iq:ak:=(G_ [k_ 10 0,k_ 11 0] (J_ (J_ (V_ [m_ 12 4,m_ 13 0,m_ 14 2,a_ 15 3 13 14,L_ 16 3 15,m_ 17 0,m_ 18 1,a_ 19 3 17 18,L_ 20 3 19,o_ 21 (.call (t_ 12) [t_ 16,t_ 20]),C_ 22 .lss 21 0]) (I_ 22 (G_ [m_ 23 3,n_ 24 23,l_ 25 24,C_ 26 .add 25 1,n_ 27 23,s_ 1 27 26] (G_ [m_ 28 2,m_ 29 1,m_ 10 28,m_ 11 29] .ret)) .skip)) (G_ [m_ 30 1,m_ 31 2,m_ 10 30,m_ 11 31] .ret)))
theorem nm:FF iA=some ⟨[(.tmp 10),(.tmp 11)],iq,.no⟩:=by kernel_rfl
end Go.Proofs.YtdhnndleffachaaGreatDoor

namespace Go.Proofs.YtdhnndleffachaaGreatDoor
open Go.AI
variable{C K S X i s1 s2 s3 sz:Nat}{QQ:aO->Env->ab->Prop}{a ag an b bn dst fn n op:Int}{ar br:Bool}{e:Env}{f:Value}{h:ab}{ns:List Int}{α:Type}
theorem gq(h:ab)(a b c:Int):aE FF zC [.int .i64 a,.int .i64 b,.int .i64 c] h (fun v h'=>v=.bool (decide (b<=a)&&decide (a<=c))/\h'=h):=by refine aE.of HM ?_;unfold zi;by_cases h1:b<=a<;>by_cases h2:a<=c<;>simp[h1,h2]
theorem ko(h:ab)(ok:bl h)(a b:Int):aE FF BK [.int .i64 a,.int .i64 b] h (fun v h'=>v=.agg #[.int .i64 a,.int .i64 b]/\aa aG h h'):=by
 refine aE.of JZ ?_;unfold Ba;simp
 repeat (first|exact .refl ok|apply aa.new|refine aa.put ?_ (by simp) (by simp))
def cN(op:Int):Bool×Bool×Bool:=
 if op=1\/op=16\/op=17\/op=18 then(true,true,false) else
 if 2<=op/\op<=15 then(true,true,true) else
 if op=19 then(false,true,true) else
 if op=20\/op=21 then(true,false,false) else
 if op=22 then(false,true,false) else(false,false,false)
theorem xt(h:¬a=b):(a==b)=false:=by simpa using h
theorem D1(h:ab)(ok:bl h)(op:Int):aE FF zB [.int .i64 op] h (fun v h'=>v=.agg #[.bool (cN op).1,.bool (cN op).2.1,.bool (cN op).2.2]/\aa aG h h'):=by
 refine aE.of HK ?_;unfold zg;by_cases k1:op=1
 .subst k1;simp[cN];repeat (first|exact .refl ok|apply aa.new|refine aa.put ?_ (by simp) (by simp))
 by_cases k2:op=16
 .subst k2;simp[cN];repeat (first|exact .refl ok|apply aa.new|refine aa.put ?_ (by simp) (by simp))
 by_cases k3:op=17
 .subst k3;simp[cN];repeat (first|exact .refl ok|apply aa.new|refine aa.put ?_ (by simp) (by simp))
 by_cases k4:op=18
 .subst k4;simp[cN];repeat (first|exact .refl ok|apply aa.new|refine aa.put ?_ (by simp) (by simp))
 by_cases k6:op=19
 .subst k6;simp[cN];repeat (first|exact .refl ok|apply aa.new|refine aa.put ?_ (by simp) (by simp))
 by_cases k7:op=20
 .subst k7;simp[cN];repeat (first|exact .refl ok|apply aa.new|refine aa.put ?_ (by simp) (by simp))
 by_cases k8:op=21
 .subst k8;simp[cN];repeat (first|exact .refl ok|apply aa.new|refine aa.put ?_ (by simp) (by simp))
 by_cases k9:op=22
 .subst k9;simp[cN];repeat (first|exact .refl ok|apply aa.new|refine aa.put ?_ (by simp) (by simp))
 have b1:=xt k1;have b2:=xt k2;have b3:=xt k3;have b4:=xt k4;have b6:=xt k6;have b7:=xt k7;have b8:=xt k8;have b9:=xt k9;by_cases l1:2<=op
 .by_cases l2:op<=15
  .have:cN op=(true,true,true):=by unfold cN;rw[bc (by omega),aY ⟨l1,l2⟩]
   simp[b1,b2,b3,b4,k1,k2,k3,k4,l1,l2,this]
   repeat (first|exact .refl ok|apply aa.new|refine aa.put ?_ (by simp) (by simp))
  .have l2':15<op:=by omega
   have:cN op=(false,false,false):=by unfold cN;rw[bc (by omega),bc (by omega),bc k6,bc (by omega),bc k9]
   simp[b1,b2,b3,b4,b6,b7,b8,b9,k1,k2,k3,k4,k6,k7,k8,k9,l1,l2,l2',this]
   repeat (first|exact .refl ok|apply aa.new|refine aa.put ?_ (by simp) (by simp))
 .have l1':op<2:=by omega
  have:cN op=(false,false,false):=by unfold cN;rw[bc (by omega),bc (by omega),bc k6,bc (by omega),bc k9]
  simp[b1,b2,b3,b4,b6,b7,b8,b9,k1,k2,k3,k4,k6,k7,k8,k9,l1,l1',this]
  repeat (first|exact .refl ok|apply aa.new|refine aa.put ?_ (by simp) (by simp))
def aK(op dst:Int)(ar:Bool)(an:Int)(br:Bool)(bn:Int)(fn:Int)(args:Value):List Value:=[.int .i64 op,.int .i64 dst,.bool ar,.int .i64 an,.bool br,.int .i64 bn,.int .i64 fn,args]
structure SV where
 a:Option Addr
 l:Nat
 c:Nat
def SV.v(s:SV):Value:=.slice s.a s.l s.c
@[simp] theorem SV.Tj(s:SV):s.v=.slice s.a s.l s.c:=rfl
def cJ:SV:=⟨none,0,0⟩
structure GI where
 op:Int
 dst:Int
 a:Bool×Int
 b:Bool×Int
 fn:Int
 args:List (Bool×Int)
structure GP where
 dst:Int
 row:List (Bool×Int)
structure GB where
 dk:List GP
 list:List GI
 kind:Int
 on:Bool×Int
 to:List Int
structure GF where
 name:ByteArray
 params:Int
 ag:Int
 blocks:List GB
structure GG where
 name:ByteArray
 size:Int
 init:List Int
structure GU where
 globals:List GG
 funcs:List GF
def vR(c:List Value)(v:Bool×Int):Prop:=c=[.bool v.1,.int .i64 v.2]
def nR(c:List Value)(n:Int):Prop:=c=[.int .i64 n]
def iR(h:ab)(c:List Value)(x:GI):Prop:=∃A:SV,c=aK x.op x.dst x.a.1 x.a.2 x.b.1 x.b.2 x.fn A.v/\SliceR vR 2 h A.v x.args
def pR(h:ab)(c:List Value)(p:GP):Prop:=∃A:SV,c=[.int .i64 p.dst,A.v]/\SliceR vR 2 h A.v p.row
def bR(h:ab)(c:List Value)(b:GB):Prop:=∃P L T:SV,c=[P.v,L.v,.int .i64 b.kind,.bool b.on.1,.int .i64 b.on.2,T.v]/\SliceR (pR h) 2 h P.v b.dk/\SliceR (iR h) 8 h L.v b.list/\SliceR nR 1 h T.v b.to
def fR(h:ab)(c:List Value)(f:GF):Prop:=∃B:SV,c=[.string f.name,.int .i64 f.params,.int .i64 f.ag,B.v]/\SliceR (bR h) 6 h B.v f.blocks
def gR(h:ab)(c:List Value)(g:GG):Prop:=∃I:SV,c=[.string g.name,.int .i64 g.size,I.v]/\SliceR nR 1 h I.v g.init
def uR(h:ab)(G F:SV)(u:GU):Prop:=SliceR (gR h) 3 h G.v u.globals/\SliceR (fR h) 4 h F.v u.funcs
theorem iR.mono{h h':ab}(ok:bl h)(g:aa aG h h'){c:List Value}{x:GI}(r:iR h c x):iR h' c x:=by obtain⟨A,e,s⟩:=r;exact⟨A,e,s.mono ok g fun _ _ h=>h⟩
theorem pR.mono{h h':ab}(ok:bl h)(g:aa aG h h'){c:List Value}{x:GP}(r:pR h c x):pR h' c x:=by obtain⟨A,e,s⟩:=r;exact⟨A,e,s.mono ok g fun _ _ h=>h⟩
theorem bR.mono{h h':ab}(ok:bl h)(g:aa aG h h'){c:List Value}{x:GB}(r:bR h c x):bR h' c x:=by obtain⟨P,L,T,e,s1,s2,s3⟩:=r;exact⟨P,L,T,e,s1.mono ok g fun _ _ r=>r.mono ok g,s2.mono ok g fun _ _ r=>r.mono ok g,s3.mono ok g fun _ _ h=>h⟩
theorem fR.mono{h h':ab}(ok:bl h)(g:aa aG h h'){c:List Value}{x:GF}(r:fR h c x):fR h' c x:=by obtain⟨A,e,s⟩:=r;exact⟨A,e,s.mono ok g fun _ _ r=>r.mono ok g⟩
theorem gR.mono{h h':ab}(ok:bl h)(g:aa aG h h'){c:List Value}{x:GG}(r:gR h c x):gR h' c x:=by obtain⟨A,e,s⟩:=r;exact⟨A,e,s.mono ok g fun _ _ h=>h⟩
abbrev yM(h:ab)(B:SV)(bs:List GB):Prop:=SliceR (bR h) 6 h B.v bs
theorem yM.mono{h h':ab}{B:SV}{bs:List GB}(s:yM h B bs)(ok:bl h)(g:aa aG h h'):yM h' B bs:=SliceR.mono s ok g fun _ _ r=>r.mono ok g
theorem uR.mono{h h':ab}{G F:SV}{u:GU}(r:uR h G F u)(ok:bl h)(g:aa aG h h'):uR h' G F u:=
 ⟨r.1.mono ok g fun _ _ r=>r.mono ok g,r.2.mono ok g fun _ _ r=>r.mono ok g⟩
structure At{α:Type}(R:List Value->α->Prop)(sz:Nat)(h:ab)(L:SV)(n:Nat)(i:Nat)(x:α)(b off:Nat)(c:List Value):Prop where
 a:L.a=some ⟨b,off,none⟩
 l:L.l=n
 len:c.length=sz
 r:R c x
 bE:Old b h
 rd:∀h':ab,h'.tr.get b=h.tr.get b->∀k m,k+m<=sz->aV h' b (off+i*sz+k) m=some ((c.drop k).take m)
theorem SliceR.len{R:List Value->α->Prop}{L:SV}{xs:List α}(s:SliceR R sz h L.v xs):L.l=xs.length:=by obtain⟨a,cap,e,_⟩:=s;simp at e;exact e.2.1
theorem SliceR.at{α:Type}{R:List Value->α->Prop}{sz:Nat}{h:ab}(ok:bl h){L:SV}{xs:List α}(s:SliceR R sz h L.v xs){i:Nat}{x:α}(hi:xs[i]?=some x):∃b off c,At R sz h L xs.length i x b off c:=by
 obtain⟨a,cap,e,s⟩:=s;simp at e;rcases s with⟨rfl,_⟩|⟨b,off,cs,ro,o,st,rfl,hb,he⟩
 .simp at hi
 .obtain⟨hl,hr⟩:=he i x hi;refine⟨b,off,_,e.1,e.2.1,hl,hr,ok.bE hb,fun h' e' k m hk=>?_⟩;have Ga:=hl;simp at Ga;have hle:m=0\/off+i*sz+k+m<=cs.length:=by omega
  rcases hle with rfl|hle
  .unfold aV;rw[e',hb];simp
  .rw[cx (e'.trans hb) hle,List.drop_take,List.take_take,List.drop_drop];congr 2;omega
def gY:List GB->Nat
 |[]=>0
 |b::bs=>b.dk.length+b.list.length+gY bs
theorem Gr{bs:List GB}{j:Nat}{b:GB}(h:bs[j]?=some b):gY (bs.take (j+1))=gY (bs.take j)+(b.dk.length+b.list.length):=by
 induction bs generalizing j with
 |nil=>simp at h
 |cons x bs ih=>
  cases j with
  |zero=>simp at h;subst h;simp[gY]
  |succ j=>
   simp at h;have:=ih h;simp only[List.take_succ_cons,gY];omega
def Fits(bs:List GB):Prop:=bs.length<=140737488355328/\∀b∈bs,b.dk.length<=140737488355328/\b.list.length<=140737488355328
theorem wrap_add(a b:Int):IntKind.i64.wrap (IntKind.i64.wrap a+b)=IntKind.i64.wrap (a+b):=by simp only[IntKind.wrap,IntKind.signed,IntKind.bits];simp;omega
theorem Gq:∀ {bs:List GB},Fits bs->gY bs<=bs.length*281474976710656
 |[],_=>by simp[gY]
 |b::bs,h=>by have:=Gq (bs:=bs) ⟨by have:=h.1;simp at this;omega,fun b hb=>h.2 b (.tail _ hb)⟩;have:=h.2 b (.head _);simp only[gY,List.length_cons];omega
theorem JK{bs:List GB}(h:Fits bs)(hl:bs.length<=40):IntKind.i64.wrap (gY bs:Int)=(gY bs:Int):=by have:=Gq h;exact wrap_i64 _ (by omega) (by omega)
structure Small(u:GU):Prop where
 fs:u.funcs.length<=140737488355328
 bs:∀f∈u.funcs,Fits f.blocks
def E8(f:GF):Prop:=f.blocks.length<=24/\gY f.blocks<=120
theorem SliceR.later{R:List Value->α->Prop}(ok:bl h){L:SV}{xs:List α}(s:SliceR R sz h L.v xs){x:α}(hi:xs[i]?=some x):∃b off c,L.a=some ⟨b,off,none⟩/\i<xs.length/\c.length=sz/\R c x/\Old b h/\∀h':ab,aa aG h h'->∀k m,k+m<=sz->aV h' b (off+i*sz+k) m=some ((c.drop k).take m):=by
 obtain⟨b,off,c,w⟩:=SliceR.at ok s hi;exact⟨b,off,c,w.a,(bK.mp hi).1,w.len,w.r,w.bE,fun h' g=>w.rd h' (g.got w.bE)⟩
theorem Uo{h h2:ab}(ok:bl h){G F:SV}{u:GU}{B:SV}{f:GF}(hi:u.funcs[i]?=some f)(hF:∃b off,F.a=some ⟨b,off,none⟩/\F.l=u.funcs.length/\∀h',aa aG h h'->aV h' b (off+i*4+3) 1=some [B.v])(hB:yM h B f.blocks)(hm:Fits f.blocks){U:Nat}(hU:h2.tr.get U=some (.aC [G.v,F.v] false 0 0))(g2:aa aG h h2)(f1:ai e 1=.pointer (some ⟨U,0,none⟩))(f3:ai e 3=.int .i64 i)(f4:ai e 4=.int .i64 0)(f5:ai e 5=.int .i64 0)(C:∀e' h',aa aG h2 h'->ai e' 1=.pointer (some ⟨U,0,none⟩)->ai e' 3=.int .i64 i->ai e' 4=.int .i64 (IntKind.i64.wrap (gY f.blocks:Int))->QQ (.exit 2) e' h'):az FF (.loop jw) e h2 QQ:=by
 obtain⟨b,off,zu,qi,cS⟩:=hF;have cV:=SliceR.len hB;refine az.loop (fun m e h3=>∃j:Nat,m=f.blocks.length-j/\j<=f.blocks.length/\ai e 1=.pointer (some ⟨U,0,none⟩)/\ai e 3=.int .i64 i/\ai e 4=.int .i64 (IntKind.i64.wrap (gY (f.blocks.take j):Int))/\ai e 5=.int .i64 j/\aa aG h2 h3) ?_ (n:=f.blocks.length)
  ⟨0,rfl,by omega,f1,f3,by rw[f4];simp[gY,wrap_i64],f5,.refl g2.ok⟩
 rintro m e h3⟨j,rfl,hj,f1,f3,f4,f5,g3⟩;have gg:=g2.trans g3;have FY:=g3.get g2.ok hU;have hr:=cS h3 gg;have fu:=(bK.mp hi).1;unfold jw;by_cases aM:j<f.blocks.length
 .have hx:f.blocks[j]?=some f.blocks[j]:=ff aM;generalize f.blocks[j]=x at hx;obtain⟨b2,ab8,c,dZ,_,AN,hc,oB2,Er⟩:=SliceR.later ok hB hx;obtain⟨P,L,T,rfl,sP,sL,sT⟩:=hc;have r0:=Er h3 gg 0 1 (by decide);have r1:=Er h3 gg 1 1 (by decide);have iF:=SliceR.len sP;have tc:=SliceR.len sL;have hle:=Gr hx;have hf:=hm.2 x (bU hx);have EG:=hm.1;simp[-ae] at r0 r1 hr;obtain⟨j',Uq⟩:∃j',j'=j+1:=⟨_,rfl⟩;have wj:IntKind.i64.wrap ((j:Int)+1)=(j':Int):=by rw[wrap_i64 _ (by omega) (by omega)];omega
  have oU:=g3.ok.bE FY;have zw:=g3.ok.st _ _ _ _ _ FY;have w2:IntKind.i64.wrap ((gY (f.blocks.take j):Int)+(x.dk.length:Int)+(x.list.length:Int))=IntKind.i64.wrap ((gY (f.blocks.take j'):Nat):Int):=by rw[Uq,hle];congr 1;omega
  simp[f1,f3,f4,f5,aq FY,aB,zu,qi,fu,hr,cV,dZ,aM,r0,r1,-ae,iF,tc,wrap_add,w2,wj];exact⟨f.blocks.length-j',by omega,j',rfl,by omega,rfl,rfl,g3.tick⟩
 .have:j=f.blocks.length:=by omega
  subst this;rw[xK] at f4;simp[-ae] at hr;simp[f1,f3,f4,f5,aq FY,zu,qi,fu,hr,cV,-ae];exact C _ _ g3 (by simp[f1]) (by simp[f3]) (by simp[f4])
theorem Qe(ok:bl h){G F:SV}{u:GU}(hu:uR h G F u)(sm:Small u):aE FF qa [.agg ⟨[G.v,F.v]⟩] h (fun v h'=>aa aG h h'/\∃hv:Bool,v=.bool hv/\(hv=false->u.funcs.length<=10/\∀f∈u.funcs,E8 f)):=by
 have qi:=SliceR.len hu.2;refine aE.of xB ?_;unfold pX;simp;have g0:=aH ok [G.v,F.v] 0;refine az.loop (fun m e h2=>∃i:Nat,m=u.funcs.length-i/\i<=u.funcs.length/\ai e 1=.pointer (some ⟨h.next,0,none⟩)/\ai e 3=.int .i64 i/\aa aG h h2/\h2.tr.get h.next=some (.aC [G.v,F.v] false 0 0)/\∀f∈u.funcs.take i,E8 f) ?_ (n:=u.funcs.length)
  ⟨0,rfl,by omega,by simp,by simp,by simpa using g0,by simp,by simp⟩
 rintro m e h2⟨i,rfl,hi,f1,f3,g2,hU,hL⟩;unfold oe;have Am:=hU;simp at Am;by_cases fu:i<u.funcs.length
 .have hx:u.funcs[i]?=some u.funcs[i]:=ff fu;have hm:=Ai fu;generalize u.funcs[i]=f at hx hm;have hb:=sm.bs f hm;obtain⟨b,off,c,zu,_,_,⟨B,rfl,hB⟩,_,cS⟩:=SliceR.later ok hu.2 hx;simp[f1,f3,Am,qi,fu];refine Uo ok hx ⟨b,off,zu,qi,fun h' g=>cS h' g 3 1 (by decide)⟩ hB hb (G:=G) (U:=h.next) hU g2 (by simp[f1]) (by simp[f3]) (by simp) (by simp) ?_;intro e3 h3 g3 q1 q3 q4;have gg:=g2.trans g3;have FY:=g3.get g2.ok Am;have hr:=cS h3 gg 3 1 (by decide);have cV:=SliceR.len hB;simp[-ae] at hr;have hs:=FY;have hfs:=sm.fs;have wi:=wrap_i64 (i+1) (by omega) (by omega);have uQ:¬24<f.blocks.length->¬120<gY f.blocks->∀f∈u.funcs.take (i+1),E8 f:=by
   intro h1 h2 f' hf';rw[yS,hx] at hf';rcases rM.1 hf' with h|h
   .exact hL f' h
   .simp at h;subst h;exact⟨by omega,by omega⟩
  by_cases k1:24<f.blocks.length
  .have k1':(24:Int)<f.blocks.length:=by omega
   simp[q1,q3,q4,aq FY,zu,qi,fu,hr,cV,k1',-ae];exact gg
  .have k1':¬(24:Int)<f.blocks.length:=by omega
   rw[JK hb (by omega)] at q4;by_cases k2:120<gY f.blocks
   .have k2':(120:Int)<gY f.blocks:=by omega
    simp[q1,q3,q4,aq FY,zu,qi,fu,hr,cV,k1',k2',-ae];exact gg
   .have k2':¬(120:Int)<gY f.blocks:=by omega
    simp[q1,q3,q4,aq FY,zu,qi,fu,hr,cV,k1',k2',wi,-ae];exact⟨u.funcs.length-(i+1),by omega,i+1,rfl,by omega,by simp,gg,by rw[FY,zu,qi],uQ k1 k2⟩
 .have:i=u.funcs.length:=by omega
  subst this;rw[xK] at hL;by_cases k:10<u.funcs.length
  .have k':(10:Int)<u.funcs.length:=by omega
   simp[f1,f3,Am,qi,k'];exact g2
  .have k':¬(10:Int)<u.funcs.length:=by omega
   simp[f1,f3,Am,qi,k'];exact⟨g2,by omega,hL⟩
theorem Jr(ok:bl h)(G F:SV):aE FF tu [.agg ⟨[G.v,F.v]⟩] h (fun v h'=>v=.bool (decide (G.l=0)&&decide (F.l=0))/\aa aG h h'):=by
 refine aE.of z6 ?_;unfold sD;have g0:=aH ok [G.v,F.v] 0;simp at g0;by_cases hG:G.l=0
 .by_cases hF:F.l=0
  .simp[hG,hF];simpa [hG,hF] using g0
  .have u5:((F.l:Int)==0)=false:=by simp;omega
   simp[hG,hF,u5];simpa [hG] using g0
 .have hG':((G.l:Int)==0)=false:=by simp;omega
  simp[hG,hG'];exact g0
def aP(gs fs:SV)(name:ByteArray)(params ag:Int)(blocks ah:SV):List Value:=[gs.v,fs.v,.string name,.int .i64 params,.int .i64 ag,blocks.v,ah.v]
def Ez(ag:Int)(r:Bool)(n:Int):Int:=if r=true/\¬(0<=n/\n<=ag-1) then 3 else 0
def Kn(ag n:Int):Int:=if ¬(0<=n/\n<=ag-1) then 3 else 0
section
variable{gs fs blocks ah:SV}{name:ByteArray}{params ag:Int}
theorem yd(h:ab)(ok:bl h)(hr:0<=ag/\ag<1000000)(r:Bool)(n:Int):aE FF mA [.agg ⟨aP gs fs name params ag blocks ah⟩,.agg ⟨[.bool r,.int .i64 n]⟩] h (fun v h'=>v=.int .i64 (Ez ag r n)/\aa aG h h'):=by
 refine aE.of zX ?_;unfold su;have hw:=wrap_i64 (ag-1) (by omega) (by omega);have g1:=(aH ok (aP gs fs name params ag blocks ah) 0);have g2:=g1.new [.bool r,.int .i64 n] 0;cases r with
 |false=>simp[aP,Ez];simpa [aP] using g2
 |true=>
  simp[aP,hw];refine aF.call (by simpa using gq _ n 0 (ag-1)) ?_;rintro _ h'⟨rfl,he⟩;subst he;by_cases h1:0<=n
  .by_cases h2:n<=ag-1
   .simp[h1,h2,Ez];simpa [aP] using g2
   .have LN:ag-1<n:=by omega
    simp[h1,h2,LN,Ez];simpa [aP] using g2
  .have Kw:n<0:=by omega
   simp[h1,Kw,Ez];simpa [aP] using g2
theorem FI(h:ab)(ok:bl h)(hr:0<=ag/\ag<1000000)(n:Int):aE FF tk [.agg ⟨aP gs fs name params ag blocks ah⟩,.int .i64 n] h (fun v h'=>v=.int .i64 (Kn ag n)/\aa aG h h'):=by
 refine aE.of zT ?_;unfold sf;have hw:=wrap_i64 (ag-1) (by omega) (by omega);have g1:=(aH ok (aP gs fs name params ag blocks ah) 0);simp[aP,hw];refine aF.call (by simpa using gq _ n 0 (ag-1)) ?_;rintro _ h'⟨rfl,he⟩;subst he;by_cases h1:0<=n
 .by_cases h2:n<=ag-1
  .simp[h1,h2,Kn];simpa [aP] using g1
  .have LN:ag-1<n:=by omega
   simp[h1,h2,LN,Kn];simpa [aP] using g1
 .have Kw:n<0:=by omega
  simp[h1,Kw,Kn];simpa [aP] using g1
theorem UD(ok:bl h)(hr:0<=ag/\ag<1000000){args:SV}(hC:h.tr.get C=some (.aC (aP gs fs name params ag blocks ah) false 0 s1))(hX:h.tr.get X=some (.aC (aK op dst ar an br bn fn args.v) false 0 s2)):aE FF iu [.pointer (some ⟨C,0,none⟩),.pointer (some ⟨X,0,none⟩)] h (fun v h'=>v=.int .i64 (Ez ag ar an)/\aa aG h h'):=by
 refine aE.of xx ?_;unfold pT;simp[hC,hX,aP,aK];refine aF.call (by simpa [aP] using yd (gs:=gs) (fs:=fs) (name:=name) (params:=params) (blocks:=blocks) (ah:=ah) h ok hr ar an) ?_;rintro _ h'⟨rfl,g⟩;simp;exact g
theorem UE(ok:bl h)(hr:0<=ag/\ag<1000000){args:SV}(hC:h.tr.get C=some (.aC (aP gs fs name params ag blocks ah) false 0 s1))(hX:h.tr.get X=some (.aC (aK op dst ar an br bn fn args.v) false 0 s2)):aE FF iv [.pointer (some ⟨C,0,none⟩),.pointer (some ⟨X,0,none⟩)] h (fun v h'=>v=.int .i64 (Ez ag br bn)/\aa aG h h'):=by
 refine aE.of xy ?_;unfold pU;simp[hC,hX,aP,aK];refine aF.call (by simpa [aP] using yd (gs:=gs) (fs:=fs) (name:=name) (params:=params) (blocks:=blocks) (ah:=ah) h ok hr br bn) ?_;rintro _ h'⟨rfl,g⟩;simp;exact g
end
def ways:List Value:=[.int .i64 0,.int .i64 0,.int .i64 1,.int .i64 2]
def D9(h:ab):Prop:=∃ro o s,h.tr.get 0=some (.aC ways ro o s)
theorem D9.grow{h h':ab}(w:D9 h)(ok:bl h)(g:aa aG h h'):D9 h':=by obtain⟨ro,o,s,hw⟩:=w;exact⟨ro,o,s,g.get ok hw⟩
theorem Gj(ok:bl h){T:SV}(hT:SliceR nR 1 h T.v ns)(hl:ns.length<140737488355329)(p:Int->Bool)(H:∀h1 n,aa aG h h1->cP FF f [.int .i64 n] h1 (fun v h'=>v=.bool (p n)/\aa aG h1 h')):aE FF kz [T.v,f] h (fun v h'=>aa aG h h'/\∃i:Int,v=.int .i64 i/\(0<=i↔ ∃n∈ns,p n=true)):=by
 have vj:=SliceR.len hT;refine aE.of sG ?_;unfold kd;simp;refine az.loop (fun m e h2=>∃j:Nat,m=ns.length-j/\j<=ns.length/\ai e 0=T.v/\ai e 1=f/\ai e 7=.int .i64 ns.length/\ai e 8=.int .i64 j/\aa aG h h2/\∀n∈ns.take j,p n=false) ?_ (n:=ns.length)
  ⟨0,rfl,by omega,by simp,by simp,by simp[vj],by simp,.refl ok,by simp⟩
 rintro m e h2⟨j,rfl,hj,f0,f1,f7,f8,g2,hp⟩;unfold jK;by_cases aM:j<ns.length
 .have hx:ns[j]?=some ns[j]:=ff aM;have hm:=Ai aM;generalize ns[j]=n at hx hm;obtain⟨b,off,c,AM,_,_,rfl,_,cS⟩:=SliceR.later ok hT hx;have r0:=cS h2 g2 0 1 (by decide);simp[-ae] at r0;have wj:=wrap_i64 (j+1) (by omega) (by omega);simp at f0;simp[f0,f1,f7,f8,AM,vj,aM,r0,-ae];refine aF.cu (by simpa [f1] using H h2 n g2) ?_;rintro _ h3⟨rfl,g3⟩;cases Ql:p n with
  |true=>
   simp;exact⟨g2.trans g3,n,hm,Ql⟩
  |false=>
   simp[f0,f1,f7,f8,wj];refine⟨ns.length-(j+1),by omega,j+1,rfl,by omega,⟨AM,vj⟩,by simp,g2.trans g3,?_⟩;intro n' Uv;rw[yS,hx] at Uv;rcases rM.1 Uv with h|h
   .exact hp n' h
   .simp at h;rw[h];exact Ql
 .have:j=ns.length:=by omega
  subst this;rw[xK] at hp;simp[f7,f8];exact⟨g2,fun n hn=>hp n hn⟩
theorem Br(ok:bl h){T:SV}(hT:SliceR nR 1 h T.v ns)(hl:ns.length<140737488355329)(p:Int->Bool)(H:∀h1 n,aa aG h h1->cP FF f [.int .i64 n] h1 (fun v h'=>v=.bool (p n)/\aa aG h1 h')):aE FF fg [T.v,f] h (fun v h'=>v=.bool (ns.any p)/\aa aG h h'):=by
 refine aE.of pY ?_;unfold ji;simp;refine aF.call (V:=fun v h'=>aa aG h h'/\∃i:Int,v=.int .i64 i/\(0<=i↔ ∃n∈ns,p n=true)) (by simpa using Gj ok hT hl p H) ?_;rintro _ h2⟨g2,i,rfl,hi⟩;have e:ns.any p=decide (0<=i):=by rw[Bool.eq_iff_iff];simp[hi]
 by_cases h0:0<=i
 .simp[h0,e];exact g2
 .have h0':i<0:=by omega
  simp[h0,h0',e];exact g2
section
variable{gs fs blocks ah:SV}{name:ByteArray}{params ag:Int}
def acO(n:Nat)(t:Int):Prop:=1<=t/\t<=(n:Int)-1
theorem TX(ok:bl h)(ma:blocks.l<1000000)(hC:h.tr.get C=some (.aC (aP gs fs name params ag blocks ah) false 0 s1))(t:Int):aE FF kx [.int .i64 t,.pointer (some ⟨C,0,none⟩)] h (fun v h'=>v=.bool (!(decide (1<=t)&&decide (t<=(blocks.l:Int)-1)))/\aa aG h h'):=by
 have w1:=wrap_i64 ((blocks.l:Int)-1) (by omega) (by omega);refine aE.of xv ?_;unfold pS;simp[hC,aP,w1];refine aF.call (by simpa using gq h t 1 ((blocks.l:Int)-1)) ?_;rintro _ h2⟨rfl,rfl⟩;simp;exact .refl ok
structure L7(n:Nat)(ag:Int)(b:GB):Prop where
 kind:(b.kind=1/\b.to=[])\/(b.kind=2/\∃t,b.to=[t])\/(b.kind=3/\∃t u,b.to=[t,u]/\t≠u)
 to:∀t∈b.to,acO n t
 on:b.on.1=true->0<=b.on.2/\b.on.2<=ag-1
def Cw(n:Nat)(ts:List Int):Bool:=ts.any fun t=> !(decide (1<=t)&&decide (t<=(n:Int)-1))
theorem Iy{n:Nat}{ts:List Int}(h:Cw n ts=false):∀t∈ts,acO n t:=by intro t ht;unfold Cw at h;rw[List.any_eq_false] at h;have:=h t ht;simp at this;exact this
theorem yJ{r:Bool}(h:Ez ag r n=0):r=true->0<=n/\n<=ag-1:=by
 intro hr;unfold Ez at h;split at h
 .cases h
 .rename_i hn;by_cases hh:0<=n/\n<=ag-1
  .exact hh
  .exact absurd ⟨hr,hh⟩ hn
theorem Xl(ok:bl h)(hw:D9 h)(hr:0<=ag/\ag<1000000)(ma:blocks.l<1000000){b:GB}(cj:b.to.length<140737488355329){T:SV}(hT:SliceR nR 1 h T.v b.to):aE FF my [.agg ⟨aP gs fs name params ag blocks ah⟩,.agg ⟨[.int .i64 b.kind,.bool b.on.1,.int .i64 b.on.2,T.v]⟩] h (fun v h'=>aa aG h h'/\∃c:Int,v=.int .i64 c/\(c=0->L7 blocks.l ag b)):=by
 obtain⟨ph,li,kind,⟨r,n⟩,to⟩:=b;simp only at hT cj⊢;obtain⟨ro,o,s,Wl⟩:=hw;have h0:0<h.next:=ok.wf _ _ Wl;have vj:=SliceR.len hT;refine aE.of zU ?_;unfold sg;simp[aP];refine aF.cut (fun h2=>aa aG h h2/\h2.tr.get h.next=some (.aC (aP gs fs name params ag blocks ah) false 0 0)/\h2.tr.get (h.next+1)=some (.aC [.int .i64 kind,.bool r,.int .i64 n,T.v] false 0 0)) ?_ ?_
 .exact⟨((aa.refl ok).new _ _).new _ _,by simp[aP],by simp⟩
 rintro h2⟨g2,qZ,ef⟩;have hW2:=g2.get ok Wl;simp[ways] at hW2;refine aF.call (by simpa using gq h2 kind 1 3) ?_;rintro _ LN⟨rfl,he⟩;rw[he];have xL:=qZ;simp[aP] at xL;simp at ef;by_cases hk:1<=kind/\kind<=3
 .have CH:(decide (1<=kind)&&decide (kind<=3))=true:=by simpa using hk
  have oH:∀h1,aa aG h2 h1->aE FF fg [T.v,.func (.func kx) #[] #[.pointer (some ⟨h.next,0,none⟩)]] h1 (fun v h'=>v=.bool (Cw blocks.l to)/\aa aG h1 h'):=by intro h1 g1;refine Br g1.ok (hT.mono ok (g2.trans g1) fun _ _ h=>h) cj _ fun h3 n g3=>?_;refine cP.func ?_;have:=TX g3.ok ma (g3.get g1.ok (g1.get g2.ok qZ (fun h=>h))) n;simpa using this
  have M9:∀h1,aa aG h2 h1->aE FF mA [.agg ⟨aP gs fs name params ag blocks ah⟩,.agg ⟨[.bool r,.int .i64 n]⟩] h1 (fun v h'=>v=.int .i64 (Ez ag r n)/\aa aG h1 h'):=fun h1 g1=>yd h1 g1.ok hr r n;have hkk:kind=1\/kind=2\/kind=3:=by omega
  rcases hkk with rfl|rfl|rfl
  .by_cases hl:to.length=0
   .have afV:to=[]:=List.length_eq_zero_iff.1 hl;subst afV;have M3:T.l=0:=vj;rw[M3] at ef;simp[ef,hW2];refine aF.call (by simpa [M3] using oH (tick h2) (aS g2.ok)) ?_;rintro _ h3⟨rfl,g3⟩;have dw:=(aS g2.ok).trans g3;have iO:=dw.get g2.ok ef;have I0:=dw.get g2.ok xL;simp[Cw,iO,I0];refine aF.call (by simpa [aP] using M9 (tick h3) (dw.trans (aS dw.ok))) ?_;rintro _ h4⟨rfl,g4⟩;simp;exact⟨((g2.trans dw).trans (aS dw.ok)).trans g4,fun h=>⟨.inl ⟨rfl,rfl⟩,by simp,yJ h⟩⟩
   .have Ga:((T.l:Int) !=0)=true:=by simp;omega
    simp[ef,hW2,Ga];exact g2.tick
  .by_cases hl:to.length=1
   .obtain⟨t,rfl⟩:∃t,to=[t]:=List.length_eq_one_iff.1 hl;have M3:T.l=1:=vj;rw[M3] at ef;simp[ef,hW2];refine aF.call (by simpa [M3] using oH (tick h2) (aS g2.ok)) ?_;rintro _ h3⟨rfl,g3⟩;have dw:=(aS g2.ok).trans g3;have iO:=dw.get g2.ok ef;have I0:=dw.get g2.ok xL;cases afm:Cw blocks.l [t] with
    |true=>
     simp;exact g2.trans dw
    |false=>
     by_cases hz:r=false/\n=0
     .obtain⟨rfl,rfl⟩:=hz;simp[iO,I0];refine aF.call (by simpa [aP] using M9 (tick h3) (dw.trans (aS dw.ok))) ?_;rintro _ h4⟨rfl,g4⟩;simp;exact⟨((g2.trans dw).trans (aS dw.ok)).trans g4,fun _=>⟨.inr (.inl ⟨rfl,t,rfl⟩),Iy afm,fun h=>by cases h⟩⟩
     .have Wm:(r|| !(n==0))=true:=by
       cases r
       .simp at hz⊢;exact hz
       .rfl
      simp[iO,I0,Wm];exact(g2.trans dw).tick
   .have Ga:((T.l:Int) !=1)=true:=by simp;omega
    simp[ef,hW2,Ga];exact g2.tick
  .by_cases hl:to.length=2
   .obtain⟨t,u,rfl⟩:∃t u,to=[t,u]:=by
     match to,hl with
     |[t,u],_=>exact⟨t,u,rfl⟩
    have M3:T.l=2:=vj;rw[M3] at ef;obtain⟨b0,off0,c0,AM,_,_,rfl,_,asx⟩:=SliceR.later ok hT (i:=0) (x:=t) rfl;obtain⟨b1,U3,c1,akd,_,_,rfl,_,CK⟩:=SliceR.later ok hT (i:=1) (x:=u) rfl;rw[AM] at akd ef;cases akd;simp[ef,hW2];refine aF.call (by simpa [M3,AM] using oH (tick h2) (aS g2.ok)) ?_;rintro _ h3⟨rfl,g3⟩;have dw:=(aS g2.ok).trans g3;have iO:=dw.get g2.ok ef;have I0:=dw.get g2.ok xL;have r0:=asx h3 (g2.trans dw) 0 1 (by decide);have r1:=CK h3 (g2.trans dw) 0 1 (by decide);simp[-ae] at r0 r1;cases afm:Cw blocks.l [t,u] with
    |true=>
     simp;exact g2.trans dw
    |false=>
     by_cases htu:t=u
     .subst htu;simp[aB,aq iO,r0,r1,-ae];exact(g2.trans dw).tick
     .have asP:(t==u)=false:=by simpa using htu
      simp[aB,aq iO,aq I0,r0,r1,asP,-ae];refine aF.call (by simpa [aP] using M9 (tick h3) (dw.trans (aS dw.ok))) ?_;rintro _ h4⟨rfl,g4⟩;simp;exact⟨((g2.trans dw).trans (aS dw.ok)).trans g4,fun h=>⟨.inr (.inr ⟨rfl,t,u,rfl,htu⟩),Iy afm,yJ h⟩⟩
   .have Ga:((T.l:Int) !=2)=true:=by simp;omega
    simp[ef,hW2,Ga];exact g2.tick
 .have CH:(decide (1<=kind)&&decide (kind<=3))=false:=by simpa using hk
  simp[CH];exact g2
end
def lsR(h:ab)(c:List Value)(l:List Int):Prop:=∃S:SV,c=[S.v]/\SliceR nR 1 h S.v l
theorem lsR.mono{h h':ab}(ok:bl h)(g:aa aG h h'){c:List Value}{x:List Int}(r:lsR h c x):lsR h' c x:=by obtain⟨A,e,s⟩:=r;exact⟨A,e,s.mono ok g fun _ _ h=>h⟩
def ub(ag:Int)(v:Bool×Int):Prop:=v.1=true->0<=v.2/\v.2<=ag-1
def xi(ag:Int)(n:Int):Prop:=0<=n/\n<=ag-1
theorem Ko(h:Kn ag n=0):xi ag n:=by
 unfold Kn at h;split at h
 .cases h
 .rename_i hn;unfold xi;omega
def pO(ag:Int)(l:List (Bool×Int)):Prop:=∀v∈l,ub ag v
theorem pO.nil(ag:Int):pO ag []:=fun _ h=>by simp at h
theorem pO.take{ag:Int}{l:List (Bool×Int)}{j:Nat}{v:Bool×Int}(h:pO ag (l.take j))(hx:l[j]?=some v)(hv:ub ag v):pO ag (l.take (j+1)):=by
 intro n hn;rw[yS,hx] at hn;rcases rM.1 hn with h1|h1
 .exact h n h1
 .simp at h1;rw[h1];exact hv
theorem tv(h:¬a=b):(a !=b)=true:=by simpa using h
structure It(ag:Int)(n:Nat)(p:GP):Prop where
 dst:xi ag p.dst
 len:p.row.length=n
 row:pO ag p.row
section
variable{gs fs blocks ah:SV}{name:ByteArray}{params ag:Int}
theorem Zm(ok:bl h)(hr:0<=ag/\ag<1000000){mE:List (List Int)}(hA:SliceR (lsR h) 1 h ah.v mE){l:List Int}(hi:mE[i]?=some l){p:GP}(cj:p.row.length<140737488355329){W:SV}(hW:SliceR vR 2 h W.v p.row):aE FF mz [.agg ⟨aP gs fs name params ag blocks ah⟩,.int .i64 i,.agg ⟨[.int .i64 p.dst,W.v]⟩] h (fun v h'=>aa aG h h'/\∃c:Int,v=.int .i64 c/\(c=0->i≠0/\It ag l.length p)):=by
 have H7:=SliceR.len hW;have Cm:=SliceR.len hA;refine aE.of zW ?_;unfold sq;by_cases h0:i=0
 .subst h0;simp[aP];exact((aa.refl ok).new _ _).new _ _
 have h0':((i:Int)==0)=false:=by simp;omega
 obtain⟨ba,offa,ca,T_,fu,_,⟨S,rfl,hS⟩,oA,Ye⟩:=SliceR.later ok hA hi;have hSl:=SliceR.len hS;simp[aP,h0',h0];refine aF.cut (fun h2=>aa aG h h2/\h2.tr.get h.next=some (.aC (aP gs fs name params ag blocks ah) false 0 0)/\h2.tr.get (h.next+1)=some (.aC [.int .i64 p.dst,W.v] false 0 0)) ?_ ?_
 .exact⟨((aa.refl ok).new _ _).new _ _,by simp[aP],by simp⟩
 rintro h2⟨g2,qZ,ef⟩;refine aF.call (by simpa [aP] using FI (gs:=gs) (fs:=fs) (name:=name) (params:=params) (blocks:=blocks) (ah:=ah) h2 g2.ok hr p.dst) ?_;rintro _ h3⟨rfl,g3⟩;have dw:=g2.trans g3;have I0:=g3.get g2.ok qZ;have iO:=g3.get g2.ok ef;by_cases hd:Kn ag p.dst=0
 .have rA:=Ye h3 dw 0 1 (by decide);simp[-ae] at rA;simp[aP] at I0;simp at iO;by_cases yZ:p.row.length=l.length
  .have e1:((W.l:Int) !=(S.l:Int))=false:=by simp;omega
   simp[hd,aB,aq iO,aq I0,T_,Cm,fu,rA,e1,-ae];refine az.loop (fun m e h4=>∃j:Nat,m=p.row.length-j/\j<=p.row.length/\ai e 3=.pointer (some ⟨h.next,0,none⟩)/\ai e 31=W.v/\ai e 32=.int .i64 p.row.length/\ai e 33=.int .i64 j/\aa aG h3 h4/\pO ag (p.row.take j)) ?_ (n:=p.row.length)
    ⟨0,rfl,by omega,by simp,by simp,by simp[H7],by simp,aS dw.ok,.nil _⟩
   rintro m e h4⟨j,rfl,hj,f3,f31,f32,f33,g4,hv⟩;have oE:=dw.trans g4;have Ua:=g4.get dw.ok I0;unfold qc;by_cases aM:j<p.row.length
   .have hx:p.row[j]?=some p.row[j]:=ff aM;generalize p.row[j]=v at hx;obtain⟨b,off,c,hWa,_,_,rfl,oW,cS⟩:=SliceR.later ok hW hx;have r0:=cS h4 oE 0 2 (by decide);simp[-ae] at r0;have wj:=wrap_i64 (j+1) (by omega) (by omega);have oC4:=oE.ok.bE Ua;simp at f31;simp[f3,f31,f32,f33,hWa,H7,aM,r0,aq Ua,au,bj,aN,oC4,-ae];refine aF.cut (fun h5=>aa aG h4 h5) ?_ ?_
    .exact((aa.refl oE.ok).new _ _).put ⟨0,by simp⟩ (.inl (dH _))
    rintro h5 g5;have ym:=oE.trans g5;refine aF.call (by simpa [aP] using yd (gs:=gs) (fs:=fs) (name:=name) (params:=params) (blocks:=blocks) (ah:=ah) h5 ym.ok hr v.1 v.2) ?_;rintro _ h6⟨rfl,g6⟩;by_cases vB:Ez ag v.1 v.2=0
    .simp[f3,f31,f32,f33,vB,wj];refine⟨p.row.length-(j+1),by omega,j+1,rfl,by omega,⟨hWa,H7⟩,by simp,(g4.trans g5).trans g6,hv.take hx (yJ vB)⟩
    .have:=tv vB;simp[this];exact⟨ym.trans g6,fun h=>absurd h vB⟩
   .have:j=p.row.length:=by omega
    subst this;rw[xK] at hv;simp[f32,f33];exact⟨oE,⟨Ko hd,yZ,hv⟩⟩
  .have e1:((W.l:Int) !=(S.l:Int))=true:=by simp;omega
   simp[hd,aB,aq iO,aq I0,T_,Cm,fu,rA,e1,-ae];exact dw.tick
 .have:=tv hd;simp[this];exact⟨dw,fun h=>absurd h hd⟩
end
def bz(s:Bool×Bool×Bool)(x:GI)(n:Nat):Bool:=
 (!s.1&&x.dst != -1)||((!s.2.1&& !(!x.a.1&&x.a.2==0))||((!s.2.2&& !(!x.b.1&&x.b.2==0))||(!(x.op==20)&&(x.fn !=0||decide (0<n)))))
theorem abN{s:Bool×Bool×Bool}{x:GI}{A:SV}{R:Env->ab->Prop}(hX:h.tr.get X=some (.aC (aK x.op x.dst x.a.1 x.a.2 x.b.1 x.b.2 x.fn A.v) false 0 s1))(hS:h.tr.get S=some (.aC [.bool s.1,.bool s.2.1,.bool s.2.2] false 0 s2))(hK:h.tr.get K=some (.aC [.bool (x.op==20)] false 0 s3))(f3:ai e 3=.pointer (some ⟨X,0,none⟩))(f5:ai e 5=.pointer (some ⟨S,0,none⟩))(f6:ai e 6=.pointer (some ⟨K,0,none⟩))(H:∀e',ai e' 2=ai e 2->ai e' 3=ai e 3->ai e' 5=ai e 5->ai e' 6=ai e 6->ai e' 62=.bool (bz s x A.l)->R e' h):aF FF Qu e h R:=by
 obtain⟨op,dst,⟨ar,an⟩,⟨br,bn⟩,fn,args⟩:=x;obtain⟨sd,sa,sb⟩:=s;simp[aK] at hX hS hK;unfold Qu;cases sd with
 |true=>
  cases sa with
  |true=>
   cases sb with
   |true=>
    cases hc:(op==20) with
    |true=>
     simp[f3,f5,f6,hX,hS,hK,bne,hc];refine H _ ?_ ?_ ?_ ?_ ?_<;>simp[bz,f3,f5,f6,bne,hc]
    |false=>
     cases hf:(fn==0) with
     |true=>
      simp[f3,f5,f6,hX,hS,hK,bne,hc,hf];refine H _ ?_ ?_ ?_ ?_ ?_<;>simp[bz,f3,f5,f6,bne,hc,hf]
     |false=>
      simp[f3,f5,f6,hX,hS,hK,bne,hc,hf];refine H _ ?_ ?_ ?_ ?_ ?_<;>simp[bz,f3,f5,f6,bne,hc,hf]
   |false=>
    cases br with
    |true=>
     simp[f3,f5,f6,hX,hS,hK,bne];refine H _ ?_ ?_ ?_ ?_ ?_<;>simp[bz,f3,f5,f6,bne]
    |false=>
     cases hb:(bn==0) with
     |false=>
      simp[f3,f5,f6,hX,hS,hK,bne,hb];refine H _ ?_ ?_ ?_ ?_ ?_<;>simp[bz,f3,f5,f6,bne,hb]
     |true=>
      cases hc:(op==20) with
      |true=>
       simp[f3,f5,f6,hX,hS,hK,bne,hb,hc];refine H _ ?_ ?_ ?_ ?_ ?_<;>simp[bz,f3,f5,f6,bne,hb,hc]
      |false=>
       cases hf:(fn==0) with
       |true=>
        simp[f3,f5,f6,hX,hS,hK,bne,hb,hc,hf];refine H _ ?_ ?_ ?_ ?_ ?_<;>simp[bz,f3,f5,f6,bne,hb,hc,hf]
       |false=>
        simp[f3,f5,f6,hX,hS,hK,bne,hb,hc,hf];refine H _ ?_ ?_ ?_ ?_ ?_<;>simp[bz,f3,f5,f6,bne,hb,hc,hf]
  |false=>
   cases sb with
   |true=>
    cases ar with
    |true=>
     simp[f3,f5,f6,hX,hS,hK,bne];refine H _ ?_ ?_ ?_ ?_ ?_<;>simp[bz,f3,f5,f6,bne]
    |false=>
     cases ha:(an==0) with
     |false=>
      simp[f3,f5,f6,hX,hS,hK,bne,ha];refine H _ ?_ ?_ ?_ ?_ ?_<;>simp[bz,f3,f5,f6,bne,ha]
     |true=>
      cases hc:(op==20) with
      |true=>
       simp[f3,f5,f6,hX,hS,hK,bne,ha,hc];refine H _ ?_ ?_ ?_ ?_ ?_<;>simp[bz,f3,f5,f6,bne,ha,hc]
      |false=>
       cases hf:(fn==0) with
       |true=>
        simp[f3,f5,f6,hX,hS,hK,bne,ha,hc,hf];refine H _ ?_ ?_ ?_ ?_ ?_<;>simp[bz,f3,f5,f6,bne,ha,hc,hf]
       |false=>
        simp[f3,f5,f6,hX,hS,hK,bne,ha,hc,hf];refine H _ ?_ ?_ ?_ ?_ ?_<;>simp[bz,f3,f5,f6,bne,ha,hc,hf]
   |false=>
    cases ar with
    |true=>
     simp[f3,f5,f6,hX,hS,hK,bne];refine H _ ?_ ?_ ?_ ?_ ?_<;>simp[bz,f3,f5,f6,bne]
    |false=>
     cases ha:(an==0) with
     |false=>
      simp[f3,f5,f6,hX,hS,hK,bne,ha];refine H _ ?_ ?_ ?_ ?_ ?_<;>simp[bz,f3,f5,f6,bne,ha]
     |true=>
      cases br with
      |true=>
       simp[f3,f5,f6,hX,hS,hK,bne,ha];refine H _ ?_ ?_ ?_ ?_ ?_<;>simp[bz,f3,f5,f6,bne,ha]
      |false=>
       cases hb:(bn==0) with
       |false=>
        simp[f3,f5,f6,hX,hS,hK,bne,ha,hb];refine H _ ?_ ?_ ?_ ?_ ?_<;>simp[bz,f3,f5,f6,bne,ha,hb]
       |true=>
        cases hc:(op==20) with
        |true=>
         simp[f3,f5,f6,hX,hS,hK,bne,ha,hb,hc];refine H _ ?_ ?_ ?_ ?_ ?_<;>simp[bz,f3,f5,f6,bne,ha,hb,hc]
        |false=>
         cases hf:(fn==0) with
         |true=>
          simp[f3,f5,f6,hX,hS,hK,bne,ha,hb,hc,hf];refine H _ ?_ ?_ ?_ ?_ ?_<;>simp[bz,f3,f5,f6,bne,ha,hb,hc,hf]
         |false=>
          simp[f3,f5,f6,hX,hS,hK,bne,ha,hb,hc,hf];refine H _ ?_ ?_ ?_ ?_ ?_<;>simp[bz,f3,f5,f6,bne,ha,hb,hc,hf]
 |false=>
  cases sa with
  |true=>
   cases sb with
   |true=>
    cases hd:(dst== -1) with
    |false=>
     simp[f3,f5,f6,hX,hS,hK,bne,hd];refine H _ ?_ ?_ ?_ ?_ ?_<;>simp[bz,f3,f5,f6,bne,hd]
    |true=>
     cases hc:(op==20) with
     |true=>
      simp[f3,f5,f6,hX,hS,hK,bne,hd,hc];refine H _ ?_ ?_ ?_ ?_ ?_<;>simp[bz,f3,f5,f6,bne,hd,hc]
     |false=>
      cases hf:(fn==0) with
      |true=>
       simp[f3,f5,f6,hX,hS,hK,bne,hd,hc,hf];refine H _ ?_ ?_ ?_ ?_ ?_<;>simp[bz,f3,f5,f6,bne,hd,hc,hf]
      |false=>
       simp[f3,f5,f6,hX,hS,hK,bne,hd,hc,hf];refine H _ ?_ ?_ ?_ ?_ ?_<;>simp[bz,f3,f5,f6,bne,hd,hc,hf]
   |false=>
    cases hd:(dst== -1) with
    |false=>
     simp[f3,f5,f6,hX,hS,hK,bne,hd];refine H _ ?_ ?_ ?_ ?_ ?_<;>simp[bz,f3,f5,f6,bne,hd]
    |true=>
     cases br with
     |true=>
      simp[f3,f5,f6,hX,hS,hK,bne,hd];refine H _ ?_ ?_ ?_ ?_ ?_<;>simp[bz,f3,f5,f6,bne,hd]
     |false=>
      cases hb:(bn==0) with
      |false=>
       simp[f3,f5,f6,hX,hS,hK,bne,hd,hb];refine H _ ?_ ?_ ?_ ?_ ?_<;>simp[bz,f3,f5,f6,bne,hd,hb]
      |true=>
       cases hc:(op==20) with
       |true=>
        simp[f3,f5,f6,hX,hS,hK,bne,hd,hb,hc];refine H _ ?_ ?_ ?_ ?_ ?_<;>simp[bz,f3,f5,f6,bne,hd,hb,hc]
       |false=>
        cases hf:(fn==0) with
        |true=>
         simp[f3,f5,f6,hX,hS,hK,bne,hd,hb,hc,hf];refine H _ ?_ ?_ ?_ ?_ ?_<;>simp[bz,f3,f5,f6,bne,hd,hb,hc,hf]
        |false=>
         simp[f3,f5,f6,hX,hS,hK,bne,hd,hb,hc,hf];refine H _ ?_ ?_ ?_ ?_ ?_<;>simp[bz,f3,f5,f6,bne,hd,hb,hc,hf]
  |false=>
   cases sb with
   |true=>
    cases hd:(dst== -1) with
    |false=>
     simp[f3,f5,f6,hX,hS,hK,bne,hd];refine H _ ?_ ?_ ?_ ?_ ?_<;>simp[bz,f3,f5,f6,bne,hd]
    |true=>
     cases ar with
     |true=>
      simp[f3,f5,f6,hX,hS,hK,bne,hd];refine H _ ?_ ?_ ?_ ?_ ?_<;>simp[bz,f3,f5,f6,bne,hd]
     |false=>
      cases ha:(an==0) with
      |false=>
       simp[f3,f5,f6,hX,hS,hK,bne,hd,ha];refine H _ ?_ ?_ ?_ ?_ ?_<;>simp[bz,f3,f5,f6,bne,hd,ha]
      |true=>
       cases hc:(op==20) with
       |true=>
        simp[f3,f5,f6,hX,hS,hK,bne,hd,ha,hc];refine H _ ?_ ?_ ?_ ?_ ?_<;>simp[bz,f3,f5,f6,bne,hd,ha,hc]
       |false=>
        cases hf:(fn==0) with
        |true=>
         simp[f3,f5,f6,hX,hS,hK,bne,hd,ha,hc,hf];refine H _ ?_ ?_ ?_ ?_ ?_<;>simp[bz,f3,f5,f6,bne,hd,ha,hc,hf]
        |false=>
         simp[f3,f5,f6,hX,hS,hK,bne,hd,ha,hc,hf];refine H _ ?_ ?_ ?_ ?_ ?_<;>simp[bz,f3,f5,f6,bne,hd,ha,hc,hf]
   |false=>
    cases hd:(dst== -1) with
    |false=>
     simp[f3,f5,f6,hX,hS,hK,bne,hd];refine H _ ?_ ?_ ?_ ?_ ?_<;>simp[bz,f3,f5,f6,bne,hd]
    |true=>
     cases ar with
     |true=>
      simp[f3,f5,f6,hX,hS,hK,bne,hd];refine H _ ?_ ?_ ?_ ?_ ?_<;>simp[bz,f3,f5,f6,bne,hd]
     |false=>
      cases ha:(an==0) with
      |false=>
       simp[f3,f5,f6,hX,hS,hK,bne,hd,ha];refine H _ ?_ ?_ ?_ ?_ ?_<;>simp[bz,f3,f5,f6,bne,hd,ha]
      |true=>
       cases br with
       |true=>
        simp[f3,f5,f6,hX,hS,hK,bne,hd,ha];refine H _ ?_ ?_ ?_ ?_ ?_<;>simp[bz,f3,f5,f6,bne,hd,ha]
       |false=>
        cases hb:(bn==0) with
        |false=>
         simp[f3,f5,f6,hX,hS,hK,bne,hd,ha,hb];refine H _ ?_ ?_ ?_ ?_ ?_<;>simp[bz,f3,f5,f6,bne,hd,ha,hb]
        |true=>
         cases hc:(op==20) with
         |true=>
          simp[f3,f5,f6,hX,hS,hK,bne,hd,ha,hb,hc];refine H _ ?_ ?_ ?_ ?_ ?_<;>simp[bz,f3,f5,f6,bne,hd,ha,hb,hc]
         |false=>
          cases hf:(fn==0) with
          |true=>
           simp[f3,f5,f6,hX,hS,hK,bne,hd,ha,hb,hc,hf];refine H _ ?_ ?_ ?_ ?_ ?_<;>simp[bz,f3,f5,f6,bne,hd,ha,hb,hc,hf]
          |false=>
           simp[f3,f5,f6,hX,hS,hK,bne,hd,ha,hb,hc,hf];refine H _ ?_ ?_ ?_ ?_ ?_<;>simp[bz,f3,f5,f6,bne,hd,ha,hb,hc,hf]
section
variable{gs fs blocks ah:SV}{name:ByteArray}{params ag:Int}
def u7(P:Int->Prop)(h:ab)(v:Value)(h':ab):Prop:=aa aG h h'/\∃c:Int,v=.int .i64 c/\P c
theorem aa4(ok:bl h){b s:Nat}{f1 f2 f3:Value}{P1 P2 P3:Int->Prop}(hb:h.tr.get b=some (.aC [f1,f2,f3] false 0 s))(H1:∀h1,aa aG h h1->cP FF f1 [] h1 (u7 P1 h1))(H2:∀h1,aa aG h h1->cP FF f2 [] h1 (u7 P2 h1))(H3:∀h1,aa aG h h1->cP FF f3 [] h1 (u7 P3 h1)):aE FF vX [.slice (some ⟨b,0,none⟩) 3 3] h (u7 (fun c=>c=0->P1 0/\P2 0/\P3 0) h):=by
 refine aE.of JY ?_;unfold A9;simp;have w1:IntKind.i64.wrap (0+1)=1:=wrap_i64 _ (by omega) (by omega);have w1':IntKind.i64.wrap 1=1:=wrap_i64 _ (by omega) (by omega);have w2:IntKind.i64.wrap (1+1)=2:=wrap_i64 _ (by omega) (by omega);have w2':IntKind.i64.wrap 2=2:=wrap_i64 _ (by omega) (by omega);have w3:IntKind.i64.wrap (2+1)=3:=wrap_i64 _ (by omega) (by omega);have w3':IntKind.i64.wrap 3=3:=wrap_i64 _ (by omega) (by omega);refine az.loop (fun n e h1=>∃i:Nat,n=3-i/\i<=3/\ai e 8=.int .i64 (i:Nat)/\ai e 7=.int .i64 3/\ai e 6=.slice (some ⟨b,0,none⟩) 3 3/\(0<i->P1 0)/\(1<i->P2 0)/\(2<i->P3 0)/\aa aG h h1) ?_ (n:=3)
  ⟨0,rfl,by omega,by simp,by simp,by simp,by simp,by simp,by simp,.refl ok⟩
 rintro n e h1⟨i,rfl,hi,f8,f7,f6,p1,p2,p3,g⟩;have FZ:=g.get ok hb;unfold x6;rcases(show i=0\/i=1\/i=2\/i=3 by omega) with rfl|rfl|rfl|rfl
 .simp[f8,f7,f6,FZ];refine aF.cu (V:=u7 P1 h1) (by simpa using H1 h1 g) ?_;rintro _ h2⟨g2,c,rfl,hc⟩;by_cases he:c=0
  .subst he;simp[f8,f7,f6,w1,w1'];exact⟨2,by omega,1,rfl,by omega,rfl,fun _=>hc,by omega,by omega,g.trans g2⟩
  .have:=tv he;simp[this];exact⟨g.trans g2,c,rfl,fun h=>absurd h he⟩
 .simp[f8,f7,f6,FZ];refine aF.cu (V:=u7 P2 h1) (by simpa using H2 h1 g) ?_;rintro _ h2⟨g2,c,rfl,hc⟩;by_cases he:c=0
  .subst he;simp[f8,f7,f6,w2,w2'];exact⟨1,by omega,2,rfl,by omega,rfl,fun _=>p1 (by omega),fun _=>hc,by omega,g.trans g2⟩
  .have:=tv he;simp[this];exact⟨g.trans g2,c,rfl,fun h=>absurd h he⟩
 .simp[f8,f7,f6,FZ];refine aF.cu (V:=u7 P3 h1) (by simpa using H3 h1 g) ?_;rintro _ h2⟨g2,c,rfl,hc⟩;by_cases he:c=0
  .subst he;simp[f8,f7,f6,w3,w3'];exact⟨3,by omega,by omega,rfl,fun _=>p1 (by omega),fun _=>p2 (by omega),fun _=>hc,g.trans g2⟩
  .have:=tv he;simp[this];exact⟨g.trans g2,c,rfl,fun h=>absurd h he⟩
 .simp[f8,f7];exact⟨g,0,rfl,fun _=>⟨p1 (by omega),p2 (by omega),p3 (by omega)⟩⟩
theorem UG(ok:bl h)(hr:0<=ag/\ag<1000000){cl:Bool}{x:GI}{A:SV}(hK:h.tr.get K=some (.aC [.bool cl] false 0 s3))(hX:h.tr.get X=some (.aC (aK x.op x.dst x.a.1 x.a.2 x.b.1 x.b.2 x.fn A.v) false 0 s2))(hC:h.tr.get C=some (.aC (aP gs fs name params ag blocks ah) false 0 s1)){funcs:List GF}(hF:SliceR (fR h) 4 h fs.v funcs)(mV:funcs.length<1000000/\∀f∈funcs,f.params<=6)(hA:SliceR vR 2 h A.v x.args)(cj:x.args.length<140737488355329):aE FF iw [.pointer (some ⟨K,0,none⟩),.pointer (some ⟨X,0,none⟩),.pointer (some ⟨C,0,none⟩)] h (u7 (fun c=>c=0->cl=true->pO ag x.args/\x.args.length<=6) h):=by
 have Cm:=SliceR.len hA;have qi:=SliceR.len hF;obtain⟨mV,asj⟩:=mV;have wf:=wrap_i64 ((fs.l:Int)-1) (by omega) (by omega);refine aE.of xz ?_;unfold pV;simp[aK] at hX;have H0:=hC;simp[aP] at H0;cases cl with
 |false=>
  simp[hK];exact⟨.refl ok,0,rfl,trivial⟩
 |true=>
  simp[hK,hX,H0,wf];refine aF.call (by simpa using gq h x.fn 0 ((fs.l:Int)-1)) ?_;rintro _ h2⟨rfl,eh⟩;rw[eh];by_cases Sx:0<=x.fn/\x.fn<=(fs.l:Int)-1
  .obtain⟨k,hk⟩:∃k:Nat,x.fn=k:=⟨x.fn.toNat,by omega⟩;have pc:k<funcs.length:=by omega
   have hx:funcs[k]?=some funcs[k]:=ff pc;generalize funcs[k]=f at hx;have hp6:=asj f (bU hx);obtain⟨bf,offf,cf,zu,_,_,⟨B,rfl,_⟩,_,hrdf⟩:=SliceR.later ok hF hx;have rf:=hrdf (tick h) (aS ok) 1 1 (by decide);simp[-ae,aB] at rf;have hd:(decide (0<=x.fn)&&decide (x.fn<=(fs.l:Int)-1))=true:=by simpa using Sx
   rw[hd];rw[hk] at hX;rw[zu,qi] at H0;by_cases xh:(A.l:Int)=f.params
   .have e1:((A.l:Int) !=f.params)=false:=by simp[xh]
    simp[hk,hX,H0,qi,aB,aq hX,aq H0,pc,rf,e1,-ae];refine az.loop (fun m e h4=>∃j:Nat,m=x.args.length-j/\j<=x.args.length/\ai e 2=.pointer (some ⟨C,0,none⟩)/\ai e 34=A.v/\ai e 35=.int .i64 x.args.length/\ai e 36=.int .i64 j/\aa aG h h4/\pO ag (x.args.take j)) ?_ (n:=x.args.length)
     ⟨0,rfl,by omega,by simp,by simp,by simp[Cm],by simp,aS ok,.nil _⟩
    rintro m e h4⟨j,rfl,hj,f2,f34,f35,f36,g4,hv⟩;have Ua:=g4.get ok H0;unfold nD;by_cases aM:j<x.args.length
    .have hx:x.args[j]?=some x.args[j]:=ff aM;generalize x.args[j]=v at hx;obtain⟨b,off,c,T_,_,_,rfl,oW,cS⟩:=SliceR.later ok hA hx;have r0:=cS h4 g4 0 2 (by decide);simp[-ae] at r0;have wj:=wrap_i64 (j+1) (by omega) (by omega);have oC4:=g4.ok.bE Ua;simp at f34;simp[f2,f34,f35,f36,T_,Cm,aM,r0,aq Ua,au,bj,aN,oC4,-ae];refine aF.cut (fun h5=>aa aG h4 h5) ?_ ?_
     .exact((aa.refl g4.ok).new _ _).put ⟨0,by simp⟩ (.inl (dH _))
     rintro h5 g5;have ym:=g4.trans g5;refine aF.call (by simpa [aP,zu,qi] using yd (gs:=gs) (fs:=fs) (name:=name) (params:=params) (blocks:=blocks) (ah:=ah) h5 ym.ok hr v.1 v.2) ?_;rintro _ h6⟨rfl,g6⟩;by_cases vB:Ez ag v.1 v.2=0
     .simp[f2,f34,f35,f36,vB,wj];exact⟨x.args.length-(j+1),by omega,j+1,rfl,by omega,⟨T_,Cm⟩,by simp,ym.trans g6,hv.take hx (yJ vB)⟩
     .have:=tv vB;simp[this];exact⟨ym.trans g6,_,rfl,fun h=>absurd h vB⟩
    .have:j=x.args.length:=by omega
     subst this;rw[xK] at hv;simp[f35,f36];exact⟨g4,0,rfl,fun _=>⟨hv,by omega⟩⟩
   .have e1:((A.l:Int) !=f.params)=true:=tv xh;simp[hk,hX,H0,qi,aB,aq hX,aq H0,pc,rf,e1,-ae];exact⟨aS ok,9,rfl,fun h=>by cases h⟩
  .have hd:(decide (0<=x.fn)&&decide (x.fn<=(fs.l:Int)-1))=false:=by simpa using Sx
   simp[hd];exact⟨.refl ok,3,rfl,fun h=>by cases h⟩
end
def Qt:ak:=(G_ [o_ 81 (.tX 205 [t_ 2,t_ 3]),o_ 82 (.tX 206 [t_ 2,t_ 3]),o_ 83 (.tX 207 [t_ 6,t_ 3,t_ 2]),o_ 84 (.gC 3 [.nilFunc,.nilFunc,.nilFunc] [(0,(1,(t_ 81))),(1,(1,(t_ 82))),(2,(1,(t_ 83)))]),F_ 85 204 [t_ 84],m_ 4 85] .ret)
theorem acM:KL=.seq (G_ [f_ 63 0 5,l_ 64 63,m_ 65 64,q_ 66 65 true (.load none (t_ 6)),q_ 67 65 true (.mv (t_ 66)),q_ 68 67 true (.ee 1 (t_ 3)),q_ 69 67 true (.load none (t_ 68)),q_ 70 67 true (.bin .eql [1] (t_ 69) (.const (.int .i64 (Int.negSucc 0)))),q_ 71 65 true (.pick (t_ 67) (t_ 70) (b_ false)),q_ 72 65 true (.un .not (t_ 71)),o_ 73 (.pick (t_ 65) (t_ 72) (b_ false))] (I_ 73 (G_ [L_ 74 7 2,f_ 75 1 3,l_ 76 75,F_ 77 203 [t_ 74,t_ 76],m_ 7 77] (G_ [m_ 78 7,o_ 79 (.bin .neq [1] (t_ 78) (i_ 0))] (I_ 79 (G_ [m_ 80 7,m_ 4 80] .ret) .skip))) .skip)) Qt:=rfl
structure AW(ag:Int)(x:GI):Prop where
 op:1<=x.op/\x.op<=22
 form:bz (cN x.op) x x.args.length=false
 dst:(cN x.op).1=true->¬(x.op=20/\x.dst= -1)->xi ag x.dst
 a:ub ag x.a
 b:ub ag x.b
 args:x.op=20->pO ag x.args/\x.args.length<=6
section
variable{gs fs blocks ah:SV}{name:ByteArray}{params ag:Int}
def ai6(ag:Int)(x:GI)(c:Int):Prop:=c=0->((cN x.op).1=true->¬(x.op=20/\x.dst= -1)->xi ag x.dst)/\ub ag x.a/\ub ag x.b/\(x.op=20->pO ag x.args/\x.args.length<=6)
theorem Yy(ok:bl h)(hr:0<=ag/\ag<1000000){x:GI}{A:SV}(hK:h.tr.get K=some (.aC [.bool (x.op==20)] false 0 s3))(hX:h.tr.get X=some (.aC (aK x.op x.dst x.a.1 x.a.2 x.b.1 x.b.2 x.fn A.v) false 0 s2))(hC:h.tr.get C=some (.aC (aP gs fs name params ag blocks ah) false 0 s1)){funcs:List GF}(hF:SliceR (fR h) 4 h fs.v funcs)(mV:funcs.length<1000000/\∀f∈funcs,f.params<=6)(hA:SliceR vR 2 h A.v x.args)(cj:x.args.length<140737488355329){b s:Nat}(hb:h.tr.get b=some (.aC [.func (.func iu) #[] #[.pointer (some ⟨C,0,none⟩),.pointer (some ⟨X,0,none⟩)],.func (.func iv) #[] #[.pointer (some ⟨C,0,none⟩),.pointer (some ⟨X,0,none⟩)],.func (.func iw) #[] #[.pointer (some ⟨K,0,none⟩),.pointer (some ⟨X,0,none⟩),.pointer (some ⟨C,0,none⟩)]] false 0 s)):aE FF vX [.slice (some ⟨b,0,none⟩) 3 3] h (u7 (fun c=>c=0->ub ag x.a/\ub ag x.b/\(x.op=20->pO ag x.args/\x.args.length<=6)) h):=by
 have F:=aa4 (P1:=fun c=>c=0->ub ag x.a) (P2:=fun c=>c=0->ub ag x.b) (P3:=fun c=>c=0->(x.op==20)=true->pO ag x.args/\x.args.length<=6) ok hb (fun h1 g=>by
  refine cP.func ?_;have:=UD g.ok hr (g.get ok hC) (g.get ok hX);refine aE.mono (by simpa using this) ?_;rintro v h'⟨rfl,g'⟩;exact⟨g',_,rfl,fun h=>yJ h⟩) (fun h1 g=>by
  refine cP.func ?_;have:=UE g.ok hr (g.get ok hC) (g.get ok hX);refine aE.mono (by simpa using this) ?_;rintro v h'⟨rfl,g'⟩;exact⟨g',_,rfl,fun h=>yJ h⟩) (fun h1 g=>by
  refine cP.func ?_;have:=UG g.ok hr (g.get ok hK) (g.get ok hX) (g.get ok hC) (hF.mono ok g fun _ _ r=>r.mono ok g) mV (hA.mono ok g fun _ _ h=>h) cj;simpa using this)
 refine F.mono ?_;rintro v h'⟨g,c,rfl,hc⟩;exact⟨g,c,rfl,fun h=>⟨(hc h).1 rfl,(hc h).2.1 rfl,fun e=>(hc h).2.2 rfl (by simp[e])⟩⟩
theorem YA(ok:bl h)(hr:0<=ag/\ag<1000000){C X K S s1 s2 s3 s4:Nat}{x:GI}{A:SV}(hK:h.tr.get K=some (.aC [.bool (x.op==20)] false 0 s3))(hX:h.tr.get X=some (.aC (aK x.op x.dst x.a.1 x.a.2 x.b.1 x.b.2 x.fn A.v) false 0 s2))(hC:h.tr.get C=some (.aC (aP gs fs name params ag blocks ah) false 0 s1))(hS:h.tr.get S=some (.aC [.bool (cN x.op).1,.bool (cN x.op).2.1,.bool (cN x.op).2.2] false 0 s4)){funcs:List GF}(hF:SliceR (fR h) 4 h fs.v funcs)(mV:funcs.length<1000000/\∀f∈funcs,f.params<=6)(hA:SliceR vR 2 h A.v x.args)(cj:x.args.length<140737488355329)(f2:ai e 2=.pointer (some ⟨C,0,none⟩))(f3:ai e 3=.pointer (some ⟨X,0,none⟩))(f5:ai e 5=.pointer (some ⟨S,0,none⟩))(f6:ai e 6=.pointer (some ⟨K,0,none⟩))(H:∀c e' h',aa aG h h'->ai e' 4=.int .i64 c->ai6 ag x c->QQ .ret e' h'):az FF KL e h QQ:=by
 have fin:∀(h5:ab)(e5:Env),aa aG h h5->ai e5 2=.pointer (some ⟨C,0,none⟩)->ai e5 3=.pointer (some ⟨X,0,none⟩)->ai e5 6=.pointer (some ⟨K,0,none⟩)->((cN x.op).1=true->¬(x.op=20/\x.dst= -1)->xi ag x.dst)->az FF Qt e5 h5 QQ:=by
  intro h5 e5 g5 q2 q3 q6 hd;unfold Qt;simp[q2,q3,q6];refine aF.cut (fun h7=>aa aG h5 h7/\h7.tr.get h5.next=some (.aC [.func (.func iu) #[] #[.pointer (some ⟨C,0,none⟩),.pointer (some ⟨X,0,none⟩)],.func (.func iv) #[] #[.pointer (some ⟨C,0,none⟩),.pointer (some ⟨X,0,none⟩)],.func (.func iw) #[] #[.pointer (some ⟨K,0,none⟩),.pointer (some ⟨X,0,none⟩),.pointer (some ⟨C,0,none⟩)]] false 0 0)) ?_ ?_
  .exact⟨(aa.refl g5.ok).new _ _,by simp⟩
  rintro h7⟨g7,hB7⟩;have gg:=g5.trans g7;refine aF.call (V:=u7 (fun c=>c=0->ub ag x.a/\ub ag x.b/\(x.op=20->pO ag x.args/\x.args.length<=6)) h7) (by simpa using Yy gg.ok hr (gg.get ok hK) (gg.get ok hX) (gg.get ok hC) (hF.mono ok gg fun _ _ r=>r.mono ok gg) mV (hA.mono ok gg fun _ _ h=>h) cj hB7) ?_;rintro _ h8⟨g8,c,rfl,hc⟩;simp;exact H c _ _ (gg.trans g8) (by simp) (fun h=>⟨hd,hc h⟩)
 rw[acM];have nt:=hX;simp[aK] at nt;cases hsd:(cN x.op).1 with
 |false=>
  rw[hsd] at hS;simp[f5,hS];refine fin h _ (.refl ok) (by simp[f2]) (by simp[f3]) (by simp[f6]) (fun h=>by rw[hsd] at h;cases h)
 |true=>
  rw[hsd] at hS;have after:∀e5,ai e5 2=.pointer (some ⟨C,0,none⟩)->ai e5 3=.pointer (some ⟨X,0,none⟩)->ai e5 6=.pointer (some ⟨K,0,none⟩)->ai e5 76=.int .i64 x.dst->ai e5 74=.agg ⟨aP gs fs name params ag blocks ah⟩->True:=fun _ _ _ _ _ _=>trivial;cases hc:(x.op==20) with
  |true=>
   rw[hc] at hK;cases hd:(x.dst== -1) with
   |true=>
    simp[f5,f6,f3,hS,hK,nt,hd];refine fin h _ (.refl ok) (by simp[f2]) (by simp[f3]) (by simp[f6]) (fun _ h=>absurd ⟨by simpa using hc,by simpa using hd⟩ h)
   |false=>
    simp[f5,f6,f3,f2,hS,hK,nt,hd,hC,aP];refine aF.call (by simpa [aP] using FI (gs:=gs) (fs:=fs) (name:=name) (params:=params) (blocks:=blocks) (ah:=ah) h ok hr x.dst) ?_;rintro _ h3⟨rfl,g3⟩;by_cases OQ:Kn ag x.dst=0
    .simp[OQ];exact fin h3 _ g3 (by simp[f2]) (by simp[f3]) (by simp[f6]) (fun _ _=>Ko OQ)
    .have:=tv OQ;simp[this];exact H _ _ _ g3 (by simp) (fun h=>absurd h OQ)
  |false=>
   rw[hc] at hK;simp[f5,f6,f3,f2,hS,hK,nt,hC,aP];refine aF.call (by simpa [aP] using FI (gs:=gs) (fs:=fs) (name:=name) (params:=params) (blocks:=blocks) (ah:=ah) h ok hr x.dst) ?_;rintro _ h3⟨rfl,g3⟩;by_cases OQ:Kn ag x.dst=0
   .simp[OQ];exact fin h3 _ g3 (by simp[f2]) (by simp[f3]) (by simp[f6]) (fun _ _=>Ko OQ)
   .have:=tv OQ;simp[this];exact H _ _ _ g3 (by simp) (fun h=>absurd h OQ)
theorem Yx(ok:bl h)(hr:0<=ag/\ag<1000000){x:GI}{A:SV}{funcs:List GF}(hF:SliceR (fR h) 4 h fs.v funcs)(mV:funcs.length<1000000/\∀f∈funcs,f.params<=6)(hA:SliceR vR 2 h A.v x.args)(cj:x.args.length<140737488355329):aE FF tm [.agg ⟨aP gs fs name params ag blocks ah⟩,.agg ⟨aK x.op x.dst x.a.1 x.a.2 x.b.1 x.b.2 x.fn A.v⟩] h (u7 (fun c=>c=0->AW ag x) h):=by
 have Cm:=SliceR.len hA;refine aE.of zV ?_;unfold si;simp[aP,aK];refine aF.cut (fun h2=>aa aG h h2/\h2.tr.get h.next=some (.aC (aP gs fs name params ag blocks ah) false 0 0)/\h2.tr.get (h.next+1)=some (.aC (aK x.op x.dst x.a.1 x.a.2 x.b.1 x.b.2 x.fn A.v) false 0 0)) ?_ ?_
 .exact⟨((aa.refl ok).new _ _).new _ _,by simp[aP],by simp[aK]⟩
 rintro h2⟨g2,qZ,ef⟩;refine aF.call (by simpa using gq h2 x.op 1 22) ?_;rintro _ LN⟨rfl,he⟩;rw[he];by_cases Aq:1<=x.op/\x.op<=22
 .have hd:(decide (1<=x.op)&&decide (x.op<=22))=true:=by simpa using Aq
  have CB:=ef;simp[aK] at CB;rw[hd];simp[CB];refine aF.call (by simpa using D1 h2 g2.ok x.op) ?_;rintro _ h3⟨rfl,g3⟩;have dw:=g2.trans g3;have I0:=g3.get g2.ok qZ;have iO:=g3.get g2.ok ef;have oX3:=dw.ok.bE iO;have oC3:=dw.ok.bE I0;have CD:=iO;simp[aK] at CD;simp[CD,oX3];refine aF.cut (fun h4=>aa aG h3 h4/\(∃s,h4.tr.get h3.next=some (.aC [.bool (cN x.op).1,.bool (cN x.op).2.1,.bool (cN x.op).2.2] false 0 s))/\∃s,h4.tr.get (h3.next+1)=some (.aC [.bool (x.op==20)] false 0 s)) ?_ ?_
  .exact⟨((((aa.refl dw.ok).new _ _).put ⟨0,by simp⟩ (.inl (by omega))).new _ _).put ⟨0,by simp⟩ (.inl (by omega)),⟨h3.clock,by simp⟩,⟨h3.clock+1,by simp⟩⟩
  rintro h4⟨g4,⟨s4,hS4⟩,⟨s5,hK4⟩⟩;have oE:=dw.trans g4;have Ua:=g4.get dw.ok I0;have vS:=g4.get dw.ok iO;refine abN (x:=x) (s:=cN x.op) vS hS4 hK4 (by simp) (by simp) (by simp) ?_;intro e5 q2 q3 q5 q6 Vl;simp at q2 q3 q5 q6;cases hfb:bz (cN x.op) x A.l with
  |true=>
   rw[hfb] at Vl;simp[Vl];exact⟨oE,5,rfl,fun h=>by cases h⟩
  |false=>
   rw[hfb] at Vl;simp[Vl];refine YA oE.ok hr hK4 vS Ua hS4 (hF.mono ok oE fun _ _ r=>r.mono ok oE) mV (hA.mono ok oE fun _ _ h=>h) cj q2 q3 q5 q6 ?_;intro c e' h' g' q4 hT;simp[q4];refine⟨oE.trans g',c,rfl,fun h=>?_⟩;obtain⟨t1,t2,t3,t4⟩:=hT h;exact⟨Aq,by rw[<-Cm];exact hfb,t1,t2,t3,t4⟩
 .have hd:(decide (1<=x.op)&&decide (x.op<=22))=false:=by simpa using Aq
  rw[hd];simp;exact⟨g2,4,rfl,fun h=>by cases h⟩
end
set_option maxRecDepth 100000
theorem ag1:RS Tryz.prog (tP Tryz.prog) 218:=by obtain⟨ei,yY⟩:=Option.isSome_iff_exists.mp (show(tP Tryz.prog 44).isSome=true by kernel_rfl);exact⟨Tryz.f218,59,44,{ u:=.slice 44,size:=1,bytes:=24,zero:=[.slice none 0 0],agg:=false },ei,Tryz.func218,by kernel_rfl,by kernel_rfl,by kernel_rfl,by kernel_rfl,by kernel_rfl,by kernel_rfl,rfl,yY⟩
theorem aef:Hx Tryz.prog (tP Tryz.prog) 1 (eI (tP Tryz.prog) 1) FF0:=RE (PX T1) ag1
theorem aaK:FF0 166=some ⟨[.tmp 6],uk [.bool false,.int .i64 0] 2 16 218 219,.no⟩:=by kernel_rfl
theorem aiN:Hx Tryz.prog (tP Tryz.prog) 1 (eI (tP Tryz.prog) 1) FF:=
 Oy aef (Oq _) aaK (fov:=⟨[],.bad,.Q1⟩) rfl rfl rfl (by decide) (by decide)
end Go.Proofs.YtdhnndleffachaaGreatDoor
namespace Go.AI.Edge
variable{i u:Nat}{out:List (List Int)}{t x:Int}
def uH(out:List (List Int))(i:Nat)(t:Int):List (List Int):=out.set t.toNat (((out[t.toNat]?).getD [])++[(i:Int)])
def jX(out:List (List Int))(i:Nat)(ts:List Int):List (List Int):=ts.foldl (fun o t=>uH o i t) out
def upto(n:Nat)(dD:List (List Int)):Nat->List (List Int)
 |0=>List.replicate n []
 |k+1=>match dD[k]? with
  |some ts=>jX (upto n dD k) k ts
  |none=>upto n dD k
def bp(dD:List (List Int)):List (List Int):=upto dD.length dD dD.length
theorem Fi(out:List (List Int))(i:Nat)(t:Int):(uH out i t).length=out.length:=by simp[uH]
theorem B1(i:Nat):∀(ts:List Int)(out:List (List Int)),(jX out i ts).length=out.length
 |[],_=>rfl
 |t::ts,out=>by show(jX (uH out i t) i ts).length=_;rw[B1 i ts,Fi]
theorem qg(n:Nat)(dD:List (List Int)):∀k,(upto n dD k).length=n
 |0=>by simp[upto]
 |k+1=>by
  unfold upto;cases dD[k]? with
  |none=>exact qg n dD k
  |some ts=>exact(B1 k ts _).trans (qg n dD k)
theorem cR(dD:List (List Int)):(bp dD).length=dD.length:=qg _ _ _
theorem JD{ts:List Int}{j:Nat}(h:ts[j]?=some t):jX out i (ts.take (j+1))=uH (jX out i (ts.take j)) i t:=by unfold jX;rw[yS,h,List.foldl_append];rfl
theorem YO(ht:t.toNat<out.length):x∈((uH out i t)[u]?).getD []↔(x∈(out[u]?).getD []\/(u=t.toNat/\x=i)):=by
 unfold uH;rw[eu];by_cases e:t.toNat=u
 .subst e;rw[aY rfl,aY ht];simp
 .rw[bc e];constructor
  .exact .inl
  .rintro(h|⟨h,_⟩)
   .exact h
   .exact absurd h.symm e
theorem NB{i:Nat}{u:Nat}{x:Int} :∀ {ts:List Int} {out:List (List Int)},(∀t∈ts,t.toNat<out.length)->(x∈((jX out i ts)[u]?).getD []↔(x∈(out[u]?).getD []\/(x=i/\∃t∈ts,u=t.toNat)))
 |[],out,_=>by simp[jX]
 |t::ts,out,h=>by
  show x∈((jX (uH out i t) i ts)[u]?).getD []↔_;rw[NB (ts:=ts) (out:=uH out i t) (fun u hu=>by rw[Fi];exact h u (EE _ hu)),YO (h t (Dq ..))];constructor
  .rintro((h|⟨h,k⟩)|⟨k,t',AP,h⟩)
   .exact .inl h
   .exact .inr ⟨k,t,Dq ..,h⟩
   .exact .inr ⟨k,t',EE _ AP,h⟩
  .rintro(h1|⟨k,t',AP,h1⟩)
   .exact .inl (.inl h1)
   .rcases List.mem_cons.1 AP with e|AP
    .exact .inl (.inr ⟨by rw[h1,e],k⟩)
    .exact .inr ⟨k,t',AP,h1⟩
theorem Gv{n:Nat}{dD:List (List Int)}(h:∀ts∈dD,∀t∈ts,t.toNat<n){u:Nat}{x:Int} :∀k,x∈((upto n dD k)[u]?).getD []↔ ∃i:Nat,i<k/\x=i/\∃ts,dD[i]?=some ts/\∃t∈ts,u=t.toNat
 |0=>by
  constructor
  .intro hx;unfold upto at hx;rw[T7] at hx;split at hx<;>simp at hx
  .rintro⟨i,hi,_⟩;omega
 |k+1=>by
  unfold upto;cases hk:dD[k]? with
  |none=>
   dsimp only;rw[Gv h k];constructor
   .rintro⟨i,hi,r⟩;exact⟨i,by omega,r⟩
   .rintro⟨i,hi,hx,ts,ht,r⟩;by_cases e:i=k
    .subst e;rw[hk] at ht;cases ht
    .exact⟨i,by omega,hx,ts,ht,r⟩
  |some ts=>
   dsimp only;rw[NB (fun t ht=>by rw[qg];exact h ts (bU hk) t ht),Gv h k];constructor
   .rintro(⟨i,hi,r⟩|⟨hx,t,ht,hu⟩)
    .exact⟨i,by omega,r⟩
    .exact⟨k,by omega,hx,ts,hk,t,ht,hu⟩
   .rintro⟨i,hi,hx,EX,AP,r⟩;by_cases e:i=k
    .subst e;rw[hk] at AP;cases AP;exact .inr ⟨hx,r⟩
    .exact .inl ⟨i,by omega,hx,EX,AP,r⟩
theorem mL{dD:List (List Int)}(h:∀ts∈dD,∀t∈ts,t.toNat<dD.length) :x∈((bp dD)[u]?).getD []↔ ∃i:Nat,x=i/\∃ts,dD[i]?=some ts/\∃t∈ts,u=t.toNat:=by
 unfold bp;rw[Gv h];constructor
 .rintro⟨i,_,r⟩;exact⟨i,r⟩
 .rintro⟨i,hx,ts,ht,r⟩;exact⟨i,(bK.mp ht).1,hx,ts,ht,r⟩
theorem YH(out:List (List Int))(i:Nat)(t:Int)(u:Nat):(((uH out i t)[u]?).getD []).length<=((out[u]?).getD []).length+1:=by
 unfold uH;rw[eu];by_cases e:t.toNat=u
 .subst e;rw[aY rfl];split
  .simp
  .simp
 .rw[bc e];omega
theorem BE(i u:Nat):∀(ts:List Int)(out:List (List Int)),(((jX out i ts)[u]?).getD []).length<=((out[u]?).getD []).length+ts.length
 |[],out=>by simp[jX]
 |t::ts,out=>by have h1:=BE i u ts (uH out i t);have h2:=YH out i t u;show(((jX (uH out i t) i ts)[u]?).getD []).length<=_;simp only[List.length_cons];omega
theorem p9{n:Nat}{dD:List (List Int)}(h:∀ts∈dD,ts.length<=2)(u:Nat):∀k,(((upto n dD k)[u]?).getD []).length<=2*k
 |0=>by unfold upto;rw[T7];split<;>simp
 |k+1=>by
  have ih:=p9 (n:=n) h u k;unfold upto;cases hk:dD[k]? with
  |none=>dsimp only;omega
  |some ts=>
   dsimp only;have:=BE k u ts (upto n dD k);have:=h ts (bU hk);omega
end Go.AI.Edge
