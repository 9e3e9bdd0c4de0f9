/- Parts of the proof. -/
import Derived.Test.YtdhnndleffachaaGreatDoorP05
set_option linter.all false
namespace Go.Proofs.YtdhnndleffachaaGreatDoor
open Go.AI
variable{F G:SV}{QQ:aO->Env->ab->Prop}{R1 R2 U i sU:Nat}{bs:List GB}{e:Env}{fs:List GF}{fv v:Value}{gs:List GG}{h h0:ab}{r:XR}
section
variable{f:GF}{rs:List XR}
theorem Pd.at(R:Pd rs bs)(h:rs[i]?=some r):∃b,bs[i]?=some b/\RD r b:=by obtain⟨b,hb⟩:=ay bs i (by rw[<-R.1];exact(bK.mp h).1);exact⟨b,hb,R.2 i r b h hb⟩
theorem Pd.mem(R:Pd rs bs)(h:r∈rs):∃b∈bs,RD r b:=by obtain⟨i,hi⟩:=oD h;obtain⟨b,hb,rd⟩:=R.at hi;exact⟨b,bU hb,rd⟩
theorem Pd.ts(R:Pd rs bs):bx rs=bt bs:=by
 refine yT fun i=>?_;unfold bx bt;rw[tV,tV];rcases Ae i rs.length with hi|hi
 .obtain⟨r,hr⟩:=ay rs i hi;obtain⟨b,hb,rd⟩:=R.at hr;rw[hr,hb];simp only[EF];rw[rd.to]
 .rw[qY hi,qY (by rw[<-R.1];exact hi)];rfl
theorem Pd.map{bs:List GB}(R:Pd rs bs)(p:XR->Nat)(q:GB->Nat)(h:∀r b,RD r b->p r=q b):rs.map p=bs.map q:=by
 refine yT fun i=>?_;rw[tV,tV];rcases Ae i rs.length with hi|hi
 .obtain⟨r,hr⟩:=ay rs i hi;obtain⟨b,hb,rd⟩:=R.at hr;rw[hr,hb];simp only[EF];rw[h r b rd]
 .rw[qY hi,qY (by rw[<-R.1];exact hi)];rfl
theorem CP:∀(bs:List GB),gY bs=(bs.map fun b=>b.dk.length+b.list.length).sum
 |[]=>rfl
 |b::bs=>by simp only[gY,IV,OI];rw[CP bs]
theorem S_{q:XI}{p:GI}(h:Iu q p):shX q=shG p:=by obtain⟨c1,c2,c3,c4,c5⟩:=h;unfold shX shG;rw[c1,c3,c4]
theorem Xc(R:Pd rs bs)(φ:Sh->Bool):gO φ rs=FD φ bs:=by
 unfold gO FD;rw[R.map (fun r=>jG φ r.ls) (fun b=>MG φ b.list) (fun r b rd=>?_)];rw[Bp];unfold MG;have:r.ls.map shX=b.list.map shG:=by
  refine yT fun i=>?_;rw[tV,tV];rcases Ae i r.ls.length with hi|hi
  .obtain⟨q,hq⟩:=ay r.ls i hi;obtain⟨p,hp⟩:=ay b.list i (by rw[<-rd.ll];exact hi);rw[hq,hp];simp only[EF];rw[S_ (rd.ls i q p hq hp).1]
  .rw[qY hi,qY (by rw[<-rd.ll];exact hi)];rfl
 rw[this,List.filter_map,gU_];rfl
theorem acN(F:mY f)(L:E8 f)(S:tZ f.blocks)(R:Pd rs f.blocks):TF rs:=by
 have hb:=F.head.blocks;have hl:rs.length=f.blocks.length:=R.1;have hE:=F.body.ends;have tin:∀b∈f.blocks,∀t∈b.to,1<=t/\t<(f.blocks.length:Int):=fun b hb t ht=>by have:=(hE b hb).to t ht;unfold acO at this;omega
 have ot:=R.ts;have ku:(bx rs).length=rs.length:=ck rs;have abw:∀ts∈bx rs,∀t∈ts,t.toNat<(bx rs).length:=by intro ts h t ht;obtain⟨r,hr,rfl⟩:=j_.1 h;obtain⟨b,Wa,rd⟩:=R.mem hr;rw[rd.to] at ht;have:=tin b Wa t ht;omega
 have two:∀ts∈bx rs,ts.length<=2:=fun ts h=>by obtain⟨r,hr,rfl⟩:=j_.1 h;obtain⟨b,Wa,rd⟩:=R.mem hr;rw[rd.to];rcases(hE b Wa).kind with⟨_,e⟩|⟨_,t,e⟩|⟨_,t,u,e,_⟩<;>rw[e]<;>simp
 refine⟨⟨by omega,by have:=L.1;omega,fun r hr=>?_,fun r hr t ht=>?_,fun k r hr q hq=>?_,?_,fun r hr x hx=>?_,fun k hk=>?_⟩,fun k r hr=>.inl ?_⟩
 .obtain⟨b,Wa,rd⟩:=R.mem hr;unfold Ts;rw[rd.kind,rd.to];rcases(hE b Wa).kind with h|h|⟨h,t,u,e,_⟩
  .exact .inl h
  .exact .inr (.inl h)
  .exact .inr (.inr ⟨h,t,u,e⟩)
 .obtain⟨b,Wa,rd⟩:=R.mem hr;rw[rd.to] at ht;rw[hl];exact tin b Wa t ht
 .obtain⟨b,cC,rd⟩:=R.at hr;obtain⟨m,hm⟩:=oD hq;obtain⟨p,hp⟩:=ay b.dk m (by rw[<-rd.pl];exact(bK.mp hm).1);obtain⟨_,e2⟩:=rd.ps m q p hm hp;obtain⟨_,l,uO,ph⟩:=(F.body.Mh k b cC).dk p (bU hp);rw[<-ot] at uO;rw[e2,ph.len,Edge.rH abw uO,ku]
 .rw[R.map eT (fun b=>b.dk.length+b.list.length) (fun r b rd=>by simp only[eT];rw[rd.pl,rd.ll]),<-CP];have:=F.head.many;omega
 .obtain⟨b,Wa,rd⟩:=R.mem hr;obtain⟨m,hm⟩:=oD hx;obtain⟨p,hp⟩:=ay b.list m (by rw[<-rd.ll];exact(bK.mp hm).1);rw[(rd.ls m x p hm hp).2];obtain⟨j,hj⟩:=oD Wa;have:=(yu ((F.body.Mh j b hj).list p (bU hp))).2;omega
 .have h1:=Edge.p9 (n:=(bx rs).length) (dD:=bx rs) two k (bx rs).length;obtain⟨ps,iT⟩:=ay (Edge.bp (bx rs)) k (by rw[Edge.cR,ku];exact hk);have h2:((Edge.upto (bx rs).length (bx rs) (bx rs).length)[k]?).getD []=ps:=by show((Edge.bp (bx rs))[k]?).getD []=ps;rw[iT];rfl
  rw[h2] at h1;have h3:=Edge.rH abw iT;rw[ku] at h3;rw[<-h3];have:=L.1;omega
 .have pc:=(bK.mp hr).1;have e1:qG f.blocks=Edge.vZ (bx rs):=by rw[ot];simp[qG,bt,Edge.vZ]
  rw[<-Edge.NV (by omega) abw k];have hS:f.blocks.length<=(Dfs.mO (Edge.vZ (bx rs)) (bx rs).length).length:=by unfold tZ qQ at S;rw[e1,gU_] at S;rw[ku,hl];exact S
  obtain⟨nd,lt,_⟩:=Dfs.yD (dD:=Edge.vZ (bx rs)) (n:=(bx rs).length) (by omega) (fun b t ht=>by obtain⟨ts,u,h1,h2,rfl⟩:=Edge.B6 ht;exact abw ts (bU h1) u h2)
  by_cases hk:k∈Dfs.mO (Edge.vZ (bx rs)) (bx rs).length
  .exact hk
  .have h1:(k::Dfs.mO (Edge.vZ (bx rs)) (bx rs).length).Nodup:=List.nodup_cons.2 ⟨hk,nd⟩;have h2:=gK_ h1 (l₂:=List.range (bx rs).length) (fun x hx=>by
    rcases List.mem_cons.1 hx with rfl|hx
    .exact PY.2 (by rw[ku];exact pc)
    .exact PY.2 (lt x hx))
   simp only[List.length_cons,List.length_range] at h2;rw[ku] at h2 hS;omega
theorem amL(F:mY f){l:List Int}(h:(Edge.bp (bt f.blocks))[i]?=some l):l.length<=80:=by
 have h1:=Edge.p9 (n:=(bt f.blocks).length) (dD:=bt f.blocks) (fun ts ot=>by obtain⟨b,hb,rfl⟩:=j_.1 ot;rcases(F.body.ends b hb).kind with⟨_,e⟩|⟨_,t,e⟩|⟨_,t,u,e,_⟩<;>rw[e]<;>simp) i (bt f.blocks).length
 have h2:((Edge.upto (bt f.blocks).length (bt f.blocks) (bt f.blocks).length)[i]?).getD []=l:=by show((Edge.bp (bt f.blocks))[i]?).getD []=l;rw[h];rfl
 rw[h2] at h1;have h3:(bt f.blocks).length=f.blocks.length:=by simp[bt]
 have:=F.head.blocks;omega
theorem Yw(F:mY f):∀b∈f.blocks,InB f.ag.toNat b:=by
 intro b hb;obtain⟨i,hi⟩:=oD hb;have B:=F.body.Mh i b hi;have s:=F.sm b hb;have hr:=F.head.ag;have hp:=F.head.params;have E:=F.body.ends b hb;refine⟨by have:=s.ph;have:=pf hb;have:=F.head.many;omega,by have:=pf hb;have:=F.head.many;omega,?_,fun p hp2=>?_,fun x hx=>?_,fun h=>?_⟩
 .rcases E.kind with⟨_,h⟩|⟨_,t,h⟩|⟨_,t,u,h,_⟩<;>rw[h]<;>simp
 .obtain⟨_,l,hl,ph⟩:=B.dk p hp2;have:=ph.dst;unfold xi at this;have:=ph.len;have:=amL F hl;exact⟨by omega,by omega,fun v hv=>Ct (ph.row v hv)⟩
 .have I:=B.list x hx;have:=(yu I).2;refine⟨?_,Ct I.a,Ct I.b,by omega,fun v hv=>Ct (Np I v hv)⟩;rcases SK I with h|h
  .omega
  .unfold xi at h;omega
 .have:=E.on h;omega
end
structure XG where
 name:ByteArray
 size:Int
 I:SV
def FJ:Enc XG:=⟨fun x=>[.string x.name,.int .i64 x.size,x.I.v],3,fun _=>rfl,by decide,fun _=>rfl⟩
@[simp] theorem anc:FJ.sz=3:=rfl
@[simp] theorem ajq(x:XG):FJ.enc x=[.string x.name,.int .i64 x.size,x.I.v]:=rfl
structure XF where
 name:ByteArray
 params:Int
 ag:Int
 B:SV
def Bs:Enc XF:=⟨fun x=>aj x.name x.params x.ag x.B,4,fun _=>rfl,by decide,fun _=>rfl⟩
@[simp] theorem anh:Bs.sz=4:=rfl
@[simp] theorem aju(x:XF):Bs.enc x=[.string x.name,.int .i64 x.params,.int .i64 x.ag,x.B.v]:=rfl
def ac1(h:ab)(y:XG)(g:GG):Prop:=y.name=g.name/\y.size=g.size/\SliceR nR 1 h y.I.v g.init
theorem ajD(s:SliceR (gR h) 3 h v gs):∃ys:List XG,ys.length=gs.length/\aL FJ h v ys/\∀(i:Nat)(y:XG)(g:GG),ys[i]?=some y->gs[i]?=some g->ac1 h y g:=
 SliceR.pick (E:=FJ) (Q:=ac1 h) s (fun c x ⟨I,e,hI⟩=>⟨⟨x.name,x.size,I⟩,e,rfl,rfl,hI⟩)
def RY(h:ab)(y:XF)(f:GF):Prop:=y.name=f.name/\y.params=f.params/\y.ag=f.ag/\yM h y.B f.blocks
theorem ajB(s:SliceR (fR h) 4 h v fs):∃ys:List XF,ys.length=fs.length/\aL Bs h v ys/\∀(i:Nat)(y:XF)(f:GF),ys[i]?=some y->fs[i]?=some f->RY h y f:=
 SliceR.pick (E:=Bs) (Q:=RY h) s (fun c x ⟨B,e,hB⟩=>⟨⟨x.name,x.params,x.ag,B⟩,e,rfl,rfl,rfl,hB⟩)
def Ma(ys:List XG)(gs:List GG):Prop:=ys.length=gs.length/\∀(i:Nat)(y:XG)(g:GG),ys[i]?=some y->gs[i]?=some g->y.name=g.name/\y.size=g.size
def aoI(h0 h:ab)(G F f:SV)(U R1 R2:Nat)(fv:Value)(gs:List GG)(m:Nat)(e:Env)(h':ab):Prop:=
 ∃(j:Nat) (ys:List XG),m=gs.length-j/\j<=gs.length/\ai e 1=fv/\ai e 2=.pointer (some ⟨U,0,none⟩)/\ai e 4=.pointer (some ⟨R1,0,none⟩)/\ai e 5=.pointer (some ⟨R2,0,none⟩)/\ai e 15=G.v/\ai e 16=.int .i64 gs.length/\ai e 17=.int .i64 j/\aa (aw G.v) h h'/\fS FJ h' G ys/\Ma ys gs/\∀(i:Nat)(y:XG)(g:GG),j<=i->ys[i]?=some y->gs[i]?=some g->SliceR nR 1 h0 y.I.v g.init
theorem Kq(gL:bl h0)(g0:aa aG h0 h){G F f:SV}{ys:List XG}(hU:h.tr.get U=some (.aC [G.v,F.v] false 0 sU))(nU:¬aw G.v U)(hG:fS FJ h G ys)(hGn:∀b,aw G.v b->h0.next<=b)(Je:Ma ys gs)(hI:∀(i:Nat)(y:XG)(g:GG),ys[i]?=some y->gs[i]?=some g->SliceR nR 1 h0 y.I.v g.init)(hgl:gs.length<=10)(oJ:∀g∈gs,g.init.length<=1048576)(f1:ai e 1=fv)(f2:ai e 2=.pointer (some ⟨U,0,none⟩))(f4:ai e 4=.pointer (some ⟨R1,0,none⟩))(f5:ai e 5=.pointer (some ⟨R2,0,none⟩))(f15:ai e 15=G.v)(f16:ai e 16=.int .i64 gs.length)(f17:ai e 17=.int .i64 0)(C:∀e' h' RJ,ai e' 1=fv->ai e' 2=.pointer (some ⟨U,0,none⟩)->ai e' 4=.pointer (some ⟨R1,0,none⟩)->ai e' 5=.pointer (some ⟨R2,0,none⟩)->aa (aw G.v) h h'->fS FJ h' G RJ->Ma RJ gs->QQ (.exit 0) e' h'):az FF (.loop tK) e h QQ:=by
 have hGl:=hG.len;refine az.loop (aoI h0 h G F f U R1 R2 fv gs) ?_ (n:=gs.length) ⟨0,ys,rfl,by omega,f1,f2,f4,f5,f15,f16,f17,.refl g0.ok,hG,Je,fun i y g _ a b=>hI i y g a b⟩;rintro m e' h'⟨j,zs,rfl,hj,q1,q2,q4,q5,yE,wX,Ha,g,hG',UC,hI'⟩;have cw:=g.ok;have gg:aa aG h0 h':=g0.trans' g (fun _ _ h=>h) (fun x hx e=>by have:=hGn x e;omega);have Am:=g.get g0.ok hU nU;have yo:=Am;simp at yo;have zw:=cw.st _ _ _ _ _ Am;have oU:=cw.bE Am;unfold tK;by_cases aM:j<gs.length
 .have wj:=wrap_i64 ((j:Int)+1) (by omega) (by omega);obtain⟨y,hy⟩:=ay zs j (by rw[UC.1];exact aM);obtain⟨gj,hgj⟩:=ay gs j aM;have sI:=hI' j y gj (dH _) hy hgj;obtain⟨b,cs,o,s,ha,hb,hjA,dV,cS,jh⟩:=hG'.el hy;have ae0:=hG'.len;have rd:=cS 0 3 (by decide);simp[-ae] at rd;rw[ha,ae0,UC.1] at yo;simp at yE;rw[ha,ae0,UC.1] at yE;have nUb:¬U=b:=fun e=>nU (e▸bC ha);simp[q2,yE,wX,Ha,aM,rd,-ae,au,bj,aN,aq yo,oU,aB];refine aZ.cut (fun h2=>aa aG h' h2) (((aa.refl cw).var _ _).tick) ?_;intro h2 g2;have FY:=g2.get cw yo;have vk:=g2.get cw hb;refine aZ.call (V:=qn bg h2 gj.init) (by simpa using iV bg (bytes:=8) jo rfl (by decide) g2.ok ((adW sI).aX gL (gg.trans g2)) (by have:=oJ gj (bU hgj);omega)) ?_;rintro _ h3⟨g3,I',rfl,_,_,_⟩;have V0:=g3.get g2.ok FY;have HC:=g3.get g2.ok vk;have Ar:sU<=h'.clock+1:=by omega
  have hf:=dV 2 1 (by decide);simp at hf;simp[q2,V0,Ar,aM,HC,hf,Ha,wj];have g4:=aJ (off:=j*3+2) (vs:=[Value.slice I'.a I'.l I'.c]) g3.ok HC;have A4:=jh {y with I:=I'} 2 [Value.slice I'.a I'.l I'.c] (by simp) rfl (put h3 b (j*3+2) cs [Value.slice I'.a I'.l I'.c] o) ⟨h3.clock,by simp⟩;refine⟨gs.length-(j+1),by omega,j+1,zs.set j {y with I:=I'},rfl,aM,by simp[q1],by simp[q2],by simp[q4],by simp[q5],by simp[yE,ha,ae0,UC.1],by simp[wX],by simp,((g.trans g2.aX).trans g3.aX).trans (g4.bH (fun x _ e=>e▸bC ha)),A4,⟨by simp[UC.1],fun i a c h1 h2=>?_⟩,fun i a c hi h1 h2=>?_⟩
  .rw[eu] at h1;by_cases e1:j=i
   .subst e1;rw[aY rfl,aY (by rw[UC.1];exact aM)] at h1;cases h1;exact UC.2 j y c hy h2
   .rw[bc e1] at h1;exact UC.2 i a c h1 h2
  .rw[eu,bc (by omega)] at h1;exact hI' i a c (by omega) h1 h2
 .have:j=gs.length:=by omega
  subst this;simp[wX,Ha];exact C _ _ zs (by simp[q1]) (by simp[q2]) (by simp[q4]) (by simp[q5]) g hG' UC
abbrev C4:Type:=GF->Nat->List XR->Prop
def RX(P:Nat->List XR->Prop)(name:ByteArray)(p:Int)(n0:Nat)(κ0:Nat->Nat)(h:ab)(v:Value)(h':ab):Prop:=
 aa (fun x=>κ0 x≠0) h h'/\∃(B':SV) (bD:List XR) (κ cap:Nat->Nat) (ag many:Nat),v=.agg ⟨aj name p many B'⟩/\(∀x,x<h.next->κ x=κ0 x)/\kW h' n0 ag κ cap B' bD/\bD.length<=72/\(∀r∈bD,r.ps.length<=100000/\r.ls.length<=100000)/\P many bD
def AV(M:Nat)(P:C4)(h:ab)(z:XF)(f:GF):Prop:=
 ∃(n0 ag many:Nat) (κ cap:Nat->Nat) (rs:List XR),kW h n0 ag κ cap z.B rs/\(∀x,x<M->κ x=0)/\rs.length<=72/\(∀r∈rs,r.ps.length<=100000/\r.ls.length<=100000)/\(z.name=f.name/\z.params=f.params/\z.ag=many)/\P f many rs
theorem AV.grow{S:Nat->Prop}{M:Nat}{P:C4}{h h':ab}{z:XF}{f:GF}(d:AV M P h z f)(ok:bl h)(g:aa S h h')(hS:∀b,S b->b<M\/h.next<=b):AV M P h' z f:=by
 obtain⟨n0,ag,many,κ,cap,rs,O,HF,a,b,c,d⟩:=d;refine⟨n0,ag,many,κ,cap,rs,O.grow ok g (fun x hx=>?_),HF,a,b,c,d⟩;rcases hS x hx with h1|h1
 .exact HF x h1
 .have hw:=O.os.new x;rcases uM (κ x) with h2|h2
  .exact h2
  .have:=(hw (by omega)).2;omega
structure ac0(f:GF):Prop where
 F:mY f
 L:E8 f
 S:tZ f.blocks
def aoJ(h0 hL:ab)(P:C4)(F:SV)(U R1 R2:Nat)(fv:Value)(fs:List GF)(m:Nat)(e:Env)(h':ab):Prop:=
 ∃(k:Nat) (zs:List XF),m=fs.length-k/\k<=fs.length/\ai e 1=fv/\ai e 2=.pointer (some ⟨U,0,none⟩)/\ai e 4=.pointer (some ⟨R1,0,none⟩)/\ai e 5=.pointer (some ⟨R2,0,none⟩)/\ai e 36=F.v/\ai e 37=.int .i64 fs.length/\ai e 38=.int .i64 k/\aa (aw F.v) hL h'/\fS Bs h' F zs/\zs.length=fs.length/\(∀(i:Nat)(z:XF)(f:GF),i<k->zs[i]?=some z->fs[i]?=some f->AV hL.next P h' z f)/\∀(i:Nat)(z:XF)(f:GF),k<=i->zs[i]?=some z->fs[i]?=some f->RY h0 z f
theorem PT{h0 hL:ab}(gL:bl h0)(g0:aa aG h0 hL){P:C4}{U R1 R2 sU s1 s2:Nat}{zs0:List XF}(hU:hL.tr.get U=some (.aC [G.v,F.v] false 0 sU))(yV:hL.tr.get R1=some (.aC [.slice none 0 0,.slice none 0 0] false 0 s1))(Du:hL.tr.get R2=some (.aC [.int .i64 0,.int .i64 0] false 0 s2))(n12:¬R1=R2)(nU:¬aw F.v U)(nR1:¬aw F.v R1)(nR2:¬aw F.v R2)(hF:fS Bs hL F zs0)(MZ:∀b,aw F.v b->h0.next<=b)(zx:zs0.length=fs.length)(hz:∀(i:Nat)(z:XF)(f:GF),zs0[i]?=some z->fs[i]?=some f->RY h0 z f)(mV:fs.length<=10)(eX:∀f∈fs,ac0 f)(H:∀f∈fs,∀(h:ab)(pn n0 ag:Nat)(κ cap:Nat->Nat)(B:SV)(rs:List XR),bl h->aa (aw F.v) hL h->n0<=h.next->hL.next<=n0->f.params=pn->f.ag=ag->pn<=ag->ag<1000000->kW h n0 ag κ cap B rs->Pd rs f.blocks->cP FF fv [.agg ⟨aj f.name pn ag B⟩] h (RX (P f) f.name pn n0 κ h))(f1:ai e 1=fv)(f2:ai e 2=.pointer (some ⟨U,0,none⟩))(f4:ai e 4=.pointer (some ⟨R1,0,none⟩))(f5:ai e 5=.pointer (some ⟨R2,0,none⟩))(f36:ai e 36=F.v)(f37:ai e 37=.int .i64 fs.length)(f38:ai e 38=.int .i64 0)(bad:∀e' h' a,ai e' 4=.pointer (some ⟨R1,0,none⟩)->ai e' 5=.pointer (some ⟨R2,0,none⟩)->aa (fun b=>aw F.v b\/b=R1\/b=R2) hL h'->(∃s,h'.tr.get R1=some (.aC [.slice none 0 0,.slice none 0 0] false 0 s))->(∃s,h'.tr.get R2=some (.aC [.int .i64 10,.int .i64 a] false 0 s))->QQ .ret e' h')(Ag:∀e' h' zs,ai e' 2=.pointer (some ⟨U,0,none⟩)->ai e' 4=.pointer (some ⟨R1,0,none⟩)->ai e' 5=.pointer (some ⟨R2,0,none⟩)->aa (aw F.v) hL h'->fS Bs h' F zs->zs.length=fs.length->(∀(i:Nat)(z:XF)(f:GF),zs[i]?=some z->fs[i]?=some f->AV hL.next P h' z f)->QQ (.exit 2) e' h'):az FF (.loop tJ) e hL QQ:=by
 have okL:=g0.ok;refine az.loop (aoJ h0 hL P F U R1 R2 fv fs) ?_ (n:=fs.length) ⟨0,zs0,rfl,by omega,f1,f2,f4,f5,f36,f37,f38,.refl okL,hF,zx,fun i z f h=>by omega,fun i z f _ a b=>hz i z f a b⟩;rintro m e' h'⟨k,zs,rfl,hk,q1,q2,q4,q5,q36,Zt,LY,g,u5,Nl,hD,hT⟩;have cw:=g.ok;have ln:=g.next;have gg:aa aG h0 h':=g0.trans' g (fun _ _ h=>h) (fun x hx e=>by have:=MZ x e;omega);have Am:=g.get okL hU nU;have hR1':=g.get okL yV nR1;have hR2':=g.get okL Du nR2;have qi:=u5.len;unfold tJ;by_cases pc:k<fs.length
 .have wk:=wrap_i64 ((k:Int)+1) (by omega) (by omega);obtain⟨z,hzk⟩:=ay zs k;obtain⟨f,hfk⟩:=ay fs k pc;obtain⟨e1,e2,e3,hBs⟩:=hT k z f (dH _) hzk hfk;have K:=eX f (bU hfk);have hr:=K.F.head.ag;have hp:=K.F.head.params;obtain⟨pn,Ql⟩:∃n:Nat,f.params=n:=⟨f.params.toNat,by omega⟩;obtain⟨rn,Yh⟩:∃n:Nat,f.ag=n:=⟨f.ag.toNat,by omega⟩;obtain⟨b,cs,o,s,ha,hb,hjA,dV,cS,jh⟩:=u5.el hzk;have rd:=cS 0 4 (by decide);simp[-ae] at rd;rw[e1,e2,e3,Ql,Yh] at rd;simp at q36;rw[ha,qi,Nl] at q36;simp[q36,Zt,LY,q1,pc,rd,-ae,au];refine aF.cut (fun h2=>aa aG h' h2/\∃s,h2.tr.get h'.next=some (.aC (aj f.name pn rn z.B) false 0 s)) ?_ ?_
  .exact⟨(aa.refl cw).var _ _,h'.clock,by simp[aR,aj]⟩
  rintro h2⟨g2,sX,ef⟩;have jd:=gg.trans g2;have P5:yM h2 z.B f.blocks:=hBs.mono gL jd;have l2:=g2.next;have lX:=g2.ok.wf _ _ ef;refine aF.call (V:=acY f.name pn rn rn f.blocks h2) (by simpa [aj] using TN g2.ok (name:=f.name) (p:=pn) (r:=rn) (ag:=rn) P5 (fun b hb=>by have:=Yw K.F b hb;rw[Yh] at this;simpa using this) (by have:=K.F.head.blocks;omega)) ?_;rintro _ h3⟨g3,B3,rs,κ,cap,rfl,O3,R3⟩;have iO:=g3.get g2.ok ef;have κlo:∀x,x<h2.next->κ x=0:=fun x hx=>by
   have hw:=O3.os.new x;rcases uM (κ x) with h1|h1
   .exact h1
   .have:=(hw (by omega)).1;omega
  have l3:=g3.next;simp[q1];refine aF.cu (V:=RX (P f) f.name pn h2.next κ h3) (by simpa [q1,aj] using H f (bU hfk) h3 pn h2.next rn κ cap B3 rs g3.ok (g.trans (g2.trans g3).aX) (by omega) (by omega) Ql Yh (by omega) (by omega) O3 R3) ?_;rintro _ h4⟨g4,B4,rs4,κ4,apQ,amJ,many,rfl,I9,O4,I8,hs4,hP4⟩;have G4:aa aG h' h4:=(g2.trans g3).trans' g4 (fun _ _ h=>h) (fun x hx e=>e (κlo x (by omega)));have vS:=g4.get g3.ok iO (fun e=>e (κlo _ lX));have Qd:=vS;simp[aj] at Qd;simp[aj,Qd];refine aF.cut (fun h5=>aa (· =h'.next) h4 h5/\∃s,h5.tr.get h'.next=some (.aC [.string f.name,.int .i64 pn,.int .i64 many,.slice B4.a B4.l B4.c] false 0 s)) ?_ ?_
  .exact⟨(aa.refl g4.ok).put ⟨_,Qd⟩ (.inr rfl),h4.clock,by simp⟩
  rintro h5⟨g5,s5,Ao⟩;have κX4:κ4 h'.next=0:=by rw[I9 _ (by omega)];exact κlo _ lX
  have O5:=O4.grow g4.ok g5 (fun x e=>by rw[e];exact κX4);have G5:aa aG h' h5:=G4.trans' g5 (fun _ _ h=>h) (fun x hx e=>by omega);obtain⟨bs5,arh,hV5⟩:=O5.view;have C5:aiJ bs5:=by refine⟨by rw[hV5.1];omega,fun b hb=>?_⟩;obtain⟨i,hi⟩:=oD hb;obtain⟨r,hr⟩:=ay rs4 i (by rw[<-hV5.1];exact(bK.mp hi).1);have v:=hV5.2 i r b hr hi;have:=hs4 r (bU hr);rw[v.pl,v.ll];omega
  refine aF.call (V:=AS h5) (by simpa [aj] using QB g5.ok (name:=f.name) (p:=pn) (r:=many) arh C5) ?_;rintro _ h6⟨g6,big,rfl⟩;have G6:=G5.trans g6;have GL6:aa (aw F.v) hL h6:=g.trans G6.aX;have Uf:=GL6.get okL hU nU;have abj:=GL6.get okL yV nR1;have abk:=GL6.get okL Du nR2;have Ap:=g6.get g5.ok Ao;cases big with
  |true=>
   simp;refine aF.call (by simpa using ko h6 g6.ok 10 (k:Int)) ?_;rintro _ h7⟨rfl,g7⟩;have XD:=g7.get g6.ok abj;have XE:=g7.get g6.ok abk;have n21:¬R2=R1:=fun e=>n12 e.symm;simp[q4,q5,XD,XE,n21];have GL7:aa (fun b=>aw F.v b\/b=R1\/b=R2) hL h7:=(GL6.bH (fun x _ h=>.inl h)).trans g7.aX;refine bad _ _ k (by simp[q4]) (by simp[q5]) ?_ ⟨h7.clock,by simp[n12]⟩ ⟨h7.clock+1,by simp⟩;exact(GL7.put ⟨_,XD⟩ (.inr (.inr (.inl rfl)))).put ⟨s2,by simp[n21,XE]⟩ (.inr (.inr (.inr rfl)))
  |false=>
   have A6:=u5.grow cw G6 (fun _ _ h=>h);obtain⟨b6,cs6,o6,s6,ha6,V3,hjA6,akR,hrd6,alD⟩:=A6.el hzk;rw[ha] at ha6;cases ha6;have Ug:=Uf;simp at Ug;rw[ha,qi,Nl] at Ug;have hf6:=akR 0 4 (by decide);simp at hf6;simp[q2,Ug,Ap,pc,V3,hf6,LY,wk];have lb:b<hL.next:=hF.bE okL (bC ha);have g7:=aJ (off:=k*4) (vs:=[Value.string f.name,Value.int .i64 pn,Value.int .i64 many,Value.slice B4.a B4.l B4.c]) g6.ok V3;have A7:=alD ⟨f.name,pn,many,B4⟩ 0 [Value.string f.name,Value.int .i64 pn,Value.int .i64 many,Value.slice B4.a B4.l B4.c] (by simp) rfl (put h6 b (k*4) cs6 [Value.string f.name,Value.int .i64 pn,Value.int .i64 many,Value.slice B4.a B4.l B4.c] o6) ⟨h6.clock,by simp⟩;have GL7:=GL6.trans (g7.bH (fun x _ e=>e▸bC ha));generalize put h6 b (k*4) cs6 _ o6=h7 at*;have hkz:k<zs.length:=by omega
   refine⟨fs.length-(k+1),by omega,k+1,zs.set k ⟨f.name,pn,many,B4⟩,rfl,pc,by simp[q1],by simp[q2],by simp[q4],by simp[q5],by simp[q36,ha,qi,Nl],by simp[Zt],by simp,GL7,A7,by simp[Nl],fun i z2 f2 hi h1 h2=>?_,fun i z2 f2 hi h1 h2=>?_⟩
   .rw[eu] at h1;by_cases e1:k=i
    .subst e1;rw[aY rfl,aY hkz] at h1;cases h1;rw[hfk] at h2;cases h2;have D5:AV hL.next P h5 ⟨f.name,pn,many,B4⟩ f:=⟨_,amJ,many,κ4,apQ,rs4,O5,fun x hx=>by rw[I9 x (by omega)];exact κlo x (by omega),I8,hs4,⟨rfl,Ql.symm,rfl⟩,hP4⟩;exact(D5.grow g5.ok g6 (fun _ h=>h.elim)).grow g6.ok g7 (fun x e=>.inl (by omega))
    .rw[bc e1] at h1;exact((hD i z2 f2 (by omega) h1 h2).grow cw G6 (fun _ h=>h.elim)).grow g6.ok g7 (fun x e=>.inl (by omega))
   .rw[eu,bc (by omega)] at h1;exact hT i z2 f2 (by omega) h1 h2
 .have:k=fs.length:=by omega
  subst this;simp[Zt,LY];exact Ag _ _ zs (by simp[q2]) (by simp[q4]) (by simp[q5]) g u5 Nl (fun i z f a b=>hD i z f (by have:=(bK.mp b).1;omega) a b)
def acZ(P:C4)(gs:List GG)(fs:List GF)(h:ab)(v:Value)(h':ab):Prop:=
 aa aG h h'/\∃(G' F':SV) (c a:Int),v=.tuple #[.agg ⟨[G'.v,F'.v]⟩,.agg ⟨[.int .i64 c,.int .i64 a]⟩]/\((c≠0/\G'=cJ/\F'=cJ)\/(c=0/\(∀b,aw G'.v b\/aw F'.v b->h.next<=b)/\∃M ys zs,h.next<=M/\fS FJ h' G' ys/\Ma ys gs/\fS Bs h' F' zs/\zs.length=fs.length/\∀(i:Nat)(z:XF)(f:GF),zs[i]?=some z->fs[i]?=some f->AV M P h' z f))
theorem TV(ok:bl h){P:C4}{u:GU}(hu:uR h G F u)(hgl:u.globals.length<=10)(oJ:∀g∈u.globals,g.init.length<=1048576)(mV:u.funcs.length<=10)(eX:∀f∈u.funcs,ac0 f)(H:∀f∈u.funcs,∀(h1:ab)(pn n0 ag:Nat)(κ cap:Nat->Nat)(B:SV)(rs:List XR),bl h1->aa aG h h1->n0<=h1.next->h.next<=n0->f.params=pn->f.ag=ag->pn<=ag->ag<1000000->kW h1 n0 ag κ cap B rs->Pd rs f.blocks->cP FF fv [.agg ⟨aj f.name pn ag B⟩] h1 (RX (P f) f.name pn n0 κ h1)):aE FF BN [.agg ⟨[G.v,F.v]⟩,fv] h (acZ P u.globals u.funcs h):=by
 obtain⟨ys,vC,Je,hY⟩:=ajD hu.1;obtain⟨zs,zx,UC,hZ⟩:=ajB hu.2;refine aE.of J2 ?_;unfold Be;have n1:¬h.next=h.next+1:=by omega
 have n2:¬h.next=h.next+1+1:=by omega
 simp[n1,n2];refine aF.cut (fun h1=>aa aG h h1/\(∃s,h1.tr.get h.next=some (.aC [G.v,F.v] false 0 s))/\(∃s,h1.tr.get (h.next+1)=some (.aC [.slice none 0 0,.slice none 0 0] false 0 s))/\(∃s,h1.tr.get (h.next+1+1)=some (.aC [.int .i64 0,.int .i64 0] false 0 s))) ?_ ?_
 .exact⟨(((aa.refl ok).new _ _).new _ _).new _ _,⟨0,by simp[n1,n2]⟩,⟨0,by simp⟩,⟨0,by simp⟩⟩
 rintro h1⟨g1,⟨sU,hU1⟩,⟨s1,aqK⟩,⟨s2,aj_⟩⟩;have lR:=g1.ok.wf _ _ aj_;refine aF.call (V:=qn FJ h1 ys) (by simpa using iV FJ (bytes:=48) lh rfl (by decide) g1.ok (Je.aX ok g1) (by omega)) ?_;rintro _ h2⟨g2,G',rfl,hG2,hGn,_⟩;have yo:=g2.get g1.ok hU1;have Kz:=yo;simp at Kz;have aqL:=g2.get g1.ok aqK;have aqO:=g2.get g1.ok aj_;have hGl:=hG2.len;simp[Kz];refine az.cut (fun h3=>aa (· =h.next) h2 h3/\∃s,h3.tr.get h.next=some (.aC [G'.v,F.v] false 0 s)) ?_ ?_
 .exact⟨(aa.refl g2.ok).put ⟨_,Kz⟩ (.inr rfl),h2.clock,by simp⟩
 rintro h3⟨g3,sU3,FY⟩;have l2:=g2.next;have jd:=g1.trans g2;have dw:aa aG h h3:=jd.trans' g3 (fun _ _ h=>h) (fun x hx e=>by omega);have nG:∀x,x<h1.next->¬aw G'.v x:=fun x hx e=>by have:=hGn x e;omega
 have hG3:=hG2.grow g2.ok g3 (fun b hb e=>by have:=hGn b hb;omega);have aqM:=g3.get g2.ok aqL (by omega);have aqP:=g3.get g2.ok aqO (by omega);refine Kq (fv:=fv) (R1:=h.next+1) (R2:=h.next+1+1) (f:=cJ) ok dw FY (nG _ (by omega)) hG3 (fun b hb=>by have:=hGn b hb;have:=g1.next;omega) ⟨vC,fun i y g a b=>⟨(hY i y g a b).1,(hY i y g a b).2.1⟩⟩ (fun i y g a b=>(hY i y g a b).2.2) hgl oJ (by simp) (by simp) (by simp) (by simp) (by simp) (by simp[hGl,vC]) (by simp) ?_;intro e4 h4 ys4 q1 q2 q4 q5 g4 hG4 hS4;have oE:aa aG h h4:=dw.trans' g4 (fun _ _ h=>h) (fun x hx e=>by have:=hGn x e;have:=g1.next;omega);have V0:=g4.get g3.ok FY (nG _ (by omega));have aqN:=g4.get g3.ok aqM (nG _ (by omega));have aqQ:=g4.get g3.ok aqP (nG _ (by omega));have abl:=V0;simp at abl;simp[q2,abl];refine aF.call (V:=qn Bs h4 zs) (by simpa using iV Bs (bytes:=56) ni rfl (by decide) g4.ok (UC.aX ok oE) (by omega)) ?_;rintro _ h5⟨g5,F',rfl,OL,MZ,_⟩;have hU5:=g5.get g4.ok V0;have afc:=hU5;simp at afc;have l34:h2.next<=h4.next:=xf g3.next g4.next;have qi:=OL.len;have hG5:=hG4.aX g4.ok g5;simp[q2,afc];refine az.cut (fun h6=>aa (· =h.next) h5 h6/\∃s,h6.tr.get h.next=some (.aC [G'.v,F'.v] false 0 s)) ?_ ?_
 .exact⟨(aa.refl g5.ok).put ⟨_,afc⟩ (.inr rfl),h5.clock,by simp⟩
 rintro h6⟨g6,sU6,Uf⟩;have l5:=g5.next;have Xv:aa aG h h6:=(oE.trans g5).trans' g6 (fun _ _ h=>h) (fun x hx e=>by omega);have g46:aa (· =h.next) h4 h6:=g5.aX.trans g6;have nF:∀x,x<h4.next->¬aw F'.v x:=fun x hx e=>by have:=MZ x e;omega
 have hF6:=OL.grow g5.ok g6 (fun b hb e=>by have:=MZ b hb;omega);have hG6:=hG5.grow g5.ok g6 (fun b hb e=>by have:=hGn b hb;omega);have abj:=g46.get g4.ok aqN (by omega);have abk:=g46.get g4.ok aqQ (by omega);have l1:=g1.next;refine PT (R1:=h.next+1) (R2:=h.next+1+1) (U:=h.next) (zs0:=zs) (fs:=u.funcs) ok Xv Uf abj abk (by omega) (nF _ (by omega)) (nF _ (by omega)) (nF _ (by omega)) hF6 (fun b hb=>by have:=MZ b hb;omega) zx hZ mV eX (fun f hf h1 pn n0 ag κ cap B rs a1 a2 a3 a4 a5 a6 a7 a8 a9 a10=>H f hf h1 pn n0 ag κ cap B rs a1 (Xv.trans' a2 (fun _ _ h=>h) (fun x hx e=>by have:=MZ x e;omega)) a3 (by have:=Xv.next;omega) a5 a6 a7 a8 a9 a10) (by simp[q1]) (by simp[q2]) (by simp[q4]) (by simp[q5]) (by simp) (by simp[qi,zx]) (by simp) ?_ ?_
 .rintro e7 h7 a k4 k5 g7⟨t1,hA⟩ ⟨t2,hB⟩;simp[k4,k5,hA,hB];exact⟨Xv.trans' g7 (fun _ _ h=>h) (fun x hx e=>by
   rcases e with e|e|e
   .have:=MZ x e;omega
   .omega
   .omega),cJ,cJ,10,a,rfl,.inl ⟨by decide,rfl,rfl⟩⟩
 .intro e7 h7 zs7 k2 k4 k5 g7 hF7 hl7 hD7;have hU7:=g7.get g6.ok Uf (nF _ (by omega));have XD:=g7.get g6.ok abj (nF _ (by omega));have XE:=g7.get g6.ok abk (nF _ (by omega));have akh:=hU7;simp at akh;have hFG:∀b,aw G'.v b->¬aw F'.v b:=fun b hb h=>by have:=hG4.bE g4.ok hb;have:=MZ b h;omega
  have hG7:=hG6.grow g6.ok g7 hFG;simp[k2,k4,k5,akh,XD,XE];have gw:=((aa.refl g7.ok).put (S:=fun x=>x=h.next+1\/x=h.next+1+1) (off:=0) (vs:=[Value.slice G'.a G'.l G'.c,Value.slice F'.a F'.l F'.c]) ⟨_,XD⟩ (.inr (.inl rfl))).put (b:=h.next+1+1) (off:=0) (cs:=[.int .i64 0,.int .i64 0]) (o:=0) (vs:=[.int .i64 0,.int .i64 0]) ⟨s2,by simp[XE]⟩ (.inr (.inr rfl));have l6:=g6.next;generalize put (put h7 _ _ _ _ _) _ _ _ _ _=h8 at gw⊢;refine⟨(Xv.trans' g7 (fun _ _ h=>h) (fun x hx e=>by have:=MZ x e;omega)).trans' gw (fun _ _ h=>h) (fun x hx e=>by omega),G',F',0,0,by simp,.inr ⟨rfl,fun b hb=>by
   rcases hb with hb|hb
   .have:=hGn b hb;omega
   .have:=MZ b hb;omega,h6.next,ys4,zs7,by omega,hG7.grow g7.ok gw (fun b hb e=>by have:=hGn b hb;omega),hS4,hF7.grow g7.ok gw (fun b hb e=>by have:=MZ b hb;omega),hl7,fun i z f a b=>(hD7 i z f a b).grow g7.ok gw (fun x e=>.inl (by omega))⟩⟩
structure Mv where
 to:Int
 tQ:Bool
 n:Int
 deriving DecidableEq
def bM:Enc Mv:=⟨fun m=>[.int .i64 m.to,.bool m.tQ,.int .i64 m.n],3,fun _=>rfl,by decide,fun _=>rfl⟩
@[simp] theorem vi:bM.sz=3:=rfl
@[simp] theorem yj(m:Mv):bM.enc m=[.int .i64 m.to,.bool m.tQ,.int .i64 m.n]:=rfl
def RM(h:ab)(fv:Value)(p:Mv->Bool)(xs:List Mv):Prop:=
 ∀h1,aa aG h h1->∀x∈xs,cP FF fv [.agg ⟨bM.enc x⟩] h1 (fun v h2=>v=.bool (p x)/\aa aG h1 h2)
theorem pM(ok:bl h){xs:List Mv}{p:Mv->Bool}(hs:aL bM h v xs)(hn:xs.length<1000000)(hf:RM h fv p xs):aE FF fM [v,fv] h (fun r h'=>r=.int .i64 (match xs.findIdx? p with|some i=>(i:Int)|none=> -1)/\aa aG h h'):=by
 obtain⟨a,cap,rfl,Yk⟩:=id hs;refine aE.of lr ?_;unfold fI;simp;refine az.loop (fun n e h1=>∃i,i<=xs.length/\n=xs.length-i/\ai e 8=.int .i64 (i:Nat)/\ai e 7=.int .i64 xs.length/\ai e 0=.slice a xs.length cap/\ai e 1=fv/\(∀j x,j<i->xs[j]?=some x->p x=false)/\aa aG h h1) ?_ (n:=xs.length) ⟨0,by simp,by simp,by simp,by simp,by simp,by simp,by simp,.refl ok⟩
 rintro n e h1⟨i,hi,rfl,e8,e7,e0,e1,hp,g⟩;unfold fm;by_cases dQ:i<xs.length
 .have hx:xs[i]?=some xs[i]:=ff dQ;obtain⟨b,off,iN,hv,_,_,hr⟩:=(hs.aX ok g).read hx;cases hv;have yq:=hr 0 3 (by simp);simp only[vi,IW] at yq;simp[e8,e7,e0,e1,dQ,yq,-ae];refine aF.cu (V:=fun v h2=>v=.bool (p xs[i])/\aa aG h1 h2) (by simpa using hf h1 g _ (Ai dQ)) ?_;rintro _ h2⟨rfl,g2⟩;cases hpx:p xs[i] with
  |true=>
   simp;refine⟨?_,g.trans g2⟩;have:xs.findIdx? p=some i:=by rw[List.findIdx?_eq_some_iff_getElem];refine⟨dQ,hpx,fun j hj=>by simpa using hp j _ hj (ff (by omega))⟩
   rw[this]
  |false=>
   have hw:=wrap_i64 (i+1) (by omega) (by omega);simp[e8,e7,e0,e1,hw];refine⟨xs.length-(i+1),by omega,i+1,by omega,rfl,by simp,fun j x hj qm=>?_,g.trans g2⟩;by_cases Us:j=i
   .subst Us;rw[hx] at qm;cases qm;exact hpx
   .exact hp j x (by omega) qm
 .have:i=xs.length:=by omega
  subst this;simp[e8,e7,e0,e1];refine⟨?_,g⟩;have:xs.findIdx? p=none:=by rw[List.findIdx?_eq_none_iff];intro x hx;obtain⟨j,hj,rfl⟩:=List.mem_iff_getElem.mp hx;exact hp j _ hj (ff hj)
  rw[this]
theorem CQ(ok:bl h){xs:List Mv}{p:Mv->Bool}(hs:aL bM h v xs)(hn:xs.length<1000000)(hf:RM h fv p xs):aE FF eO [v,fv] h (fun r h'=>r=.bool (xs.any p)/\aa aG h h'):=by
 refine aE.of j8 ?_;unfold eJ;simp;refine aF.call (by simpa using pM ok hs hn hf) ?_;rintro _ h2⟨rfl,g2⟩;simp;refine⟨?_,g2⟩;cases hx:xs.findIdx? p with
 |none=>
  rw[List.findIdx?_eq_none_iff] at hx;have:xs.any p=false:=by simpa using hx
  rw[this];simp
 |some i=>
  rw[List.findIdx?_eq_some_iff_getElem] at hx;obtain⟨hi,hp,_⟩:=hx;have:xs.any p=true:=List.any_eq_true.mpr ⟨_,Ai hi,hp⟩;rw[this];simp
def fJ(m:Mv):Bool:=m.tQ&&m.n==m.to
def nx(r:Int)(m:Mv):Bool:=m.tQ&&m.n==r
def rD(l:List Mv)(r:Int):Bool:=l.any (nx r)
theorem Im(ok:bl h)(x:Mv):aE FF DN [.agg ⟨bM.enc x⟩] h (fun r h'=>r=.bool (fJ x)/\aa aG h h'):=by
 refine aE.of Mo ?_;unfold C9;simp[fJ]
 repeat (first|exact .refl ok|apply aa.new|refine aa.put ?_ (by simp) (by simp))
theorem Ik(ok:bl h){x:Mv}{b:Nat}{m:Mv}{ro:Bool}{o s:Nat}(hb:h.tr.get b=some (.aC (bM.enc m) ro o s)):aE FF uT [.agg ⟨bM.enc x⟩,.pointer (some ⟨b,0,none⟩)] h (fun r h'=>r=.bool (nx m.to x)/\aa aG h h'):=by
 have dQ:=ok.wf _ _ hb;have ct:¬b=h.next:=by omega
 rw[yj] at hb;refine aE.of HR ?_;unfold zm;simp[hb,ct,nx]
 repeat (first|exact .refl ok|apply aa.new|refine aa.put ?_ (by simp) (by simp))end Go.Proofs.YtdhnndleffachaaGreatDoor
namespace Go.Proofs.YtdhnndleffachaaGreatDoor
open Go.AI
variable{A B IN L P R W jO:SV}{K X Y b bI bk cd d dC da i j k n n0 n1 nB na nb o pn r s sB sX sY sd st:Nat}{QQ:aO->Env->ab->Prop}{S:Nat->Prop}{ah:List (List Int)}{bs:List GB}{cs ss us ws:List SV}{e:Env}{fv v:Value}{h h' h0 hA hS:ab}{l l' m:List Bool}{ls ms os:List (List Bool)}{name:ByteArray}{p t:Int}{qs:List GP}{ro:Bool}{rs:List Int}{x:GI}{xs:List GI}
def xl(h:ab)(v:Value)(b:Nat)(ys:List Mv)(n:Nat):Prop:=
 v=.slice (some ⟨b,0,none⟩) n ys.length/\n<=ys.length/\∃o s,h.tr.get b=some (.aC (bM.flat ys) false o s)/\(o=0\/o=3)
theorem xl.sl{ys:List Mv}(s:xl h v b ys n):aL bM h v (ys.take n):=by
 obtain⟨rfl,hn,o,st,hb,_⟩:=s;have hl:(ys.take n).length=n:=by simp;omega
 refine⟨_,_,by rw[hl],.inr ⟨b,0,_,_,_,_,rfl,hb,by rw[hl,Enc.bh];simp;omega,?_⟩⟩;rw[hl,List.drop_zero,Enc.fE]
theorem Ij(ok:bl h){xs:List Mv}(hs:aL bM h v xs)(hn:xs.length<1000000):aE FF iy [v] h (fun r h'=>aa aG h h'/\((xs=[]/\aL bM h' r [])\/∃b,h.next<=b/\xl h' r b xs xs.length)):=by
 obtain⟨a,cap,rfl,Yk⟩:=id hs;refine aE.of nj ?_;unfold ik;cases a with
 |none=>
  have hx:xs=[]:=by
   rcases Yk with⟨h,_⟩|⟨b,off,cs,ro,o,st,h,_⟩
   .exact h
   .cases h
  subst hx;simp;exact⟨.refl ok,.inl (.nil _ _ _)⟩
 |some a=>
  have Gc:=v5 (E:=bM) (z:=[.int .i64 0,.bool false,.int .i64 0]) rfl (hs.aX ok (aH ok [] 0));cases xs with
  |nil=>
   have Qi:news (aD h [] 0) [.int .i64 0,.bool false,.int .i64 0] false (.slice (some a) 0 cap)=some (0,[]):=by simpa using Gc
   simp[Qi,iQ,eA,iP];exact⟨aH ok _ _,.inl (.aty _ _ _ _ _)⟩
  |cons x xs=>
   have Qi:news (aD h [] 0) [.int .i64 0,.bool false,.int .i64 0] false (.slice (some a) (xs.length+1) cap)=some (xs.length+1,bM.flat (x::xs)):=by simpa using Gc
   have h1:xs.length+1<=1099511627776:=by simp at hn;omega
   have h2:(xs.length+1)*24<=1099511627776:=by simp at hn;omega
   simp[Qi,iQ,eA,iP,roomy,h1,h2,-Enc.eo];refine⟨((aH ok _ _).new _ _),h.next+1,by omega,by simp,by simp,3,0,by simp,.inr rfl⟩
def uv:Mv:=⟨0,false,0⟩
theorem BH(k:Nat):iP [.int .i64 0,.bool false,.int .i64 0] k=bM.flat (List.replicate k uv):=by
 induction k with
 |zero=>rfl
 |succ k ih=>rw[List.replicate_succ,Enc.eo,<-ih];rfl
theorem wQ(ys zs:List Mv)(i:Nat):aR (bM.flat ys) (i*3) (bM.flat zs)=bM.flat (ys.take i++zs++ys.drop (i+zs.length)):=by unfold aR;rw[show i*3=i*bM.sz from rfl,Enc.fE,Enc.bh,<-tW,Enc.jP,Enc.dG,Enc.dG]
def Pc(fv:Value)(p:Mv->Bool):Prop:=∀h1,bl h1->∀x,cP FF fv [.agg ⟨bM.enc x⟩] h1 (fun v h2=>v=.bool (p x)/\aa aG h1 h2)
theorem Gx(ok:bl h){ys:List Mv}(hs:xl h v b ys n)(abo:n<1000000)(hi:i<n)(hj:j=i+1):aE FF g_ [v,.int .i64 i,.int .i64 j] h (fun r h'=>aa (· =b) h h'/\∃RJ,RJ.take (n-1)=(ys.take n).eraseIdx i/\xl h' r b RJ (n-1)):=by
 obtain⟨rfl,hn,o,st,hb,ho⟩:=hs;refine aE.of mS ?_;unfold gW;have h1:j<=n:=by omega
 have Jb:(o.beq 0||o.beq 3)=true:=by rcases ho with rfl|rfl<;>rfl
 have hz:¬(i:Int)=(j:Int):=by omega
 have vz:i<=j:=by omega
 have Dz:i<=n:=by omega
 have EH:i<=ys.length:=by omega
 have aM:j<=ys.length:=by omega
 have Gc:news (tick h) [.int .i64 0,.bool false,.int .i64 0] false (.slice (some ⟨b,j*3,none⟩) (n-j) (ys.length-j))=some (n-j,bM.flat ((ys.take n).drop j)):=by
  have hl:((ys.take n).drop j).length=n-j:=by simp;omega
  have:=v5 (E:=bM) (h:=tick h) (z:=[.int .i64 0,.bool false,.int .i64 0]) rfl (v:=.slice (some ⟨b,j*3,none⟩) ((ys.take n).drop j).length (ys.length-j)) (ys:=(ys.take n).drop j)
   ⟨_,_,rfl,.inr ⟨b,j*3,_,_,_,_,rfl,hb,by rw[hl,Enc.bh];simp;omega,by rw[show j*3=j*bM.sz from rfl,Enc.jP,Enc.fE,hl,List.drop_take]⟩⟩
  rw[hl] at this;exact this
 have DB:((ys.take n).drop j).length=n-j:=by simp;omega
 have afn:∃h2,eA (tick h) [.int .i64 0,.bool false,.int .i64 0] 24 (.slice (some ⟨b,0,none⟩) i ys.length) (n-j) (bM.flat ((ys.take n).drop j))=some (.slice (some ⟨b,0,none⟩) (n-1) ys.length,h2)/\aa (· =b) h h2/\∃s,h2.tr.get b=some (.aC (bM.flat (ys.take i++(ys.take n).drop j++ys.drop (n-1))) false o s):=by
  by_cases hnj:n-j=0
  .refine⟨tick h,?_,(aS ok).aX,st,?_⟩
   .rw[hnj];simp[eA,EH,show n-1=i by omega]
   .rw[Ti,hb,show(ys.take n).drop j=[] from Xt (by simp;omega),show n-1=i by omega,List.append_nil,List.take_append_drop]
  .have e1:n-j+i=n-1:=by omega
   have e2:i+(n-j)=n-1:=by omega
   have r1:roomy (n-1)=true:=by simp[roomy];omega
   have r2:roomy ((n-1)*24)=true:=by simp[roomy];omega
   have hw:jz (tick h) b (i*3) (bM.flat ((ys.take n).drop j))=some (put (tick h) b (i*3) (bM.flat ys) (bM.flat ((ys.take n).drop j)) o):=
    RH hb (by rw[Enc.bh,Enc.bh,DB];simp;omega)
   have CF:n-1<=ys.length:=by omega
   refine⟨put (tick h) b (i*3) (bM.flat ys) (bM.flat ((ys.take n).drop j)) o,?_,((aS ok).aX (S:=(· =b))).put ⟨st,hb⟩ (.inr rfl),h.clock+1,?_⟩
   .simp[eA,hnj,e2,r1,r2,hb,CF,hw,-Oz]
   .rw[aA,wQ,DB,e2];rfl
 obtain⟨h2,ha,g2,s2,cC⟩:=afn;have Yr:(ys.take i++(ys.take n).drop j++ys.drop (n-1)).length=ys.length:=by simp;omega
 have hyt:(ys.take i++(ys.take n).drop j++ys.drop (n-1)).take (n-1)=(ys.take n).eraseIdx i:=by
  have uO:(ys.take i++(ys.take n).drop j).length=n-1:=by simp;omega
  rw[List.take_append_of_le_length (by omega),<-uO,xK,List.eraseIdx_eq_take_drop_succ,List.take_take,Nat.min_eq_left (by omega),hj]
 generalize (ys.take i++(ys.take n).drop j++ys.drop (n-1))=ys1 at cC Yr hyt;have c1:n-1<=n:=by omega
 have c2:n-(n-1)=1:=by omega
 have c3:n-1<=ys.length:=by omega
 have dV:(n-1)*3+3<=ys.length*3:=by omega
 simp[h1,hn,hb,Jb,hz,Dz,EH,vz,aM,iQ,Gc,ha,cC,c1,c2,c3,iP,Yr,dV];refine⟨g2.put ⟨s2,cC⟩ (.inr rfl),ys1.set (n-1) uv,?_,by simp[Yr],by simp;omega,o,h2.clock,?_,ho⟩
 .rw[List.take_set_of_le (dH _)];exact hyt
 .rw[aA];have:=bM.dS ys1 (n-1) uv (by omega);simp only[vi] at this;rw[<-this];rfl
theorem zM(l:List Mv)(i:Nat)(x:Mv)(h:i<l.length):(l.set i x).take (i+1)=l.take i++[x]:=by rw[List.set_eq_take_append_cons_drop,aY h,List.take_append,List.length_take,Nat.min_eq_left (by omega),show i+1-i=1 by omega];rw[gJ_ (by simp;omega)];simp
theorem Ax(ok:bl h){ys:List Mv}{p:Mv->Bool}(hs:xl h v b ys ys.length)(abo:ys.length<1000000)(hf:Pc fv p):aE FF di [v,fv] h (fun r h'=>aa (· =b) h h'/\∃RJ n,RJ.take n=ys.filter (fun x=> !p x)/\xl h' r b RJ n):=by
 obtain⟨rfl,_,o,st,hb,ho⟩:=id hs;have y5:=hs.sl;rw[xK] at y5;refine aE.of fq ?_;unfold df;simp;refine aF.call (by simpa using pM ok y5 abo (fun h1 g x _=>hf h1 g.ok x)) ?_;rintro _ h1⟨rfl,g1⟩;have FZ:h1.tr.get b=some (.aC (bM.flat ys) false o st):=g1.get ok hb;cases hx:ys.findIdx? p with
 |none=>
  rw[List.findIdx?_eq_none_iff] at hx;simp;refine⟨g1.aX,ys,ys.length,?_,rfl,dH _,o,st,FZ,ho⟩;rw[xK,List.filter_eq_self.mpr];intro x qm;simp[hx x qm]
 |some i0=>
  rw[List.findIdx?_eq_some_iff_getElem] at hx;obtain⟨hi0,SD,xh⟩:=hx;have hz:¬(i0:Int)= -1:=by omega
  have hw:=wrap_i64 (i0+1) (by omega) (by omega);simp[hz,hw];have Jb:(o.beq 0||o.beq 3)=true:=by rcases ho with rfl|rfl<;>rfl
  refine az.loop (fun n e h2=>∃i j zs s,i<j/\j<=ys.length/\n=ys.length-j/\ai e 5=.int .i64 (i:Nat)/\ai e 6=.int .i64 (j:Nat)/\ai e 0=.slice (some ⟨b,0,none⟩) ys.length ys.length/\ai e 1=fv/\zs.length=ys.length/\zs.take i=(ys.take j).filter (fun x=> !p x)/\zs.drop j=ys.drop j/\h2.tr.get b=some (.aC (bM.flat zs) false o s)/\aa (· =b) h h2) ?_ (n:=ys.length-(i0+1))
   ⟨i0,i0+1,ys,st,by omega,by omega,rfl,by simp,by simp,by simp,by simp,rfl,?_,rfl,FZ,g1.aX⟩
  .rintro n e h2⟨i,j,zs,s,vz,hj,rfl,e5,e6,e0,e1,zx,hzt,hzd,cC,g⟩;unfold eS;by_cases dQ:j<ys.length
   .have hlz:j<zs.length:=by omega
    have hx:zs[j]?=some ys[j]:=by
     have:(zs.drop j)[0]?=(ys.drop j)[0]? :=by rw[hzd]
     simpa [dQ] using this
    have ct:¬b=h2.next:=by have:=g.ok.wf _ _ cC;omega
    have hlt2:b<h2.next:=g.ok.wf _ _ cC;have hr:=(Enc.jQ bM zs j 0 3 _ hx (by simp));simp only[vi,IW] at hr;have dV:j*3+3<=ys.length*3:=by omega
    simp[e5,e6,e0,e1,dQ,cC,hr,zx,dV,ct];have g3:=((aH g.ok [.int .i64 0,.bool false,.int .i64 0] 0).put (b:=h2.next) (off:=0) (cs:=[.int .i64 0,.bool false,.int .i64 0]) (vs:=[.int .i64 ys[j].to,.bool ys[j].tQ,.int .i64 ys[j].n]) (o:=0) ⟨0,by simp⟩ (.inl (dH _)));have vk:=g3.get g.ok cC;have XY:(put (aD h2 [.int .i64 0,.bool false,.int .i64 0] 0) h2.next 0 [.int .i64 0,.bool false,.int .i64 0] [.int .i64 ys[j].to,.bool ys[j].tQ,.int .i64 ys[j].n] 0).tr.get h2.next=some (.aC [.int .i64 ys[j].to,.bool ys[j].tQ,.int .i64 ys[j].n] false 0 h2.clock):=by simp
    generalize akV:put (aD h2 [.int .i64 0,.bool false,.int .i64 0] 0) h2.next 0 [.int .i64 0,.bool false,.int .i64 0] [.int .i64 ys[j].to,.bool ys[j].tQ,.int .i64 ys[j].n] 0=h3 at*;refine aF.cu (V:=fun v h4=>v=.bool (p ys[j])/\aa aG h3 h4) (by simpa using hf h3 g3.ok _) ?_;rintro _ h4⟨rfl,g4⟩;have HC:=g4.get g3.ok vk;have I8:=g4.get g3.ok XY;have gg:aa (· =b) h h4:=(g.trans g3.aX).trans g4.aX;have hwj:=wrap_i64 (j+1) (by omega) (by omega);have adr:(ys.take (j+1)).filter (fun x=> !p x)=(ys.take j).filter (fun x=> !p x)++(if p ys[j] then [] else [ys[j]]):=by rw[List.take_succ_eq_append_getElem dQ,List.filter_append];by_cases hq:p ys[j]=true<;>simp[hq]
    cases hp:p ys[j] with
    |true=>
     simp[e5,e6,e0,e1,hwj];refine⟨ys.length-(j+1),by omega,i,j+1,by omega,by omega,rfl,rfl,by simp,zs,zx,?_,?_,⟨s,HC⟩,gg⟩
     .rw[adr,hp,hzt];simp
     .rw[<-List.drop_drop,hzd,List.drop_drop]
    |false=>
     have hwi:=wrap_i64 (i+1) (by omega) (by omega);have hfi:i*3+3<=ys.length*3:=by omega
     have hiy:i<ys.length:=by omega
     simp[e5,e6,e0,e1,hwj,hwi,I8,HC,hfi,hiy,zx,-nr];refine⟨ys.length-(j+1),by omega,i+1,j+1,by omega,by omega,rfl,rfl,rfl,zs.set i ys[j],by simp[zx],?_,?_,?_,gg.put ⟨s,HC⟩ (.inr rfl)⟩
     .rw[adr,hp,<-hzt,zM _ _ _ (by omega)];simp
     .rw[List.drop_set_of_lt (by omega),<-List.drop_drop,hzd,List.drop_drop]
     .have:=bM.dS zs i ys[j] (by omega);simp only[vi] at this;rw[<-this];rfl
   .have aM:j=ys.length:=by omega
    subst aM;have fu:i<=ys.length:=by omega
    have hiy:i<=zs.length:=by omega
    have alb:i*3+(ys.length-i)*3<=ys.length*3:=by omega
    have rh:(iP [Value.int .i64 0,.bool false,.int .i64 0] (ys.length-i)).length=(ys.length-i)*3:=by rw[BH,Enc.bh];simp
    have hk:¬ys.length-i=0:=by omega
    have AN:(Nat.beq (ys.length-i) 0)=false:=by
     cases h:Nat.beq (ys.length-i) 0 with
     |true=>exact absurd (qW h) hk
     |false=>rfl
    have ho2:∀h3:ab,True:=fun _=>trivial;simp[e5,e6,e0,e1,cC,Jb,fu,rh,alb,zx,hk,-nr];refine⟨g.put ⟨s,cC⟩ (.inr rfl),zs.take i++List.replicate (ys.length-i) uv++zs.drop (i+(ys.length-i)),i,?_,by simp[zx];omega,by simp[zx];omega,o,h2.clock,?_,ho⟩
    .rw[Af,List.take_append_of_le_length (by simp;omega),List.take_take,Nat.min_self,hzt,xK]
    .rw[aA,BH,wQ];simp
  .rw[List.take_succ_eq_append_getElem hi0,List.filter_append,List.filter_eq_self.mpr]
   .simp[SD]
   .intro x hx;obtain⟨k,hk,rfl⟩:=List.mem_iff_getElem.mp hx;simp at hk;simpa using xh k (by omega)
theorem Gy(ok:bl h){m:Mv}{l:List Mv}{B:Nat}(hb:h.tr.get B=some (.aC [v] ro o s))(hs:aL bM h v l)(hn:l.length<1000000):aE FF jl [.agg ⟨bM.enc m⟩,.pointer (some ⟨B,0,none⟩)] h (fun r h'=>r=.bool (rD l m.to)/\aa aG h h'):=by
 have dQ:=ok.wf _ _ hb;have ct:¬B=h.next:=by omega
 refine aE.of Mp ?_;unfold Da;simp[hb,ct];have g:=aH ok [.int .i64 m.to,.bool m.tQ,.int .i64 m.n] 0;have hm:=bq h [.int .i64 m.to,.bool m.tQ,.int .i64 m.n] 0;generalize aD h [.int .i64 m.to,.bool m.tQ,.int .i64 m.n] 0=h1 at*;refine aF.call (V:=fun r h'=>r=.bool (rD l m.to)/\aa aG h1 h') ?_ ?_
 .have:=CQ (p:=nx m.to) g.ok (hs.aX ok g) hn (fv:=.func (.func uT) #[] #[.pointer (some ⟨h.next,0,none⟩)]) (fun h2 g2 x _=>by refine cP.func ?_;have hm2:=g2.get g.ok hm;simpa using Ik g2.ok (x:=x) (m:=m) hm2)
  simpa [rD] using this
 .rintro _ h2⟨rfl,g2⟩;simp;exact g.trans g2
theorem CT(ok:bl h){m:Mv}{l:List Mv}{B T:Nat}{ro ro':Bool}{o s o' s':Nat}(hb:h.tr.get B=some (.aC [v] ro o s))(ht:h.tr.get T=some (.aC [.func (.func jl) #[] #[.pointer (some ⟨B,0,none⟩)]] ro' o' s'))(hs:aL bM h v l)(hn:l.length<1000000):aE FF xV [.agg ⟨bM.enc m⟩,.pointer (some ⟨T,0,none⟩)] h (fun r h'=>r=.bool (!rD l m.to)/\aa aG h h'):=by
 have ct:¬T=h.next:=by have:=ok.wf _ _ ht;omega
 refine aE.of Mq ?_;unfold Db;simp[ht,ct];have g:=aH ok [.int .i64 m.to,.bool m.tQ,.int .i64 m.n] 0;have FZ:=g.get ok hb;generalize aD h [.int .i64 m.to,.bool m.tQ,.int .i64 m.n] 0=h1 at*;refine aF.cu (V:=fun r h'=>r=.bool (rD l m.to)/\aa aG h1 h') ?_ ?_
 .simp;refine cP.func ?_;simpa using Gy g.ok (m:=m) FZ (hs.aX ok g) hn
 .rintro _ h2⟨rfl,g2⟩;simp;exact g.trans g2
theorem BG(ok:bl h)(hs:aL bM h v []):aE FF di [v,fv] h (fun r h'=>r=v/\aa aG h h'):=by refine aE.of fq ?_;unfold df;simp;refine aF.call (by simpa using pM (p:=fun _=>true) ok hs (by decide) (fun h1 g x hx=>by simp at hx)) ?_;rintro _ h1⟨rfl,g1⟩;simp;exact g1
def eY(l:List Mv):Option Nat:=l.findIdx? (fun m=> !rD l m.to)
def dh(s r:Int)(m:Mv):Mv:=if nx r m then⟨m.to,true,s⟩ else m
def fw(l:List Mv):Int:=(l.headD uv).to
def cD(s:Int)(l out:List Mv):List Mv×List Mv:=
 match eY l with
 |some i=>(l.eraseIdx i,out++[l.getD i uv])
 |none=>(l.map (dh s (fw l)),out++[⟨s,true,fw l⟩])
def mj(s:Int):Nat->List Mv->List Mv->List Mv
 |0,_,out=>out
 |k+1,l,out=>if l=[] then out else mj s k (cD s l out).1 (cD s l out).2
def wP(l:List Mv):Nat:=2*l.length+(match eY l with|some _=>0 |none=>1)
def uu(s:Int)(l:List Mv):List Mv:=mj s (2*l.length+1) l []
theorem NF(l:List Mv):wP l<=2*l.length+1:=by unfold wP;split<;>omega
theorem Il{s:Int}{l out:List Mv}(ht:∀m∈l,m.to≠s):∀m∈(cD s l out).1,m.to≠s:=by
 unfold cD;split
 .intro m hm;exact ht m (List.mem_of_mem_eraseIdx hm)
 .intro m hm;obtain⟨x,hx,rfl⟩:=j_.mp hm;unfold dh;split
  .exact ht x hx
  .exact ht x hx
theorem QJ{s:Int}{l out:List Mv}(hl:l≠[])(ht:∀m∈l,m.to≠s):wP (cD s l out).1<wP l:=by
 unfold cD;split
 .rename_i i hi;have dQ:i<l.length:=by unfold eY at hi;rw[List.findIdx?_eq_some_iff_getElem] at hi;exact hi.1
  have h1:(l.eraseIdx i).length=l.length-1:=List.length_eraseIdx_of_lt dQ;have h2:=NF (l.eraseIdx i);have h3:wP l=2*l.length:=by unfold wP;rw[hi];simp
  dsimp only;omega
 .rename_i hn;have h3:wP l=2*l.length+1:=by unfold wP;rw[hn]
  have hf:∃i,eY (l.map (dh s (fw l)))=some i:=by
   cases h:eY (l.map (dh s (fw l))) with
   |some i=>exact⟨i,rfl⟩
   |none=>
    exfalso;unfold eY at h;rw[List.findIdx?_eq_none_iff] at h;cases l with
    |nil=>exact hl rfl
    |cons x l=>
     have:=h (dh s (fw (x::l)) x) (j_.mpr ⟨x,Dq ..,rfl⟩);simp only[Bool.not_eq_false',rD] at this;rw[List.any_eq_true] at this;obtain⟨y,hy,hn⟩:=this;obtain⟨z,hz,rfl⟩:=j_.mp hy;have yr:(dh s (fw (x::l)) x).to=x.to:=by unfold dh;split<;>rfl
     have hhd:fw (x::l)=x.to:=rfl;rw[yr,hhd] at hn;unfold dh at hn;split at hn
     .have:=ht x (Dq ..);simp[nx] at hn;exact this hn.symm
     .rename_i hc;exact hc hn
  obtain⟨i,hi⟩:=hf;have:wP (l.map (dh s (fw l)))=2*l.length:=by unfold wP;rw[hi];simp
  dsimp only;omega
def JN(h:ab)(v:Value)(l:List Mv)(b:Nat):Prop:=(l=[]/\aL bM h v [])\/∃ys,xl h v b ys l.length/\ys.take l.length=l
theorem JN.sl{h:ab}{v:Value}{l:List Mv}{b:Nat}(s:JN h v l b):aL bM h v l:=by
 rcases s with⟨rfl,s⟩|⟨ys,s,e⟩
 .exact s
 .have:=s.sl;rw[e] at this;exact this
theorem JN.grow{l:List Mv}(s:JN h v l b)(ok:bl h)(g:aa S h h')(hb:¬S b):JN h' v l b:=by
 rcases s with⟨rfl,s⟩|⟨ys,⟨hv,hn,o,st,hg,ho⟩,e⟩
 .left;obtain⟨a,cap,hv,hc⟩:=s;refine⟨rfl,a,cap,hv,?_⟩;rcases hc with hc|⟨b',off,cs,ro,o,st,ha,jf,hl,he⟩
  .exact .inl hc
  .exact .inl ⟨rfl,.inr ⟨_,_,ha⟩⟩
 .exact .inr ⟨ys,⟨hv,hn,o,st,g.get ok hg hb,ho⟩,e⟩
def aej(h:ab)(s:Int)(R:List Mv)(K:Nat)(n:Nat)(e:Env)(h1:ab):Prop:=
 ∃l out v w b sB,ai e 1=.int .i64 s/\ai e 2=.pointer (some ⟨h.next,0,none⟩)/\ai e 5=w/\h1.tr.get h.next=some (.aC [v] false 0 sB)/\JN h1 v l b/\h.next<b/\bJ bM h.next h1 w out/\(∀x,aw w x->x≠b/\x≠h.next)/\mj s n l out=R/\wP l<=n/\out.length+n<=K/\(∀m∈l,m.to≠s)/\l.length<=1000/\aa aG h h1
theorem NH(s:Int)(n:Nat)(out:List Mv):mj s n [] out=out:=by cases n<;>simp[mj]
theorem GA{cs vs:List Value}{c:Value}(h:cs[k]?=some c):aR cs (k+1) vs=aR cs k (c::vs):=by unfold aR;have hk:=(bK.mp h);rw[yS,h,List.length_cons,AL k 1,Nat.add_comm 1];simp
theorem UY{α:Type}{E:Enc α}{xs:List α}(ok:bl h)(a:bJ E n0 h v xs)(o:aw v b):b<h.next:=by
 obtain⟨off,n,cap,rfl⟩:=o;rcases a with⟨_,e⟩|⟨b',s,e,hb,_,_⟩
 .cases e
 .cases e;exact ok.wf _ _ hb
def RK(h9:ab)(s r:Int)(B T b:Nat)(l:List Mv)(ysl o:Nat)(w:Value)(n:Nat)(e:Env)(h1:ab):Prop:=
 ∃j zs st,n=l.length-j/\j<=l.length/\ai e 48=.int .i64 (j:Nat)/\ai e 47=.int .i64 l.length/\ai e 46=.slice (some ⟨b,0,none⟩) l.length ysl/\ai e 1=.int .i64 s/\ai e 2=.pointer (some ⟨B,0,none⟩)/\ai e 5=w/\ai e 8=.pointer (some ⟨T,0,none⟩)/\zs.length=ysl/\zs.take j=(l.take j).map (dh s r)/\(zs.take l.length).drop j=l.drop j/\h1.tr.get b=some (.aC (bM.flat zs) false o st)/\aa (· =b) h9 h1
theorem NI(ok:bl h){xs:List Mv}(hs:aL bM h v xs)(hn:xs.length<=1000){s:Int}(ht:∀m∈xs,m.to≠s):aE FF Jp [v,.int .i64 s] h (fun r h'=>aa aG h h'/\bJ bM h.next h' r (uu s (xs.filter fun m=> !fJ m))):=by
 obtain⟨a,cap,rfl,Yk⟩:=id hs;refine aE.of TL ?_;unfold IC;simp;have g1:=aH ok [.slice a xs.length cap] 0;have hB:=bq h [.slice a xs.length cap] 0;have SB:=NL h [.slice a xs.length cap] 0;generalize aD h [.slice a xs.length cap] 0=h1 at*;refine aF.call (by simpa using Ij g1.ok (hs.aX ok g1) (by omega)) ?_;rintro v2 h2⟨g2,H⟩;simp;refine aF.call (V:=fun r h'=>aa aG h1 h'/\∃b,h.next<b/\JN h' r (xs.filter fun m=> !fJ m) b) ?_ ?_
 .simp;rcases H with⟨rfl,H⟩|⟨b,hb,H⟩
  .refine(BG g2.ok H).mono ?_;rintro _ h3⟨rfl,g3⟩;exact⟨g2.trans g3,h.next+1,by omega,.inl ⟨rfl,H.aX g2.ok g3⟩⟩
  .refine(Ax g2.ok H (by omega) (p:=fJ) (fun h3 ok3 x=>by refine cP.func ?_;simpa using Im ok3 x)).mono ?_;rintro r h3⟨g3,RJ,n,he,hO⟩;refine⟨g2.trans' g3 (fun _ _ h=>h) (by rintro x hx rfl;exact absurd hx (by omega)),b,by omega,.inr ⟨RJ,?_,?_⟩⟩
   .have:(xs.filter fun m=> !fJ m).length=n:=by rw[<-he,List.length_take];have:=hO.2.1;omega
    rw[this];exact hO
   .have:(xs.filter fun m=> !fJ m).length=n:=by rw[<-he,List.length_take];have:=hO.2.1;omega
    rw[this];exact he
 .rintro r h3⟨g3,b,hb,hL⟩;have hB3:=g3.get g1.ok hB;have KG:(xs.filter fun m=> !fJ m).length<=1000:=xf (Xs _ _) hn;have SF:∀m∈(xs.filter fun m=> !fJ m),m.to≠s:=fun m hm=>ht m (VX.mp hm).1;generalize xs.filter (fun m=> !fJ m)=l0 at*;obtain⟨ar,W_,hr,hL'⟩:=id hL.sl;simp[hB3,hr];have g4:aa aG h (put h3 h.next 0 [.slice a xs.length cap] [.slice ar l0.length W_] 0):=(g1.trans g3).put ⟨_,hB3⟩ (.inl (dH _));have hB4:(put h3 h.next 0 [.slice a xs.length cap] [.slice ar l0.length W_] 0).tr.get h.next=some (.aC [.slice ar l0.length W_] false 0 h3.clock):=by simp
  have hL4:=hL.grow (g3.ok) (aJ g3.ok (off:=0) (vs:=[.slice ar l0.length W_]) hB3) (show ¬b=h.next by omega);generalize put h3 h.next 0 [.slice a xs.length cap] [.slice ar l0.length W_] 0=h4 at*;refine az.loop (aej h s (uu s l0) (2*l0.length+1)) ?_ (n:=2*l0.length+1)
   ⟨l0,[],r,.slice none 0 0,b,_,by simp,by simp,by simp,hr▸hB4,hL4,hb,.inl ⟨rfl,rfl⟩,(by rintro x⟨_,_,_,e⟩;cases e),rfl,NF _,by simp,SF,KG,g4⟩
  rintro n e h5⟨l,out,v,w,b,sB,e1,e2,e5,hB5,hL5,Su,hA,hd,hR,hmu,hK,ht5,Sy,g5⟩;unfold DV;obtain⟨av,PB,hv,_⟩:=id hL5.sl;by_cases hl:l=[]
  .subst hl;subst hv;rw[NH] at hR;simp[e1,e2,e5,hB5];subst hR;exact⟨g5,hA⟩
  .have Ep:0<l.length:=List.length_pos_iff.mpr hl;subst hv;have ar5:¬h.next=h5.next:=by have:=g5.ok.wf _ _ hB5;omega
   simp[e1,e2,e5,hB5,Ep,ar5];have g6:aa aG h5 (put (aD h5 [.nilFunc] 0) h5.next 0 [.nilFunc] [.func (.func jl) #[] #[.pointer (some ⟨h.next,0,none⟩)]] 0):=(aH g5.ok _ _).put ⟨_,bq _ _ _⟩ (.inl (dH _));have hT6:(put (aD h5 [.nilFunc] 0) h5.next 0 [.nilFunc] [.func (.func jl) #[] #[.pointer (some ⟨h.next,0,none⟩)]] 0).tr.get h5.next=some (.aC [.func (.func jl) #[] #[.pointer (some ⟨h.next,0,none⟩)]] false 0 h5.clock):=by simp
   have hB6:=g6.get g5.ok hB5;have Qb:=hL5.grow g5.ok g6 (fun h=>h);have XB:=hA.grow g5.ok g6 (fun _ _ h=>h);have hT5:h5.next<(put (aD h5 [.nilFunc] 0) h5.next 0 [.nilFunc] [.func (.func jl) #[] #[.pointer (some ⟨h.next,0,none⟩)]] 0).next:=by simp
   generalize put (aD h5 [.nilFunc] 0) h5.next 0 [.nilFunc] [.func (.func jl) #[] #[.pointer (some ⟨h.next,0,none⟩)]] 0=h6 at*;refine aF.call (by simpa using pM (p:=fun m=> !rD l m.to) (fv:=.func (.func xV) #[] #[.pointer (some ⟨h5.next,0,none⟩)]) g6.ok Qb.sl (by omega) (fun h7 g7 x _=>by refine cP.func ?_;simpa using CT g7.ok (m:=x) (g7.get g6.ok hB6) (g7.get g6.ok hT6) (Qb.sl.aX g6.ok g7) (by omega))) ?_
   rintro _ h7⟨rfl,g7⟩;have hB7:=g7.get g6.ok hB6;have hL7:=Qb.grow g6.ok g7 (fun h=>h);have hA7:=XB.grow g6.ok g7 (fun _ _ h=>h);have gg:aa aG h h7:=(g5.trans g6).trans g7;obtain⟨k,rfl⟩:∃k,n=k+1:=⟨n-1,by unfold wP at hmu;omega⟩;have te:=QJ (out:=out) hl ht5;have yr:=Il (out:=out) ht5;have hR':mj s k (cD s l out).1 (cD s l out).2=uu s l0:=by rw[<-hR];simp[mj,hl]
   have hff:l.findIdx? (fun m=> !rD l m.to)=eY l:=rfl;rw[hff];cases hf:eY l with
   |some i=>
    have zw:cD s l out=(l.eraseIdx i,out++[l.getD i uv]):=by unfold cD;rw[hf]
    rw[zw] at te yr hR';have hi:i<l.length:=by unfold eY at hf;rw[List.findIdx?_eq_some_iff_getElem] at hf;exact hf.1
    obtain⟨ys,hO,Je⟩:=hL7.resolve_left (fun h=>hl h.1);have hx:l[i]?=some l[i]:=ff hi;obtain⟨b',off,iN,Ge,_,_,hr⟩:=hL7.sl.read hx;have yq:=hr 0 3 (by simp);simp only[vi,IW] at yq;cases Ge;have hrB:aV h7 h.next 0 1=some [.slice (some ⟨b',off,none⟩) l.length PB]:=by simp[hB7]
    have g8:=aH g7.ok (bM.enc l[i]) 0;have hw8:aL bM (aD h7 (bM.enc l[i]) 0) (.slice (some ⟨h7.next,0,none⟩) 1 1) [l[i]]:=⟨_,_,rfl,.inr ⟨h7.next,0,_,_,_,_,rfl,bq _ _ _,by simp,by simp⟩⟩;have hA8:=hA7.grow g7.ok g8 (fun _ _ h=>h);have hB8:=g8.get g7.ok hB7;have hO8:JN (aD h7 (bM.enc l[i]) 0) (.slice (some ⟨b',off,none⟩) l.length PB) l b:=hL7.grow g7.ok g8 (fun h=>h);have ar9:h.next<(aD h7 (bM.enc l[i]) 0).next:=g8.ok.wf _ _ hB8
    obtain⟨w',h9,ha,hA9,g9,hd9⟩:=j4 (bytes:=24) g8.ok (z:=[.int .i64 0,.bool false,.int .i64 0]) rfl hA8 hw8 (by omega) (by decide) (by omega);have hB9:=g9.get g8.ok hB8 (fun hx=>(hd _ hx).2 rfl);have hL9:=hO8.grow g8.ok g9 (fun hx=>(hd _ hx).1 rfl);have asv:aV h9 h.next 0 1=some [.slice (some ⟨b',off,none⟩) l.length PB]:=by simp[hB9]
    have hw1:=wrap_i64 (i+1) (by omega) (by omega);have hgg9:aa (aw w) h7 h9:=g8.aX.trans g9;rw[yj] at ha;simp[e1,e2,e5,hrB,hi,yq,ha,asv,hw1,-ae];obtain⟨ys9,hO9,as9⟩:=hL9.resolve_left (fun h=>hl h.1);refine aF.call (by simpa using Gx g9.ok hO9 (by omega) hi rfl) ?_;rintro _ Aj⟨yl,EB,SI,abf⟩;have P0:=yl.get g9.ok hB9 (show ¬h.next=b by omega);have aeP:=hA9.grow g9.ok yl (fun x hx=>by rintro rfl;have:=hd9 _ hx;have:=g8.ok.wf;have:=hO8;rcases hO8 with⟨h,_⟩|⟨_,⟨_,_,o,st,hg,_⟩,_⟩;exact hl h;have:=g8.ok.wf _ _ hg;omega);have X0:(l.eraseIdx i).length=l.length-1:=List.length_eraseIdx_of_lt hi;rw[as9] at SI;have ae4:JN Aj _ (l.eraseIdx i) b:=.inr ⟨EB,by rw[X0];exact abf,by rw[X0];exact SI⟩;obtain⟨rfl,ak_,akU⟩:=id abf;have ED:aa aG h (put Aj h.next 0 [.slice (some ⟨b',off,none⟩) l.length PB] [.slice (some ⟨b,0,none⟩) (l.length-1) EB.length] 0):=by have hg:aa aG h Aj:=(gg.trans' g8 (fun _ _ h=>h) (fun _ _ h=>h.elim)).trans' (g9.trans' yl (S:=fun x=>h.next<=x) (fun x _ hx=>hA8.of hx) (fun x _ hx=>by omega)) (fun _ _ h=>h) (fun x hx h=>absurd hx (by omega));exact hg.put ⟨_,P0⟩ (.inl (dH _))
    have aqz:=ae4.grow yl.ok (aJ yl.ok (off:=0) (vs:=[.slice (some ⟨b,0,none⟩) (l.length-1) EB.length]) P0) (show ¬b=h.next by omega);have aqe:=aeP.grow yl.ok (aJ yl.ok (off:=0) (vs:=[.slice (some ⟨b,0,none⟩) (l.length-1) EB.length]) P0) (fun x hx=>by have:=hd9 _ hx;omega);simp[e1,e2,e5,P0];refine⟨k,by omega,l.eraseIdx i,out++[l.getD i uv],.slice (some ⟨b,0,none⟩) (l.length-1) EB.length,w',b,Aj.clock,?_⟩;refine⟨by simp[e1],by simp[e2],by simp,by simp,aqz,Su,?_,?_,hR',(by dsimp only at te;omega),(by simp;omega),yr,by omega,ED⟩
    .simpa [hi] using aqe
    .intro x hx;have:=hd9 _ hx;rcases hO8 with⟨h,_⟩|⟨_,⟨_,_,o,st,hg,_⟩,_⟩
     .exact absurd h hl
     .have:=g8.ok.wf _ _ hg;omega
   |none=>
    have zw:cD s l out=(l.map (dh s (fw l)),out++[⟨s,true,fw l⟩]):=by unfold cD;rw[hf]
    rw[zw] at te yr hR';obtain⟨ys,hO,Je⟩:=hL7.resolve_left (fun h=>hl h.1);have hx:l[0]?=some l[0]:=ff Ep;obtain⟨b',off,iN,Ge,_,_,hr⟩:=hL7.sl.read hx;have yq:=hr 0 1 (by simp);have hhd:fw l=l[0].to:=by
     cases l with
     |nil=>exact absurd rfl hl
     |cons x l=>rfl
    simp only[vi,IW,Nat.zero_mul] at yq;cases Ge;have hrB:aV h7 h.next 0 1=some [.slice (some ⟨b',off,none⟩) l.length PB]:=by simp[hB7]
    
    have g8:=(aH g7.ok [.bool false,.int .i64 0] 0).put (b:=h7.next) (off:=0) (vs:=[.bool true,.int .i64 l[0].to]) ⟨_,bq _ _ _⟩ (.inl (dH _));have hT8:(put (aD h7 [.bool false,.int .i64 0] 0) h7.next 0 [.bool false,.int .i64 0] [.bool true,.int .i64 l[0].to] 0).tr.get h7.next=some (.aC [.bool true,.int .i64 l[0].to] false 0 h7.clock):=by simp
    have ar9:(put (aD h7 [.bool false,.int .i64 0] 0) h7.next 0 [.bool false,.int .i64 0] [.bool true,.int .i64 l[0].to] 0).next=h7.next+1:=by simp
    simp[e1,e2,e5,hrB,Ep,yq,-ae];generalize hg8:put (aD h7 [.bool false,.int .i64 0] 0) h7.next 0 [.bool false,.int .i64 0] [.bool true,.int .i64 l[0].to] 0=h8 at*;have hA8:=hA7.grow g7.ok g8 (fun _ _ h=>h);have hB8:=g8.get g7.ok hB7;have hL8:=hL7.grow g7.ok g8 (fun h=>h);have asw:aV h8 h7.next 0 2=some [.bool true,.int .i64 l[0].to]:=by simp[hT8]
    have asu:aV h8 h.next 0 1=some [.slice (some ⟨b',off,none⟩) l.length PB]:=by simp[hB8]
    have g9:=aH g8.ok (bM.enc ⟨s,true,l[0].to⟩) 0;have hw9:aL bM (aD h8 (bM.enc ⟨s,true,l[0].to⟩) 0) (.slice (some ⟨h8.next,0,none⟩) 1 1) [⟨s,true,l[0].to⟩]:=⟨_,_,rfl,.inr ⟨h8.next,0,_,_,_,_,rfl,bq _ _ _,by simp,by simp⟩⟩;have hA9:=hA8.grow g8.ok g9 (fun _ _ h=>h);have hB9:=g9.get g8.ok hB8;have hT9:=g9.get g8.ok hT8;have hL9:=hL8.grow g8.ok g9 (fun h=>h);have hnx9:h.next<(aD h8 (bM.enc ⟨s,true,l[0].to⟩) 0).next:=g9.ok.wf _ _ hB9
    have awk:(aD h8 (bM.enc ⟨s,true,l[0].to⟩) 0).next=h8.next+1:=rfl
    obtain⟨w',Aj,ha,aeP,yl,XQ⟩:=j4 (bytes:=24) g9.ok (z:=[.int .i64 0,.bool false,.int .i64 0]) rfl hA9 hw9 (by omega) (by decide) (by omega);have P0:=yl.get g9.ok hB9 (fun hx=>(hd _ hx).2 rfl);have aqS:=yl.get g9.ok hT9 (fun hx=>absurd (UY g7.ok hA7 hx) (by omega));have ae4:=hL9.grow g9.ok yl (fun hx=>(hd _ hx).1 rfl);have alv:aV Aj h.next 0 1=some [.slice (some ⟨b',off,none⟩) l.length PB]:=by simp[P0]
    have akX:aa (aw w) h7 Aj:=(g8.aX.trans g9.aX).trans yl;rw[yj] at ha;simp[e1,e2,e5,hrB,Ep,yq,asw,asu,ha,alv,-ae];obtain⟨EB,abf,SI⟩:=ae4.resolve_left (fun h=>hl h.1);obtain⟨asT,ak_,o10,aut,akU,asa⟩:=abf;cases asT;have hbT:¬b=h7.next:=by
     rcases hL7 with⟨h,_⟩|⟨_,⟨_,_,o,st,hg,_⟩,_⟩
     .exact absurd h hl
     .have:=g7.ok.wf _ _ hg;omega
    have hbw:∀x,aw w' x->x≠b/\x≠h.next/\h.next<=x:=by
     intro x hx;have:=XQ x hx;rcases hL9 with⟨h,_⟩|⟨_,⟨_,_,o,st,hg,_⟩,_⟩
     .exact absurd h hl
     .have:=g9.ok.wf _ _ hg;omega
    refine az.loop (RK Aj s l[0].to h.next h7.next b l EB.length o10 w') ?_ (n:=l.length)
     ⟨0,EB,aut,by simp,by simp,by simp,by simp,by simp,by simp[e1],by simp[e2],by simp,by simp,rfl,by simp,by simpa using SI,akU,.refl yl.ok⟩
    rintro n e LM⟨j,zs,st,rfl,hj,e48,e47,e46,e1,e2,e5,e8,zx,hzt,hzd,abt,ED⟩;have aeS:=ED.get yl.ok P0 (show ¬h.next=b by omega);have akc:=ED.get yl.ok aqS (fun e=>hbT e.symm);unfold DU;by_cases aM:j<l.length
    .have hx:zs[j]?=some l[j]:=by
      have:((zs.take l.length).drop j)[0]?=(l.drop j)[0]? :=by rw[hzd]
      simpa [aM,El] using this
     have hjz:j<zs.length:=by omega
     have qM:aV LM b (j*3) 3=some (bM.enc l[j]):=by rw[cx abt (by rw[Enc.bh];simp;omega)];have:=Enc.jQ bM zs j 0 3 _ hx (by simp);simpa using this
     have hnB:¬h.next=LM.next:=by have:=ED.ok.wf _ _ aeS;omega
     have hnT:¬h7.next=LM.next:=by have:=ED.ok.wf _ _ akc;omega
     have Nc:¬b=LM.next:=by have:=ED.ok.wf _ _ abt;omega
     have hw:=wrap_i64 (j+1) (by omega) (by omega);rw[yj] at qM;have MV:aa aG LM (put (aD LM [.int .i64 0,.bool false,.int .i64 0] 0) LM.next 0 [.int .i64 0,.bool false,.int .i64 0] [.int .i64 l[j].to,.bool l[j].tQ,.int .i64 l[j].n] 0):=(aH ED.ok _ _).put ⟨_,bq _ _ _⟩ (.inl (dH _));have alu:aV (put (aD LM [.int .i64 0,.bool false,.int .i64 0] 0) LM.next 0 [.int .i64 0,.bool false,.int .i64 0] [.int .i64 l[j].to,.bool l[j].tQ,.int .i64 l[j].n] 0) LM.next 1 2=some [.bool l[j].tQ,.int .i64 l[j].n]:=by simp
     simp[e48,e47,e46,e1,e2,e5,e8,aM,qM,-ae];generalize put (aD LM [.int .i64 0,.bool false,.int .i64 0] 0) LM.next 0 [.int .i64 0,.bool false,.int .i64 0] [.int .i64 l[j].to,.bool l[j].tQ,.int .i64 l[j].n] 0=Xx at*;have aql:=MV.get ED.ok aeS;have aqT:=MV.get ED.ok akc;have afB:=MV.get ED.ok abt;have alw:aV Xx h.next 0 1=some [.slice (some ⟨b,0,none⟩) l.length EB.length]:=by simp[aql]
     have adC:aV Xx h7.next 0 2=some [.bool true,.int .i64 l[0].to]:=by simp[aqT]
     have ajE:aa (· =b) Aj Xx:=ED.trans MV.aX;have hmt:(l.take (j+1)).map (dh s l[0].to)=(l.take j).map (dh s l[0].to)++[dh s l[0].to l[j]]:=by rw[List.take_succ_eq_append_getElem aM,List.map_append];rfl
     have hzj:zs.take (j+1)=zs.take j++[l[j]]:=by rw[yS,hx];rfl
     have OQ:(zs.take l.length).drop (j+1)=l.drop (j+1):=by rw[<-List.drop_drop,hzd,List.drop_drop]
     cases hc:nx l[0].to l[j] with
     |true=>
      have Ib:l[j].tQ=true/\l[j].n=l[0].to:=by simpa [nx] using hc
      have dV:j*3+1+2<=EB.length*3:=by omega
      simp[e48,e47,e46,e1,e2,e5,e8,aM,alu,hw,Ib,alw,adC,afB,zx,dV,-ae];refine⟨l.length-(j+1),by omega,j+1,zs.set j ⟨l[j].to,true,s⟩,Xx.clock,rfl,by omega,by simp,by simp[e47],by simp[e46],by simp[e1],by simp[e2],by simp[e5],by simp[e8],by simp[zx],?_,?_,?_,ajE.put ⟨_,afB⟩ (.inr rfl)⟩
      .rw[zM _ _ _ hjz,hzt,hmt];simp[dh,hc]
      .rw[List.take_set,List.drop_set_of_lt (by omega),OQ]
      .rw[aA,GA (c:=.int .i64 l[j].to),<-bM.dS zs j ⟨l[j].to,true,s⟩ hjz]
       .rfl
       .have h0:=Enc.jQ bM zs j 0 1 _ hx (by simp);have h1:((bM.flat zs).drop (j*3))[0]?=some (.int .i64 l[j].to):=by have:=congrArg (·[0]?) h0;simpa [El] using this
        simpa using h1
     |false=>
      have Ib:l[j].tQ=false\/¬l[j].n=l[0].to:=by
       cases Es:l[j].tQ with
       |false=>exact .inl rfl
       |true=>right;simpa [nx,Es] using hc
      have abq:∀e':Env,ai e' 48=.int .i64 (j+1:Nat)->ai e' 47=.int .i64 l.length->ai e' 46=.slice (some ⟨b,0,none⟩) l.length EB.length->ai e' 1=.int .i64 s->ai e' 2=.pointer (some ⟨h.next,0,none⟩)->ai e' 5=w'->ai e' 8=.pointer (some ⟨h7.next,0,none⟩)->∃m,m<l.length-j/\RK Aj s l[0].to h.next h7.next b l EB.length o10 w' m e' Xx:=by
       intro e' f1 f2 f3 f4 f5 f6 f7;refine⟨l.length-(j+1),by omega,j+1,zs,st,rfl,by omega,f1,f2,f3,f4,f5,f6,f7,zx,?_,OQ,afB,ajE⟩;rw[hzj,hzt,hmt];simp[dh,hc]
      rcases Ib with Ib|Ib<;>simp[e48,e47,e46,e1,e2,e5,e8,aM,alu,hw,Ib,adC,-ae]<;>
       exact abq _ (by simp) (by simp[e47]) (by simp[e46]) (by simp[e1]) (by simp[e2]) (by simp[e5]) (by simp[e8])
    .have arL:j=l.length:=by omega
     subst arL;simp[e48,e47];have AO:(l.map (dh s (fw l))).length=l.length:=by simp
     have MV:aa aG h LM:=by have:aa (fun x=>h.next<=x) h7 LM:=akX.trans' ED (fun x _ hx=>hA7.of hx) (fun x _ hx=>by omega);exact gg.trans' this (fun _ _ h=>h) (fun x hx h=>absurd hx (by omega))
     refine⟨k,by omega,l.map (dh s (fw l)),out++[⟨s,true,fw l⟩],_,w',b,_,by simp[e1],by simp[e2],by simp[e5],aeS,.inr ⟨zs,⟨by rw[AO,zx],by omega,o10,st,abt,asa⟩,?_⟩,Su,?_,fun x hx=>⟨(hbw x hx).1,(hbw x hx).2.1⟩,hR',(by dsimp only at te;omega),(by simp;omega),yr,(by omega),MV⟩
     .rw[AO,hzt,hhd];simp
     .rw[hhd];exact aeP.grow yl.ok ED (fun x hx=>(hbw x hx).1)
def jN(l:List Bool)(v:Bool×Int):List Bool:=if v.1 then l.set v.2.toNat true else l
def kR(x:GI)(l:List Bool):List Bool:=(gm x).foldl jN (if 0<=x.dst then l.set x.dst.toNat false else l)
theorem yI(l:List Bool)(v:Bool×Int):(jN l v).length=l.length:=by unfold jN;split<;>simp
theorem C2:∀(vs:List (Bool×Int))(l:List Bool),(vs.foldl jN l).length=l.length
 |[],_=>rfl
 |v::vs,l=>by rw[List.foldl_cons,C2 vs,yI]
theorem DH(x:GI)(l:List Bool):(kR x l).length=l.length:=by unfold kR;rw[C2];split<;>simp
def mX(d o:Nat)(l:List Bool)(h h':ab):Prop:=aa (· =d) h h'/\∃s,h'.tr.get d=some (.aC (cX.flat l) false o s)
theorem Au(ok:bl h){d o s c:Nat}(hd:h.tr.get d=some (.aC (cX.flat l) false o s))(v:Bool×Int)(hv:h_ l.length v):aE FF qw [.slice (some ⟨d,0,none⟩) l.length c,.agg ⟨[.bool v.1,.int .i64 v.2]⟩] h (fun _ h'=>mX d o (jN l v) h h'):=by
 obtain⟨rg,n⟩:=v;have od:=ok.bE hd;have nd:=od.lt;refine aE.of Ef ?_;unfold wH;have g1:aa aG h (aD h [.bool rg,.int .i64 n] 0):=(aa.refl ok).new _ _;have Wd:=g1.get ok hd;cases rg with
 |false=>
  simp;exact⟨g1.aX,s,Wd⟩
 |true=>
  obtain⟨h0n,hnr⟩:=hv rfl;dsimp only at h0n hnr;obtain⟨n,rfl⟩:∃n':Nat,n=n':=⟨n.toNat,by omega⟩;have hn:n<l.length:=by omega
  have hn1:n+1<=l.length:=hn;have ne:¬d=h.next:=by omega
  simp[hn,hd,ne,hn1];exact⟨g1.aX.trans (aJ g1.ok Wd),_,by rw[aA,qf l n true hn];rfl⟩
def Po:ak:=(.ops [⟨(some 4),none,(.alloc yK)⟩,⟨none,none,(.store 2 (.tmp 4) (.tmp 14))⟩])
def Ft:ak:=(.block 1 (.ops [⟨(some 15),none,(.load none (.tmp 2))⟩,⟨(some 16),none,(.load (some 2) (.tmp 4))⟩,⟨(some 17),none,(.call (.func qw) [(.tmp 15),(.tmp 16)])⟩]))
def aiE(h0 hA:ab)(d o:Nat)(x:GI)(l:List Bool)(e:Env)(_B j:Nat)(h2:ab):Prop:=
 aa (· =d) hA h2/\h2.tr.get hA.next=some (.loop e [14] Po Ft .ready)/\∃s,h2.tr.get d=some (.aC (cX.flat (((gm x).take j).foldl jN l)) false o s)
theorem Ph(gL:bl h0)(g0:aa aG h0 hA)(hd:hA.tr.get d=some (.aC (cX.flat l) false o sd))(h0d:h0.next<=d)(hY:hA.tr.get Y=some (.aC [.slice (some ⟨d,0,none⟩) l.length cd] false 0 sY))(nY:Y≠d)(hX:hA.tr.get X=some (.aC (cz x A) false 0 sX))(nX:X≠d)(sA:SliceR vR 2 h0 A.v x.args)(KA:x.args.length<1900000)(hv:∀v∈gm x,h_ l.length v)(f2:ai e 2=.pointer (some ⟨Y,0,none⟩))(f13:ai e 13=.func (.func iG) #[] #[.pointer (some ⟨X,0,none⟩)])(norm:∀h',mX d o ((gm x).foldl jN l) hA h'->QQ .normal e h'):az FF (.ET (.tmp 13) [14] Po Ft) e hA QQ:=by
 have lL:=g0.ok;have lX:=(lL.bE hX).lt;have lY:=(lL.bE hY).lt;have ld:=(lL.bE hd).lt;obtain⟨g1,KG⟩:=yn lL e [14] Po Ft;have qk:(hA.new (.loop e [14] Po Ft .ready)).next=hA.next+1:=rfl
 refine az.ET (first:= #[]) (caps:= #[.pointer (some ⟨X,0,none⟩)]) (by simpa using f13) ?_;generalize hA.new (.loop e [14] Po Ft .ready)=hL at*;have up:∀h2,aa (· =d) hA h2->aa aG h0 h2:=fun h2 g=>g0.trans' g (fun _ _ h=>h) (fun x hx e=>by omega);have H:=Hs (h:=hL) gL sA (by omega) (X:=X) (y:=.func (.yield hA.next) #[] #[]) (aiE h0 hA d o x l e) (fun b=>b=d\/b=hA.next) (fun _=>False)
  (fun _ _ h2 hh=>⟨up h2 hh.1,sX,hh.1.get lL hX nX⟩)
  (fun _ _ h2 h3 hh g=>by obtain⟨q1,q2,s,q3⟩:=hh;exact⟨q1.trans g.aX,g.get q1.ok q2,s,g.get q1.ok q3⟩)
  (by rintro b (rfl|rfl)<;>omega) ?_ (g0.trans g1) ⟨sX,g1.get lL hX⟩
  (fun h1 g=>⟨(g1.trans g).aX,g.get g1.ok KG,sd,by simpa using(g1.trans g).get lL hd⟩)
 .refine aE.mono (by simpa using H) ?_;rintro v h' hh;have hh':∃B:Nat,aiE h0 hA d o x l e B (gm x).length h':=by
   first|exact hh|exact⟨0,hh⟩
  obtain⟨_,q1,q2,s,q3⟩:=hh';unfold rZ;rw[q2];have gd:aa (· =hA.next) h' (zq h' hA.next):=kq q1.ok hA.next;rw[xK] at q3;exact norm _ ⟨q1.trans' gd (fun _ _ h=>h) (fun x hx e=>by omega),s,gd.get q1.ok q3 (by omega)⟩
 .rintro Bq k v h2 hk hB1 P5⟨q1,q2,s,q3⟩;have vB:=hv v (bU hk);refine(Hg (S:=fun b=>b=d) (K:=fun h'=>aa (· =d) hA h'/\∃s,h'.tr.get d=some (.aC (cX.flat (((gm x).take (k+1)).foldl jN l)) false o s)) (Z:=fun _=>False) q1.ok (by omega) q2 ?_ ?_ (fun _ _ h=>h.elim)).mono ?_
  .unfold Po;simp;have gv:aa aG h2 (put (aD h2 [.bool false,.int .i64 0] 0) h2.next 0 [.bool false,.int .i64 0] [.bool v.1,.int .i64 v.2] 0):=(aa.refl q1.ok).var _ _;have hV:(put (aD h2 [.bool false,.int .i64 0] 0) h2.next 0 [.bool false,.int .i64 0] [.bool v.1,.int .i64 v.2] 0).tr.get h2.next=some (.aC [.bool v.1,.int .i64 v.2] false 0 h2.clock):=by simp
   generalize put (aD h2 [.bool false,.int .i64 0] 0) h2.next 0 [.bool false,.int .i64 0] [.bool v.1,.int .i64 v.2] 0=h3 at*;refine⟨gv,fun h4 g4=>?_⟩;have lL2:hA.next<h2.next:=q1.ok.wf _ _ q2;have t4:aa (· =d) hA h4:=(q1.trans gv.aX).trans' g4 (fun _ _ h=>h) (fun x hx e=>by omega);have q4:=g4.get gv.ok (gv.get q1.ok q3) (by omega);have M4:=g4.get gv.ok hV (by omega);have Dw:=t4.get lL hY nY;have yZ:(((gm x).take k).foldl jN l).length=l.length:=C2 _ _;unfold Ft;simp[f2,Dw,M4];refine aF.call (V:=fun _ h'=>mX d o (jN (((gm x).take k).foldl jN l) v) h4 h') (by have:=Au t4.ok (c:=cd) q4 v (by rw[yZ];exact vB);rw[yZ] at this;simpa using this) ?_
   rintro _ h5⟨g5,s5,q5⟩;simp;refine⟨g5,t4.trans g5,s5,?_⟩;rw[yS,hk,List.foldl_append];exact q5
  .rintro h4 h5⟨z1,s,z2⟩ _ g;exact⟨z1.trans' g (fun _ _ h=>h) (fun x hx e=>by omega),s,g.get z1.ok z2 (by omega)⟩
  .rintro r h5⟨g5,⟨rfl,Sy,k1,s,k2⟩|⟨_,_,z⟩⟩
   .exact⟨g5.bH (fun b _ h=>.inl h),.inl ⟨rfl,k1,Sy,s,k2⟩⟩
   .exact z.elim
def WE(n:Nat)(x:GI):Prop:=x.dst<n/\x.args.length<1900000/\∀v∈gm x,h_ n v
theorem DG(gL:bl h0)(g0:aa aG h0 h){d o sd cd:Nat}(hd:h.tr.get d=some (.aC (cX.flat l) false o sd))(h0d:h0.next<=d)(sA:SliceR vR 2 h0 A.v x.args)(hx:WE l.length x):aE FF kS [.slice (some ⟨d,0,none⟩) l.length cd,.agg ⟨cz x A⟩] h (fun _ h'=>mX d o (kR x l) h h'):=by
 have ok:=g0.ok;have ld:=(ok.bE hd).lt;refine aE.of Cx ?_;unfold vd;have n1:¬h.next=h.next+1:=by omega
 have n2:¬d=h.next:=by omega
 have n3:¬d=h.next+1:=by omega
 have n4:¬h.next=d:=by omega
 have n5:¬h.next+1=d:=by omega
 simp[cz,aK];refine az.cut (fun h1=>aa aG h h1/\(∃s,h1.tr.get h.next=some (.aC [.slice (some ⟨d,0,none⟩) l.length cd] false 0 s))/\∃s,h1.tr.get (h.next+1)=some (.aC (cz x A) false 0 s)) ?_ ?_
 .exact⟨((aa.refl ok).new _ _).new _ _,⟨0,by simp[n1]⟩,0,by simp[cz,aK]⟩
 rintro h1⟨g1,⟨s1,hY1⟩,s2,qq⟩;have Wd:=g1.get ok hd;have xM:=qq;simp[cz,aK] at xM
 
 have tail:∀(h2:ab)(e:Env)(l2:List Bool)(Q:aO->Env->ab->Prop),ai e 2=.pointer (some ⟨h.next,0,none⟩)->ai e 12=.agg ⟨cz x A⟩->aa (· =d) h1 h2->(∃s,h2.tr.get d=some (.aC (cX.flat l2) false o s))->l2.length=l.length->(∀e' h',mX d o ((gm x).foldl jN l2) h2 h'->Q .normal e' h')->aF FF [⟨some 13,none,.call (.func xU) [.tmp 12]⟩] e h2 (Fg FF (.block 0 (.ET (.tmp 13) [14] Po Ft)) Q .normal):=by
  intro h2 e l2 Q f2 f12 g2 ⟨sd2,Ic⟩ yZ K;have uN:=g2.get g1.ok hY1 n4;refine aF.call (V:=fun v h'=>v=.func (.func iG) #[] #[.pointer (some ⟨h2.next,0,none⟩)]/\h'=aD h2 (cz x A) 0) (by simpa [f12] using JI h2 x A) ?_;rintro _ h3⟨rfl,rfl⟩;simp;have g3:=aH g2.ok (cz x A) 0;have ld2:=(g2.ok.bE Ic).lt;have iO:=bq h2 (cz x A) 0;have g03:aa aG h0 (aD h2 (cz x A) 0):=((g0.trans g1).trans' g2 (fun _ _ h=>h) (fun y hy e=>by omega)).trans g3;generalize aD h2 (cz x A) 0=h3 at*;have vT:=g3.get g2.ok uN;rw[<-yZ] at vT;refine Ph gL g03 (g3.get g2.ok Ic) h0d vT n4 iO (by omega) sA hx.2.1 (by rw[yZ];exact hx.2.2) (by simp[f2]) (by simp) ?_;rintro h4⟨g4,s4,q4⟩;simp;exact K _ _ ⟨g3.aX.trans g4,s4,q4⟩
 by_cases Nk:0<=x.dst
 .obtain⟨m,hm⟩:∃m:Nat,x.dst=m:=⟨x.dst.toNat,by omega⟩;have AO:m<l.length:=by have:=hx.1;omega
  have X3:m+1<=l.length:=AO;rw[hm] at xM;simp[hm,xM,hY1,AO,Wd,X3,n5];have g2:aa (· =d) h1 (put h1 d m (cX.flat l) [.bool false] o):=aJ g1.ok Wd;refine tail _ _ (l.set m false) _ (by simp) (by simp[cz,aK,hm]) g2 ⟨h1.clock,by rw[aA,qf l m false AO]⟩ (by simp) ?_;rintro e' h'⟨g',s',q'⟩;simp;refine⟨g1.aX.trans (g2.trans g'),s',?_⟩;unfold kR;rw[aY Nk,hm];exact q'
 .have c1:¬0<=x.dst:=Nk;simp[c1,xM];refine tail _ _ l _ (by simp) (by simp[cz,aK]) (aa.refl g1.ok) ⟨_,Wd⟩ rfl ?_;rintro e' h'⟨g',s',q'⟩;simp;refine⟨g1.aX.trans g',s',?_⟩;unfold kR;rw[bc Nk];exact q'
theorem xr(h:ab)(L:SV):aE FF gZ [L.v] h (fun v h'=>v=.func (.func bu) #[] #[.pointer (some ⟨h.next,0,none⟩)]/\h'=aD h [L.v] 0):=by refine aE.of mR ?_;unfold gU;simp
def aoD(n:Nat)(y:Value)(b:Nat)(I:Nat->ab->Prop)(m:Nat)(e:Env)(h2:ab):Prop:=m<=n/\ai e 0=y/\ai e 1=.pointer (some ⟨b,0,none⟩)/\ai e 3=.int .i64 ((m:Int)-1)/\I m h2
theorem wM(gL:bl h0)(hL:SliceR (iR h0) 8 h0 L.v xs)(hl:xs.length<1000000){y:Value}(I:Nat->ab->Prop)(hI:∀j h2,I j h2->aa aG h0 h2/\∃s,h2.tr.get b=some (.aC [L.v] false 0 s))(H:∀j x A h2,xs[j]?=some x->SliceR vR 2 h0 (SV.v A) x.args->I (j+1) h2->cP FF y [.int .i64 (j:Nat),.agg ⟨cz x A⟩] h2 (fun v h'=>v=.bool true/\I j h'))(hi:I xs.length h):aE FF bu [y,.pointer (some ⟨b,0,none⟩)] h (fun _ h'=>I 0 h'):=by
 have tc:=SliceR.len hL;obtain⟨_,s0,H8⟩:=hI _ _ hi;simp at H8;have w:=wrap_i64 ((xs.length:Int)-1) (by omega) (by omega);refine aE.of lQ ?_;unfold fW;simp[H8,tc,w];refine az.loop (aoD xs.length y b I) ?_ (n:=xs.length) ⟨dH _,by simp,by simp,by simp,hi⟩;rintro m e h2⟨hj,f0,f1,f3,hi⟩;unfold fz;cases m with
 |zero=>
  have:¬(0:Int)<= -1:=by omega
  simp[f3];exact hi
 |succ j=>
  have hx:xs[j]?=some xs[j]:=ff (by omega);generalize xs[j]=x at hx;obtain⟨g2,s,hb⟩:=hI _ _ hi;simp at hb;obtain⟨bT,off,c,AM,_,_,⟨A,rfl,sA⟩,_,cS⟩:=SliceR.later gL hL hx;have r0:=cS h2 g2 0 8 (by decide);simp[-ae,aK] at r0;have e3:(((j+1:Nat):Int)-1)=(j:Int):=by omega
  rw[e3] at f3;have aM:j<xs.length:=by omega
  have wj:=wrap_i64 ((j:Int)-1) (by omega) (by omega);rw[AM,tc] at hb;simp[f0,f1,f3,aq hb,aM,r0,-ae];refine aF.cu (V:=fun v h'=>v=.bool true/\I j h') (by simpa [f0,cz,aK] using H j x A h2 hx sA hi) ?_;rintro _ h3⟨rfl,hi3⟩;simp[f3,wj];exact⟨j,by omega,by omega,by simp[f0],by simp[f1],by simp,hi3⟩
def nw(xs:List GI)(l:List Bool):List Bool:=xs.foldr kR l
theorem vW:∀(xs:List GI)(l:List Bool),(nw xs l).length=l.length
 |[],_=>rfl
 |x::xs,l=>by show(kR x (nw xs l)).length=l.length;rw[DH,vW xs l]
theorem Ny(hx:xs[j]?=some x)(l:List Bool):nw (xs.drop j) l=kR x (nw (xs.drop (j+1)) l):=by rw[List.drop_eq_getElem_cons (bK.mp hx).1,(bK.mp hx).2];rfl
def TA:ak:=(.ops [⟨(some 9),none,(.alloc L0)⟩,⟨none,none,(.store 8 (.tmp 9) (.tmp 63))⟩])
def IE:ak:=(.block 7 (.ops [⟨(some 64),none,(.load none (.tmp 7))⟩,⟨(some 65),none,(.load (some 8) (.tmp 9))⟩,⟨(some 66),none,(.call (.func kS) [(.tmp 64),(.tmp 65)])⟩]))
def LvI(hA:ab)(d o bk:Nat)(L:SV)(xs:List GI)(l:List Bool)(e:Env)(j:Nat)(h2:ab):Prop:=
 aa (· =d) hA h2/\h2.tr.get hA.next=some (.loop e [62,63] TA IE .ready)/\(∃s,h2.tr.get d=some (.aC (cX.flat (nw (xs.drop j) l)) false o s))/\∃s,h2.tr.get bk=some (.aC [L.v] false 0 s)
theorem UR(gL:bl h0)(g0:aa aG h0 hA)(hd:hA.tr.get d=some (.aC (cX.flat l) false o sd))(h0d:h0.next<=d)(hY:hA.tr.get Y=some (.aC [.slice (some ⟨d,0,none⟩) l.length cd] false 0 sY))(nY:Y≠d)(hB:hA.tr.get bk=some (.aC [L.v] false 0 sB))(nB:bk≠d)(hL:SliceR (iR h0) 8 h0 L.v xs)(hl:xs.length<1000000)(hx:∀x∈xs,WE l.length x)(f7:ai e 7=.pointer (some ⟨Y,0,none⟩))(f61:ai e 61=.func (.func bu) #[] #[.pointer (some ⟨bk,0,none⟩)])(norm:∀h',mX d o (nw xs l) hA h'->QQ .normal e h'):az FF (.ET (.tmp 61) [62,63] TA IE) e hA QQ:=by
 have lL:=g0.ok;have lB:=(lL.bE hB).lt;have lY:=(lL.bE hY).lt;have ld:=(lL.bE hd).lt;obtain⟨g1,KG⟩:=yn lL e [62,63] TA IE;have qk:(hA.new (.loop e [62,63] TA IE .ready)).next=hA.next+1:=rfl
 refine az.ET (first:= #[]) (caps:= #[.pointer (some ⟨bk,0,none⟩)]) (by simpa using f61) ?_;generalize hA.new (.loop e [62,63] TA IE .ready)=hL0 at*;have up:∀h2,aa (· =d) hA h2->aa aG h0 h2:=fun h2 g=>g0.trans' g (fun _ _ h=>h) (fun x hx e=>by omega);have H:=wM (h:=hL0) gL (b:=bk) hL hl (y:=.func (.yield hA.next) #[] #[]) (LvI hA d o bk L xs l e)
  (fun _ h2 hh=>⟨up h2 hh.1,hh.2.2.2⟩) ?_ ⟨g1.aX,KG,⟨sd,by rw[List.drop_length];exact g1.get lL hd⟩,sB,g1.get lL hB⟩
 .refine aE.mono (by simpa using H) ?_;rintro v h'⟨q1,q2,⟨s,q3⟩,_⟩;unfold rZ;rw[q2];have gd:aa (· =hA.next) h' (zq h' hA.next):=kq q1.ok hA.next;rw[List.drop_zero] at q3;exact norm _ ⟨q1.trans' gd (fun _ _ h=>h) (fun x hx e=>by omega),s,gd.get q1.ok q3 (by omega)⟩
 .rintro j x A h2 hxj sA⟨q1,q2,⟨s,q3⟩,sk,q4⟩;have hxx:=hx x (bU hxj);refine(AF (S:=fun b=>b=d) (K:=fun h'=>aa (· =d) hA h'/\(∃s,h'.tr.get d=some (.aC (cX.flat (nw (xs.drop j) l)) false o s))/\∃s,h'.tr.get bk=some (.aC [L.v] false 0 s)) q1.ok (by omega) q2 ?_ ?_).mono ?_
  .unfold TA;simp[cz,aK];have gv:aa aG h2 (put (aD h2 [.int .i64 0,.int .i64 0,.bool false,.int .i64 0,.bool false,.int .i64 0,.int .i64 0,.slice none 0 0] 0) h2.next 0 [.int .i64 0,.int .i64 0,.bool false,.int .i64 0,.bool false,.int .i64 0,.int .i64 0,.slice none 0 0] [.int .i64 x.op,.int .i64 x.dst,.bool x.a.1,.int .i64 x.a.2,.bool x.b.1,.int .i64 x.b.2,.int .i64 x.fn,.slice A.a A.l A.c] 0):=(aa.refl q1.ok).var _ _;have hV:(put (aD h2 [.int .i64 0,.int .i64 0,.bool false,.int .i64 0,.bool false,.int .i64 0,.int .i64 0,.slice none 0 0] 0) h2.next 0 [.int .i64 0,.int .i64 0,.bool false,.int .i64 0,.bool false,.int .i64 0,.int .i64 0,.slice none 0 0] [.int .i64 x.op,.int .i64 x.dst,.bool x.a.1,.int .i64 x.a.2,.bool x.b.1,.int .i64 x.b.2,.int .i64 x.fn,.slice A.a A.l A.c] 0).tr.get h2.next=some (.aC [.int .i64 x.op,.int .i64 x.dst,.bool x.a.1,.int .i64 x.a.2,.bool x.b.1,.int .i64 x.b.2,.int .i64 x.fn,.slice A.a A.l A.c] false 0 h2.clock):=by simp
   generalize put (aD h2 _ 0) h2.next 0 _ _ 0=h3 at*;refine⟨gv,fun h4 g4=>?_⟩;have lL2:hA.next<h2.next:=q1.ok.wf _ _ q2;have t4:aa (· =d) hA h4:=(q1.trans gv.aX).trans' g4 (fun _ _ h=>h) (fun x hx e=>by omega);have q4':=g4.get gv.ok (gv.get q1.ok q3) (by omega);have M4:=g4.get gv.ok hV (by omega);have Dw:=t4.get lL hY nY;have hB4:=t4.get lL hB nB;have yZ:(nw (xs.drop (j+1)) l).length=l.length:=vW _ _;unfold IE;simp[f7,Dw,M4];refine aF.call (V:=fun _ h'=>mX d o (kR x (nw (xs.drop (j+1)) l)) h4 h') (by have:=DG gL (up h4 t4) (cd:=cd) q4' h0d sA (by rw[yZ];exact hxx);rw[yZ] at this;simpa [cz,aK] using this) ?_
   rintro _ h5⟨g5,s5,q5⟩;simp;exact⟨g5,t4.trans g5,⟨s5,by rw[Ny hxj];exact q5⟩,sB,g5.get t4.ok hB4 nB⟩
  .rintro h4 h5⟨z1,⟨s,z2⟩,sk,z3⟩ _ g;exact⟨z1.trans' g (fun _ _ h=>h) (fun x hx e=>by omega),⟨s,g.get z1.ok z2 (by omega)⟩,sk,g.get z1.ok z3 (by omega)⟩
  .rintro r h5⟨rfl,g5,Sy,k1,k2,k3⟩;exact⟨rfl,k1,Sy,k2,k3⟩
def pP(n0:Nat)(h:ab)(n:Nat)(s:SV)(l:List Bool):Prop:=l.length=n/\∃d o st,s=⟨some ⟨d,0,none⟩,n,n⟩/\n0<=d/\h.tr.get d=some (.aC (cX.flat l) false o st)
theorem pP.grow{s:SV}(w:pP n0 h n s l)(ok:bl h)(g:aa S h h')(hS:∀b,n0<=b->aw s.v b->¬S b):pP n0 h' n s l:=by obtain⟨hl,d,o,st,rfl,hn,hb⟩:=w;exact⟨hl,d,o,st,rfl,hn,g.get ok hb (hS d hn (bC rfl))⟩
theorem pP.low{s:SV}(w:pP n0 h n s l)(hn:n1<=n0):pP n1 h n s l:=by obtain⟨hl,d,o,st,e,h1,hb⟩:=w;exact⟨hl,d,o,st,e,by omega,hb⟩
def orM(l m:List Bool):List Bool:=List.zipWith (fun a b=>a||b) l m
theorem KZ(h:m.length=l.length):(orM l m).length=l.length:=by simp[orM,h]
theorem agX{a b:Bool}(h1:l[i]?=some a)(h2:m[i]?=some b):(orM l m)[i]?=some (a||b):=by simp[orM,List.getElem?_zipWith,h1,h2]
def Rj:List Nat:=[14,15,45,46,47,48,49,50,51,52,53,54,55,56,57,58,59,60]
def OrI(hA:ab)(d dm o:Nat)(l m:List Bool)(e:Env)(mm:Nat)(e':Env)(h':ab):Prop:=
 ∃(j:Nat) (s:List Bool),mm=l.length-j/\j<=l.length/\ax Rj e e'/\ai e' 45=.int .i64 j/\s.length=l.length/\(∀i:Nat,s[i]?=if i<j then(orM l m)[i]? else l[i]?)/\mX d o s hA h'
theorem TB(lL:bl hA){d o sd dm om sm:Nat}{rm:Bool}(hd:hA.tr.get d=some (.aC (cX.flat l) false o sd))(hm:hA.tr.get dm=some (.aC (cX.flat m) rm om sm))(ndm:dm≠d)(hlm:m.length=l.length)(hl:l.length<1000000)(f9:ai e 9=.slice (some ⟨d,0,none⟩) l.length l.length)(f43:ai e 43=.slice (some ⟨dm,0,none⟩) l.length l.length)(f44:ai e 44=.int .i64 l.length)(f45:ai e 45=.int .i64 0)(C:∀e' h',ax Rj e e'->mX d o (orM l m) hA h'->QQ (.exit 2) e' h'):az FF (.loop nM) e hA QQ:=by
 refine az.loop (OrI hA d dm o l m e) ?_ (n:=l.length) ⟨0,l,rfl,by omega,.refl _ _,f45,rfl,fun i=>by simp,.refl lL,sd,hd⟩;rintro mm e' h'⟨j,s,rfl,hj,K,Le,y5,hs,g,st,hb⟩;have q9:=K.at (t:=9) f9;have N1:=K.at (t:=43) f43;have Hb:=K.at (t:=44) f44;have We:=g.get lL hm ndm;unfold nM;by_cases aM:j<l.length
 .have wj:=wrap_i64 ((j:Int)+1) (by omega) (by omega);obtain⟨a,ha⟩:=ay l j aM;obtain⟨b,cC⟩:=ay m j;have hsj:s[j]?=some a:=by rw[hs j,bc (by omega),ha]
  have ra:=AD hb hsj;have rb:=AD We cC;have zv:j+1<=s.length:=by omega
  have fin:∀(e2:Env)(h2:ab),ax Rj e' e2->ai e2 45=.int .i64 ((j+1:Nat):Int)->aa (· =d) h' h2->(∃st,h2.tr.get d=some (.aC (cX.flat (s.set j (a||b))) false o st))->∃Jm,Jm<l.length-j/\OrI hA d dm o l m e Jm e2 h2:=by
   intro e2 h2 K2 k45 g2 vk;refine⟨l.length-(j+1),by omega,j+1,s.set j (a||b),rfl,aM,K.trans K2,k45,by simp[y5],fun i=>?_,g.trans g2,vk⟩;rw[eu];by_cases e1:j=i
   .subst e1;rw[aY rfl,aY (by omega),aY (by omega),agX ha cC]
   .rw[bc e1,hs i];by_cases e2:i<j
    .rw[aY e2,aY (by omega)]
    .rw[bc e2,bc (by omega)]
  have gp:∀v:Bool,aa (· =d) h' (put h' d j (cX.flat s) [.bool v] o):=fun v=>aJ g.ok hb;cases a with
  |true=>
   simp[q9,N1,Hb,Le,aM,ra,rb,hb,zv,wj,-ae];refine fin _ _ ?_ (by simp) (gp true) ⟨h'.clock,by rw[aA,qf s j true (by omega)];rfl⟩
   repeat (refine ax.set ?_)
   exact .refl _ _
  |false=>
   simp[q9,N1,Hb,Le,aM,ra,rb,hb,zv,wj,-ae];refine fin _ _ ?_ (by simp) (gp b) ⟨h'.clock,by rw[aA,qf s j b (by omega)];simp⟩
   repeat (refine ax.set ?_)
   exact .refl _ _
 .have:j=l.length:=by omega
  subst this;simp[Hb,Le];refine C _ _ (ax.set K) ?_;have:s=orM l m:=yT fun i=>by
   rw[hs i];by_cases e1:i<l.length
   .rw[aY e1]
   .rw[bc e1,qY (by omega),qY (by rw[KZ hlm];omega)]
  rw[<-this];exact⟨g,st,hb⟩
def wO(k:Nat)(qs:List GP)(l:List Bool):List Bool:=qs.foldl (fun l q=>jN l ((q.row[k]?).getD (false,0))) l
theorem yv(k:Nat):∀(qs:List GP)(l:List Bool),(wO k qs l).length=l.length
 |[],_=>rfl
 |q::qs,l=>by show(wO k qs (jN l _)).length=l.length;rw[yv k qs,yI]
def ZX:List Nat:=[18,70,71,72,73,74,75,76,77,78,79,80,81]
def RwI(hA:ab)(d o k:Nat)(qs:List GP)(l:List Bool)(e:Env)(mm:Nat)(e':Env)(h':ab):Prop:=
 ∃j:Nat,mm=qs.length-j/\j<=qs.length/\ax ZX e e'/\ai e' 70=.int .i64 j/\mX d o (wO k (qs.take j) l) hA h'
theorem Pr(gL:bl h0)(g0:aa aG h0 hA)(hd:hA.tr.get d=some (.aC (cX.flat l) false o sd))(h0d:h0.next<=d)(sP:SliceR (pR h0) 2 h0 P.v qs)(hl:qs.length<1000000)(hq:∀q∈qs,k<q.row.length/\∀v∈q.row,h_ l.length v)(f9:ai e 9=.slice (some ⟨d,0,none⟩) l.length l.length)(f16:ai e 16=.int .i64 k)(f68:ai e 68=P.v)(f69:ai e 69=.int .i64 qs.length)(f70:ai e 70=.int .i64 0)(C:∀e' h',ax ZX e e'->mX d o (wO k qs l) hA h'->QQ (.exit 4) e' h'):az FF (.loop nJ) e hA QQ:=by
 have iF:=SliceR.len sP;have lL:=g0.ok;refine az.loop (RwI hA d o k qs l e) ?_ (n:=qs.length) ⟨0,rfl,by omega,.refl _ _,f70,.refl lL,sd,hd⟩;rintro mm e' h'⟨j,rfl,hj,K,q70,g,st,hb⟩;have q9:=K.at (t:=9) f9;have wX:=K.at (t:=16) f16;have q68:=K.at (t:=68) f68;have q69:=K.at (t:=69) f69;have gg:aa aG h0 h':=g0.trans' g (fun _ _ h=>h) (fun x hx e=>by omega);unfold nJ;by_cases aM:j<qs.length
 .have wj:=wrap_i64 ((j:Int)+1) (by omega) (by omega);obtain⟨q,KI⟩:=ay qs j aM;obtain⟨hk,hv⟩:=hq q (bU KI);obtain⟨bP,off,c,oG,_,_,⟨A,rfl,sA⟩,_,cS⟩:=SliceR.later gL sP KI;have r0:=cS h' gg 0 2 (by decide);have Cm:=SliceR.len sA;obtain⟨v,hvk⟩:=ay q.row k hk;have vB:=hv v (bU hvk);obtain⟨bA,atG,cA,T_,_,_,rfl,oA,Ye⟩:=SliceR.later gL sA hvk;simp[-ae] at r0;simp at q68;rw[oG,iF] at q68;have oA':=gg.bE oA;have rA:=Ye h' gg 0 2 (by decide);simp[-ae] at rA;rw[T_,Cm] at r0;simp[q9,wX,q68,q69,q70,aM,r0,hk,rA,oA',bj,aN,-ae,au];refine aF.cut (fun h2=>aa aG h' h2) ((aa.refl g.ok).var _ _) ?_;intro h2 g2;have cC:=g2.get g.ok hb;have yZ:(wO k (qs.take j) l).length=l.length:=yv _ _ _;refine aF.call (V:=fun _ hh=>mX d o (jN (wO k (qs.take j) l) v) h2 hh) (by have:=Au g2.ok (c:=l.length) cC v (by rw[yZ];exact vB);rw[yZ] at this;simpa using this) ?_
  rintro _ h3⟨g3,s3,vk⟩;simp[q70,wj];refine⟨qs.length-(j+1),by omega,j+1,rfl,aM,?_,by simp,g.trans (g2.aX.trans g3),s3,?_⟩
  .repeat (refine ax.set ?_)
   exact K
  .rw[yS,KI];unfold wO at vk⊢;rw[List.foldl_append];simpa [hvk] using vk
 .have:j=qs.length:=by omega
  subst this;simp[q69,q70];refine C _ _ (ax.set K) ?_;rw[xK] at hb;exact⟨g,st,hb⟩
theorem No{xs:List Int}(hW:aL bg h W.v xs)(hl:xs.length<1000000)(ht:t∈xs):aE FF fU [W.v,.int .i64 t] h (fun v h'=>h'=h/\∃k:Nat,v=.int .i64 k/\k=xs.idxOf t/\k<xs.length):=by
 have H7:W.l=xs.length:=by obtain⟨a,cap,e,_⟩:=hW;simp at e;exact e.2.1
 refine aE.of jq ?_;unfold fT;simp[H7];refine az.loop (IxI h W t xs) ?_ (n:=xs.length) ⟨0,rfl,by omega,by simp[H7],by simp,by simp,by simp,rfl,fun k hk=>by omega⟩;rintro m e h2⟨j,rfl,hj,f0,f1,f7,f8,rfl,hn⟩;unfold eZ;have aM:j<xs.length:=by
  rcases Ae j xs.length with h|h
  .exact h
  .obtain⟨k,hk⟩:=oD ht;exact absurd hk (hn k (by have:=(bK.mp hk).1;omega))
 have wj:=wrap_i64 ((j:Int)+1) (by omega) (by omega);obtain⟨x,hx⟩:=ay xs j aM;obtain⟨bW,QV,PA,Dv,_,_,cS⟩:=hW.read hx;have ro:=cS 0 1 (by decide);simp[-ae] at ro Dv;simp at f0;rw[Dv.1,H7] at f0;by_cases e1:t=x
 .subst e1;simp[f0,f1,f7,f8,aM,ro,-ae];refine⟨j,rfl,?_,aM⟩;have h1:xs.idxOf t<xs.length:=List.idxOf_lt_length_iff.2 ht;have h2:xs[xs.idxOf t]=t:=List.getElem_idxOf h1;rcases Nat.lt_trichotomy j (xs.idxOf t) with h|h|h
  .exfalso;have:=List.not_of_lt_findIdx (p:=(· ==t)) (xs:=xs) (i:=j) h;rw[(bK.mp hx).2] at this;simp at this
  .exact h
  .exact absurd (by rw[ff h1,h2]) (hn _ h)
 .have e2:(t==x)=false:=by simp[e1]
  simp[f0,f1,f7,f8,aM,ro,e2,wj,-ae];refine⟨xs.length-(j+1),by omega,j+1,rfl,by omega,by simp[f0,Dv.1,H7],by simp[f1],by simp[f7],by simp,rfl,fun k hk he=>?_⟩;rcases Ae k j with h|h
  .exact hn k h he
  .have:k=j:=by omega
   subst this;rw[hx] at he;cases he;exact e1 rfl
structure Fa(n:Nat)(ah:List (List Int))(bs:List GB):Prop where
 n1:n<1000000
 len:bs.length<=1000
 ahl:ah.length=bs.length
 row:∀ps∈ah,ps.length<1000000
 ph:∀(i:Nat)(b:GB)(ps:List Int),bs[i]?=some b->ah[i]?=some ps->b.dk.length<1000000/\∀q∈b.dk,(0<=q.dst/\q.dst<n)/\q.row.length=ps.length/\∀v∈q.row,h_ n v
 li:∀b∈bs,b.list.length<1000000/\∀x∈b.list,WE n x
 on:∀b∈bs,h_ n b.on
 to:∀(i:Nat)(b:GB),bs[i]?=some b->b.to.length<1000000/\∀t∈b.to,(0<=t/\t<bs.length)/\∀ps,ah[t.toNat]?=some ps->(i:Int)∈ps
structure Sets(n0:Nat)(h:ab)(n:Nat)(ss:List SV)(ls:List (List Bool)):Prop where
 len:ss.length=ls.length
 at_:∀(i:Nat)(s:SV)(l:List Bool),ss[i]?=some s->ls[i]?=some l->pP n0 h n s l
theorem Sets.grow{S:Nat->Prop}{n0 n:Nat}{h h':ab}{ss:List SV}{ls:List (List Bool)}(w:Sets n0 h n ss ls)(ok:bl h)(g:aa S h h')(hS:∀b,n0<=b->b<h.next->¬S b):Sets n0 h' n ss ls:=
 ⟨w.len,fun i s l h1 h2=>by have a:=w.at_ i s l h1 h2;refine a.grow ok g (fun b hb cC=>?_);obtain⟨_,d,o,st,rfl,_,hd⟩:=a;have:=iD (A:=⟨some ⟨d,0,none⟩,n,n⟩) rfl cC;subst this;exact hS b hb (ok.wf _ _ hd)⟩
def Zn(bs:List GB)(t:Int):List GP:=((bs[t.toNat]?).map (·.dk)).getD []
def Aw(bs:List GB)(ah:List (List Int))(ls:List (List Bool))(b:Nat)(l:List Bool)(t:Int):List Bool:=
 wO (((ah[t.toNat]?).getD []).idxOf (b:Int)) (Zn bs t) (orM l ((ls[t.toNat]?).getD []))
def d_(n:Nat)(bs:List GB)(ah:List (List Int))(ls:List (List Bool))(b:Nat):List Bool:=
 (((bs[b]?).map (·.to)).getD []).foldl (Aw bs ah ls b) (List.replicate n false)
def ZS:List Nat:=[12,13,14,15,16,18]++(List.range 52).map (· +31)
def BtI(hA:ab)(d o:Nat)(bs:List GB)(ah:List (List Int))(ls:List (List Bool))(b n:Nat)(ts:List Int)(l:List Bool)(e:Env)(mm:Nat)(e':Env)(h':ab):Prop:=
 ∃j:Nat,mm=ts.length-j/\j<=ts.length/\ax ZS e e'/\ai e' 31=.int .i64 j/\((ts.take j).foldl (Aw bs ah ls b) l).length=n/\mX d o ((ts.take j).foldl (Aw bs ah ls b) l) hA h'
theorem YL(h:((ls[t.toNat]?).getD []).length=l.length):(Aw bs ah ls b l t).length=l.length:=by unfold Aw;rw[yv,KZ h]
theorem Ps(gL:bl h0)(g0:aa aG h0 hA){p r:Int}{B IN T:SV}(hd:hA.tr.get d=some (.aC (cX.flat l) false o sd))(hln:l.length=n)(h0d:h0.next<=d)(hX:hA.tr.get X=some (.aC (aj name p r B) false 0 sX))(nX:X≠d)(hB:yM h0 B bs)(I:Fa n ah bs)(wa:je bg na h0 da ws ah)(hIN:aL gQ h0 IN.v ss)(hS:Sets 0 h0 n ss ls)(y5:ls.length=bs.length){x:GB}(hx:bs[b]?=some x)(sT:SliceR nR 1 h0 T.v x.to)(f1:ai e 1=.slice (some ⟨da,0,none⟩) bs.length bs.length)(f2:ai e 2=IN.v)(f3:ai e 3=.int .i64 b)(f4:ai e 4=.pointer (some ⟨X,0,none⟩))(f9:ai e 9=.slice (some ⟨d,0,none⟩) n n)(f29:ai e 29=T.v)(f30:ai e 30=.int .i64 x.to.length)(f31:ai e 31=.int .i64 0)(C:∀e' h',ax ZS e e'->mX d o (x.to.foldl (Aw bs ah ls b) l) hA h'->QQ (.exit 0) e' h'):az FF (.loop nN) e hA QQ:=by
 have vj:=SliceR.len sT;have cV:=SliceR.len hB;have lL:=g0.ok;obtain⟨tl,tq⟩:=I.to b x hx;have hIl:IN.l=ss.length:=by obtain⟨a,cap,e,_⟩:=hIN;simp at e;exact e.2.1
 refine az.loop (BtI hA d o bs ah ls b n x.to l e) ?_ (n:=x.to.length) ⟨0,rfl,by omega,.refl _ _,f31,hln,.refl lL,sd,hd⟩;rintro mm e' h'⟨j,rfl,hj,K,Q6,hsn,g,st,hb⟩;have q1:=K.at (t:=1) f1;have q2:=K.at (t:=2) f2;have q3:=K.at (t:=3) f3;have q4:=K.at (t:=4) f4;have q9:=K.at (t:=9) f9;have NZ:=K.at (t:=29) f29;have DT:=K.at (t:=30) f30;have gg:aa aG h0 h':=g0.trans' g (fun _ _ h=>h) (fun x hx e=>by omega);unfold nN;by_cases aM:j<x.to.length
 .have wj:=wrap_i64 ((j:Int)+1) (by omega) (by omega);obtain⟨t,htj⟩:=ay x.to j aM;obtain⟨⟨SF,htn⟩,hme⟩:=tq t (bU htj);obtain⟨u,rfl⟩:∃u:Nat,t=u:=⟨t.toNat,by omega⟩;have xg:u<bs.length:=by omega
  obtain⟨y,hy⟩:=ay bs u xg;obtain⟨ps,iT⟩:=ay ah u (by rw[I.ahl];exact xg);obtain⟨w,hw⟩:=ay ws u (by rw[wa.len,I.ahl];exact xg);obtain⟨m,hm⟩:=ay ls u (by rw[y5];exact xg);have adJ:u<ss.length:=by rw[hS.len,y5];exact xg
  obtain⟨s,hs⟩:=ay ss u adJ;obtain⟨AO,dm,om,sm,rfl,_,hdm⟩:=hS.at_ u s m hs hm;have re:(b:Int)∈ps:=hme ps (by simpa using iT);obtain⟨pl,pq⟩:=I.ph u y ps hy iT
  
  obtain⟨bT,atH,cT,AM,_,_,rfl,_,Uy⟩:=SliceR.later gL sT htj;have rT:=Uy h' gg 0 1 (by decide);obtain⟨bB,GJ,cB,dZ,_,_,⟨P,L,T2,rfl,sP,sL,sT2⟩,_,hrdB⟩:=SliceR.later gL hB hy;have rB:=hrdB h' gg 0 6 (by decide);have iF:=SliceR.len sP;simp[-ae] at rT rB;simp at NZ;rw[AM,vj] at NZ;have nt:=g.get lL hX nX;simp[aj] at nt;rw[dZ,cV] at nt;have aqy:=hIN.aX gL gg;obtain⟨bI,offI,capI,hIv,_,⟨_,_,_,_,hbI⟩,hrdI⟩:=aqy.read hs;have rI:=hrdI 0 1 (by decide);have oI:=g.ok.bE hbI;simp[-ae] at rI hIv;simp at q2;rw[hIv.1,hIl] at q2;simp[q1,q2,q3,q4,q9,NZ,DT,Q6,aM,rT,rB,nt,xg,adJ,rI,oI,bj,aN,-ae,aq nt];refine az.cut (fun h2=>aa aG h' h2/\∃s,h2.tr.get h'.next=some (.aC [P.v,L.v,.int .i64 y.kind,.bool y.on.1,.int .i64 y.on.2,T2.v] false 0 s)) ⟨(aa.refl g.ok).var _ _,h'.clock,by simp[aR]⟩ ?_;rintro h2⟨g2,s2,uN⟩;have jd:=gg.trans g2;have ld:d<h'.next:=g.ok.wf _ _ hb;have cC:=g2.get g.ok hb;have arv:=jd.get gL hdm;have ldm:=gL.wf _ _ hdm;generalize Ga:(x.to.take j).foldl (Aw bs ah ls b) l=l' at*;rw[<-hsn] at q9 AO;refine TB g2.ok cC arv (by omega) AO (by rw[hsn];exact I.n1) (by simp[q9]) (by simp[hsn]) (by simp[hsn]) (by simp) ?_;rintro e3 h3 K3⟨g3,s3,vk⟩;have k1:=K3.at (t:=1) (by simp;exact q1);have k3:=K3.at (t:=3) (by simp;exact q3);have k9:=K3.at (t:=9) (by simp;exact q9);have Nr:ai e3 12=.int .i64 u:=K3.at (t:=12) (by simp);have k13:ai e3 13=.pointer (some ⟨h'.next,0,none⟩):=K3.at (t:=13) (by simp);have dw:aa aG h0 h3:=jd.trans' g3 (fun _ _ h=>h) (fun x hx e=>by omega);have vT:=g3.get g2.ok uN (by omega);have wa3:=wa.aX gL dw;obtain⟨sa,hda⟩:=wa3.aC;have ra:=oh hda hw;simp[-ae] at ra;have hua:u<bs.length:=xg;simp[k1,k3,Nr,k13,hua,ra,-ae];have hWs:aL bg h3 w.v ps:=(wa3.acc u w ps hw iT).sl;refine aF.call (V:=fun v h'=>h'=h3/\∃k:Nat,v=.int .i64 k/\k=ps.idxOf (b:Int)/\k<ps.length) (by simpa using No hWs (I.row ps (bU iT)) re) ?_;rintro _ h4⟨rfl,k,rfl,hk,pc⟩;simp at vT;simp[k13,vT,-ae,aq vT];have KH:(orM l' m).length=l'.length:=KZ AO;refine Pr gL dw (k:=k) vk h0d sP pl (fun q hq=>?_) (by rw[KH];simp[k9]) (by simp) (by simp) (by simp[iF]) (by simp) ?_
  .obtain⟨_,a2,a3⟩:=pq q hq;exact⟨by omega,by rw[KH,hsn];exact a3⟩
  rintro e5 h5 K5⟨g5,s5,Su⟩;have m31:ai e5 31=.int .i64 j:=K5.at (t:=31) (by simp;exact K3.at (t:=31) (by simp;exact Q6));simp[m31,wj];have te:Aw bs ah ls b l' (u:Int)=wO k y.dk (orM l' m):=by unfold Aw Zn;rw[hk];simp[hy,iT,hm]
  have adt:(x.to.take (j+1)).foldl (Aw bs ah ls b) l=wO k y.dk (orM l' m):=by rw[yS,htj,List.foldl_append,Ga];exact te
  refine⟨x.to.length-(j+1),by omega,j+1,rfl,aM,?_,by simp,by rw[adt,yv,KH];exact hsn,g.trans ((g2.aX.trans g3).trans g5),s5,by rw[adt];exact Su⟩;refine ax.set (ax.set ?_);refine ax.trans ?_ (K5.bH)
  repeat (refine ax.set ?_)
  refine ax.trans ?_ (K3.bH)
  repeat (refine ax.set ?_)
  exact K
 .have:j=x.to.length:=by omega
  subst this;simp[DT,Q6];refine C _ _ (ax.set K) ?_;rw[xK] at hb;exact⟨g,st,hb⟩
theorem Df(I:Fa n ah bs)(y5:ls.length=bs.length)(b:Nat)(H:∀l∈ls,l.length=n):(d_ n bs ah ls b).length=n:=by
 have go:∀(ts:List Int)(l:List Bool),(∀t∈ts,0<=t/\t<bs.length)->l.length=n->(ts.foldl (Aw bs ah ls b) l).length=n:=by
  intro ts;induction ts with
  |nil=>intro l _ h;exact h
  |cons t ts ih=>
   intro l ht hl;rw[List.foldl_cons];refine ih _ (fun t h=>ht t (EE _ h)) ?_;have htt:=ht t (Dq ..);obtain⟨m,hm⟩:=ay ls t.toNat (by rw[y5];omega);rw[YL (by rw[hm,hl];exact H m (bU hm)),hl]
 unfold d_;cases hx:bs[b]? with
 |none=>simp
 |some x=>
  obtain⟨_,tq⟩:=I.to b x hx;exact go _ _ (fun t ht=>(tq t ht).1) (by simp)
theorem Mf(ok:bl h){name:ByteArray}{p:Int}(hB:yM h B bs)(I:Fa n ah bs)(wa:je bg na h da ws ah)(hIN:aL gQ h IN.v ss)(hS:Sets 0 h n ss ls)(y5:ls.length=bs.length){x:GB}(hx:bs[b]?=some x):aE FF wT [.agg ⟨aj name p n B⟩,.slice (some ⟨da,0,none⟩) bs.length bs.length,IN.v,.int .i64 b] h (fun v h'=>aa aG h h'/\(d_ n bs ah ls b).length=n/\∃s:SV,v=s.v/\pP h.next h' n s (d_ n bs ah ls b)):=by
 have cV:=SliceR.len hB;have ma:=(bK.mp hx).1;have hn:=I.n1;have r1:roomy n=true:=by simp[roomy];omega
 obtain⟨bB,GJ,cB,dZ,_,_,⟨P,L,T,rfl,sP,sL,sT⟩,oB,hrdB⟩:=SliceR.later ok hB hx;have vj:=SliceR.len sT;have hz:iP [Value.bool false] n=cX.flat (List.replicate n false):=yF cX false rfl n;refine aE.of Ee ?_;unfold wG;have rB:∀h',aa aG h h'->aV h' bB (GJ+b*6) 6=some [P.v,L.v,.int .i64 x.kind,.bool x.on.1,.int .i64 x.on.2,T.v]:=fun h' g=>by have:=hrdB h' g 0 6 (by decide);simpa [-ae] using this
 have r6:=rB h (.refl ok);simp[-ae] at r6;have n1:¬h.next=h.next+1:=by omega
 have n2:¬h.next=h.next+1+1:=by omega
 have n3:¬h.next+1=h.next+1+1:=by omega
 simp[aj,dZ,cV,r1,hz,ma,r6,oB,aN,bj,jx,au,n1,-ae];refine az.cut (fun h1=>aa aG h h1/\(∃s,h1.tr.get h.next=some (.aC (aj name p n B) false 0 s))/\∃o s,h1.tr.get (h.next+1)=some (.aC (cX.flat (List.replicate n false)) false o s)) ?_ ?_
 .exact⟨(((aa.refl ok).new _ _).new _ _).var _ _,⟨0,by simp[n1,n2,aj,dZ,cV]⟩,_,0,by simp[n3];rfl⟩
 rintro h2⟨jd,⟨sX,ef⟩,od,sd,Ic⟩;refine Ps ok jd (X:=h.next) Ic (by simp) (by omega) ef (by omega) hB I wa hIN hS y5 hx sT (by simp) (by simp) (by simp) (by simp) (by simp) (by simp) (by simp[vj]) (by simp) ?_;rintro e3 h3 K3⟨g3,s3,vk⟩;have k9:ai e3 9=.slice (some ⟨h.next+1,0,none⟩) n n:=K3.at (t:=9) (by simp);have hM:d_ n bs ah ls b=x.to.foldl (Aw bs ah ls b) (List.replicate n false):=by unfold d_;rw[hx];rfl
 have cj:(x.to.foldl (Aw bs ah ls b) (List.replicate n false)).length=n:=by rw[<-hM];refine Df I y5 b (fun l hl=>?_);obtain⟨i,hi⟩:=oD hl;obtain⟨s,hs⟩:=ay ss i (by rw[hS.len];exact(bK.mp hi).1);exact(hS.at_ i s l hs hi).1
 simp[k9];rw[hM];exact⟨jd.trans' g3 (fun _ _ h=>h) (fun x hx e=>by omega),cj,⟨some ⟨h.next+1,0,none⟩,n,n⟩,by simp,cj,h.next+1,od,s3,rfl,by omega,vk⟩
def ov(l m:List Bool):Prop:=m.length=l.length/\∀i:Nat,l[i]?=some true->m[i]?=some true
theorem ov.refl(l:List Bool):ov l l:=⟨rfl,fun _ h=>h⟩
theorem ov.trans{a b c:List Bool}(h:ov a b)(k:ov b c):ov a c:=⟨by rw[k.1,h.1],fun i x=>k.2 i (h.2 i x)⟩
theorem ov.set{l m:List Bool}(h:ov l m)(i:Nat)(b:Bool):ov (l.set i b) (m.set i b):=by
 refine⟨by simp[h.1],fun j hj=>?_⟩;rw[eu] at hj⊢;by_cases e:i=j
 .subst e;rw[aY rfl] at hj⊢;rw[h.1];exact hj
 .rw[bc e] at hj⊢;exact h.2 j hj
theorem ov.take(h:ov l m)(v:Bool×Int):ov (jN l v) (jN m v):=by
 unfold jN;split
 .exact h.set _ _
 .exact h
theorem ov.Ot:∀(vs:List (Bool×Int)){l m:List Bool},ov l m->ov (vs.foldl jN l) (vs.foldl jN m)
 |[],_,_,h=>h
 |v::vs,_,_,h=>ov.Ot vs (h.take v)
theorem ov.ahead(h:ov l m)(x:GI):ov (kR x l) (kR x m):=by
 unfold kR;refine ov.Ot _ ?_;split
 .exact h.set _ _
 .exact h
theorem ov.list:∀(xs:List GI){l m:List Bool},ov l m->ov (nw xs l) (nw xs m)
 |[],_,_,h=>h
 |x::xs,_,_,h=>(ov.list xs h).ahead x
theorem ov.row(k:Nat):∀(qs:List GP){l m:List Bool},ov l m->ov (wO k qs l) (wO k qs m)
 |[],_,_,h=>h
 |_::qs,_,_,h=>ov.row k qs (h.take _)
theorem ov.or{l m l' m':List Bool}(h:ov l l')(k:ov m m'):ov (orM l m) (orM l' m'):=by
 refine⟨by simp[orM,h.1,k.1],fun i hi=>?_⟩;unfold orM at hi⊢;rw[List.getElem?_zipWith] at hi⊢;cases ha:l[i]? with
 |none=>rw[ha] at hi;simp at hi
 |some a=>
  cases hb:m[i]? with
  |none=>rw[ha,hb] at hi;simp at hi
  |some b=>
   rw[ha,hb] at hi;obtain⟨a',ha'⟩:∃a',l'[i]?=some a':=⟨_,ff (by rw[h.1];exact(bK.mp ha).1)⟩;obtain⟨b',jf⟩:∃a',m'[i]?=some a':=⟨_,ff (by rw[k.1];exact(bK.mp hb).1)⟩;rw[ha',jf];simp at hi⊢;rcases hi with rfl|rfl
   .have:=h.2 i ha;rw[ha'] at this;cases this;exact .inl rfl
   .have:=k.2 i hb;rw[jf] at this;cases this;exact .inr rfl
def LLe(ls ms:List (List Bool)):Prop:=ms.length=ls.length/\∀(i:Nat)(l m:List Bool),ls[i]?=some l->ms[i]?=some m->ov l m
theorem LLe.at(h:LLe ls ms)(i:Nat):ov ((ls[i]?).getD []) ((ms[i]?).getD []):=by
 rcases Ae i ls.length with hi|hi
 .obtain⟨l,hl⟩:∃a',ls[i]?=some a':=⟨_,ff hi⟩;obtain⟨m,hm⟩:∃a',ms[i]?=some a':=⟨_,ff (by rw[h.1];exact hi)⟩;rw[hl,hm];exact h.2 i l m hl hm
 .rw[qY hi,qY (by rw[h.1];exact hi)];exact .refl _
theorem ov.dD{bs:List GB}{ah:List (List Int)}{ls ms:List (List Bool)}(h:LLe ls ms)(b:Nat):∀(ts:List Int){l m:List Bool},ov l m->ov (ts.foldl (Aw bs ah ls b) l) (ts.foldl (Aw bs ah ms b) m)
 |[],_,_,k=>k
 |t::ts,_,_,k=>ov.dD h b ts (ov.row _ _ (k.or (h.at t.toNat)))
theorem ov.behind(h:LLe ls ms)(n b:Nat):ov (d_ n bs ah ls b) (d_ n bs ah ms b):=ov.dD h b _ (.refl _)
def qu(qs:List GP)(l:List Bool):List Bool:=qs.foldl (fun l q=>l.set q.dst.toNat false) l
theorem Av:∀(qs:List GP)(l:List Bool),(qu qs l).length=l.length
 |[],_=>rfl
 |q::qs,l=>by show(qu qs (l.set _ false)).length=l.length;rw[Av qs];simp
theorem ov.dk:∀(qs:List GP){l m:List Bool},ov l m->ov (qu qs l) (qu qs m)
 |[],_,_,h=>h
 |_::qs,_,_,h=>ov.dk qs (h.set _ _)
def xT(n:Nat)(bs:List GB)(ah:List (List Int))(ls:List (List Bool))(b:Nat)(x:GB):List Bool:=qu x.dk (nw x.list (jN (d_ n bs ah ls b) x.on))
theorem Jj(n:Nat)(bs:List GB)(ah:List (List Int))(ls:List (List Bool))(b:Nat)(x:GB):(xT n bs ah ls b x).length=(d_ n bs ah ls b).length:=by unfold xT;rw[Av,vW,yI]
theorem ov.live(h:LLe ls ms)(n b:Nat)(x:GB):ov (xT n bs ah ls b x) (xT n bs ah ms b x):=
 ov.dk _ (ov.list _ ((ov.behind h n b).take _))
def Below(n:Nat)(bs:List GB)(ah:List (List Int))(ls:List (List Bool)):Prop:=∀(b:Nat)(x:GB)(l:List Bool),bs[b]?=some x->ls[b]?=some l->ov l (xT n bs ah ls b x)
theorem LLe.set{ls:List (List Bool)}{b:Nat}{l m:List Bool}(hl:ls[b]?=some l)(h:ov l m):LLe ls (ls.set b m):=by
 refine⟨by simp,fun i a c h1 h2=>?_⟩;rw[eu] at h2;by_cases e:b=i
 .subst e;rw[aY rfl,aY (bK.mp hl).1] at h2;rw[hl] at h1;cases h1;cases h2;exact h
 .rw[bc e,h1] at h2;cases h2;exact .refl _
theorem Below.step{n:Nat}{bs:List GB}{ah:List (List Int)}{ls:List (List Bool)}(h:Below n bs ah ls){b:Nat}{x:GB}{l:List Bool}(hx:bs[b]?=some x)(hl:ls[b]?=some l):Below n bs ah (ls.set b (xT n bs ah ls b x)):=by
 have L:=LLe.set hl (h b x l hx hl);intro i y m hy hm;have k:=ov.live (bs:=bs) (ah:=ah) L n i y;rw[eu] at hm;by_cases e:b=i
 .subst e;rw[aY rfl,aY (bK.mp hl).1] at hm;rw[hx] at hy;cases hy;cases hm;exact k
 .rw[bc e] at hm;exact(h i y m hy hm).trans k
theorem IP:∀ {l m:List Bool},ov l m->vN m<=vN l/\(l≠m->vN m<vN l)
 |[],[],_=>⟨dH _,fun h=>absurd rfl h⟩
 |[],_::_,h=>by have:=h.1;simp at this
 |_::_,[],h=>by have:=h.1;simp at this
 |a::l,b::m,h=>by
  have hs:ov l m:=⟨by have:=h.1;simpa using this,fun i hi=>by simpa using h.2 (i+1) (by simpa using hi)⟩;obtain⟨h1,h2⟩:=IP hs;have h0:=h.2 0;unfold vN at*;rw[List.countP_cons,List.countP_cons];cases a with
  |true=>
   have:b=true:=by simpa using h0 rfl
   subst this;refine⟨by simpa using h1,fun ct=>?_⟩;have:=h2 (fun e=>ct (by rw[e]));simpa using this
  |false=>
   cases b with
   |true=>exact⟨by simp;omega,fun _=>by simp;omega⟩
   |false=>
    refine⟨by simpa using h1,fun ct=>?_⟩;have:=h2 (fun e=>ct (by rw[e]));simpa using this
def np(ls:List (List Bool)):Nat:=(ls.map vN).sum
theorem Kr(hl:ls[b]?=some l)(h:ov l m)(ct:l≠m):np (ls.set b m)<np ls:=by have h1:=rE vN ls b l m hl;have h2:=(IP h).2 ct;unfold np;omega
theorem Pt(hk:∀(b:Nat)(x:GB),bs[b]?=some x->(d_ n bs ah (List.replicate k (List.replicate n false)) b).length=n):Below n bs ah (List.replicate k (List.replicate n false)):=by
 intro b x l hx hl;rw[T7] at hl;split at hl
 .cases hl;refine⟨by rw[Jj,hk b x hx];simp,fun i hi=>?_⟩;rw[T7] at hi;split at hi<;>simp at hi
 .cases hl
def EqI(h:ab)(d1 d2 n:Nat)(l m:List Bool)(mm:Nat)(e:Env)(h2:ab):Prop:=
 ∃j:Nat,mm=n-j/\j<=n/\ai e 0=.slice (some ⟨d1,0,none⟩) n n/\ai e 1=.slice (some ⟨d2,0,none⟩) n n/\ai e 12=.int .i64 n/\ai e 13=.int .i64 j/\aa aG h h2/\∀i:Nat,i<j->l[i]?=m[i]?
theorem Nv(ok:bl h){d1 d2 o1 o2 s1 s2 n:Nat}(h1:h.tr.get d1=some (.aC (cX.flat l) false o1 s1))(h2:h.tr.get d2=some (.aC (cX.flat m) false o2 s2))(hl:l.length=n)(hm:m.length=n)(hn:n<1000000):aE FF jI [.slice (some ⟨d1,0,none⟩) n n,.slice (some ⟨d2,0,none⟩) n n] h (fun v h'=>aa aG h h'/\v=.bool (decide (l=m))):=by
 refine aE.of qo ?_;unfold jD;simp;refine az.loop (EqI h d1 d2 n l m) ?_ (n:=n) ⟨0,rfl,by omega,by simp,by simp,by simp,by simp,.refl ok,fun i hi=>by omega⟩;rintro mm e h'⟨j,rfl,hj,f0,f1,f12,f13,g,he⟩;unfold iX;by_cases aM:j<n
 .have wj:=wrap_i64 ((j:Int)+1) (by omega) (by omega);obtain⟨a,ha⟩:=ay l j;obtain⟨b,hb⟩:=ay m j;have gt:=aS g.ok;have g2:=g.trans gt;have ra:=AD (g2.get ok h1) ha;have rb:=AD (g2.get ok h2) hb;rw[aB] at ra rb;by_cases xN:a=b
  .subst xN;have xN:(a !=a)=false:=by simp
   simp[f0,f1,f12,f13,aM,ra,rb,wj,aB,-ae];refine⟨n-(j+1),by omega,j+1,rfl,aM,by simp[f0],by simp[f1],by simp[f12],by simp,g2,fun i hi=>?_⟩;by_cases e1:i=j
   .rw[e1,ha,hb]
   .exact he i (by omega)
  .have afl:(a !=b)=true:=by simp[xN]
   simp[f0,f1,f12,f13,aM,ra,rb,xN,aB,-ae];refine⟨g2,fun e=>?_⟩;rw[e,hb] at ha;cases ha;exact xN rfl
 .have:j=n:=by omega
  subst this;simp[f12,f13];refine⟨g,yT fun i=>?_⟩;by_cases e1:i<j
  .exact he i e1
  .rw[qY (by omega),qY (by omega)]
theorem Nu(ok:bl h)(hd:h.tr.get d=some (.aC (cX.flat l) false o s))(hl:l.length=n)(hn:n<1000000):aE FF fG [.slice (some ⟨d,0,none⟩) n n] h (fun v h'=>aa aG h h'/\∃w:SV,v=w.v/\pP h.next h' n w l):=by
 have hs:aL cX h (.slice (some ⟨d,0,none⟩) n n) l:=⟨_,_,by rw[hl],.inr ⟨d,0,_,_,_,_,rfl,hd,by rw[cX.bh,hl];simp,by rw[List.drop_zero,gJ_ (by rw[cX.bh,hl];simp)]⟩⟩;by_cases KG:l=[]
 .subst KG;have h0:n=0:=by simpa using hl.symm
  subst h0;refine aE.of jF ?_;unfold jC;have Gc:=v5 (E:=cX) (z:=[.bool false]) rfl (hs.aX ok (aH ok [] 0));simp at Gc;simp[iQ,eA,Gc];exact⟨aH ok _ _,⟨some ⟨h.next,0,none⟩,0,0⟩,by simp,rfl,h.next,0,0,rfl,dH _,bq _ _ _⟩
 .have C:=iV (v:=⟨some ⟨d,0,none⟩,n,n⟩) cX (bytes:=1) jF rfl (by decide) ok hs (by omega);refine(show aE FF fG [.slice (some ⟨d,0,none⟩) n n] h (qn cX h l) from C).mono ?_;rintro v h'⟨g,w,rfl,A,hw,hc⟩;refine⟨g,w,rfl,hl,?_⟩;obtain⟨al,A⟩:=A;rcases A with⟨_,_,e⟩|⟨b,o2,s2,bw,ha,Uk,hb,_⟩
  .exact absurd e KG
  .have hr:bw=[]:=IX (by omega);subst hr;refine⟨b,o2,s2,?_,hw b (bC ha),by simpa using hb⟩;obtain⟨wa,wl,wc⟩:=w;simp only at ha al Uk hc;subst ha;rw[show wl=n by omega,show wc=n by omega]
def ZT:List Nat:=[11,74,75,76,77,78,79,80,81,82]
def PhI(hA:ab)(d o:Nat)(qs:List GP)(l:List Bool)(e:Env)(mm:Nat)(e':Env)(h':ab):Prop:=
 ∃j:Nat,mm=qs.length-j/\j<=qs.length/\ax ZT e e'/\ai e' 74=.int .i64 j/\mX d o (qu (qs.take j) l) hA h'
theorem US(gL:bl h0)(g0:aa aG h0 hA)(hd:hA.tr.get d=some (.aC (cX.flat l) false o sd))(h0d:h0.next<=d)(hY:hA.tr.get Y=some (.aC [.slice (some ⟨d,0,none⟩) l.length l.length] false 0 sY))(nY:Y≠d)(sP:SliceR (pR h0) 2 h0 P.v qs)(hl:qs.length<1000000)(hq:∀q∈qs,0<=q.dst/\q.dst<l.length)(f7:ai e 7=.pointer (some ⟨Y,0,none⟩))(f72:ai e 72=P.v)(f73:ai e 73=.int .i64 qs.length)(f74:ai e 74=.int .i64 0)(C:∀e' h',ax ZT e e'->mX d o (qu qs l) hA h'->QQ (.exit 8) e' h'):az FF (.loop tL) e hA QQ:=by
 have iF:=SliceR.len sP;have lL:=g0.ok;refine az.loop (PhI hA d o qs l e) ?_ (n:=qs.length) ⟨0,rfl,by omega,.refl _ _,f74,.refl lL,sd,hd⟩;rintro mm e' h'⟨j,rfl,hj,K,q74,g,st,hb⟩;have q7:=K.at (t:=7) f7;have OW:=K.at (t:=72) f72;have q73:=K.at (t:=73) f73;have gg:aa aG h0 h':=g0.trans' g (fun _ _ h=>h) (fun x hx e=>by omega);unfold tL;by_cases aM:j<qs.length
 .have wj:=wrap_i64 ((j:Int)+1) (by omega) (by omega);obtain⟨q,KI⟩:=ay qs j aM;obtain⟨hk0,hk1⟩:=hq q (bU KI);obtain⟨k,hk⟩:∃k:Nat,q.dst=k:=⟨q.dst.toNat,by omega⟩;obtain⟨bP,off,c,oG,_,_,⟨A,rfl,sA⟩,_,cS⟩:=SliceR.later gL sP KI;have r0:=cS h' gg 0 2 (by decide);simp[-ae] at r0;simp at OW;rw[oG,iF] at OW;rw[hk] at r0;have hYh:=g.get lL hY nY;have oY:=g.ok.bE hYh;have ld:=g.ok.wf _ _ hb;have nd:¬d=h'.next:=by omega
  have yZ:(qu (qs.take j) l).length=l.length:=Av _ _;have pc:k<l.length:=by omega
  have hk1:k+1<=(qu (qs.take j) l).length:=by omega
  simp[q7,OW,q73,q74,aM,r0,pc,hb,hk1,wj,nd,oY,bj,aN,aq hYh,-ae,au];have g2:aa aG h' (put (aD h' [.int .i64 0,.slice none 0 0] 0) h'.next 0 [.int .i64 0,.slice none 0 0] [.int .i64 k,.slice A.a A.l A.c] 0):=(aa.refl g.ok).var _ _;have cC:=g2.get g.ok hb;generalize put (aD h' [.int .i64 0,.slice none 0 0] 0) h'.next 0 _ _ 0=h2 at*;have g3:aa (· =d) h2 (put h2 d k (cX.flat (qu (qs.take j) l)) [.bool false] o):=aJ g2.ok cC;refine⟨qs.length-(j+1),by omega,j+1,rfl,aM,?_,by simp,g.trans (g2.aX.trans g3),h2.clock,?_⟩
  .repeat (refine ax.set ?_)
   exact K
  .rw[aA,qf _ k false (by omega),yS,KI];unfold qu;rw[List.foldl_append];simp[hk]
 .have:j=qs.length:=by omega
  subst this;simp[q73,q74];refine C _ _ (ax.set K) ?_;rw[xK] at hb;exact⟨g,st,hb⟩
structure Tt(hA h:ab)(n nb bI nB:Nat)(ss:List SV)(ls:List (List Bool)):Prop where
 g:aa aG hA h
 nI:hA.next<=bI/\bI<nB
 hI:∃o s,h.tr.get bI=some (.aC (gQ.flat ss) false o s)
 sl:ss.length=nb
 S:Sets hA.next h n ss ls
 p7:∀s∈ss,¬aw (SV.v s) bI
theorem Tt.aX(w:Tt hA h n nb bI nB ss ls)(g:aa aG h h'):Tt hA h' n nb bI nB ss ls:=by obtain⟨o,s,hI⟩:=w.hI;exact⟨w.g.trans g,w.nI,⟨o,s,g.get w.g.ok hI⟩,w.sl,w.S.grow w.g.ok g (fun _ _ _ h=>h),w.p7⟩
theorem Tt.grow{T:Nat->Prop}{hA h h':ab}{n nb bI nB:Nat}{ss:List SV}{ls:List (List Bool)}(w:Tt hA h n nb bI nB ss ls)(g:aa T h h')(hT:∀b,T b->nB<=b)(hs:∀b,T b->∀s∈ss,¬aw (SV.v s) b):Tt hA h' n nb bI nB ss ls:=by obtain⟨o,s,hI⟩:=w.hI;have h1:=w.nI;refine⟨w.g.trans' g (fun _ _ h=>h) (fun x hx e=>by have:=hT x e;omega),w.nI,⟨o,s,g.get w.g.ok hI (fun e=>by have:=hT _ e;omega)⟩,w.sl,⟨w.S.len,fun i s l h1 h2=>?_⟩,w.p7⟩;exact(w.S.at_ i s l h1 h2).grow w.g.ok g (fun b _ hb e=>hs b e s (bU h1) hb)
structure xb(h:ab)(n nB:Nat)(jO:SV)(us:List SV)(os:List (List Bool)):Prop where
 acc:bJ gQ nB h jO.v us
 S:Sets nB h n us os
 p7:∀s∈us,∀b,aw jO.v b->¬aw (SV.v s) b
theorem xb.aX(w:xb h n nB jO us os)(ok:bl h)(g:aa aG h h'):xb h' n nB jO us os:=
 ⟨w.acc.grow ok g (fun _ _ h=>h),w.S.grow ok g (fun _ _ _ h=>h),w.p7⟩
theorem xb.grow{T:Nat->Prop}{h h':ab}{n nB:Nat}{jO:SV}{us:List SV}{os:List (List Bool)}(w:xb h n nB jO us os)(ok:bl h)(g:aa T h h')(hT:∀b,nB<=b->b<h.next->¬T b):xb h' n nB jO us os:=
 ⟨w.acc.grow ok g (fun b hb=>hT b (w.acc.of hb) (Cv ok w.acc hb)),w.S.grow ok g (fun b hb h2=>hT b hb h2),w.p7⟩
theorem B8{s:SV}(w:pP n0 h n s l)(hb:aw s.v b)(ok:bl h):n0<=b/\b<h.next:=by obtain⟨_,d,o,st,rfl,h1,h2⟩:=w;have:=iD (A:=⟨some ⟨d,0,none⟩,n,n⟩) rfl hb;subst this;exact⟨h1,ok.wf _ _ h2⟩
theorem Sets.low(w:Sets n0 h n ss ls){s:SV}(hs:s∈ss)(hb:aw s.v b)(ok:bl h):n0<=b/\b<h.next:=by obtain⟨i,hi⟩:=oD hs;obtain⟨l,hl⟩:=ay ls i (by rw[<-w.len];exact(bK.mp hi).1);exact B8 (w.at_ i s l hi hl) hb ok
theorem xb.push{h h3:ab}(ok:bl h){jO D8:SV}(w:xb h n nB jO us os){s:SV}(hs:pP n1 h n s l)(h1:nB<=n1)(hf:∀b,aw jO.v b->¬aw s.v b)(tR:bJ gQ nB h3 D8.v (us++[s]))(g3:aa (aw jO.v) h h3)(Bx:∀b,aw D8.v b->b=h.next):xb h3 n nB D8 (us++[s]) (os++[l]):=by
 refine⟨tR,⟨by simp[w.S.len],fun i s' l' h2 h3=>?_⟩,fun s' Yk b hb cC=>?_⟩
 .rcases Ae i us.length with hi|hi
  .rw[FX hi] at h2;rw[FX (by rw[<-w.S.len];exact hi)] at h3;exact(w.S.at_ i s' l' h2 h3).grow ok g3 (fun b _ hb hT=>w.p7 s' (bU h2) b hT hb)
  .rw[HA hi] at h2;rw[HA (by rw[<-w.S.len];exact hi),<-w.S.len] at h3;have e0:i-us.length=0:=by have:=(bK.mp h2).1;simp at this;omega
   rw[e0] at h2 h3;simp at h2 h3;subst h2 h3;exact(hs.grow ok g3 (fun b _ hb hT=>hf b hT hb)).low h1
 .have h2:=Bx b hb;rcases rM.1 Yk with h|h
  .have:=(w.S.low h cC ok).2;omega
  .simp at h;subst h;have:=(B8 hs cC ok).2;omega
def LbI(hA:ab)(n nb bI nB X da:Nat)(bs:List GB)(ah:List (List Int))(F0:Nat)(mm:Nat)(e:Env)(h:ab):Prop:=
 ∃(j:Nat) (ss us:List SV) (ls os:List (List Bool)) (jO:SV) (dO:Bool),mm=nb-j/\j<=nb/\ai e 1=.pointer (some ⟨X,0,none⟩)/\ai e 2=.slice (some ⟨bI,0,none⟩) nb nb/\ai e 3=jO.v/\ai e 4=.slice (some ⟨da,0,none⟩) nb nb/\ai e 5=.bool dO/\ai e 29=.int .i64 nb/\ai e 30=.int .i64 j/\Tt hA h n nb bI nB ss ls/\Below n bs ah ls/\xb h n nB jO us os/\us.length=j/\(∀s∈ss,∀b,aw jO.v b->¬aw (SV.v s) b)/\np ls<=F0/\(dO=true->np ls<F0)
theorem Nw(lL:bl hA)(hB:yM hA B bs)(mc:bs.length=nb)(I:Fa n ah bs)(wa:je bg na hA da ws ah)(hX:hA.tr.get X=some (.aC (aj name p n B) false 0 sX))(hnB:hA.next<=nB){F0:Nat}(H:LbI hA n nb bI nB X da bs ah F0 nb e h)(hn:nB<=h.next)(C:∀(e':Env)(h':ab)(ss us:List SV)(ls os:List (List Bool))(jO:SV)(dO:Bool),ai e' 1=.pointer (some ⟨X,0,none⟩)->ai e' 2=.slice (some ⟨bI,0,none⟩) nb nb->ai e' 3=jO.v->ai e' 4=.slice (some ⟨da,0,none⟩) nb nb->ai e' 5=.bool dO->Tt hA h' n nb bI nB ss ls->Below n bs ah ls->xb h' n nB jO us os->us.length=nb->np ls<=F0->(dO=true->np ls<F0)->nB<=h'.next->QQ (.exit 4) e' h'):az FF (.loop tM) e h QQ:=by
 have cV:=SliceR.len hB;have Wh:=I.len;have hn1:=I.n1;refine az.loop (fun mm e h=>LbI hA n nb bI nB X da bs ah F0 mm e h/\nB<=h.next) ?_ (n:=nb) ⟨H,hn⟩;rintro mm e h⟨⟨j,ss,us,ls,os,jO,dO,rfl,hj,q1,q2,q3,q4,q5,NZ,DT,w,bel,ou,Et,Up,ta,dX⟩,hnh⟩;have ok:=w.g.ok;have nI:=w.nI;unfold tM;by_cases aM:j<nb
 .have wj:=wrap_i64 ((j:Int)+1) (by omega) (by omega);obtain⟨x,hx⟩:=ay bs j;have Gi:=bU hx;obtain⟨ps,iT⟩:=ay ah j (by rw[I.ahl];omega);obtain⟨l,hl⟩:=ay ls j (by rw[<-w.S.len,w.sl];omega);obtain⟨s0,hs0⟩:=ay ss j (by rw[w.sl];omega);obtain⟨pl,pq⟩:=I.ph j x ps hx iT;obtain⟨ll,lq⟩:=I.li x Gi;have qq:=w.g.get lL hX;have xM:=qq;simp[aj] at xM;simp[q1,q2,q3,q4,q5,NZ,DT,aM,xM];obtain⟨oI,sI,hI⟩:=w.hI;have hIN:aL gQ h (SV.v ⟨some ⟨bI,0,none⟩,nb,nb⟩) ss:=⟨_,_,by rw[w.sl];rfl,.inr ⟨bI,0,_,_,_,_,rfl,hI,by rw[gQ.bh,w.sl];simp,by rw[List.drop_zero,gJ_ (by rw[gQ.bh,w.sl];simp)]⟩⟩;have arX:ls.length=bs.length:=by rw[<-w.S.len,w.sl,mc]
  refine aF.call (V:=fun v h'=>aa aG h h'/\(d_ n bs ah ls j).length=n/\∃s:SV,v=s.v/\pP h.next h' n s (d_ n bs ah ls j)) (by have:=Mf ok (name:=name) (p:=p) (hB.mono lL w.g) I (wa.aX lL w.g) hIN ⟨w.S.len,fun i s l h1 h2=>(w.S.at_ i s l h1 h2).low (Nat.zero_le _)⟩ arX hx;rw[mc] at this;simpa [aj] using this) ?_
  rintro _ h1⟨g1,ma,s1,rfl,S1⟩;have mN:=g1.ok
  
  simp;have ou1:=ou.aX ok g1;have g2:=aH g1.ok (gQ.enc s1) 0;have hw2:aL gQ (aD h1 (gQ.enc s1) 0) (.slice (some ⟨h1.next,0,none⟩) 1 1) [s1]:=jR (bq _ _ _);have ou2:=ou1.aX mN g2;have l1:=g1.next;obtain⟨v3,h3,ha,tR,g3,Bx⟩:=j4 (bytes:=24) g2.ok (z:=[.slice none 0 0]) rfl ou2.acc hw2 (by omega) (by decide) (by simp;omega);obtain⟨D8,rfl⟩:=bJ.Ws tR;refine gH (by simpa using ha) ?_;clear ha;have S2:=S1.grow mN g2 (fun _ _ _ h=>h);have Zb:∀b,aw jO.v b->b<h.next:=fun b hb=>Cv ok ou.acc hb;have S3:pP h.next h3 n s1 (d_ n bs ah ls j):=S2.grow g2.ok g3 (fun b hb _ e=>by have:=Zb b e;omega);have w2:=(w.aX g1).aX g2;have w3:Tt hA h3 n nb bI nB ss ls:=w2.grow g3 (fun b hb=>ou.acc.of hb) (fun b hb s hs=>Up s hs b hb);have ok3:=g3.ok;have LO:D8.l=(us++[s1]).length:=by obtain⟨a,cap,e,_⟩:=tR.sl;simp at e;simpa using e.2.1
  have hO3:=tR.sl;have dW:(us++[s1])[j]?=some s1:=by rw[HA (by omega)];simp[Et]
  obtain⟨bO,agM,aeu,Sr,_,_,Yf⟩:=hO3.read dW;have rO:=Yf 0 1 (by decide);simp[-ae] at rO Sr;have DA:j<D8.l:=by rw[LO];simp;omega
  have hOa:=Sr.1;simp[DT,hOa,DA,rO,-ae]
  
  obtain⟨_,d1,o1,t1,es1,hd1n,Wd⟩:=S3;subst es1;refine aF.call (V:=fun v h'=>aa aG h3 h'/\∃w:SV,v=w.v/\pP h3.next h' n w (d_ n bs ah ls j)) (by simpa using Nu ok3 Wd ma hn1) ?_;rintro _ h4⟨g4,s2,rfl,I8,d,od,td,rfl,hdn,hd4⟩;have w4:=w3.aX g4;have ln3:=g3.next;have ln4:=g4.next;have lA:=w.g.next;have l2:=g2.next;have l13:h.next<=h3.next:=by omega
  obtain⟨bB,GJ,cB,dZ,_,_,⟨P,L,T,rfl,sP,sL,sT⟩,oB,hrdB⟩:=SliceR.later lL hB hx;have iF:=SliceR.len sP;have tc:=SliceR.len sL;have rB:∀h',aa aG hA h'->aV h' bB (GJ+j*6) 6=some [P.v,L.v,.int .i64 x.kind,.bool x.on.1,.int .i64 x.on.2,T.v]:=fun h' g=>by have:=hrdB h' g 0 6 (by decide);simpa [-ae] using this
  have aui:∀h',aa aG hA h'->aV h' bB (GJ+j*6+2+1) 2=some [.bool x.on.1,.int .i64 x.on.2]:=fun h' g=>by have:=hrdB h' g 3 2 (by decide);simpa [-ae,AL] using this
  have rBl:∀h',aa aG hA h'->aV h' bB (GJ+j*6+1) 1=some [L.v]:=fun h' g=>by have:=hrdB h' g 1 1 (by decide);simpa [-ae] using this
  have rBp:∀h',aa aG hA h'->aV h' bB (GJ+j*6) 1=some [P.v]:=fun h' g=>by have:=hrdB h' g 0 1 (by decide);simpa [-ae] using this
  have afh:∀h',aa aG hA h'->h'.tr.get X=some (.aC [.string name,.int .i64 p,.int .i64 n,.slice (some ⟨bB,GJ,none⟩) nb B.c] false 0 sX):=fun h' g=>by have:=g.get lL hX;simp only[aj,SV.Tj,dZ,cV,mc] at this;exact this
  have G4:=w4.g;have r4:=aui _ G4;have vS:=afh _ G4;have oX4:=g4.ok.bE vS;have oB4:=G4.bE oB;simp[q1,DT,vS,aM,r4,oX4,oB4,aB,bj,aN,au,-ae,aq vS];refine aZ.cut (fun h6=>aa aG h4 h6/\∃s,h6.tr.get h4.next=some (.aC [.slice (some ⟨d,0,none⟩) n n] false 0 s)) ⟨((aa.refl g4.ok).var _ _).tick,h4.clock,by simp⟩ ?_;rintro h6⟨g6,sY,St⟩;have hd6:=g6.get g4.ok hd4;have lY:=g6.ok.wf _ _ St;have ld:=g4.ok.wf _ _ hd4;have G6:=G4.trans g6;have ln6:=g6.next;refine aZ.call (V:=fun _ hh=>mX d od (jN (d_ n bs ah ls j) x.on) h6 hh) (by have:=Au g6.ok (c:=n) hd6 x.on (by rw[I8];exact I.on x Gi);rw[I8] at this;simpa using this) ?_
  rintro _ h7⟨g7,s7,hd7⟩;have hl7:(jN (d_ n bs ah ls j) x.on).length=n:=by rw[yI,I8]
  
  have up:∀h',aa (· =d) h6 h'->aa aG hA h':=fun h' g=>G6.trans' g (fun _ _ h=>h) (fun y hy e=>by have:=w.g.next;omega);have Ss:=afh _ (up h7 g7);have r7:=rBl _ (up h7 g7);have r7p:=rBp _ (up h7 g7);simp[q1,DT,Ss,aM,r7,-ae,aq Ss];refine aF.call (V:=fun v h'=>v=.func (.func bu) #[] #[.pointer (some ⟨h7.next,0,none⟩)]/\h'=aD h7 [L.v] 0) (by simpa using xr h7 L) ?_;rintro _ h8⟨rfl,e8⟩;have g8:aa aG h7 h8:=by rw[e8];exact aH g7.ok _ _
  have hk8:h8.tr.get h7.next=some (.aC [L.v] false 0 0):=by rw[e8];exact bq _ _ _
  clear e8;have g68:aa (· =d) h6 h8:=g7.trans g8.aX;have hd8:=g8.get g7.ok hd7;have hY8:=g68.get g6.ok St (show ¬h4.next=d by omega);have ln7:d<h7.next:=g7.ok.wf _ _ hd7;have hAd:hA.next<=d:=by have:=w.g.next;omega
  simp;refine UR lL (up h8 g68) (Y:=h4.next) (bk:=h7.next) (cd:=n) hd8 hAd (by rw[hl7];exact hY8) (by omega) hk8 (by omega) sL ll (fun y hy=>by rw[hl7];exact lq y hy) (by simp) (by simp) ?_;rintro h9⟨g9,s9,hd9⟩;have g69:=g68.trans g9;have hX9:=afh _ (up h9 g69);have r9:=rBp _ (up h9 g69);have hl9:(nw x.list (jN (d_ n bs ah ls j) x.on)).length=n:=by rw[vW,hl7]
  have hY9:=g9.get g8.ok hY8 (show ¬h4.next=d by omega);simp[q1,DT,hX9,aM,r9,-ae,aq hX9];refine US lL (up h9 g69) (Y:=h4.next) hd9 hAd (by rw[hl9];exact hY9) (by omega) sP pl (fun q hq=>by rw[hl9];exact(pq q hq).1) (by simp) (by simp) (by simp[iF]) (by simp) ?_;rintro VW Aj K10⟨yl,s10,XQ⟩;have hM:qu x.dk (nw x.list (jN (d_ n bs ah ls j) x.on))=xT n bs ah ls j x:=rfl;rw[hM] at XQ;have hlM:(xT n bs ah ls j x).length=n:=by rw[Jj,I8]
  have Xr:=g69.trans yl;have awV:=Xr.next;have k1:ai VW 1=.pointer (some ⟨X,0,none⟩):=K10.at (t:=1) (by simp[q1]);have k2:ai VW 2=.slice (some ⟨bI,0,none⟩) nb nb:=K10.at (t:=2) (by simp[q2]);have k3:ai VW 3=D8.v:=K10.at (t:=3) (by simp[hOa]);have k4:ai VW 4=.slice (some ⟨da,0,none⟩) nb nb:=K10.at (t:=4) (by simp[q4]);have k5:ai VW 5=.bool dO:=K10.at (t:=5) (by simp[q5]);have k6:ai VW 6=.int .i64 j:=K10.at (t:=6) (by simp);have k7:ai VW 7=.pointer (some ⟨h4.next,0,none⟩):=K10.at (t:=7) (by simp);have k29:ai VW 29=.int .i64 nb:=K10.at (t:=29) (by simp[NZ]);have k30:ai VW 30=.int .i64 j:=K10.at (t:=30) (by simp[DT]);have nds:∀s∈ss,¬aw (SV.v s) d:=fun s hs hb=>by have:=(w.S.low hs hb ok).2;omega
  have w10:Tt hA Aj n nb bI nB ss ls:=(w4.aX g6).grow Xr (fun b e=>by omega) (fun b e s hs=>by rw[e];exact nds s hs);obtain⟨oI,sI10,aqx⟩:=w10.hI;obtain⟨yZ,d0,o0,t0,es0,hd0n,Wc⟩:=w10.S.at_ j s0 l hs0 hl;subst es0;have afi:=yl.get g9.ok hY9 (show ¬h4.next=d by omega);have rI:=oh aqx hs0;simp[-ae] at rI;have aqa:=aS yl.ok;simp[k2,k6,k7,afi,aM,rI,aB,-ae,aq afi];refine aZ.cut (fun LM=>aa aG Aj LM) aqa ?_;intro LM ED;refine aZ.call (V:=fun v h'=>aa aG LM h'/\v=.bool (decide (xT n bs ah ls j x=l))) (by simpa using Nv ED.ok (ED.get yl.ok XQ) (ED.get yl.ok Wc) hlM yZ hn1) ?_;rintro _ Xx⟨MV,rfl⟩;have MU:=ED.trans MV;have w12:=w10.aX MU;have aq4:=MU.get yl.ok afi;have arq:=MU.get yl.ok XQ
  
  have ou3:xb h3 n nB D8 (us++[⟨some ⟨d1,0,none⟩,n,n⟩]) (os++[d_ n bs ah ls j]):=ou2.push g2.ok S2 (by omega) (fun b hb cC=>by have:=Zb b hb;have:=(B8 S2 cC g2.ok).1;omega) tR g3 Bx;have ou4:=(ou3.aX ok3 g4).aX g4.ok g6;have atL:xb Aj n nB D8 (us++[⟨some ⟨d1,0,none⟩,n,n⟩]) (os++[d_ n bs ah ls j]):=
   ⟨ou4.acc.grow g6.ok Xr (fun b hb e=>by have:=Cv ok3 tR hb;omega),⟨ou4.S.len,fun i s l' h1 h2=>(ou4.S.at_ i s l' h1 h2).grow g6.ok Xr (fun b _ hb e=>by have:=(ou3.S.low (bU h1) hb ok3).2;omega)⟩,ou4.p7⟩
  have amr:=atL.aX yl.ok MU;have ads:∀s∈ss,∀b,aw D8.v b->¬aw (SV.v s) b:=fun s hs b hb cC=>by have h2:=Bx b hb;have:=(w.S.low hs cC ok).2;have:=g2.next;omega
  have alO:(us++[(⟨some ⟨d1,0,none⟩,n,n⟩:SV)]).length=j+1:=by simp[Et]
  have ame:nB<=Xx.next:=by have:=w12.g.next;have:=w10.g.next;have:=MU.next;have:=Xr.next;have:=g6.next;omega
  have hle:=bel j x l hx hl;by_cases heq:xT n bs ah ls j x=l
  .simp[heq,k30,wj];exact⟨nb-(j+1),by omega,⟨j+1,ss,us++[⟨some ⟨d1,0,none⟩,n,n⟩],ls,os++[d_ n bs ah ls j],D8,dO,rfl,aM,by simp[k1],by simp[k2],by simp[k3],by simp[k4],by simp[k5],by simp[k29],by simp,w12,bel,amr,alO,ads,ta,dX⟩,ame⟩
  .obtain⟨oI2,sI12,aj3⟩:=w12.hI;have hjs:j+1<=ss.length:=by rw[w.sl];omega
   simp[heq,k2,k6,k7,k30,aq4,aM,aj3,hjs,wj];have IU:aa (· =bI) Xx (put Xx bI j (gQ.flat ss) [.slice (some ⟨d,0,none⟩) n n] oI2):=aJ w12.g.ok aj3;have hfal:=Kr hl hle (fun e=>heq e.symm);refine⟨nb-(j+1),by omega,⟨j+1,ss.set j ⟨some ⟨d,0,none⟩,n,n⟩,us++[⟨some ⟨d1,0,none⟩,n,n⟩],ls.set j (xT n bs ah ls j x),os++[d_ n bs ah ls j],D8,true,rfl,aM,by simp[k1],by simp[k2],by simp[k3],by simp[k4],by simp,by simp[k29],by simp,?_,bel.step hx hl,?_,alO,?_,by omega,fun _=>by omega⟩,ame⟩
   .refine⟨w12.g.trans' IU (fun _ _ h=>h) (fun y hy e=>by omega),w12.nI,⟨oI2,Xx.clock,?_⟩,by simp[w.sl],⟨by simp[w.S.len],fun i s l' h1 h2=>?_⟩,fun s hs hb=>?_⟩
    .rw[aA];have:=Ho ss j ⟨some ⟨d,0,none⟩,n,n⟩ (by omega);simp only[SV.Tj] at this;rw[this]
    .rw[eu] at h1 h2;by_cases e1:j=i
     .subst e1;rw[aY rfl,aY (by omega)] at h1;rw[aY rfl,aY (bK.mp hl).1] at h2;cases h1;cases h2;exact⟨hlM,d,od,s10,rfl,hAd,IU.get w12.g.ok arq (by omega)⟩
     .rw[bc e1] at h1 h2;refine(w12.S.at_ i s l' h1 h2).grow w12.g.ok IU (fun b _ hb e=>w.p7 s (bU h1) (e▸hb))
    .rcases Em hs with h|h
     .exact w.p7 s h hb
     .subst h;have:=iD (A:=⟨some ⟨d,0,none⟩,n,n⟩) rfl hb;omega
   .exact amr.grow w12.g.ok IU (fun b hb _ e=>by omega)
   .intro s hs b hb cC;rcases Em hs with h|h
    .exact ads s h b hb cC
    .subst h;have:=iD (A:=⟨some ⟨d,0,none⟩,n,n⟩) rfl cC;have:=Cv ok3 tR hb;omega
 .have:j=nb:=by omega
  subst this;simp[NZ,DT];exact C _ _ ss us ls os jO dO (by simp[q1]) (by simp[q2]) (by simp[q3]) (by simp[q4]) (by simp[q5]) w bel ou Et ta dX hnh
def LrI(hA:ab)(n nb bI nB X da:Nat)(bs:List GB)(ah:List (List Int))(mm:Nat)(e:Env)(h:ab):Prop:=
 ∃(ss us:List SV) (ls os:List (List Bool)) (jO:SV) (dO:Bool),mm=np ls+(if dO then 1 else 0)/\ai e 1=.pointer (some ⟨X,0,none⟩)/\ai e 2=.slice (some ⟨bI,0,none⟩) nb nb/\ai e 3=jO.v/\ai e 4=.slice (some ⟨da,0,none⟩) nb nb/\ai e 5=.bool dO/\Tt hA h n nb bI nB ss ls/\Below n bs ah ls/\(dO=false->xb h n nB jO us os/\us.length=nb)/\nB<=h.next
theorem Nx(lL:bl hA)(hB:yM hA B bs)(mc:bs.length=nb)(I:Fa n ah bs)(wa:je bg na hA da ws ah)(hX:hA.tr.get X=some (.aC (aj name p n B) false 0 sX))(hnB:hA.next<=nB)(w:Tt hA h n nb bI nB ss ls)(bel:Below n bs ah ls)(hn:nB<=h.next)(f1:ai e 1=.pointer (some ⟨X,0,none⟩))(f2:ai e 2=.slice (some ⟨bI,0,none⟩) nb nb)(f3:ai e 3=cJ.v)(f4:ai e 4=.slice (some ⟨da,0,none⟩) nb nb)(f5:ai e 5=.bool true)(C:∀(e':Env)(h':ab)(us:List SV)(os:List (List Bool))(jO:SV),ai e' 2=.slice (some ⟨bI,0,none⟩) nb nb->ai e' 3=jO.v->aa aG hA h'->xb h' n nB jO us os->us.length=nb->QQ (.exit 2) e' h'):az FF (.loop tN) e h QQ:=by
 have cV:=SliceR.len hB;refine az.loop (LrI hA n nb bI nB X da bs ah) ?_ (n:=np ls+1) ⟨ss,[],ls,[],cJ,true,rfl,f1,f2,f3,f4,f5,w,bel,(fun h=>by cases h),hn⟩;rintro mm e h⟨ss,us,ls,os,jO,dO,rfl,q1,q2,q3,q4,q5,w,bel,hO,hnh⟩;unfold tN;cases dO with
 |false=>
  obtain⟨ou,Et⟩:=hO rfl;simp[q5];exact C _ _ us os jO (by simp[q2]) (by simp[q3]) w.g ou Et
 |true=>
  have qq:=w.g.get lL hX;simp[aj] at qq;rw[cV,mc] at qq;simp[q1,q5,qq];refine Nw lL hB mc I wa hX hnB (F0:=np ls) ⟨0,ss,[],ls,[],cJ,false,rfl,by omega,by simp[q1],by simp[q2],by simp[cJ],by simp[q4],by simp,by simp,by simp,w,bel,⟨.inl ⟨rfl,rfl⟩,⟨rfl,fun i s l h1 h2=>by simp at h1⟩,fun s hs=>by simp at hs⟩,rfl,fun s hs b hb=>(eV rfl hb).elim,dH _,fun h=>by cases h⟩ hnh ?_;intro e2 h2 ss2 us2 ls2 os2 ao1 Jn k1 k2 k3 k4 k5 w2 apL ou2 asQ ta dX LR;simp;refine⟨np ls2+(if Jn then 1 else 0),?_,ss2,us2,ls2,os2,ao1,Jn,rfl,k1,k2,k3,k4,k5,w2,apL,fun _=>⟨ou2,asQ⟩,LR⟩;cases Jn with
  |true=>have:=dX rfl;simp;omega
  |false=>simp;omega
def LiI(hA:ab)(n nb X da:Nat)(mm:Nat)(e:Env)(h:ab):Prop:=
 ∃(j:Nat) (ss:List SV) (IN:SV),mm=nb-j/\j<=nb/\ai e 1=.pointer (some ⟨X,0,none⟩)/\ai e 2=IN.v/\ai e 3=cJ.v/\ai e 4=.slice (some ⟨da,0,none⟩) nb nb/\ai e 16=.int .i64 nb/\ai e 17=.int .i64 j/\aa aG hA h/\xb h n hA.next IN ss (List.replicate j (List.replicate n false))/\ss.length=j
theorem YI(lL:bl hA)(hn:n<1000000)(Nc:nb<=1000)(hX:hA.tr.get X=some (.aC (aj name p n B) false 0 sX))(f1:ai e 1=.pointer (some ⟨X,0,none⟩))(f2:ai e 2=cJ.v)(f3:ai e 3=cJ.v)(f4:ai e 4=.slice (some ⟨da,0,none⟩) nb nb)(f16:ai e 16=.int .i64 nb)(f17:ai e 17=.int .i64 0)(C:∀(e':Env)(h':ab)(ss:List SV)(IN:SV),ai e' 1=.pointer (some ⟨X,0,none⟩)->ai e' 2=IN.v->ai e' 3=cJ.v->ai e' 4=.slice (some ⟨da,0,none⟩) nb nb->aa aG hA h'->xb h' n hA.next IN ss (List.replicate nb (List.replicate n false))->ss.length=nb->QQ (.exit 0) e' h'):az FF (.loop tO) e hA QQ:=by
 have r1:roomy n=true:=by simp[roomy];omega
 have hz:iP [Value.bool false] n=cX.flat (List.replicate n false):=yF cX false rfl n;refine az.loop (LiI hA n nb X da) ?_ (n:=nb) ⟨0,[],cJ,rfl,by omega,f1,f2,f3,f4,f16,f17,.refl lL,⟨.inl ⟨rfl,rfl⟩,⟨rfl,fun i s l h1 h2=>by simp at h1⟩,fun s hs=>by simp at hs⟩,rfl⟩;rintro mm e h⟨j,ss,IN,rfl,hj,q1,q2,q3,q4,wX,Ha,g,ou,y5⟩;have ok:=g.ok;unfold tO;by_cases aM:j<nb
 .have wj:=wrap_i64 ((j:Int)+1) (by omega) (by omega);have qq:=g.get lL hX;simp[aj] at qq;simp[q1,q2,wX,Ha,aM,qq,r1,hz];have n1:¬h.next=h.next+1:=by omega
  have g2:aa aG h (aD (aD h (cX.flat (List.replicate n false)) 0) [.slice (some ⟨h.next,0,none⟩) n n] 0):=((aa.refl ok).new _ _).new _ _;have Ic:(aD (aD h (cX.flat (List.replicate n false)) 0) [.slice (some ⟨h.next,0,none⟩) n n] 0).tr.get h.next=some (.aC (cX.flat (List.replicate n false)) false 0 0):=by simp[n1]
  have cC:(aD (aD h (cX.flat (List.replicate n false)) 0) [.slice (some ⟨h.next,0,none⟩) n n] 0).tr.get (h.next+1)=some (.aC [.slice (some ⟨h.next,0,none⟩) n n] false 0 0):=by simp
  have LR:(aD (aD h (cX.flat (List.replicate n false)) 0) [.slice (some ⟨h.next,0,none⟩) n n] 0).next=h.next+2:=rfl
  generalize aD (aD h (cX.flat (List.replicate n false)) 0) [.slice (some ⟨h.next,0,none⟩) n n] 0=h2 at*;have hw2:aL gQ h2 (.slice (some ⟨h.next+1,0,none⟩) 1 1) [⟨some ⟨h.next,0,none⟩,n,n⟩]:=jR cC;have ou2:=ou.aX ok g2;have lg:=g.next;obtain⟨v3,h3,ha,tR,g3,Bx⟩:=j4 (bytes:=24) g2.ok (z:=[.slice none 0 0]) rfl ou2.acc hw2 (by omega) (by decide) (by omega);obtain⟨IN',rfl⟩:=bJ.Ws tR;refine gH (by simpa using ha) ?_;have Sd:pP h.next h2 n ⟨some ⟨h.next,0,none⟩,n,n⟩ (List.replicate n false):=⟨by simp,h.next,0,0,rfl,dH _,Ic⟩;have zy:∀b,aw IN.v b->b<h.next:=fun b hb=>Cv ok ou.acc hb;have ou3:=ou2.push g2.ok Sd lg (fun b hb cC=>by have:=zy b hb;have:=(B8 Sd cC g2.ok).1;omega) tR g3 Bx;simp[Ha,wj];refine⟨nb-(j+1),by omega,j+1,ss++[⟨some ⟨h.next,0,none⟩,n,n⟩],IN',rfl,aM,by simp[q1],by simp,by simp[q3],by simp[q4],by simp[wX],by simp,(g.trans g2).trans' g3 (fun _ _ h=>h) (fun x hx e=>by have:=ou.acc.of e;omega),?_,by simp[y5]⟩;rw[List.replicate_succ'];exact ou3
 .have:j=nb:=by omega
  subst this;simp[wX,Ha];exact C _ _ ss IN (by simp[q1]) (by simp[q2]) (by simp[q3]) (by simp[q4]) g ou y5
def aiF(n nb:Nat)(h:ab)(v:Value)(h':ab):Prop:=aa aG h h'/\∃(IN jO:SV) (nB:Nat) (us:List SV) (os:List (List Bool)),v=.tuple #[IN.v,jO.v]/\h.next<=nB/\xb h' n nB jO us os/\us.length=nb
theorem Pm(ok:bl h){name:ByteArray}{p:Int}(hB:yM h B bs)(E:jn bs)(I:Fa n (Edge.bp (bt bs)) bs)(h0:0<bs.length):aE FF BP [.agg ⟨aj name p n B⟩] h (aiF n bs.length h):=by
 have cV:=SliceR.len hB;refine aE.of J6 ?_;unfold Bg;simp[aj];refine aF.cut (fun h1=>aa aG h h1/\∃s,h1.tr.get h.next=some (.aC (aj name p n B) false 0 s)) ⟨(aa.refl ok).new _ _,0,by simp[aj]⟩ ?_;rintro h1⟨g1,sX,qq⟩;refine aF.call (V:=fun v h'=>aa aG h1 h'/\∃d ws,v=.slice (some ⟨d,0,none⟩) bs.length bs.length/\je bg h1.next h' d ws (Edge.bp (bt bs))) (by simpa [aj] using jk g1.ok (name:=name) (p:=p) (r:=n) (hB.mono ok g1) E) ?_;rintro _ h2⟨g2,da,ws,rfl,wa⟩;have jd:=g1.trans g2;have ef:=g2.get g1.ok qq;have CB:=ef;simp[aj] at CB;have P5:=hB.mono ok jd;simp[CB,cV];refine YI g2.ok (X:=h.next) (da:=da) I.n1 I.len ef (by simp) (by simp[cJ]) (by simp[cJ]) (by simp) (by simp) (by simp) ?_;intro e3 h3 ss IN k1 k2 k3 k4 g3 ou3 age;obtain⟨bI,sI,hIv,hIb⟩:∃bI sI,IN=⟨some ⟨bI,0,none⟩,bs.length,bs.length⟩/\h3.tr.get bI=some (.aC (gQ.flat ss) false 1 sI):=by
  rcases ou3.acc with⟨rfl,e⟩|⟨b,s,e,hb,_,_⟩
  .simp at age;omega
  .refine⟨b,s,?_,hb⟩;obtain⟨a,l,c⟩:=IN;simp at e;obtain⟨rfl,rfl,rfl⟩:=e;rw[age]
 subst hIv;have lI:=g3.ok.wf _ _ hIb;have H9:aw (SV.v ⟨some ⟨bI,0,none⟩,bs.length,bs.length⟩) bI:=bC rfl;have w3:Tt h2 h3 n bs.length bI h3.next ss (List.replicate bs.length (List.replicate n false)):=⟨g3,⟨ou3.acc.of H9,lI⟩,⟨1,sI,hIb⟩,age,ou3.S,fun s hs hb=>ou3.p7 s hs bI H9 hb⟩;have apM:Below n bs (Edge.bp (bt bs)) (List.replicate bs.length (List.replicate n false)):=by exact Pt fun b x hx=>Df I (by simp) b (fun l hl=>by rw[(List.mem_replicate.1 hl).2];simp)
 simp;refine Nx g2.ok P5 rfl I wa ef g3.next w3 apM (dH _) (by simp[k1]) (by simp[k2]) (by simp[k3]) (by simp[k4]) (by simp) ?_;intro e4 h4 us os jO m2 m3 g4 ou4 asR;simp[m2,m3];exact⟨jd.trans g4,⟨some ⟨bI,0,none⟩,bs.length,bs.length⟩,jO,h3.next,us,os,by simp,by have:=jd.next;have:=g3.next;omega,ou4,asR⟩
def IyI(h:ab)(W:SV)(t:Int)(xs:List Int)(m:Nat)(e:Env)(h2:ab):Prop:=
 ∃j:Nat,m=xs.length-j/\j<=xs.length/\ai e 0=W.v/\ai e 1=.int .i64 t/\ai e 7=.int .i64 xs.length/\ai e 8=.int .i64 j/\h2=h
theorem Ih{xs:List Int}(hW:aL bg h W.v xs)(hl:xs.length<1000000)(t:Int):aE FF fU [W.v,.int .i64 t] h (fun v h'=>h'=h/\∃k:Int,v=.int .i64 k):=by
 have H7:W.l=xs.length:=by obtain⟨a,cap,e,_⟩:=hW;simp at e;exact e.2.1
 refine aE.of jq ?_;unfold fT;simp[H7];refine az.loop (IyI h W t xs) ?_ (n:=xs.length) ⟨0,rfl,by omega,by simp[H7],by simp,by simp,by simp,rfl⟩;rintro m e h2⟨j,rfl,hj,f0,f1,f7,f8,rfl⟩;unfold eZ;by_cases aM:j<xs.length
 .have wj:=wrap_i64 ((j:Int)+1) (by omega) (by omega);obtain⟨x,hx⟩:=ay xs j aM;obtain⟨bW,QV,PA,Dv,_,_,cS⟩:=hW.read hx;have ro:=cS 0 1 (by decide);simp[-ae] at ro Dv;simp at f0;rw[Dv.1,H7] at f0;by_cases e1:t=x
  .subst e1;simp[f0,f1,f7,f8,aM,ro,-ae]
  .have e2:(t==x)=false:=by simp[e1]
   simp[f0,f1,f7,f8,aM,ro,e2,wj,-ae];exact⟨xs.length-(j+1),by omega,j+1,rfl,by omega,by simp[f0,Dv.1,H7],by simp[f1],by simp[f7],by simp,rfl⟩
 .have:j=xs.length:=by omega
  subst this;simp[f7,f8]
theorem FE{xs:List Int}(hW:aL bg h W.v xs)(hl:xs.length<1000000)(t:Int):aE FF kZ [W.v,.int .i64 t] h (fun v h'=>h'=h/\∃b:Bool,v=.bool b):=by
 refine aE.of tU ?_;unfold kY;simp;refine aF.call (by simpa using Ih hW hl t) ?_;rintro _ h2⟨rfl,k,rfl⟩;by_cases hk:0<=k<;>simp[hk]
def zR(n0:Nat)(h:ab)(n:Nat)(ss:List SV):Prop:=∀s∈ss,∃l,pP n0 h n s l
def lM(ss:List SV)(b:Nat):Prop:=∃s∈ss,aw (SV.v s) b
theorem zR.grow{T:Nat->Prop}{n0 n:Nat}{h h':ab}{ss:List SV}(w:zR n0 h n ss)(ok:bl h)(g:aa T h h')(hT:∀b,lM ss b->¬T b):zR n0 h' n ss:=fun s hs=>by obtain⟨l,hl⟩:=w s hs;exact⟨l,hl.grow ok g (fun b _ hb=>hT b ⟨s,hs,hb⟩)⟩
theorem zR.put{n0 n d o st st':Nat}(w:zR n0 h n ss)(ok:bl h)(g:aa (· =d) h h')(_hd:h.tr.get d=some (.aC (cX.flat l) false o st))(Sv:h'.tr.get d=some (.aC (cX.flat l') false o st'))(hl:l'.length=n):zR n0 h' n ss:=fun s hs=>by
 obtain⟨l1,DB,d1,o1,t1,rfl,h1,hb⟩:=w s hs;by_cases e:d1=d
 .subst e;exact⟨l',hl,d1,o,st',rfl,h1,Sv⟩
 .exact⟨l1,DB,d1,o1,t1,rfl,h1,g.get ok hb e⟩
theorem Sets.f(w:Sets n0 h n ss ls):zR n0 h n ss:=fun s hs=>by obtain⟨i,hi⟩:=oD hs;obtain⟨l,hl⟩:=ay ls i (by rw[<-w.len];exact(bK.mp hi).1);exact⟨l,w.at_ i s l hi hl⟩
theorem zR.low(w:zR n0 h n ss)(ok:bl h)(hb:lM ss b):n0<=b/\b<h.next:=by obtain⟨s,hs,hb⟩:=hb;obtain⟨l,hl⟩:=w s hs;exact B8 hl hb ok
structure L6(hA h:ab)(n0 n dC:Nat)(cs:List SV):Prop where
 g:aa (lM cs) hA h
 hC:∃s,h.tr.get dC=some (.aC (gQ.flat cs) false 0 s)
 cl:cs.length=n
 F:zR n0 h n cs
 p7:¬lM cs dC
theorem L6.aX{hA h h':ab}{n0 n dC:Nat}{cs:List SV}(w:L6 hA h n0 n dC cs)(g:aa aG h h'):L6 hA h' n0 n dC cs:=by obtain⟨s,hC⟩:=w.hC;exact⟨w.g.trans g.aX,⟨s,g.get w.g.ok hC⟩,w.cl,w.F.grow w.g.ok g (fun _ _ h=>h),w.p7⟩
theorem L6.write(w:L6 hA h n0 n dC cs)(hr:r<n){c:SV}(hc:cs[r]?=some c)(ho:o<n):∃d oo st l,c=⟨some ⟨d,0,none⟩,n,n⟩/\h.tr.get d=some (.aC (cX.flat l) false oo st)/\l.length=n/\lM cs d/\L6 hA (put h d o (cX.flat l) [.bool true] oo) n0 n dC cs:=by
 have hm:=bU hc;obtain⟨l,hl,d,oo,st,rfl,h1,hb⟩:=w.F c hm;have oJ:lM cs d:=⟨_,hm,bC rfl⟩;have gp:=aJ (off:=o) (vs:=[.bool true]) w.g.ok hb;have jf:(put h d o (cX.flat l) [.bool true] oo).tr.get d=some (.aC (cX.flat (l.set o true)) false oo h.clock):=by rw[aA,qf l o true (by omega)]
 obtain⟨s,hC⟩:=w.hC;have nd:¬dC=d:=fun e=>w.p7 (e▸oJ);exact⟨d,oo,st,l,rfl,hb,hl,oJ,w.g.trans (gp.bH (fun x _ e=>e▸oJ)),⟨s,gp.get w.g.ok hC nd⟩,w.cl,w.F.put w.g.ok gp hb jf (by simp[hl]),w.p7⟩
def EV:List Nat:=[8,9,18,19,20,21,22,23,24,25,26,27,28,29,30,31,32,33,34,35,36,37,38,39,40,41,42,43,44,45,46]
def aee(hA:ab)(n0 n dC:Nat)(cs:List SV)(e:Env)(mm:Nat)(e':Env)(h':ab):Prop:=
 ∃j:Nat,mm=n-j/\j<=n/\ax EV e e'/\ai e' 18=.int .i64 j/\L6 hA h' n0 n dC cs
theorem VQ(lL:bl hA)(w:L6 hA h n0 n dC cs)(hn:n<1000000)(hr:r<n)(hR:aL bg hA R.v rs)(fR:∀b,aw R.v b->¬lM cs b)(rh:rs.length<1000000)(hd:hA.tr.get d=some (.aC (cX.flat l) false o st))(hl:l.length=n)(fd:¬lM cs d)(f0:ai e 0=.slice (some ⟨dC,0,none⟩) n n)(f1:ai e 1=R.v)(f7:ai e 7=.int .i64 r)(f16:ai e 16=.slice (some ⟨d,0,none⟩) n n)(f17:ai e 17=.int .i64 n)(f18:ai e 18=.int .i64 0)(C:∀e' h',ax EV e e'->L6 hA h' n0 n dC cs->QQ (.exit 2) e' h'):az FF (.loop lE) e h QQ:=by
 refine az.loop (aee hA n0 n dC cs e) ?_ (n:=n) ⟨0,rfl,by omega,.refl _ _,f18,w⟩;rintro mm e' h'⟨j,rfl,hj,K,Wp,w⟩;have ok:=w.g.ok;have q0:=K.at (t:=0) f0;have q1:=K.at (t:=1) f1;have q7:=K.at (t:=7) f7;have wX:=K.at (t:=16) f16;have Ha:=K.at (t:=17) f17;unfold lE;by_cases aM:j<n
 .have wj:=wrap_i64 ((j:Int)+1) (by omega) (by omega);obtain⟨a,ha⟩:=ay l j;have ra:=AD (w.g.get lL hd fd) ha;have skip:∀(e2:Env)(h2:ab),ax EV e' e2->ai e2 18=.int .i64 ((j+1:Nat):Int)->L6 hA h2 n0 n dC cs->∃Jm,Jm<n-j/\aee hA n0 n dC cs e Jm e2 h2:=
   fun e2 h2 K2 k w2=>⟨n-(j+1),by omega,j+1,rfl,aM,K.trans K2,k,w2⟩
  
  obtain⟨c1,wN⟩:=ay cs r (by rw[w.cl];exact hr);obtain⟨c2,F9⟩:=ay cs j (by rw[w.cl];exact aM);have gt:=aS w.g.ok;have wt:=w.aX gt;obtain⟨d1,o1,t1,l1,rfl,FZ,DB,hin1,w3⟩:=wt.write hr wN aM;obtain⟨d2,o2,t2,l2,rfl,cC,uO,afF,w4⟩:=w3.write aM F9 hr;obtain⟨sC,hC⟩:=wt.hC;have r1:=oh hC wN;have r2:=oh hC F9;simp[aB,-ae] at r1 r2;have zv:j+1<=l1.length:=by omega
  have qM:r+1<=l2.length:=by omega
  simp at FZ;by_cases e1:j=r
  .subst e1;clear r1 r2 FZ cC w4 w3;simp[q0,q1,q7,wX,Ha,Wp,aM,ra,wj,-ae];refine skip _ _ ?_ (by simp) w
   repeat (refine ax.set ?_)
   exact .refl _ _
  .have c1:((j:Int) !=(r:Int))=true:=by simp;omega
   have c2:((j:Int)==(r:Int))=false:=by simp;omega
   have c3:¬(j:Int)=(r:Int):=by omega
   have fin:∀e2:Env,ax EV e' e2->ai e2 18=.int .i64 ((j+1:Nat):Int)->∃Jm,Jm<n-j/\aee hA n0 n dC cs e Jm e2 (put (put (tick h') d1 j (cX.flat l1) [.bool true] o1) d2 r (cX.flat l2) [.bool true] o2):=fun e2 K2 k=>skip e2 _ K2 k w4;cases a with
   |true=>
    simp[q0,q1,q7,wX,Ha,Wp,hr,aM,ra,c1,c2,c3,e1,aB,r1,r2,FZ,zv,cC,qM,wj,-ae,-nr];refine fin _ ?_ (by simp)
    repeat (refine ax.set ?_)
    exact .refl _ _
   |false=>
    simp[q0,q1,q7,wX,Ha,Wp,hr,aM,ra,c1,c2,c3,e1,-ae];refine aF.call (V:=fun v hh=>hh=h'/\∃b:Bool,v=.bool b) (by simpa [q1] using FE (hR.grow lL w.g fR) rh j) ?_;rintro _ _⟨rfl,b,rfl⟩;cases b with
    |true=>
     simp[q0,q1,q7,wX,Ha,Wp,hr,aM,aB,r1,r2,FZ,zv,cC,qM,wj,-ae,-nr];refine fin _ ?_ (by simp)
     repeat (refine ax.set ?_)
     exact .refl _ _
    |false=>
     simp[q0,q1,q7,wX,Ha,Wp,wj,-ae];refine skip _ _ ?_ (by simp) w
     repeat (refine ax.set ?_)
     exact .refl _ _
 .have:j=n:=by omega
  subst this;simp[Ha,Wp];exact C _ _ (ax.set K) w
def acI:List Nat:=[7,8,9]++(List.range 36).map (· +12)
def aoH(hA:ab)(n0 n dC:Nat)(cs:List SV)(rs:List Int)(e:Env)(mm:Nat)(e':Env)(h':ab):Prop:=
 ∃j:Nat,mm=rs.length-j/\j<=rs.length/\ax acI e e'/\ai e' 12=.int .i64 j/\L6 hA h' n0 n dC cs
theorem Dk(lL:bl hA)(w:L6 hA h n0 n dC cs)(hn:n<1000000)(hR:aL bg hA R.v rs)(fR:∀b,aw R.v b->¬lM cs b)(rh:rs.length<1000000)(Qp:∀r∈rs,0<=r/\r<n)(hd:hA.tr.get d=some (.aC (cX.flat l) false o st))(hl:l.length=n)(fd:¬lM cs d):aE FF ux [.slice (some ⟨dC,0,none⟩) n n,R.v,.slice (some ⟨d,0,none⟩) n n] h (fun _ h'=>L6 hA h' n0 n dC cs):=by
 have hRl:R.l=rs.length:=by obtain⟨a,cap,e,_⟩:=hR;simp at e;exact e.2.1
 refine aE.of Bm ?_;unfold ue;simp[hRl];refine az.loop (aoH hA n0 n dC cs rs _) ?_ (n:=rs.length) ⟨0,rfl,by omega,.refl _ _,by simp,w⟩;rintro mm e' h'⟨j,rfl,hj,K,kN,w⟩;have q0:ai e' 0=.slice (some ⟨dC,0,none⟩) n n:=K.at (t:=0) (by simp);have q1:ai e' 1=R.v:=K.at (t:=1) (by simp[hRl]);have q2:ai e' 2=.slice (some ⟨d,0,none⟩) n n:=K.at (t:=2) (by simp);have AQ:ai e' 10=R.v:=K.at (t:=10) (by simp[hRl]);have mP:ai e' 11=.int .i64 rs.length:=K.at (t:=11) (by simp);unfold qR;by_cases aM:j<rs.length
 .have wj:=wrap_i64 ((j:Int)+1) (by omega) (by omega);obtain⟨x,hx⟩:=ay rs j aM;obtain⟨x0,x1⟩:=Qp x (bU hx);obtain⟨r,rfl⟩:∃r:Nat,x=r:=⟨x.toNat,by omega⟩;obtain⟨bW,QV,PA,Dv,_,_,cS⟩:=(hR.grow lL w.g fR).read hx;have ro:=cS 0 1 (by decide);simp[-ae] at ro Dv;simp at AQ;rw[Dv.1,hRl] at AQ;simp[q2,AQ,mP,kN,aM,ro,-ae];refine VQ lL w hn (r:=r) (by omega) hR fR rh hd hl fd (by simp[q0]) (by simp[q1]) (by simp) (by simp) (by simp) (by simp) ?_;intro e3 h3 K3 w3;have Nr:ai e3 12=.int .i64 j:=K3.at (t:=12) (by simp[kN]);simp[Nr,wj];refine⟨rs.length-(j+1),by omega,j+1,rfl,aM,?_,by simp,w3⟩;refine ax.set (ax.set (ax.trans ?_ (K3.bH)))
  repeat (refine ax.set ?_)
  exact K
 .have:j=rs.length:=by omega
  subst this;simp[mP,kN];exact w
structure KS(h0 h:ab)(n0 nB n dC K:Nat)(cs us:List SV)(jO:SV):Prop where
 g:aa aG h0 h
 lo:h0.next<=n0/\n0<=nB
 hK:∃s,h.tr.get K=some (.aC [.slice (some ⟨dC,0,none⟩) n n] false 0 s)
 hC:∃s,h.tr.get dC=some (.aC (gQ.flat cs) false 0 s)
 cl:cs.length=n
 F:zR n0 h n cs
 U:zR nB h n us
 O:aL gQ h jO.v us
 low:∀b,lM cs b->b<nB
 fC:dC<nB/\¬lM cs dC
 fK:K<nB/\¬lM cs K
 fO:∀b,aw jO.v b->nB<=b/\¬lM us b
 oO:∀b,aw jO.v b->b<h.next
section
variable{h0 h h':ab}{n0 nB n dC K:Nat}{cs us:List SV}{jO:SV}
theorem KS.aX(w:KS h0 h n0 nB n dC K cs us jO)(g:aa aG h h'):KS h0 h' n0 nB n dC K cs us jO:=by obtain⟨s1,h1⟩:=w.hK;obtain⟨s2,h2⟩:=w.hC;have ok:=w.g.ok;exact⟨w.g.trans g,w.lo,⟨s1,g.get ok h1⟩,⟨s2,g.get ok h2⟩,w.cl,w.F.grow ok g (fun _ _ h=>h),w.U.grow ok g (fun _ _ h=>h),w.O.aX ok g,w.low,w.fC,w.fK,w.fO,fun b hb=>En (w.oO b hb) g.next⟩
theorem KS.cl0(w:KS h0 h n0 nB n dC K cs us jO):L6 h h n0 n dC cs:=⟨.refl w.g.ok,w.hC,w.cl,w.F,w.fC.2⟩
theorem KS.wcs(w:KS h0 h n0 nB n dC K cs us jO)(c:L6 h h' n0 n dC cs):KS h0 h' n0 nB n dC K cs us jO:=by obtain⟨s1,h1⟩:=w.hK;have ok:=w.g.ok;have lo:=w.lo;exact⟨w.g.trans' c.g (fun _ _ h=>h) (fun x hx e=>by have:=(w.F.low ok e).1;omega),w.lo,⟨s1,c.g.get ok h1 w.fK.2⟩,c.hC,w.cl,c.F,w.U.grow ok c.g (fun b hb e=>by have:=(w.U.low ok hb).1;have:=w.low b e;omega),w.O.grow ok c.g (fun b hb e=>by have:=(w.fO b hb).1;have:=w.low b e;omega),w.low,w.fC,w.fK,w.fO,fun b hb=>En (w.oO b hb) c.g.next⟩
theorem KS.wus(w:KS h0 h n0 nB n dC K cs us jO)(hd:h.tr.get d=some (.aC (cX.flat l) false o st))(oJ:lM us d)(b:mX d o l' h h')(hl:l'.length=n):KS h0 h' n0 nB n dC K cs us jO:=by obtain⟨s1,h1⟩:=w.hK;obtain⟨s2,h2⟩:=w.hC;obtain⟨g,st',Sv⟩:=b;have ok:=w.g.ok;have lo:=w.lo;have dl:=(w.U.low ok oJ).1;have k1:=w.fK.1;have k2:=w.fC.1;exact⟨w.g.trans' g (fun _ _ h=>h) (fun x hx e=>by omega),w.lo,⟨s1,g.get ok h1 (by omega)⟩,⟨s2,g.get ok h2 (by omega)⟩,w.cl,w.F.grow ok g (fun b hb e=>by have:=w.low b hb;omega),w.U.put ok g hd Sv hl,w.O.grow ok g (fun b hb e=>(w.fO b hb).2 (e▸oJ)),w.low,w.fC,w.fK,w.fO,fun b hb=>En (w.oO b hb) g.next⟩
theorem KS.off{l:Nat}(w:KS h0 h n0 nB n dC K cs us jO)(ok:bl h)(g:aa (· =l) h h')(hl:h0.next<=l)(n1:K≠l)(n2:dC≠l)(n3:∀b,lM cs b\/lM us b\/aw jO.v b->b≠l):KS h0 h' n0 nB n dC K cs us jO:=by obtain⟨s1,k1⟩:=w.hK;obtain⟨s2,k2⟩:=w.hC;exact⟨w.g.trans' g (fun _ _ h=>h) (fun x hx e=>by omega),w.lo,⟨s1,g.get ok k1 n1⟩,⟨s2,g.get ok k2 n2⟩,w.cl,w.F.grow ok g (fun b hb e=>n3 b (.inl hb) e),w.U.grow ok g (fun b hb e=>n3 b (.inr (.inl hb)) e),w.O.grow ok g (fun b hb e=>n3 b (.inr (.inr hb)) e),w.low,w.fC,w.fK,w.fO,fun b hb=>En (w.oO b hb) g.next⟩
def IA:ak:=(.ops [⟨(some 11),none,(.alloc L0)⟩,⟨none,none,(.store 8 (.tmp 11) (.tmp 62))⟩])
def zS:ak:=(P_ 5 (J_ (G_ [f_ 63 1 11,l_ 64 63,C_ 65 .geq 64 0] (I_ 65 (O_ [l_ 66 3,f_ 67 1 11,l_ 68 67,v_ 69 D6 1 68,l_ 70 9,F_ 71 231 [t_ 66,t_ 69,t_ 70]]) .skip)) (O_ [l_ 72 9,L_ 73 8 11,F_ 74 232 [t_ 72,t_ 73]])))
theorem abM(z:Int)(hd:h.tr.get d=some (.aC [.int .i64 z] false 0 s)):aL bg h (SV.v ⟨some ⟨d,0,none⟩,1,1⟩) [z]:=jR hd
theorem PI(w:KS h0 h n0 nB n dC K cs us jO)(gL:bl h0)(hn:n<1000000){d Y sY V sV:Nat}(oJ:lM us d)(hY:h.tr.get Y=some (.aC [.slice (some ⟨d,0,none⟩) n n] false 0 sY))(lY:nB<=Y)(fY:¬lM us Y)(hV:h.tr.get V=some (.aC (cz x A) false 0 sV))(lV:nB<=V)(fV:¬lM us V)(sA:SliceR vR 2 h0 A.v x.args)(hx:WE n x)(f3:ai e 3=.pointer (some ⟨K,0,none⟩))(f9:ai e 9=.pointer (some ⟨Y,0,none⟩))(f11:ai e 11=.pointer (some ⟨V,0,none⟩))(C:∀e' h',KS h0 h' n0 nB n dC K cs us jO->aa (fun b=>lM cs b\/lM us b) h h'->QQ .normal e' h'):az FF zS e h QQ:=by
 obtain⟨sU,hsU,hbU⟩:=oJ;have oJ:lM us d:=⟨sU,hsU,hbU⟩;have amT:∀h2,KS h0 h2 n0 nB n dC K cs us jO->∃o st l,h2.tr.get d=some (.aC (cX.flat l) false o st)/\l.length=n/\nB<=d:=fun h2 w2=>by obtain⟨l,hl,d',o,st,rfl,h1,h3⟩:=w2.U sU hsU;have:=iD (A:=⟨some ⟨d',0,none⟩,n,n⟩) rfl hbU;subst this;exact⟨o,st,l,h3,hl,h1⟩
 have hV':=hV;simp[cz,aK] at hV';have nYc:¬lM cs Y:=fun e=>by have:=w.low Y e;omega
 have nVc:¬lM cs V:=fun e=>by have:=w.low V e;omega
 
 have tail:∀(h2:ab)(e2:Env)(Q2:Env->ab->Prop),KS h0 h2 n0 nB n dC K cs us jO->h2.tr.get Y=some (.aC [.slice (some ⟨d,0,none⟩) n n] false 0 sY)->h2.tr.get V=some (.aC (cz x A) false 0 sV)->ai e2 72=.slice (some ⟨d,0,none⟩) n n->ai e2 73=.agg ⟨cz x A⟩->(∀e' h',KS h0 h' n0 nB n dC K cs us jO->aa (lM us) h2 h'->Q2 e' h')->aF FF [⟨some 74,none,.call (.func kS) [.tmp 72,.tmp 73]⟩] e2 h2 Q2:=by
  intro h2 e2 Q2 w2 uN H6 k72 k73 K2;obtain⟨o,st,l,hd,hl,hdB⟩:=amT h2 w2;have lo:=w2.lo;refine aF.call (V:=fun _ h'=>mX d o (kR x l) h2 h') (by have:=DG gL w2.g (cd:=n) hd (by omega) sA (by rw[hl];exact hx);rw[hl] at this;simpa [k72,k73] using this) ?_
  rintro _ h3 b;simp;exact K2 _ _ (w2.wus hd oJ b (by rw[DH,hl])) (b.1.bH (fun b _ e=>e▸oJ))
 unfold zS;by_cases Nk:0<=x.dst
 .obtain⟨m,hm⟩:∃m:Nat,x.dst=m:=⟨x.dst.toNat,by omega⟩;have AO:m<n:=by have:=hx.1;omega
  obtain⟨sK,hK⟩:=w.hK;have oY:=w.g.ok.bE hY;have hVm:=hV';rw[hm] at hVm;simp[f3,f9,f11,hVm,hK,hY,oY];have g2:=aH w.g.ok [.int .i64 m] 0;have Du:=bq h [.int .i64 m] 0;have uN:=g2.get w.g.ok hY;have H6:=g2.get w.g.ok hV;have nR:∀b,aw (SV.v ⟨some ⟨h.next,0,none⟩,1,1⟩) b->¬lM cs b:=fun b hb e=>by have:=iD (A:=⟨some ⟨h.next,0,none⟩,1,1⟩) rfl hb;have:=(w.F.low w.g.ok e).2;omega
  have w2:=w.aX g2;generalize aD h [.int .i64 m] 0=h2 at*;obtain⟨o,st,l,hd,hl,hdB⟩:=amT h2 w2;refine aF.call (V:=fun _ h'=>L6 h2 h' n0 n dC cs) (by have:=Dk w2.g.ok w2.cl0 hn (abM (m:Int) Du) nR (by simp) (by intro r hr;simp at hr;omega) hd hl (fun e=>by have:=w2.low d e;omega);simpa using this) ?_
  rintro _ h3 c3;have w3:=w2.wcs c3;have vT:=c3.g.get w2.g.ok uN nYc;have hV3:=c3.g.get w2.g.ok H6 nVc;have aki:=hV3;simp[cz,aK] at aki;simp[f9,f11,vT,aki];refine tail _ _ _ w3 vT hV3 (by simp) (by simp[cz,aK]) ?_;intro e' h' w' g';exact C _ _ w' ((g2.aX.trans (c3.g.bH (fun b _ h=>.inl h))).trans (g'.bH (fun b _ h=>.inr h)))
 .have c1:¬0<=x.dst:=Nk;simp[f3,f9,f11,hV',hY,c1];refine tail _ _ _ w hY hV (by simp) (by simp[cz,aK]) ?_;intro e' h' w' g';exact C _ _ w' (g'.bH (fun b _ h=>.inr h))
def ClI(h0 hA:ab)(n0 nB n dC K Y bk:Nat)(cs us:List SV)(jO:SV)(d:Nat)(L:SV)(e:Env)(_j:Nat)(h2:ab):Prop:=
 aa (fun b=>lM cs b\/lM us b) hA h2/\h2.tr.get hA.next=some (.loop e [61,62] IA zS .ready)/\KS h0 h2 n0 nB n dC K cs us jO/\(∃s,h2.tr.get Y=some (.aC [.slice (some ⟨d,0,none⟩) n n] false 0 s))/\∃s,h2.tr.get bk=some (.aC [L.v] false 0 s)
theorem PJ(w:KS h0 hA n0 nB n dC K cs us jO)(gL:bl h0)(hn:n<1000000)(oJ:lM us d)(hY:hA.tr.get Y=some (.aC [.slice (some ⟨d,0,none⟩) n n] false 0 sY))(lY:nB<=Y)(fY:¬lM us Y)(hB:hA.tr.get bk=some (.aC [L.v] false 0 sB))(lB:nB<=bk)(fB:¬lM us bk)(hL:SliceR (iR h0) 8 h0 L.v xs)(hl:xs.length<1000000)(hx:∀x∈xs,WE n x)(f3:ai e 3=.pointer (some ⟨K,0,none⟩))(f9:ai e 9=.pointer (some ⟨Y,0,none⟩))(f60:ai e 60=.func (.func bu) #[] #[.pointer (some ⟨bk,0,none⟩)])(norm:∀h',KS h0 h' n0 nB n dC K cs us jO->aa (fun b=>lM cs b\/lM us b) hA h'->QQ .normal e h'):az FF (.ET (.tmp 60) [61,62] IA zS) e hA QQ:=by
 have lL:=w.g.ok;have ly:=(lL.bE hY).lt;have lb:=(lL.bE hB).lt;have nf:∀b,nB<=b->¬lM cs b:=fun b hb e=>by have:=w.low b e;omega
 have zy:∀b,(lM cs b\/lM us b)->b<hA.next:=fun b hb=>by
  rcases hb with h|h
  .exact(w.F.low lL h).2
  .exact(w.U.low lL h).2
 have l0:=w.g.next;have nK:K≠hA.next:=by obtain⟨s,h⟩:=w.hK;have:=lL.wf _ _ h;omega
 have nC:dC≠hA.next:=by obtain⟨s,h⟩:=w.hC;have:=lL.wf _ _ h;omega
 have agz:∀b,lM cs b\/lM us b\/aw jO.v b->b≠hA.next:=fun b hb=>by
  rcases hb with h|h|h
  .have:=zy b (.inl h);omega
  .have:=zy b (.inr h);omega
  .have:=w.oO b h;omega
 obtain⟨g1,KG⟩:=yn lL e [61,62] IA zS;have qk:(hA.new (.loop e [61,62] IA zS .ready)).next=hA.next+1:=rfl
 refine az.ET (first:= #[]) (caps:= #[.pointer (some ⟨bk,0,none⟩)]) (by simpa using f60) ?_;generalize hA.new (.loop e [61,62] IA zS .ready)=hL0 at*;have H:=wM (h:=hL0) gL (b:=bk) hL hl (y:=.func (.yield hA.next) #[] #[]) (ClI h0 hA n0 nB n dC K Y bk cs us jO d L e)
  (fun _ h2 hh=>⟨hh.2.2.1.g,hh.2.2.2.2⟩) ?_ ⟨g1.aX,KG,w.aX g1,⟨sY,g1.get lL hY⟩,sB,g1.get lL hB⟩
 .refine aE.mono (by simpa using H) ?_;rintro v h'⟨q1,q2,q3,_,_⟩;unfold rZ;rw[q2];have gd:aa (· =hA.next) h' (zq h' hA.next):=kq q1.ok hA.next;exact norm _ (q3.off q1.ok gd (by omega) nK nC agz) (q1.trans' gd (fun _ _ h=>h) (fun x hx e=>by omega))
 .rintro j x A h2 hxj sA⟨q1,q2,q3,⟨sY2,uN⟩,sk2,Cn⟩;have hxx:=hx x (bU hxj);refine(AF (S:=fun b=>lM cs b\/lM us b) (K:=fun h'=>aa (fun b=>lM cs b\/lM us b) hA h'/\KS h0 h' n0 nB n dC K cs us jO/\(∃s,h'.tr.get Y=some (.aC [.slice (some ⟨d,0,none⟩) n n] false 0 s))/\∃s,h'.tr.get bk=some (.aC [L.v] false 0 s)) q1.ok (fun e=>by have:=zy _ e;omega) q2 ?_ ?_).mono ?_
  .unfold IA;simp[cz,aK];have gv:aa aG h2 (put (aD h2 [.int .i64 0,.int .i64 0,.bool false,.int .i64 0,.bool false,.int .i64 0,.int .i64 0,.slice none 0 0] 0) h2.next 0 [.int .i64 0,.int .i64 0,.bool false,.int .i64 0,.bool false,.int .i64 0,.int .i64 0,.slice none 0 0] [.int .i64 x.op,.int .i64 x.dst,.bool x.a.1,.int .i64 x.a.2,.bool x.b.1,.int .i64 x.b.2,.int .i64 x.fn,.slice A.a A.l A.c] 0):=(aa.refl q1.ok).var _ _;have hV:(put (aD h2 [.int .i64 0,.int .i64 0,.bool false,.int .i64 0,.bool false,.int .i64 0,.int .i64 0,.slice none 0 0] 0) h2.next 0 [.int .i64 0,.int .i64 0,.bool false,.int .i64 0,.bool false,.int .i64 0,.int .i64 0,.slice none 0 0] [.int .i64 x.op,.int .i64 x.dst,.bool x.a.1,.int .i64 x.a.2,.bool x.b.1,.int .i64 x.b.2,.int .i64 x.fn,.slice A.a A.l A.c] 0).tr.get h2.next=some (.aC (cz x A) false 0 h2.clock):=by simp[cz,aK]
   generalize put (aD h2 _ 0) h2.next 0 _ _ 0=h3 at*;refine⟨gv,fun h4 g4=>?_⟩;have lL2:hA.next<h2.next:=q1.ok.wf _ _ q2;have q3v:=q3.aX gv;have Q8:=q3v.off gv.ok g4 (by omega) nK nC agz;have t4:aa (fun b=>lM cs b\/lM us b) hA h4:=(q1.trans gv.aX).trans' g4 (fun _ _ h=>h) (fun x hx e=>by omega);have M4:=g4.get gv.ok hV (by omega);have Dw:=g4.get gv.ok (gv.get q1.ok uN) (by omega);have hk4:=g4.get gv.ok (gv.get q1.ok Cn) (by omega);have lAB:nB<=h2.next:=by have:=q1.next;omega
   refine PI Q8 gL hn oJ Dw lY fY M4 lAB (fun e=>by have:=zy _ (.inr e);omega) sA hxx (by simp[f3]) (by simp[f9]) (by simp) ?_;intro e5 h5 w5 g5;exact⟨rfl,g5,t4.trans g5,w5,⟨_,g5.get Q8.g.ok Dw (fun e=>e.elim (nf Y lY) fY)⟩,_,g5.get Q8.g.ok hk4 (fun e=>e.elim (nf bk lB) fB)⟩
  .rintro h4 h5⟨z1,z2,⟨s3,z3⟩,s4,z4⟩ ok4 g;exact⟨z1.trans' g (fun _ _ h=>h) (fun x hx e=>by omega),z2.off ok4 g (by omega) nK nC agz,⟨s3,g.get ok4 z3 (by omega)⟩,s4,g.get ok4 z4 (by omega)⟩
  .rintro r h5⟨rfl,g5,Sy,k1,k2,k3⟩;exact⟨rfl,k1,Sy,k2,k3⟩
end
def Te:List Nat:=[12,13,79,80,81,82,83,84,85,86]
def Td:List Nat:=[12,15,90,91,92,93,94,95,96,97,98,99]
structure VV(hS h:ab)(n:Nat)(R:SV)(rs:List Int)(m:Nat):Prop where
 g:aa aG hS h
 acc:bJ bg hS.next h R.v rs
 len:rs.length=m
 rg:∀r∈rs,0<=r/\r<n
theorem VV.push{n m:Nat}(w:VV hS h n R rs m)(hm:m<900000){r:Int}(hr:0<=r/\r<n):∃(R':SV) (h':ab),iQ (aD h [.int .i64 r] 0) [.int .i64 0] 8 false R.v (.slice (some ⟨h.next,0,none⟩) 1 1)=some (R'.v,h')/\VV hS h' n R' (rs++[r]) (m+1)/\aa (aw R.v) h h'/\∀b,aw R'.v b->h.next<b:=by
 have ok:=w.g.ok;have g2:=aH ok [.int .i64 r] 0;have hw2:aL bg (aD h [.int .i64 r] 0) (.slice (some ⟨h.next,0,none⟩) 1 1) [r]:=jR (bq _ _ _);have l:=w.g.next;obtain⟨v3,h3,ha,tR,g3,Bx⟩:=j4 (bytes:=8) g2.ok (z:=[.int .i64 0]) rfl (w.acc.grow ok g2 (fun _ _ h=>h)) hw2 (by rw[w.len];omega) (by decide) (by simp;omega);obtain⟨R',rfl⟩:=bJ.Ws tR;refine⟨R',h3,ha,⟨(w.g.trans g2).trans' g3 (fun _ _ h=>h) (fun x hx e=>by have:=w.acc.of e;omega),tR,by simp[w.len],fun y hy=>?_⟩,g2.aX.trans g3,fun b hb=>by have:=Bx b hb;simp at this;omega⟩;rcases rM.1 hy with h|h
 .exact w.rg y h
 .simp at h;subst h;exact hr
def aoG(hS:ab)(n p:Nat)(e:Env)(mm:Nat)(e':Env)(h':ab):Prop:=
 ∃(j:Nat) (R:SV) (rs:List Int),mm=p-j/\j<=p/\ax Te e e'/\ai e' 79=.int .i64 j/\ai e' 12=R.v/\VV hS h' n R rs j
theorem Kd(Io:bl hS){n p:Nat}(hp:p<=n)(hn:n<800000)(f12:ai e 12=cJ.v)(f78:ai e 78=.int .i64 p)(f79:ai e 79=.int .i64 0)(C:∀e' h' R rs,ax Te e e'->ai e' 12=SV.v R->VV hS h' n R rs p->QQ (.exit 6) e' h'):az FF (.loop qB) e hS QQ:=by
 refine az.loop (aoG hS n p e) ?_ (n:=p) ⟨0,cJ,[],rfl,by omega,.refl _ _,f79,f12,.refl Io,.inl ⟨rfl,rfl⟩,rfl,fun r hr=>by simp at hr⟩;rintro mm e' h'⟨j,R,rs,rfl,hj,K,q79,kN,w⟩;have q78:=K.at (t:=78) f78;unfold qB;by_cases aM:j<p
 .have wj:=wrap_i64 ((j:Int)+1) (by omega) (by omega);obtain⟨R',h2,ha,w2,_⟩:=w.push (r:=(j:Int)) (by omega) (by omega);simp[kN,q78,q79,aM];refine gH (by simpa using ha) ?_;simp[q79,wj];refine⟨p-(j+1),by omega,j+1,R',_,rfl,aM,?_,by simp,by simp,w2⟩
  repeat (refine ax.set ?_)
  exact K
 .have:j=p:=by omega
  subst this;simp[q78,q79];exact C _ _ R rs (ax.set K) (by simp[kN]) w
def ChI(hS:ab)(n m:Nat)(qs:List GP)(e:Env)(mm:Nat)(e':Env)(h':ab):Prop:=
 ∃(j:Nat) (R:SV) (rs:List Int),mm=qs.length-j/\j<=qs.length/\ax Td e e'/\ai e' 90=.int .i64 j/\ai e' 12=R.v/\VV hS h' n R rs (m+j)
theorem PK(gL:bl h0)(g0:aa aG h0 hS){n m:Nat}(hn:m<800000)(sP:SliceR (pR h0) 2 h0 P.v qs)(hl:qs.length<100000)(hq:∀q∈qs,0<=q.dst/\q.dst<n)(w:VV hS h n R rs m)(f12:ai e 12=R.v)(f88:ai e 88=P.v)(f89:ai e 89=.int .i64 qs.length)(f90:ai e 90=.int .i64 0)(C:∀e' h' R rs m',ax Td e e'->ai e' 12=SV.v R->m'<900000->VV hS h' n R rs m'->QQ (.exit 8) e' h'):az FF (.loop qz) e h QQ:=by
 have iF:=SliceR.len sP;refine az.loop (ChI hS n m qs e) ?_ (n:=qs.length) ⟨0,R,rs,rfl,by omega,.refl _ _,f90,f12,w⟩;rintro mm e' h'⟨j,R,rs,rfl,hj,K,q90,kN,w⟩;have q88:=K.at (t:=88) f88;have q89:=K.at (t:=89) f89;have gg:=g0.trans w.g;unfold qz;by_cases aM:j<qs.length
 .have wj:=wrap_i64 ((j:Int)+1) (by omega) (by omega);obtain⟨q,KI⟩:=ay qs j aM;have hqd:=hq q (bU KI);obtain⟨bP,off,c,oG,_,_,⟨A,rfl,sA⟩,oP,cS⟩:=SliceR.later gL sP KI;have r0:=cS h' gg 0 2 (by decide);simp[-ae] at r0;simp at q88;rw[oG,iF] at q88;have g2:aa aG h' (put (aD h' [.int .i64 0,.slice none 0 0] 0) h'.next 0 [.int .i64 0,.slice none 0 0] [.int .i64 q.dst,.slice A.a A.l A.c] 0):=(aa.refl w.g.ok).var _ _;simp[kN,q88,q89,q90,aM,r0,-ae,au];have SB:(put (aD h' [.int .i64 0,.slice none 0 0] 0) h'.next 0 [.int .i64 0,.slice none 0 0] [.int .i64 q.dst,.slice A.a A.l A.c] 0).next=h'.next+1:=rfl
  generalize put (aD h' [.int .i64 0,.slice none 0 0] 0) h'.next 0 _ _ 0=h2 at*;have w2:VV hS h2 n R rs (m+j):=⟨w.g.trans g2,w.acc.grow w.g.ok g2 (fun _ _ h=>h),w.len,w.rg⟩;obtain⟨R',h3,ha,w3,_⟩:=w2.push (r:=q.dst) (by omega) hqd;refine gH (by simpa [SB] using ha) ?_;simp[q90,wj];refine⟨qs.length-(j+1),by omega,j+1,R',_,rfl,aM,?_,by simp,by simp,w3⟩
  repeat (refine ax.set ?_)
  exact K
 .have:j=qs.length:=by omega
  subst this;simp[q89,q90];exact C _ _ R rs _ (ax.set K) (by simp[kN]) (by omega) w
def CrI(h:ab)(n dC K X n0:Nat)(name:ByteArray)(p:Int)(B:SV)(mm:Nat)(e:Env)(h':ab):Prop:=
 ∃(j:Nat) (cs:List SV),mm=n-j/\j<=n/\ai e 1=.pointer (some ⟨X,0,none⟩)/\ai e 3=.pointer (some ⟨K,0,none⟩)/\ai e 20=.int .i64 n/\ai e 21=.int .i64 j/\aa aG h h'/\n0<=h'.next/\(∃s,h'.tr.get K=some (.aC [.slice (some ⟨dC,0,none⟩) n n] false 0 s))/\(∃s,h'.tr.get X=some (.aC (aj name p n B) false 0 s))/\(∃s,h'.tr.get dC=some (.aC (gQ.flat cs) false 0 s))/\cs.length=n/\∀(i:Nat)(s:SV),cs[i]?=some s->i<j->∃l,pP n0 h' n s l
theorem PL{h h1:ab}(g1:aa aG h h1){n dC K X n0 sK sX sC:Nat}(hn:n<1000000)(hK:h1.tr.get K=some (.aC [.slice (some ⟨dC,0,none⟩) n n] false 0 sK))(hX:h1.tr.get X=some (.aC (aj name p n B) false 0 sX))(hC:h1.tr.get dC=some (.aC (gQ.flat (List.replicate n cJ)) false 0 sC))(n1:K≠dC)(n2:X≠dC)(n3:h.next<=dC/\dC<n0)(qk:n0<=h1.next)(f1:ai e 1=.pointer (some ⟨X,0,none⟩))(f3:ai e 3=.pointer (some ⟨K,0,none⟩))(f20:ai e 20=.int .i64 n)(f21:ai e 21=.int .i64 0)(C:∀e' h' cs,ai e' 1=.pointer (some ⟨X,0,none⟩)->ai e' 3=.pointer (some ⟨K,0,none⟩)->aa aG h h'->n0<=h'.next->(∃s,h'.tr.get K=some (.aC [.slice (some ⟨dC,0,none⟩) n n] false 0 s))->(∃s,h'.tr.get X=some (.aC (aj name p n B) false 0 s))->(∃s,h'.tr.get dC=some (.aC (gQ.flat cs) false 0 s))->cs.length=n->zR n0 h' n cs->QQ (.exit 0) e' h'):az FF (.loop qD) e h1 QQ:=by
 have r1:roomy n=true:=by simp[roomy];omega
 have hz:iP [Value.bool false] n=cX.flat (List.replicate n false):=yF cX false rfl n;refine az.loop (CrI h n dC K X n0 name p B) ?_ (n:=n) ⟨0,_,rfl,by omega,f1,f3,f20,f21,g1,qk,⟨_,hK⟩,⟨_,hX⟩,⟨_,hC⟩,by simp,fun i s _ hi=>by omega⟩;rintro mm e h'⟨j,cs,rfl,hj,q1,q3,NY,q21,g,hnh,⟨s1,hK⟩,⟨s2,hX⟩,⟨s3,qZ⟩,AN,hS⟩;have ok:=g.ok;unfold qD;by_cases aM:j<n
 .have wj:=wrap_i64 ((j:Int)+1) (by omega) (by omega);have hXr:=hX;simp[aj] at hXr;have lK:=ok.wf _ _ hK;have lC:=ok.wf _ _ qZ;have lX:=ok.wf _ _ hX;have nC:¬dC=h'.next:=by omega
  have zv:j+1<=cs.length:=by omega
  simp[q1,q3,NY,q21,aM,hK,hXr,r1,hz,qZ,nC,zv,wj];have gt:=aS ok;have g2:=aH gt.ok (cX.flat (List.replicate n false)) 0;have g3:=gt.trans g2;have Uv:(tick h').next=h'.next:=rfl
  have Bx:(aD (tick h') (cX.flat (List.replicate n false)) 0).tr.get h'.next=some (.aC (cX.flat (List.replicate n false)) false 0 0):=bq (tick h') _ _;generalize aD (tick h') (cX.flat (List.replicate n false)) 0=h3 at*;have hK3:=g3.get ok hK;have iO:=g3.get ok hX;have I0:=g3.get ok qZ;have gp:aa (· =dC) h3 (put h3 dC j (gQ.flat cs) [.slice (some ⟨h'.next,0,none⟩) n n] 0):=aJ g3.ok I0;refine⟨n-(j+1),by omega,j+1,cs.set j ⟨some ⟨h'.next,0,none⟩,n,n⟩,rfl,aM,by simp[q1],by simp[q3],by simp[NY],by simp,(g.trans g3).trans' gp (fun _ _ h=>h) (fun x hx e=>by omega),by have:=g3.next;have:=gp.next;omega,⟨s1,gp.get g3.ok hK3 n1⟩,⟨s2,gp.get g3.ok iO n2⟩,⟨h3.clock,?_⟩,by simp[AN],fun i s hs hi=>?_⟩
  .rw[aA];have:=Ho cs j ⟨some ⟨h'.next,0,none⟩,n,n⟩ (by omega);simp only[SV.Tj] at this;rw[this]
  .rw[eu] at hs;by_cases e1:j=i
   .subst e1;rw[aY rfl,aY (by omega)] at hs;cases hs;exact⟨_,by simp,h'.next,0,0,rfl,hnh,gp.get g3.ok Bx (by omega)⟩
   .rw[bc e1] at hs;obtain⟨l,hl⟩:=hS i s hs (by omega);exact⟨l,(hl.grow ok g3 (fun _ _ _ h=>h)).grow g3.ok gp (fun b hb _ e=>by omega)⟩
 .have:j=n:=by omega
  subst this;simp[NY,q21];refine C _ _ cs (by simp[q1]) (by simp[q3]) g hnh ⟨_,hK⟩ ⟨_,hX⟩ ⟨_,qZ⟩ AN (fun s hs=>?_);obtain⟨i,hi⟩:=oD hs;exact hS i s hi (by rw[<-AN];exact(bK.mp hi).1)
def CbI(h0 h2:ab)(n0 nB n dC K X nb:Nat)(cs us:List SV)(jO B:SV)(mm:Nat)(e:Env)(h:ab):Prop:=
 ∃j:Nat,mm=nb-j/\j<=nb/\ai e 1=.pointer (some ⟨X,0,none⟩)/\ai e 3=.pointer (some ⟨K,0,none⟩)/\ai e 6=jO.v/\ai e 37=B.v/\ai e 38=.int .i64 nb/\ai e 39=.int .i64 j/\KS h0 h n0 nB n dC K cs us jO/\aa (fun b=>lM cs b\/lM us b) h2 h
theorem Kc{h0 h2:ab}(gL:bl h0)(w:KS h0 h2 n0 nB n dC K cs us jO)(hn:n<800000)(hp:pn<=n)(hX:h2.tr.get X=some (.aC (aj name pn n B) false 0 sX))(lX:X<n0/\¬lM cs X)(Et:us.length=nb)(hB:yM h0 B bs)(mc:bs.length=nb)(I:Fa n ah bs)(X9:∀b∈bs,b.dk.length<100000)(hnB:nB<=h2.next)(f1:ai e 1=.pointer (some ⟨X,0,none⟩))(f3:ai e 3=.pointer (some ⟨K,0,none⟩))(f6:ai e 6=jO.v)(f37:ai e 37=B.v)(f38:ai e 38=.int .i64 nb)(f39:ai e 39=.int .i64 0)(C:∀e' h',ai e' 3=.pointer (some ⟨K,0,none⟩)->KS h0 h' n0 nB n dC K cs us jO->QQ (.exit 2) e' h'):az FF (.loop qC) e h2 QQ:=by
 have cV:=SliceR.len hB;have Wh:=I.len;have ok2:=w.g.ok;have LO:jO.l=us.length:=by obtain⟨a,cap,e,_⟩:=w.O;simp at e;exact e.2.1
 refine az.loop (CbI h0 h2 n0 nB n dC K X nb cs us jO B) ?_ (n:=nb) ⟨0,rfl,by omega,f1,f3,f6,f37,f38,f39,w,.refl w.g.ok⟩;rintro mm e h⟨j,rfl,hj,q1,q3,q6,Zt,LY,Ld,w,gT⟩;have ok:=w.g.ok;have lo:=w.lo;unfold qC;by_cases aM:j<nb
 .have wj:=wrap_i64 ((j:Int)+1) (by omega) (by omega);obtain⟨x,hx⟩:=ay bs j;have Gi:=bU hx;obtain⟨ps,iT⟩:=ay ah j (by rw[I.ahl];omega);obtain⟨pl,pq⟩:=I.ph j x ps hx iT;obtain⟨ll,lq⟩:=I.li x Gi;have hon:=I.on x Gi;obtain⟨u,hu⟩:=ay us j;have hum:=bU hu;obtain⟨l,hl,d,o,st,rfl,hdB,hd⟩:=w.U u hum;have oJ:lM us d:=⟨_,hum,bC rfl⟩;obtain⟨bB,GJ,cB,dZ,_,_,⟨P,L,T,rfl,sP,sL,sT⟩,_,hrdB⟩:=SliceR.later gL hB hx;have rB:=hrdB h w.g 0 6 (by decide);have iF:=SliceR.len sP;simp[-ae] at rB;simp at Zt;rw[dZ,cV,mc] at Zt;obtain⟨bO,agM,aeu,Sr,_,⟨_,_,_,_,hOb⟩,Yf⟩:=w.O.read hu;have rO:=Yf 0 1 (by decide);simp[-ae] at rO Sr;have oO:=ok.bE hOb;simp at q6;rw[Sr.1,LO,Et] at q6;have zy:∀b,(lM cs b\/lM us b)->b<h.next:=fun b hb=>by
   rcases hb with h|h
   .exact(w.F.low ok h).2
   .exact(w.U.low ok h).2
  have lT:=gT.next;simp[q1,q3,q6,Zt,LY,Ld,aM,rB,rO,oO,aN,bj,au,-ae]
  
  have nTU:¬lM cs X/\¬lM us X:=⟨lX.2,fun e=>by have:=(w.U.low ok e).1;omega⟩;refine az.cut (fun h3=>aa aG h h3/\(∃s,h3.tr.get h.next=some (.aC [P.v,L.v,.int .i64 x.kind,.bool x.on.1,.int .i64 x.on.2,T.v] false 0 s))/\∃s,h3.tr.get (h.next+1)=some (.aC [.slice (some ⟨d,0,none⟩) n n] false 0 s)) ?_ ?_
  .have n1:¬h.next=h.next+1:=by omega
   exact⟨((aa.refl ok).var _ _).var _ _,⟨h.clock,by simp[n1]⟩,_,by simp;rfl⟩
  rintro h3⟨g3,⟨sV,hV3⟩,sY,vT⟩;have w3:=w.aX g3;have lY:=g3.ok.wf _ _ vT;have nV:¬(lM cs h.next\/lM us h.next):=fun e=>by have:=zy _ e;omega
  have nY:¬(lM cs (h.next+1)\/lM us (h.next+1)):=fun e=>by have:=zy _ e;omega
  refine az.mono (Q:=fun y e' h'=>y=.normal/\(ai e' 1=.pointer (some ⟨X,0,none⟩)/\ai e' 3=.pointer (some ⟨K,0,none⟩)/\ai e' 6=jO.v/\ai e' 7=.int .i64 j/\ai e' 8=.pointer (some ⟨h.next,0,none⟩)/\ai e' 9=.pointer (some ⟨h.next+1,0,none⟩)/\ai e' 37=B.v/\ai e' 38=.int .i64 nb/\ai e' 39=.int .i64 j)/\KS h0 h' n0 nB n dC K cs us jO/\aa (lM us) h3 h') ?_ ?_
  .have Bx:=g3.get ok hd;cases hr:x.on.1 with
   |false=>
    simp;exact⟨⟨by simp[q1],by simp[q3],by simp[q6,Sr.1,LO,Et],by simp[Zt,dZ,cV,mc],by simp[LY],by simp[Ld]⟩,w3,.refl g3.ok⟩
   |true=>
    obtain⟨m0,m1⟩:=hon hr;obtain⟨m,hm⟩:∃m:Nat,x.on.2=m:=⟨x.on.2.toNat,by omega⟩;have AO:m<n:=by omega
    have X3:m+1<=l.length:=by omega
    rw[hm] at hV3;simp at hV3;simp[hV3,vT,AO,Bx,X3];have gp:aa (· =d) h3 (put h3 d m (cX.flat l) [.bool true] o):=aJ g3.ok Bx;exact⟨⟨by simp[q1],by simp[q3],by simp[q6,Sr.1,LO,Et],by simp[Zt,dZ,cV,mc],by simp[LY],by simp[Ld]⟩,w3.wus Bx oJ ⟨gp,h3.clock,by rw[aA,qf l m true (by omega)]⟩ (by simp[hl]),gp.bH (fun b _ e=>e▸oJ)⟩
  rintro _ e4 h4⟨rfl,⟨k1,k3,k6,k7,k8,k9,k37,k38,k39⟩,w4,g4⟩;have M4:=g4.get g3.ok hV3 (fun e=>nV (.inr e));have Dw:=g4.get g3.ok vT (fun e=>nY (.inr e));have akj:=M4;simp at akj;simp[k8,akj];refine aF.call (V:=fun v h'=>v=.func (.func bu) #[] #[.pointer (some ⟨h4.next,0,none⟩)]/\h'=aD h4 [L.v] 0) (by simpa using xr h4 L) ?_;rintro _ h5⟨rfl,e5⟩;have g5:aa aG h4 h5:=by rw[e5];exact aH g4.ok _ _
  have hk5:h5.tr.get h4.next=some (.aC [L.v] false 0 0):=by rw[e5];exact bq _ _ _
  clear e5;have w5:=w4.aX g5;have ln3:=g3.next;have ln4:=g4.next;have hY5:=g5.get g4.ok Dw;have hV5:=g5.get g4.ok M4;simp;refine PJ w5 gL (by omega) oJ (Y:=h.next+1) (bk:=h4.next) hY5 (by omega) (fun e=>nY (.inr e)) hk5 (by omega) (fun e=>by have:=(w4.U.low g4.ok e).2;omega) sL ll lq (by simp[k3]) (by simp[k9]) (by simp) ?_;intro h6 w6 g6;have hV6:=g6.get g5.ok hV5 nV;have St:=g6.get g5.ok hY5 nY;have akl:=hV6;simp at akl;have ln5:=g5.next;have ln6:=g6.next;have TT:aa (fun b=>lM cs b\/lM us b) h2 h6:=((((gT.trans g3.aX).trans (g4.bH (fun b _ e=>.inr e))).trans g5.aX).trans g6);have Ap:=TT.get ok2 hX (fun e=>e.elim nTU.1 nTU.2);have akp:=Ap;simp[aj] at akp;simp[k7];refine az.mono (Q:=fun y e' h'=>y=.normal/\(ai e' 1=.pointer (some ⟨X,0,none⟩)/\ai e' 3=.pointer (some ⟨K,0,none⟩)/\ai e' 6=jO.v/\ai e' 8=.pointer (some ⟨h.next,0,none⟩)/\ai e' 9=.pointer (some ⟨h.next+1,0,none⟩)/\ai e' 37=B.v/\ai e' 38=.int .i64 nb/\ai e' 39=.int .i64 j)/\∃R rs m,ai e' 12=SV.v R/\m<=n/\VV h6 h' n R rs m) ?_ ?_
  .by_cases hj0:j=0
   .subst hj0;simp[k1,akp];refine Kd g6.ok hp hn (by simp[cJ]) (by simp) (by simp) ?_;intro e7 h7 R rs K7 Nr w7;simp;exact⟨⟨K7.at (t:=1) (by simp[k1]),K7.at (t:=3) (by simp[k3]),by simpa using K7.at (t:=6) (by simp[k6]),K7.at (t:=8) (by simp[k8]),K7.at (t:=9) (by simp[k9]),by simpa using K7.at (t:=37) (by simp[k37]),K7.at (t:=38) (by simp[k38]),by simpa using K7.at (t:=39) (by simp[k39])⟩,R,by simpa using Nr,rs,pn,hp,w7⟩
   .have c1:((j:Int)==0)=false:=by simp;omega
    have c2:¬(j:Int)=0:=by omega
    simp[c1,c2,hj0];exact⟨⟨by simp[k1],by simp[k3],by simp[k6],by simp[k8],by simp[k9],by simp[k37],by simp[k38],by simp[k39]⟩,cJ,by simp[cJ],[],0,by omega,.refl g6.ok,.inl ⟨rfl,rfl⟩,rfl,fun r hr=>by simp at hr⟩
  rintro _ e7 h7⟨rfl,⟨m1,m3,m6,m8,m9,m37,m38,m39⟩,R,rs,m,OR,hmn,w7⟩;have hV7:=w7.g.get g6.ok akl;simp[m8,hV7];refine PK gL w6.g (m:=m) (by omega) sP (X9 x Gi) (fun q hq=>(pq q hq).1) w7 (by simp[OR]) (by simp) (by simp[iF]) (by simp) ?_;intro e8 h8 R8 rs8 m' K8 n12 We w8;have hY8:=w8.g.get g6.ok St;have k83:ai e8 3=.pointer (some ⟨K,0,none⟩):=K8.at (t:=3) (by simp[m3]);have k89:ai e8 9=.pointer (some ⟨h.next+1,0,none⟩):=K8.at (t:=9) (by simp[m9]);have ks8:=w6.aX w8.g;obtain⟨sK8,hK8⟩:=ks8.hK;obtain⟨sU,hsU,hbU⟩:=oJ;have oJ:lM us d:=⟨sU,hsU,hbU⟩;obtain⟨l8,hl8,d8,o8,st8,es,_,hd8⟩:=ks8.U sU hsU;have ed:d8=d:=by subst es;exact(iD (A:=⟨some ⟨d8,0,none⟩,n,n⟩) rfl hbU).symm
  rw[ed] at hd8;simp[k83,k89,n12,hK8,hY8];refine aF.call (V:=fun _ h'=>L6 h8 h' n0 n dC cs) (by have:=Dk w8.g.ok ks8.cl0 (by omega) (R:=R8) w8.acc.sl (fun b hb e=>by have:=w8.acc.of hb;have:=zy b (.inl e);omega) (by rw[w8.len];omega) w8.rg hd8 hl8 (fun e=>by have:=w.low d e;omega);simpa using this) ?_
  rintro _ h9 c9;have w9:=ks8.wcs c9;have atm:ai e8 39=.int .i64 j:=K8.at (t:=39) (by simp[m39]);simp[atm,wj];refine⟨nb-(j+1),by omega,j+1,rfl,aM,by simpa using K8.at (t:=1) (by simp[m1]),by simp[k83],by simpa using K8.at (t:=6) (by simp[m6]),by simpa using K8.at (t:=37) (by simp[m37]),by simpa using K8.at (t:=38) (by simp[m38]),by simp,w9,(TT.trans w8.g.aX).trans (c9.g.bH (fun b _ e=>.inl e))⟩
 .have:j=nb:=by omega
  subst this;simp[LY,Ld];exact C _ _ (by simp[q3]) w
def Wy(n:Nat)(h:ab)(v:Value)(h':ab):Prop:=
 aa aG h h'/\∃(dC n0:Nat) (cs:List SV),v=.slice (some ⟨dC,0,none⟩) n n/\h.next<=dC/\h.next<=n0/\(∃s,h'.tr.get dC=some (.aC (gQ.flat cs) false 0 s))/\cs.length=n/\zR n0 h' n cs/\¬lM cs dC
theorem Ke(ok:bl h){name:ByteArray}(hB:yM h B bs)(E:jn bs)(I:Fa n (Edge.bp (bt bs)) bs)(h0:0<bs.length)(hn:n<800000)(hp:pn<=n)(X9:∀b∈bs,b.dk.length<100000):aE FF zE [.agg ⟨aj name pn n B⟩] h (Wy n h):=by
 have cV:=SliceR.len hB;have ma:=E.len;have r1:roomy n=true:=by simp[roomy];omega
 have r2:roomy (n*24)=true:=by simp[roomy];omega
 have hz:iP [Value.slice none 0 0] n=gQ.flat (List.replicate n cJ):=yF gQ cJ rfl n;refine aE.of HP ?_;unfold zl;have n1:¬h.next=h.next+1:=by omega
 have n2:¬h.next=h.next+1+1:=by omega
 have n3:¬h.next+1=h.next+1+1:=by omega
 simp[aj,r1,r2,hz,n1,n2,n3];refine az.cut (fun h1=>aa aG h h1/\(∃s,h1.tr.get h.next=some (.aC (aj name pn n B) false 0 s))/\(∃s,h1.tr.get (h.next+1)=some (.aC (gQ.flat (List.replicate n cJ)) false 0 s))/\∃s,h1.tr.get (h.next+1+1)=some (.aC [.slice (some ⟨h.next+1,0,none⟩) n n] false 0 s)) ?_ ?_
 .exact⟨(((aa.refl ok).new _ _).new _ _).var _ _,⟨0,by simp[n1,n2,aj]⟩,⟨0,by simp[n3]⟩,_,by simp;rfl⟩
 rintro h1⟨g1,⟨sX,qq⟩,⟨sC,MX⟩,sK,hK1⟩;have lK:=g1.ok.wf _ _ hK1;refine PL g1 (K:=h.next+1+1) (X:=h.next) (dC:=h.next+1) (n0:=h1.next) (by omega) hK1 qq MX (by omega) (by omega) ⟨by omega,by omega⟩ (dH _) (by simp) (by simp) (by simp) (by simp) ?_;rintro e2 h2 cs k1 k3 jd ln2⟨sK2,hK2⟩ ⟨sX2,ef⟩ ⟨sC2,qZ⟩ AN F2;have CB:=ef;simp[aj] at CB;simp[k1,CB];have abz:∀i,lM cs i->h1.next<=i/\i<h2.next:=fun i hi=>F2.low jd.ok hi;refine aF.call (V:=aiF n bs.length h2) (by simpa [aj] using Pm jd.ok (name:=name) (p:=pn) (hB.mono ok jd) E I h0) ?_;rintro _ h3⟨g3,IN,jO,nB,us,os,rfl,hnB,ou,Et⟩;have iO:=g3.get jd.ok ef;have CD:=iO;simp[aj] at CD;have hK3:=g3.get jd.ok hK2;have I0:=g3.get jd.ok qZ;have lX2:=jd.ok.wf _ _ ef;have lK2:=jd.ok.wf _ _ hK2;have l1:=g1.next;simp[k1,CD];have ks:KS h h3 h1.next nB n (h.next+1) (h.next+1+1) cs us jO:=by refine⟨jd.trans g3,⟨l1,by omega⟩,⟨sK2,hK3⟩,⟨sC2,I0⟩,AN,F2.grow jd.ok g3 (fun _ _ h=>h),ou.S.f,ou.acc.sl,fun b hb=>by have:=abz b hb;omega,⟨by omega,fun e=>by have:=abz _ e;omega⟩,⟨by omega,fun e=>by have:=abz _ e;omega⟩,fun b hb=>⟨ou.acc.of hb,fun⟨s,hs,e⟩=>ou.p7 s hs b hb e⟩,fun b hb=>Cv g3.ok ou.acc hb⟩
 refine Kc ok ks hn hp (X:=h.next) iO ⟨by omega,fun e=>by have:=abz _ e;omega⟩ Et hB rfl I X9 ?_ (by simp[k1]) (by simp[k3]) (by simp) (by simp) (by simp[cV]) (by simp) ?_
 .rcases ou.acc with⟨rfl,e⟩|⟨b,s,e,hb,_,H8⟩
  .simp at Et;omega
  .have:=g3.ok.wf _ _ hb;omega
 intro e4 h4 m3 w4;obtain⟨sK4,hK4⟩:=w4.hK;simp[m3,hK4];exact⟨w4.g,h.next+1,h1.next,cs,by simp,by omega,l1,w4.hC,AN,w4.F,w4.fC.2⟩
structure JS(h:ab)(n0 n dC KB bO o:Nat)(cs:List SV)(fs:List Int):Prop where
 ok:bl h
 hK:∃s,h.tr.get KB=some (.aC [.slice (some ⟨bO,0,none⟩) n n,.slice (some ⟨dC,0,none⟩) n n] false 0 s)
 hC:∃s,h.tr.get dC=some (.aC (gQ.flat cs) false 0 s)
 cl:cs.length=n
 F:zR n0 h n cs
 hO:∃s,h.tr.get bO=some (.aC (bg.flat fs) false o s)
 ol:fs.length=n
 rg:∀r∈fs,0<=r/\r<(n:Int)
 ne:KB≠bO/\dC≠bO/\¬lM cs bO
section
variable{h h':ab}{n0 n dC KB bO o:Nat}{cs:List SV}{fs:List Int}
theorem JS.grow{T:Nat->Prop}(w:JS h n0 n dC KB bO o cs fs)(g:aa T h h')(hT:∀b,T b->b≠KB/\b≠dC/\b≠bO/\¬lM cs b):JS h' n0 n dC KB bO o cs fs:=by obtain⟨s1,h1⟩:=w.hK;obtain⟨s2,h2⟩:=w.hC;obtain⟨s3,h3⟩:=w.hO;exact⟨g.ok,⟨s1,g.get w.ok h1 (fun e=>(hT _ e).1 rfl)⟩,⟨s2,g.get w.ok h2 (fun e=>(hT _ e).2.1 rfl)⟩,w.cl,w.F.grow w.ok g (fun b hb e=>(hT b e).2.2.2 hb),⟨s3,g.get w.ok h3 (fun e=>(hT _ e).2.2.1 rfl)⟩,w.ol,w.rg,w.ne⟩
theorem JS.aX(w:JS h n0 n dC KB bO o cs fs)(g:aa aG h h'):JS h' n0 n dC KB bO o cs fs:=w.grow g (fun _ h=>h.elim)
theorem JS.put(w:JS h n0 n dC KB bO o cs fs){i:Nat}(hi:i<n){x:Int}(hx:0<=x/\x<(n:Int)):JS (put h bO i (bg.flat fs) [.int .i64 x] o) n0 n dC KB bO o cs (fs.set i x)/\aa (· =bO) h (put h bO i (bg.flat fs) [.int .i64 x] o):=by
 obtain⟨s1,h1⟩:=w.hK;obtain⟨s2,h2⟩:=w.hC;obtain⟨s3,h3⟩:=w.hO;obtain⟨n1,n2,n3⟩:=w.ne;have gp:aa (· =bO) h (AI.put h bO i (bg.flat fs) [.int .i64 x] o):=aJ w.ok h3;refine⟨⟨gp.ok,⟨s1,gp.get w.ok h1 n1⟩,⟨s2,gp.get w.ok h2 n2⟩,w.cl,w.F.grow w.ok gp (fun b hb e=>n3 (e▸hb)),⟨h.clock,by rw[aA,oq fs i x (by rw[w.ol];exact hi)]⟩,by simp[w.ol],fun r hr=>?_,w.ne⟩,gp⟩;rcases Em hr with h|h
 .exact w.rg r h
 .subst h;exact hx
def LC:List Nat:=[8,9]++(List.range 26).map (· +41)
def J1I(n:Nat)(e:Env)(h:ab)(mm:Nat)(e':Env)(h':ab):Prop:=∃j:Nat,mm=n-j/\j<=n/\ax LC e e'/\ai e' 41=.int .i64 j/\h=h'
theorem Qw(w:JS h n0 n dC KB bO o cs fs)(hn:n<800000)(hr:r<n){a b x:Int}(f0:ai e 0=.pointer (some ⟨KB,0,none⟩))(f1:ai e 1=.int .i64 a)(f2:ai e 2=.int .i64 b)(f6:ai e 6=.int .i64 r)(f7:ai e 7=.int .i64 x)(f39:ai e 39=.slice (some ⟨bO,0,none⟩) n n)(f40:ai e 40=.int .i64 n)(f41:ai e 41=.int .i64 0)(C:∀e',ax LC e e'->QQ (.exit 2) e' h)(R:∀e',QQ .ret e' h):az FF (.loop kE) e h QQ:=by
 obtain⟨s1,hK⟩:=w.hK;obtain⟨s2,hC⟩:=w.hC;obtain⟨s3,hO⟩:=w.hO;refine az.loop (J1I n e h) ?_ (n:=n) ⟨0,rfl,by omega,.refl _ _,f41,rfl⟩;rintro mm e' _⟨j,rfl,hj,K,q41,rfl⟩;have q0:=K.at (t:=0) f0;have q1:=K.at (t:=1) f1;have q2:=K.at (t:=2) f2;have q6:=K.at (t:=6) f6;have q7:=K.at (t:=7) f7;have Ld:=K.at (t:=39) f39;have N0:=K.at (t:=40) f40;unfold kE;by_cases aM:j<n
 .have wj:=wrap_i64 ((j:Int)+1) (by omega) (by omega);obtain⟨y,hy⟩:=ay fs j (by rw[w.ol];exact aM);obtain⟨c,hc⟩:=ay cs r (by rw[w.cl];exact hr);obtain⟨l,hl,d,o2,st,rfl,_,hd⟩:=w.F c (bU hc);obtain⟨t,ht⟩:=ay l j;have ry:=iH hO hy;have rc:=oh hC hc;have rt:=AD hd ht;simp[-ae] at rc;have fin:∀e2:Env,ax LC e' e2->ai e2 41=.int .i64 ((j+1:Nat):Int)->∃Jm,Jm<n-j/\J1I n e h Jm e2 h:=fun e2 K2 k=>⟨n-(j+1),by omega,j+1,rfl,aM,K.trans K2,k,rfl⟩;by_cases ex:x=a
  .by_cases ey:y=b
   .cases t with
    |true=>
     simp[q0,q1,q2,q6,q7,Ld,N0,q41,aM,hr,ry,rc,rt,ex,ey,aq hK,-ae];exact R _
    |false=>
     simp[q0,q1,q2,q6,q7,Ld,N0,q41,aM,hr,ry,rc,rt,ex,ey,wj,aq hK,-ae];refine fin _ ?_ (by simp)
     repeat (refine ax.set ?_)
     exact .refl _ _
   .have c1:(y==b)=false:=by simp[ey]
    simp[q0,q1,q2,q6,q7,Ld,N0,q41,aM,ry,ex,ey,c1,wj,-ae];refine fin _ ?_ (by simp)
    repeat (refine ax.set ?_)
    exact .refl _ _
  .have c1:(x==a)=false:=by simp[ex]
   simp[q0,q1,q2,q6,q7,Ld,N0,q41,aM,ry,ex,c1,wj,-ae];refine fin _ ?_ (by simp)
   repeat (refine ax.set ?_)
   exact .refl _ _
 .have:j=n:=by omega
  subst this;simp[N0,q41];exact C _ (ax.set K)
def Tc:List Nat:=[6,7,8,9]++(List.range 37).map (· +31)
def J2I(n:Nat)(e:Env)(h:ab)(mm:Nat)(e':Env)(h':ab):Prop:=∃j:Nat,mm=n-j/\j<=n/\ax Tc e e'/\ai e' 31=.int .i64 j/\h=h'
theorem Qx(w:JS h n0 n dC KB bO o cs fs)(hn:n<800000){a b:Int}(f0:ai e 0=.pointer (some ⟨KB,0,none⟩))(f1:ai e 1=.int .i64 a)(f2:ai e 2=.int .i64 b)(f29:ai e 29=.slice (some ⟨bO,0,none⟩) n n)(f30:ai e 30=.int .i64 n)(f31:ai e 31=.int .i64 0)(C:∀e',ax Tc e e'->QQ (.exit 0) e' h)(R:∀e',QQ .ret e' h):az FF (.loop kF) e h QQ:=by
 obtain⟨s1,hK⟩:=w.hK;obtain⟨s3,hO⟩:=w.hO;refine az.loop (J2I n e h) ?_ (n:=n) ⟨0,rfl,by omega,.refl _ _,f31,rfl⟩;rintro mm e' _⟨j,rfl,hj,K,Q6,rfl⟩;have q0:=K.at (t:=0) f0;have q1:=K.at (t:=1) f1;have q2:=K.at (t:=2) f2;have NZ:=K.at (t:=29) f29;have DT:=K.at (t:=30) f30;unfold kF;by_cases aM:j<n
 .have wj:=wrap_i64 ((j:Int)+1) (by omega) (by omega);obtain⟨y,hy⟩:=ay fs j (by rw[w.ol];exact aM);have ry:=iH hO hy;simp[q0,NZ,DT,Q6,aM,ry,aq hK,-ae];refine Qw w hn (r:=j) aM (a:=a) (b:=b) (x:=y) (by simp[q0]) (by simp[q1]) (by simp[q2]) (by simp) (by simp) (by simp) (by simp) (by simp) ?_ ?_
  .intro e2 K2;have k31:ai e2 31=.int .i64 j:=K2.at (t:=31) (by simp[Q6]);simp[k31,wj];refine⟨n-(j+1),by omega,j+1,rfl,aM,?_,by simp,rfl⟩;refine ax.set (ax.set (ax.trans ?_ (K2.bH)))
   repeat (refine ax.set ?_)
   exact K
  .intro e2;simp;exact R _
 .have:j=n:=by omega
  subst this;simp[DT,Q6];exact C _ (ax.set K)
def J0I(h:ab)(n0 n dC KB bO o:Nat)(cs:List SV)(e:Env)(mm:Nat)(e':Env)(h':ab):Prop:=
 ∃(j:Nat) (fs:List Int),mm=n-j/\j<=n/\ai e' 0=ai e 0/\ai e' 1=ai e 1/\ai e' 2=ai e 2/\ai e' 71=ai e 71/\ai e' 72=ai e 72/\ai e' 73=.int .i64 j/\JS h' n0 n dC KB bO o cs fs/\aa (· =bO) h h'
theorem Qy(w:JS h n0 n dC KB bO o cs fs)(hn:n<800000){a b:Int}(ha:0<=a/\a<(n:Int))(hb:0<=b/\b<(n:Int))(f0:ai e 0=.pointer (some ⟨KB,0,none⟩))(f1:ai e 1=.int .i64 a)(f2:ai e 2=.int .i64 b)(f71:ai e 71=.slice (some ⟨bO,0,none⟩) n n)(f72:ai e 72=.int .i64 n)(f73:ai e 73=.int .i64 0)(C:∀e' h' Ad,JS h' n0 n dC KB bO o cs Ad->aa (· =bO) h h'->QQ (.exit 4) e' h'):az FF (.loop kD) e h QQ:=by
 refine az.loop (J0I h n0 n dC KB bO o cs e) ?_ (n:=n) ⟨0,fs,rfl,by omega,rfl,rfl,rfl,rfl,rfl,f73,w,.refl w.ok⟩;rintro mm e' h'⟨j,fs,rfl,hj,q0,q1,q2,q71,OW,q73,w,g⟩;rw[f0] at q0;rw[f1] at q1;rw[f2] at q2;rw[f71] at q71;rw[f72] at OW;obtain⟨s1,hK⟩:=w.hK;obtain⟨s3,hO⟩:=w.hO;unfold kD;by_cases aM:j<n
 .have wj:=wrap_i64 ((j:Int)+1) (by omega) (by omega);obtain⟨y,hy⟩:=ay fs j (by rw[w.ol];exact aM);have ry:=iH hO hy;have zv:j+1<=fs.length:=by rw[w.ol];exact aM
  obtain⟨c,hcd,Dy,wN⟩:∃c:Int,c=(if b<a then b else a)/\0<=c/\c<(n:Int):=⟨_,rfl,by split<;>omega,by split<;>omega⟩;obtain⟨w2,g2⟩:=w.put aM (x:=c) ⟨Dy,wN⟩;have wr:∀e2:Env,ai e2 0=ai e 0->ai e2 1=ai e 1->ai e2 2=ai e 2->ai e2 71=ai e 71->ai e2 72=ai e 72->ai e2 73=.int .i64 ((j+1:Nat):Int)->∃Jm,Jm<n-j/\J0I h n0 n dC KB bO o cs e Jm e2 (AI.put h' bO j (bg.flat fs) [.int .i64 c] o):=fun e2 k0 k1 k2 k71 k72 k73=>
   ⟨n-(j+1),by omega,j+1,_,rfl,aM,k0,k1,k2,k71,k72,k73,w2,g.trans g2⟩
  by_cases ex:y=a
  .simp[q0,q1,q2,q71,OW,q73,aM,ry,ex,wj,<-hcd,hO,zv,aq hK,-ae,-nr];exact wr _ (by simp[q0,f0]) (by simp[q1,f1]) (by simp[q2,f2]) (by simp[q71,f71]) (by simp[OW,f72]) (by simp)
  .have c1:(y==a)=false:=by simp[ex]
   by_cases ey:y=b
   .subst ey;simp[q0,q1,q2,q71,OW,q73,aM,ry,ex,c1,wj,<-hcd,hO,zv,aq hK,-ae,-nr];exact wr _ (by simp[q0,f0]) (by simp[q1,f1]) (by simp[q2,f2]) (by simp[q71,f71]) (by simp[OW,f72]) (by simp)
   .have c2:(y==b)=false:=by simp[ey]
    simp[q0,q1,q2,q71,OW,q73,aM,ry,ex,ey,c1,c2,wj,-ae];exact⟨n-(j+1),by omega,j+1,fs,rfl,aM,by simp[q0,f0],by simp[q1,f1],by simp[q2,f2],by simp[q71,f71],by simp[OW,f72],by simp,w,g⟩
 .have:j=n:=by omega
  subst this;simp[OW,q73];exact C _ _ fs w g
theorem Qz(w:JS h n0 n dC KB bO o cs fs)(hn:n<800000){a b:Nat}(ha:a<n)(hb:b<n):aE FF tn [.pointer (some ⟨KB,0,none⟩),.int .i64 a,.int .i64 b] h (fun _ h'=>aa (· =bO) h h'/\∃Ad,JS h' n0 n dC KB bO o cs Ad):=by
 obtain⟨x,hx⟩:=ay fs a (by rw[w.ol];exact ha);obtain⟨y,hy⟩:=ay fs b (by rw[w.ol];exact hb);have gt:=aS w.ok;have wt:=w.aX gt;obtain⟨s1,hK⟩:=wt.hK;obtain⟨s3,hO⟩:=wt.hO;have rx:=iH hO hx;have ry:=iH hO hy;rw[aB] at rx ry;refine aE.of zY ?_;unfold sv;have hK':=hK;rw[Ti] at hK';simp[ha,hb,rx,ry,aB,aq hK',-ae];refine az.cut (fun h1=>aa aG h h1) gt ?_;intro h1 g1;have w1:=w.aX g1;obtain⟨s4,hK1⟩:=w1.hK;have hxr:=w.rg x (bU hx);have hyr:=w.rg y (bU hy);refine Qx w1 hn (a:=x) (b:=y) (by simp) (by simp) (by simp) (by simp) (by simp) (by simp) ?_ ?_
 .intro e2 K2;have k0:ai e2 0=.pointer (some ⟨KB,0,none⟩):=K2.at (t:=0) (by simp);have k1:ai e2 1=.int .i64 x:=K2.at (t:=1) (by simp);have k2:ai e2 2=.int .i64 y:=K2.at (t:=2) (by simp);simp[k0,aq hK1,-ae];refine Qy w1 hn hxr hyr (by simp[k0]) (by simp[k1]) (by simp[k2]) (by simp) (by simp) (by simp) ?_;intro e3 h3 Ad w3 g3;simp;exact⟨g1.aX.trans g3,Ad,w3⟩
 .intro e2;simp;exact⟨g1.aX,fs,w1⟩
end
def CS(h:ab)(n0 n dC KB bO o:Nat)(cs:List SV):Prop:=(n=0/\∃s,h.tr.get KB=some (.aC [cJ.v,.slice (some ⟨dC,0,none⟩) n n] false 0 s))\/∃fs,JS h n0 n dC KB bO o cs fs
section
variable{h0 hS h h':ab}{n0 n dC KB bO o:Nat}{cs:List SV}
theorem CS.aX(w:CS h n0 n dC KB bO o cs)(ok:bl h)(g:aa aG h h'):CS h' n0 n dC KB bO o cs:=by
 rcases w with⟨e,s,hK⟩|⟨fs,w⟩
 .exact .inl ⟨e,s,g.get ok hK⟩
 .exact .inr ⟨fs,w.aX g⟩
def ZW:List Nat:=[10]++(List.range 13).map (· +48)
def ZV:List Nat:=[8,10]++(List.range 21).map (· +41)
def CvI(h:ab)(n0 n dC KB bO o:Nat)(cs:List SV)(k:Nat)(e:Env)(mm:Nat)(e':Env)(h':ab):Prop:=
 ∃j:Nat,mm=k-j/\j<=k/\ax ZW e e'/\ai e' 48=.int .i64 j/\aa (· =bO) h h'/\CS h' n0 n dC KB bO o cs
theorem MF(gL:bl h0)(g0:aa aG h0 h)(H8:h0.next<=bO)(w:CS h n0 n dC KB bO o cs)(hn:n<800000){row:List (Bool×Int)}(sA:SliceR vR 2 h0 A.v row)(hl:row.length<1000000)(hv:∀v∈row,h_ n v){V8 s8:Nat}{dst:Int}{a8:Value}(hV:h.tr.get V8=some (.aC [.int .i64 dst,a8] false 0 s8))(nV:V8≠bO)(hd:0<=dst/\dst<(n:Int))(f3:ai e 3=.pointer (some ⟨KB,0,none⟩))(f8:ai e 8=.pointer (some ⟨V8,0,none⟩))(f46:ai e 46=A.v)(f47:ai e 47=.int .i64 row.length)(f48:ai e 48=.int .i64 0)(C:∀e' h',ax ZW e e'->aa (· =bO) h h'->CS h' n0 n dC KB bO o cs->QQ (.exit 6) e' h'):az FF (.loop nQ) e h QQ:=by
 have Cm:=SliceR.len sA;have CV:=g0.ok;refine az.loop (CvI h n0 n dC KB bO o cs row.length e) ?_ (n:=row.length) ⟨0,rfl,by omega,.refl _ _,f48,.refl CV,w⟩;rintro mm e' h'⟨j,rfl,hj,K,q48,g,w⟩;have q3:=K.at (t:=3) f3;have q8:=K.at (t:=8) f8;have Wr:=K.at (t:=46) f46;have q47:=K.at (t:=47) f47;have gg:aa aG h0 h':=g0.trans' g (fun _ _ h=>h) (fun x hx e=>by omega);unfold nQ;by_cases aM:j<row.length
 .have wj:=wrap_i64 ((j:Int)+1) (by omega) (by omega);obtain⟨v,hvj⟩:=ay row j aM;have vB:=hv v (bU hvj);obtain⟨bA,atG,cA,T_,_,_,rfl,oA,Ye⟩:=SliceR.later gL sA hvj;have rA:=Ye h' gg 0 2 (by decide);simp[-ae] at rA;simp at Wr;rw[T_,Cm] at Wr;obtain⟨d,OQ⟩:∃d:Nat,dst=d:=⟨dst.toNat,by omega⟩;have hV':=g.get CV hV nV;have oV:=g.ok.bE hV';rw[OQ] at hV';have g2:aa aG h' (put (aD h' [.bool false,.int .i64 0] 0) h'.next 0 [.bool false,.int .i64 0] [.bool v.1,.int .i64 v.2] 0):=(aa.refl g.ok).var _ _;cases hr:v.1 with
  |false=>
   rw[hr] at rA g2;simp[Wr,q47,q48,aM,rA,wj,-ae,au];refine⟨row.length-(j+1),by omega,j+1,rfl,aM,?_,by simp,g.trans g2.aX,w.aX g.ok g2⟩
   repeat (refine ax.set ?_)
   exact K
  |true=>
   obtain⟨m0,m1⟩:=vB hr;obtain⟨m,hm⟩:∃m:Nat,v.2=m:=⟨v.2.toNat,by omega⟩;rw[hr,hm] at rA g2;simp[q3,q8,Wr,q47,q48,aM,rA,oV,bj,aN,aq hV',-ae,au];refine aF.cut (fun h2=>aa aG h' h2) g2 ?_;clear g2;intro h2 g2;rcases w.aX g.ok g2 with⟨e0,_⟩|⟨fs,J⟩
   .omega
   refine aF.call (V:=fun _ h'=>aa (· =bO) h2 h'/\∃Ad,JS h' n0 n dC KB bO o cs Ad) (by simpa using Qz J hn (a:=d) (b:=m) (by omega) (by omega)) ?_;rintro _ h3⟨g3,Ad,J3⟩;simp[q48,wj];refine⟨row.length-(j+1),by omega,j+1,rfl,aM,?_,by simp,g.trans (g2.aX.trans g3),.inr ⟨Ad,J3⟩⟩
   repeat (refine ax.set ?_)
   exact K
 .have:j=row.length:=by omega
  subst this;simp[q47,q48];exact C _ _ (ax.set K) g w
def CqI(h:ab)(n0 n dC KB bO o:Nat)(cs:List SV)(k:Nat)(e:Env)(mm:Nat)(e':Env)(h':ab):Prop:=
 ∃j:Nat,mm=k-j/\j<=k/\ax ZV e e'/\ai e' 41=.int .i64 j/\aa (· =bO) h h'/\CS h' n0 n dC KB bO o cs
theorem Kf(gL:bl h0)(g0:aa aG h0 h)(H8:h0.next<=bO/\bO<h.next)(w:CS h n0 n dC KB bO o cs)(hn:n<800000)(sP:SliceR (pR h0) 2 h0 P.v qs)(hl:qs.length<1000000)(hq:∀q∈qs,(0<=q.dst/\q.dst<(n:Int))/\q.row.length<1000000/\∀v∈q.row,h_ n v)(f3:ai e 3=.pointer (some ⟨KB,0,none⟩))(f39:ai e 39=P.v)(f40:ai e 40=.int .i64 qs.length)(f41:ai e 41=.int .i64 0)(C:∀e' h',ax ZV e e'->aa (· =bO) h h'->CS h' n0 n dC KB bO o cs->QQ (.exit 4) e' h'):az FF (.loop nS) e h QQ:=by
 have iF:=SliceR.len sP;have CV:=g0.ok;refine az.loop (CqI h n0 n dC KB bO o cs qs.length e) ?_ (n:=qs.length) ⟨0,rfl,by omega,.refl _ _,f41,.refl CV,w⟩;rintro mm e' h'⟨j,rfl,hj,K,q41,g,w⟩;have q3:=K.at (t:=3) f3;have Ld:=K.at (t:=39) f39;have N0:=K.at (t:=40) f40;have gg:aa aG h0 h':=g0.trans' g (fun _ _ h=>h) (fun x hx e=>by omega);unfold nS;by_cases aM:j<qs.length
 .have wj:=wrap_i64 ((j:Int)+1) (by omega) (by omega);obtain⟨q,KI⟩:=ay qs j aM;obtain⟨hd,rh,hv⟩:=hq q (bU KI);obtain⟨bP,off,c,oG,_,_,⟨A,rfl,sA⟩,oP,cS⟩:=SliceR.later gL sP KI;have r0:=cS h' gg 0 2 (by decide);have Cm:=SliceR.len sA;simp[-ae] at r0;simp at Ld;rw[oG,iF] at Ld;simp[q3,Ld,N0,q41,aM,r0,-ae,au];refine az.cut (fun h2=>aa aG h' h2/\∃s,h2.tr.get h'.next=some (.aC [.int .i64 q.dst,A.v] false 0 s)) ⟨(aa.refl g.ok).var _ _,h'.clock,by simp⟩ ?_;rintro h2⟨g2,s2,H6⟩;have ln:=g.next;refine MF gL (gg.trans g2) H8.1 (w.aX g.ok g2) hn sA rh hv H6 (by omega) hd (by simp[q3]) (by simp) (by simp) (by simp[Cm]) (by simp) ?_;intro e3 h3 K3 g3 w3;have k41:ai e3 41=.int .i64 j:=K3.at (t:=41) (by simp[q41]);simp[k41,wj];refine⟨qs.length-(j+1),by omega,j+1,rfl,aM,?_,by simp,g.trans (g2.aX.trans g3),w3⟩;refine ax.set (ax.set (ax.trans ?_ (K3.bH)))
  repeat (refine ax.set ?_)
  exact K
 .have:j=qs.length:=by omega
  subst this;simp[N0,q41];exact C _ _ (ax.set K) g w
def CoI(h:ab)(n0 n dC KB bO o:Nat)(cs:List SV)(k:Nat)(B:SV)(mm:Nat)(e':Env)(h':ab):Prop:=
 ∃j:Nat,mm=k-j/\j<=k/\ai e' 3=.pointer (some ⟨KB,0,none⟩)/\ai e' 32=B.v/\ai e' 33=.int .i64 k/\ai e' 34=.int .i64 j/\aa (· =bO) h h'/\CS h' n0 n dC KB bO o cs
theorem FA(gL:bl h0)(g0:aa aG h0 h)(H8:h0.next<=bO/\bO<h.next)(w:CS h n0 n dC KB bO o cs)(hn:n<800000)(hB:yM h0 B bs)(I:Fa n ah bs)(f3:ai e 3=.pointer (some ⟨KB,0,none⟩))(f32:ai e 32=B.v)(f33:ai e 33=.int .i64 bs.length)(f34:ai e 34=.int .i64 0)(C:∀e' h',ai e' 3=.pointer (some ⟨KB,0,none⟩)->aa (· =bO) h h'->CS h' n0 n dC KB bO o cs->QQ (.exit 2) e' h'):az FF (.loop nZ) e h QQ:=by
 have cV:=SliceR.len hB;have Wh:=I.len;have CV:=g0.ok;refine az.loop (CoI h n0 n dC KB bO o cs bs.length B) ?_ (n:=bs.length) ⟨0,rfl,by omega,f3,f32,f33,f34,.refl CV,w⟩;rintro mm e' h'⟨j,rfl,hj,q3,Q7,q33,Q8,g,w⟩;have gg:aa aG h0 h':=g0.trans' g (fun _ _ h=>h) (fun x hx e=>by omega);unfold nZ;by_cases aM:j<bs.length
 .have wj:=wrap_i64 ((j:Int)+1) (by omega) (by omega);obtain⟨x,hx⟩:=ay bs j aM;obtain⟨ps,iT⟩:=ay ah j (by rw[I.ahl];omega);obtain⟨pl,pq⟩:=I.ph j x ps hx iT;have psl:=I.row ps (bU iT);obtain⟨bB,GJ,cB,dZ,_,_,⟨P,L,T,rfl,sP,sL,sT⟩,oB,hrdB⟩:=SliceR.later gL hB hx;have rB:=hrdB h' gg 0 6 (by decide);have iF:=SliceR.len sP;simp[-ae] at rB;simp at Q7;rw[dZ,cV] at Q7;simp[q3,Q7,q33,Q8,aM,rB,-ae,au];refine az.cut (fun h2=>aa aG h' h2) ((aa.refl g.ok).var _ _) ?_;intro h2 g2;have ln:=g.next;have ln2:=g2.next;refine Kf gL (gg.trans g2) ⟨H8.1,by omega⟩ (w.aX g.ok g2) hn sP pl (fun q hq=>⟨(pq q hq).1,by have:=(pq q hq).2.1;omega,(pq q hq).2.2⟩) (by simp[q3]) (by simp) (by simp[iF]) (by simp) ?_;intro e3 h3 K3 g3 w3;have k34:ai e3 34=.int .i64 j:=K3.at (t:=34) (by simp[Q8]);simp[k34,wj];exact⟨bs.length-(j+1),by omega,j+1,rfl,aM,by simpa using K3.at (t:=3) (by simp[q3]),by simpa using K3.at (t:=32) (by simp[Q7,dZ,cV]),by simpa using K3.at (t:=33) (by simp[q33]),by simp,g.trans (g2.aX.trans g3),w3⟩
 .have:j=bs.length:=by omega
  subst this;simp[q33,Q8];exact C _ _ (by simp[q3]) g w
end
def CkI(hS:ab)(n dC KB:Nat)(X:Value)(mm:Nat)(e':Env)(h':ab):Prop:=
 ∃(j:Nat) (R:SV) (rs:List Int),mm=n-j/\j<=n/\ai e' 1=X/\ai e' 3=.pointer (some ⟨KB,0,none⟩)/\ai e' 16=.int .i64 n/\ai e' 17=.int .i64 j/\VV hS h' n R rs j/\(∃s,h'.tr.get KB=some (.aC [R.v,.slice (some ⟨dC,0,none⟩) n n] false 0 s))/\∀b,aw R.v b->KB<b
theorem ME{n dC KB s:Nat}{X:Value}(hn:n<800000)(g:aa aG hS h)(lK:hS.next<=KB)(hK:h.tr.get KB=some (.aC [cJ.v,.slice (some ⟨dC,0,none⟩) n n] false 0 s))(f1:ai e 1=X)(f3:ai e 3=.pointer (some ⟨KB,0,none⟩))(f16:ai e 16=.int .i64 n)(f17:ai e 17=.int .i64 0)(C:∀e' h' R rs,ai e' 1=X->ai e' 3=.pointer (some ⟨KB,0,none⟩)->VV hS h' n R rs n->(∃s,h'.tr.get KB=some (.aC [SV.v R,.slice (some ⟨dC,0,none⟩) n n] false 0 s))->(∀b,aw R.v b->KB<b)->QQ (.exit 0) e' h'):az FF (.loop n6) e h QQ:=by
 refine az.loop (CkI hS n dC KB X) ?_ (n:=n) ⟨0,cJ,[],rfl,by omega,f1,f3,f16,f17,⟨g,.inl ⟨rfl,rfl⟩,rfl,fun r hr=>by simp at hr⟩,⟨s,hK⟩,fun b hb=>(eV rfl hb).elim⟩;rintro mm e' h'⟨j,R,rs,rfl,hj,q1,q3,wX,Ha,w,⟨s1,hK⟩,fR⟩;unfold n6;by_cases aM:j<n
 .have wj:=wrap_i64 ((j:Int)+1) (by omega) (by omega);obtain⟨R',h2,ha,w2,g2,fR2⟩:=w.push (r:=(j:Int)) (by omega) (by omega);have hK':=hK;simp at hK';have lKh:=w.g.ok.wf _ _ hK;simp[q3,wX,Ha,aM,hK'];refine gH (by simpa using ha) ?_;have hK2:=g2.get w.g.ok hK (fun e=>by have:=fR KB e;omega);have ae1:=hK2;simp at ae1;simp[q3,Ha,ae1,wj];have g3:=aJ (off:=0) (vs:=[Value.slice R'.a R'.l R'.c]) w2.g.ok ae1;refine⟨n-(j+1),by omega,j+1,R',rs++[(j:Int)],rfl,aM,by simp[q1],by simp[q3],by simp[wX],by simp,⟨w2.g.trans' g3 (fun _ _ h=>h) (fun x hx e=>by omega),w2.acc.grow w2.g.ok g3 (fun b hb e=>by have:=fR2 b hb;omega),w2.len,w2.rg⟩,⟨h2.clock,by simp⟩,fun b hb=>by have:=fR2 b hb;omega⟩
 .have:j=n:=by omega
  subst this;simp[wX,Ha];exact C _ _ R rs (by simp[q1]) (by simp[q3]) w ⟨_,hK⟩ fR
def Wz(n:Nat)(h:ab)(v:Value)(h':ab):Prop:=
 aa aG h h'/\∃(F:SV) (fs:List Int),v=F.v/\fS bg h' F fs/\fs.length=n/\(∀r∈fs,0<=r/\r<(n:Int))/\∀b,aw F.v b->h.next<=b
theorem FB(ok:bl h){name:ByteArray}(hB:yM h B bs)(E:jn bs)(I:Fa n (Edge.bp (bt bs)) bs)(h0:0<bs.length)(hn:n<800000)(hp:pn<=n)(X9:∀b∈bs,b.dk.length<100000):aE FF wV [.agg ⟨aj name pn n B⟩] h (Wz n h):=by
 have cV:=SliceR.len hB;refine aE.of Ei ?_;unfold wK;simp[aj];refine aF.cut (fun h1=>aa aG h h1/\∃s,h1.tr.get h.next=some (.aC (aj name pn n B) false 0 s)) ⟨(aa.refl ok).new _ _,0,by simp[aj]⟩ ?_;rintro h1⟨g1,sX,qq⟩;refine aF.call (V:=Wy n h1) (by simpa [aj] using Ke g1.ok (name:=name) (hB.mono ok g1) E I h0 hn hp X9) ?_;rintro _ h2⟨g2,dC,n0,cs,rfl,hdC,qk,qZ,AN,F2,fC⟩;have ef:=g2.get g1.ok qq;have lX2:=g2.ok.wf _ _ ef;have jd:=g1.trans g2;have CB:=ef;simp[aj] at CB;have oX2:=g2.ok.bE ef;simp[CB,aN,oX2,-ae,aq CB];refine az.cut (fun h3=>aa aG h2 h3/\∃s,h3.tr.get h2.next=some (.aC [cJ.v,.slice (some ⟨dC,0,none⟩) n n] false 0 s)) ⟨(aa.refl g2.ok).new _ _,0,by simp[cJ]⟩ ?_;rintro h3⟨g3,sK,hK3⟩;refine ME (X:=.pointer (some ⟨h.next,0,none⟩)) hn g3 (dH _) hK3 (by simp) (by simp) (by simp) (by simp) ?_;rintro e4 h4 R rs k1 k3 w4⟨sK4,hK4⟩ fR4;have vS:=w4.g.get g2.ok CB;simp[k1,vS,cV];have oE:=jd.trans w4.g;obtain⟨s2,qZ⟩:=qZ;have Ua:=w4.g.get g2.ok qZ;have F4:=F2.grow g2.ok w4.g (fun _ _ h=>h);have lC:=g2.ok.wf _ _ qZ;have l2:=jd.next;obtain⟨bO,o,ho,hbO,cs4⟩:∃bO o,(o=0\/o=1)/\(h.next<=bO/\bO<h4.next)/\CS h4 n0 n dC h2.next bO o cs:=by
  rcases w4.acc with⟨e1,e2⟩|⟨b,s,e,hb,hx,H8⟩
  .have afU:n=0:=by rw[<-w4.len,e1];rfl
   have:R=cJ:=by obtain⟨a,l,c⟩:=R;simp at e2;obtain⟨rfl,rfl,rfl⟩:=e2;rfl
   subst this;have:=w4.g.next;have:=w4.g.ok.wf _ _ hK4;exact⟨h2.next,0,.inl rfl,⟨by omega,this⟩,.inl ⟨afU,_,hK4⟩⟩
  .have ma:aw R.v b:=⟨_,_,_,e⟩;have hbK:=fR4 b ma;refine⟨b,1,.inr rfl,⟨by omega,w4.g.ok.wf _ _ hb⟩,.inr ⟨rs,w4.g.ok,⟨sK4,?_⟩,⟨s2,Ua⟩,AN,F4,⟨s,hb⟩,w4.len,w4.rg,⟨by omega,by omega,fun e=>?_⟩⟩⟩
   .rw[hK4,e,w4.len]
   .have:=(F2.low g2.ok e).2;omega
 refine FA ok oE hbO cs4 hn hB I (by simp[k3]) (by simp[cV]) (by simp) (by simp) ?_;intro e5 h5 k53 g5 cs5;have G5:aa aG h h5:=oE.trans' g5 (fun _ _ h=>h) (fun x hx e=>by omega);rcases cs5 with⟨rfl,s,hK5⟩|⟨fs,J⟩
 .simp at hK5;simp[k53,hK5];exact⟨G5,cJ,[],by simp,fS.nil _ _,rfl,fun r hr=>by simp at hr,fun b hb=>(eV rfl hb).elim⟩
 .obtain⟨s,hK5⟩:=J.hK;obtain⟨s3,hO⟩:=J.hO;simp[k53,hK5];refine⟨G5,⟨some ⟨bO,0,none⟩,n,n⟩,fs,by simp,⟨J.ol.symm,.inr ⟨bO,o,s3,[],rfl,by simp[J.ol],by simpa using hO,ho⟩⟩,J.ol,J.rg,fun b hb=>?_⟩;have:=iD (A:=⟨some ⟨bO,0,none⟩,n,n⟩) rfl hb;omega
end Go.Proofs.YtdhnndleffachaaGreatDoor
