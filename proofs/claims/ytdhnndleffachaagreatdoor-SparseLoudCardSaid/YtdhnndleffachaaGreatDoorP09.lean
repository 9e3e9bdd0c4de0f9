/- Parts of the proof. -/
import Derived.Test.YtdhnndleffachaaGreatDoorP08
set_option linter.all false
namespace Go.Proofs.YtdhnndleffachaaGreatDoor
open Go.AI
variable {A B F G:SV} {N U X Y ai i j k n nb sU sX sY:Nat} {a b e:Int×Int} {aV:Bool} {az:Int} {bs:List GB} {f:GF} {fs:List GF} {gs:List GG} {h h' h0 h1:ae} {name:ByteArray} {now:List Int} {rs:List XR} {u:Bool×Int} {ub κ0:Nat->Nat} {v:Value} {x:XI} {xc:List Value}
structure TU (now:List Int) (many ai:Nat):Prop where
 len:now.length=ai
 lt: ∀v∈now,v= -1\/(0<=v/\v<many)
 qg:many+now.countP (fun v=>decide (v<0))=ai
def Nm (h:ae) (N nb ai:Nat):Prop:= ∃(now:List Int) (many s s':Nat),h.tr.get N=some (.aA [.slice (some ⟨nb,0,none⟩) ai ai,.int .i64 many] false 0 s)/\h.tr.get nb=some (.aA (bp.flat now) false 0 s')/\N≠nb/\TU now many ai
def xg (N nb:Nat) (x:Nat):Prop:=x=N\/x=nb
theorem Nm.grow {S:Nat->Prop} (w:Nm h N nb ai) (ok:bu h) (g:ab S h h') (h1: ¬S N) (h2: ¬S nb):Nm h' N nb ai:=by obtain⟨now,many,s,s',a,b,c,d⟩:=w;exact⟨now,many,s,s',g.get ok a h1,g.get ok b h2,c,d⟩
theorem DP {r:Nat} {x:Int} (hr:now[r]? =some x) (hx:x<0) {y:Int} (hy: ¬y<0):(now.set r y).countP (fun v=>decide (v<0))+1=now.countP (fun v=>decide (v<0)):=by
 induction now generalizing r with
 |nil=>simp at hr
 |cons a l ih=>
  cases r with
  |zero=>
   simp at hr;subst hr;simp[List.countP_cons,hx,hy]
  |succ r=>
   have:=ih (r:=r) (by simpa using hr);simp only[List.set_cons_succ,List.countP_cons];omega
theorem TU.put {many ai r:Nat} {x:Int} (w:TU now many ai) (hr:now[r]? =some x) (hx:x<0):TU (now.set r (many:Int)) (many+1) ai:=by
 refine⟨by simp[w.len],fun v hv=> ?_,?_⟩
 .rcases KG hv with h|h
  .rcases w.lt v h with h|h
   .exact .inl h
   .exact .inr (by omega)
  .exact .inr (by omega)
 .have:=DP hr hx (y:=(many:Int)) (by omega);have:=w.qg;omega
def NmQ (N nb ai:Nat) (h:ae) (v:Value) (h':ae):Prop:=ab (xg N nb) h h'/\Nm h' N nb ai/\ ∃x:Nat,v= .int .i64 x/\x<ai
theorem xx (ok:bu h) {N nb ai r:Nat} (w:Nm h N nb ai) (hr:r<ai) (CN:ai<1000000):
  aF FF tc [.pointer (some ⟨N,0,none⟩),.int .i64 r] h (NmQ N nb ai h):=by
 obtain⟨now,many,s,s',hN,hb,cJ,w⟩:=w;have hl:=w.len;obtain⟨x,hx⟩: ∃x,now[r]? =some x:=⟨_,aX (by omega)⟩;have rx:=kj hb hx;have hcnt:=w.qg;refine aF.of zO ?_;unfold sf;by_cases Le:x<0
 .have hm:many<ai:=by have:0<now.countP (fun v=>decide (v<0)):=List.countP_pos_iff.2 ⟨x,dk hx,by simpa using Le⟩;omega
  have wm:=wrap_i64 ((many:Int)+1) (by omega) (by omega);have Ei:=ok.st _ _ _ _ _ hN;have uJ:r<now.length:=by omega
  have ne2: ¬N=nb:=cJ;have ne3: ¬nb=N:=Ne.symm cJ;have o7:r+1<=now.length:=by omega
  simp[hN,hb,hr,uJ,o7,rx,Le,-ag,aq hN,ay];have e1:=oO now r (many:Int) uJ;have g1:=aM (off:=r) (vs:=[Value.int .i64 (many:Int)]) (aW ok).ok (b:=nb) (by simpa using hb);have KO:(put (tick h) nb r (bp.flat now) [Value.int .i64 (many:Int)] 0).tr.get nb=some (.aA (bp.flat (now.set r (many:Int))) false 0 (h.clock+1)):=by rw[aD,e1];rfl
  have hN1:=g1.get (aW ok).ok (b:=N) (by simpa using hN) cJ;have gg1:=(aW ok).bt.trans g1;generalize put (tick h) nb r (bp.flat now) [Value.int .i64 (many:Int)] 0=h1 at*;simp[hN1,wm];have g2:=aM (off:=1) (vs:=[Value.int .i64 ((many:Int)+1)]) g1.ok hN1;have hN2:(put h1 N 1 [Value.slice (some ⟨nb,0,none⟩) ai ai,Value.int .i64 many] [Value.int .i64 ((many:Int)+1)] 0).tr.get N=some (.aA [.slice (some ⟨nb,0,none⟩) ai ai,.int .i64 ((many:Int)+1)] false 0 h1.clock):=by rw[aD];rfl
  have dq:=g2.get g1.ok KO ne3;generalize put h1 N 1 _ _ 0=h2 at*;have WZ:=kj dq (k:=r) (x:=(many:Int)) (by rw[eR,aU rfl,aU uJ]);simp[hN2,hr,WZ,-ag,aq hN2];refine⟨(gg1.bJ (fun x _ e=> .inr e)).trans (g2.bJ (fun x _ e=> .inl e)),⟨now.set r (many:Int),many+1,_,_,hN2,dq,cJ,w.put hx Le⟩,many,rfl,by omega⟩
 .have:0<=x/\x<many:=by
   rcases w.lt x (dk hx) with h|h
   .omega
   .exact h
  obtain⟨y,rfl⟩: ∃y:Nat,x=y:=⟨x.toNat,by omega⟩;simp[hN,hr,rx,Le,-ag,aq hN];exact⟨.refl ok,⟨now,many,s,s',hN,hb,cJ,w⟩,y,rfl,by omega⟩
def Xz (N nb ai:Nat) (u:Bool×Int) (h:ae) (v:Value) (h':ae):Prop:=ab (xg N nb) h h'/\Nm h' N nb ai/\ ∃w:Bool×Int,v= .agg ⟨[.bool w.1,.int .i64 w.2]⟩/\w.1=u.1/\gK ai w/\(u.1=false->w=u)
theorem vg (ok:bu h) (w:Nm h N nb ai) (hu:gK ai u) (CN:ai<1000000):
  aF FF uA [.pointer (some ⟨N,0,none⟩),.agg ⟨[.bool u.1,.int .i64 u.2]⟩] h (Xz N nb ai u h):=by
 obtain⟨ur,un⟩:=u;have lN:N<h.next:=by obtain⟨_,_,_,_,hN,_⟩:=w;exact ok.wf _ _ hN
 have lb:nb<h.next:=by obtain⟨_,_,_,_,_,hb,_⟩:=w;exact ok.wf _ _ hb
 refine aF.of Bc ?_;unfold tZ;have n2: ¬h.next=h.next+1:=by omega
 have n3: ¬h.next+1=h.next:=by omega
 simp;refine aB.cut (fun h1=>ab aG h h1/\(∃s,h1.tr.get h.next=some (.aA [.bool ur,.int .i64 un] false 0 s))/\(∃s,h1.tr.get (h.next+1)=some (.aA [.bool false,.int .i64 0] false 0 s))) ?_ ?_
 .exact⟨((ab.refl ok).new _ _).new _ _,⟨0,by simp[n2]⟩,⟨0,by simp⟩⟩
 rintro h1 ⟨g1,⟨sV,hV1⟩,⟨sR,sG⟩⟩;have w1:=w.grow ok g1 (fun h=>h) (fun h=>h);cases ur with
 |false=>
  simp[hV1,sG];refine⟨g1.bt.put ⟨_,sG⟩ (.inl (by omega)),?_,(false,un),rfl,rfl,hu,fun _=>rfl⟩;exact w1.grow g1.ok (aM g1.ok sG) (by omega) (by omega)
 |true=>
  obtain⟨h0,h2⟩:=hu rfl;obtain⟨r,hr⟩: ∃r:Nat,un=r:=⟨un.toNat,by simp at h0;omega⟩;subst hr;simp[hV1];refine aE.call (V:=NmQ N nb ai h1) (by simpa using xx g1.ok w1 (r:=r) (by simpa using h2) CN) ?_;rintro _ h2 ⟨g2,w2,x,rfl,hx⟩;have hV2:=g2.get g1.ok hV1 (fun e=>by rcases e with e|e<;>omega);have xW:=g2.get g1.ok sG (fun e=>by rcases e with e|e<;>omega);have g3:=aM (off:=1) (vs:=[Value.int .i64 (x:Int)]) g2.ok hV2;have hV3:(put h2 h.next 1 [Value.bool true,Value.int .i64 r] [Value.int .i64 (x:Int)] 0).tr.get h.next=some (.aA [.bool true,.int .i64 x] false 0 h2.clock):=by rw[aD];rfl
  have Ga:=g3.get g2.ok xW n3;simp[hV2,xW,n2,n3];generalize put h2 h.next 1 _ _ 0=h3 at*;have w3:=w2.grow g2.ok g3 (by omega) (by omega);have g4:=aM (off:=0) (vs:=[Value.bool true,Value.int .i64 (x:Int)]) g3.ok Ga;have w4:=w3.grow g3.ok g4 (by omega) (by omega);exact⟨((g1.bt.trans g2).trans' g3 (fun _ _ h=>h) (fun y hy e=>by omega)).trans' g4 (fun _ _ h=>h) (fun y hy e=>by omega),w4,(true,(x:Int)),rfl,rfl,fun _=>⟨by show(0:Int)<=x;omega,by show(x:Int)<ai;omega⟩,fun h=>by cases h⟩
section
variable {n0 ai:Nat} {κ cap:Nat->Nat} {B:SV} {rs:List XR} {N nb:Nat}
structure NR (h:ae) (n0 ai:Nat) (κ cap:Nat->Nat) (B:SV) (rs:List XR) (N nb:Nat):Prop where
 O:mF h n0 ai κ cap B rs
 w:Nm h N nb ai
 κN:κ N=0
 κb:κ nb=0
 FB:ai<1000000
theorem NR.step {h h2 h3:ae} (k:NR h n0 ai κ cap B rs N nb) (ok:bu h) (g2:ab aG h h2) (g3:ab (xg N nb) h2 h3) (w3:Nm h3 N nb ai):NR h3 n0 ai κ cap B rs N nb:=
 ⟨(k.O.bt ok g2).grow g2.ok g3 (fun b hb=>by rcases hb with e|e<;>(rw[e];first|exact k.κN|exact k.κb)),w3,k.κN,k.κb,k.FB⟩
theorem NR.bt {h h2:ae} (k:NR h n0 ai κ cap B rs N nb) (ok:bu h) (g2:ab aG h h2):NR h2 n0 ai κ cap B rs N nb:=
 ⟨k.O.bt ok g2,k.w.grow ok g2 (fun h=>h) (fun h=>h),k.κN,k.κb,k.FB⟩
theorem NR.lt (k:NR h n0 ai κ cap B rs N nb) (ok:bu h):N<h.next/\nb<h.next:=by obtain⟨_,_,_,_,a,b,_⟩:=k.w;exact⟨ok.wf _ _ a,ok.wf _ _ b⟩
theorem VA.val (w:VA κ cap A) (V:Cz h κ cap ai) (hj:j<A.l): ∃b vs o s v,A.a=some ⟨b,0,none⟩/\κ b=1/\A.c=cap b/\h.tr.get b=some (.aA (cr.flat vs) false o s)/\(o=0\/o=2)/\vs.length=cap b/\(∀v∈vs,gK ai v)/\vs[j]? =some v/\gK ai v/\bc h b (j*2) 2=some [.bool v.1,.int .i64 v.2]:=by
 obtain⟨hl,h0|⟨b,ha,hk,hc⟩⟩:=w
 .omega
 obtain⟨vs,o,s,hb,ho,Hc,hv⟩:=V b hk;obtain⟨v,hx⟩: ∃v,vs[j]? =some v:=⟨_,aX (by omega)⟩;refine⟨b,vs,o,s,v,ha,hk,hc,hb,ho,Hc,hv,hx,hv v (dk hx),?_⟩;rw[cy hb (by rw[cr.bC,eu];have:=(bY.mp hx).1;omega)];have:=cr.lZ vs j v hx;simp only[eu] at this;rw[this];rfl
def NaL:List Nat:=[12,79,80,81,82,83,84,85,86]
def NaI (h:ae) (n0 ai:Nat) (κ cap:Nat->Nat) (B:SV) (rs:List XR) (N nb:Nat) (A:SV) (e:Env) (m:Nat) (e':Env) (h':ae):Prop:=
 ∃j:Nat,m=A.l-j/\j<=A.l/\aw NaL e e'/\Env.get e' 79= .int .i64 j/\ab (xg N nb) h h'/\NR h' n0 ai κ cap B rs N nb
theorem Zv (ok:bu h) (k:NR h n0 ai κ cap B rs N nb) (hA:VA κ cap A) (hl:A.l<=1048576)
  {e:Env} {Q:aP->Env->ae->Prop} (f3:Env.get e 3= .pointer (some ⟨N,0,none⟩)) (f77:Env.get e 77=A.v) (f78:Env.get e 78= .int .i64 A.l) (f79:Env.get e 79= .int .i64 0)
  (C: ∀e' h',aw NaL e e'->ab (xg N nb) h h'->NR h' n0 ai κ cap B rs N nb->Q (.exit 8) e' h'):aB FF (.loop nA) e h Q:=by
 refine aB.loop (NaI h n0 ai κ cap B rs N nb A e) ?_ (n:=A.l) ⟨0,rfl,by omega,aw.refl _ _,f79,.refl ok,k⟩;rintro m e' h' ⟨j,rfl,hj,K,q79,g,k'⟩;have bX:=g.ok;have q3:=K.at f3;have q77:=K.at f77;have q78:=K.at f78;unfold nA;by_cases aS:j<A.l
 .have wj:=wrap_i64 ((j:Int)+1) (by omega) (by omega);obtain⟨b,vs,o,s,v,ha,MC,hc,hb,ho,Hc,xp,hx,hv,rd⟩:=hA.val k'.O.os.V aS;simp at q77;rw[ha] at q77;simp[q3,q77,q78,q79,aS,rd,-ag,av];have g2:ab aG h' (put (aL h' [.bool false,.int .i64 0] 0) h'.next 0 [.bool false,.int .i64 0] [.bool v.1,.int .i64 v.2] 0):=(ab.refl bX).var _ _;generalize put (aL h' [.bool false,.int .i64 0] 0) h'.next 0 _ _ 0=h2 at*;refine aE.call (V:=Xz N nb ai v h2) (by simpa using vg g2.ok (k'.bt bX g2).w hv k.FB) ?_;rintro _ h3 ⟨g3,w3,u,rfl,_,_,_⟩;simp[q79,wj];refine⟨A.l-(j+1),by omega,j+1,rfl,aS,?_,by simp,g.trans (g2.bt.trans g3),k'.step bX g2 g3 w3⟩
  repeat (refine aw.set ?_)
  exact K
 .have:j=A.l:=by omega
  subst this;simp[q78,q79];exact C _ _ (aw.set K) g k'
def NpL:List Nat:=[8,52,53,54,55,56,57,58,59,60]
def NpI (h:ae) (n0 ai:Nat) (κ cap:Nat->Nat) (B:SV) (rs:List XR) (N nb:Nat) (r:XR) (e:Env) (m:Nat) (e':Env) (h':ae):Prop:=
 ∃j:Nat,m=r.ps.length-j/\j<=r.ps.length/\aw NpL e e'/\Env.get e' 52= .int .i64 j/\ab (xg N nb) h h'/\NR h' n0 ai κ cap B rs N nb
theorem Zx (ok:bu h) (k:NR h n0 ai κ cap B rs N nb) {r:XR} (hr:rs[i]? =some r) (hl:r.ps.length<=1048576)
  {e:Env} {Q:aP->Env->ae->Prop} (f3:Env.get e 3= .pointer (some ⟨N,0,none⟩)) (f50:Env.get e 50=r.P.v) (f51:Env.get e 51= .int .i64 r.ps.length) (f52:Env.get e 52= .int .i64 0)
  (C: ∀e' h',aw NpL e e'->ab (xg N nb) h h'->NR h' n0 ai κ cap B rs N nb->Q (.exit 4) e' h'):aB FF (.loop nC) e h Q:=by
 refine aB.loop (NpI h n0 ai κ cap B rs N nb r e) ?_ (n:=r.ps.length) ⟨0,rfl,by omega,aw.refl _ _,f52,.refl ok,k⟩;rintro m e' h' ⟨j,rfl,hj,K,q52,g,k'⟩;have bX:=g.ok;have q3:=K.at f3;have q50:=K.at f50;have q51:=K.at f51;unfold nC;by_cases aS:j<r.ps.length
 .have wj:=wrap_i64 ((j:Int)+1) (by omega) (by omega);obtain⟨q,hq⟩: ∃q,r.ps[j]? =some q:=⟨_,aX aS⟩;have R:=k'.O.os.r i r hr;obtain⟨b,cs,o,s,ha,hb,_,_,dy,_⟩:=R.P.el hq;have rd:=dy 0 2 (by decide);simp[-ag] at rd;have jl:=R.P.len;obtain⟨h0,h1⟩:=(R.ps q (dk hq)).1;obtain⟨u,hu⟩: ∃u:Nat,q.1=u:=⟨q.1.toNat,by omega⟩;rw[hu] at rd;simp at q50;rw[ha,jl] at q50;simp[q3,q50,q51,q52,aS,rd,-ag,av];have g2:ab aG h' (put (aL h' [.int .i64 0,.slice none 0 0] 0) h'.next 0 [.int .i64 0,.slice none 0 0] [.int .i64 u,.slice q.2.a q.2.l q.2.c] 0):=(ab.refl bX).var _ _;generalize put (aL h' [.int .i64 0,.slice none 0 0] 0) h'.next 0 _ _ 0=h2 at*;refine aE.call (V:=NmQ N nb ai h2) (by simpa using xx g2.ok (k'.bt bX g2).w (r:=u) (by omega) k.FB) ?_;rintro _ h3 ⟨g3,w3,x,rfl,_⟩;simp[q52,wj];refine⟨r.ps.length-(j+1),by omega,j+1,rfl,aS,?_,by simp,g.trans (g2.bt.trans g3),k'.step bX g2 g3 w3⟩
  repeat (refine aw.set ?_)
  exact K
 .have:j=r.ps.length:=by omega
  subst this;simp[q51,q52];exact C _ _ (aw.set K) g k'
end
section
variable {n0 ai:Nat} {κ cap:Nat->Nat} {B:SV} {rs:List XR} {N nb:Nat}
def NlL:List Nat:=[10,12,64,65,66,67,68,69,70,71,72,73,74,75,76,77,78,79,80,81,82,83,84,85,86,87,88,89,90,91,92,93,94]
def NlI (h:ae) (n0 ai:Nat) (κ cap:Nat->Nat) (B:SV) (rs:List XR) (N nb:Nat) (r:XR) (e:Env) (m:Nat) (e':Env) (h':ae):Prop:=
 ∃j:Nat,m=r.ls.length-j/\j<=r.ls.length/\aw NlL e e'/\Env.get e' 64= .int .i64 j/\ab (xg N nb) h h'/\NR h' n0 ai κ cap B rs N nb
theorem Zw (ok:bu h) (k:NR h n0 ai κ cap B rs N nb) {r:XR} (hr:rs[i]? =some r) (hl:r.ls.length<=1048576) (al: ∀x∈r.ls,x.args.l<=1048576)
  {e:Env} {Q:aP->Env->ae->Prop} (f3:Env.get e 3= .pointer (some ⟨N,0,none⟩)) (f62:Env.get e 62=r.L.v) (f63:Env.get e 63= .int .i64 r.ls.length) (f64:Env.get e 64= .int .i64 0)
  (C: ∀e' h',aw NlL e e'->ab (xg N nb) h h'->NR h' n0 ai κ cap B rs N nb->Q (.exit 6) e' h'):aB FF (.loop nB) e h Q:=by
 refine aB.loop (NlI h n0 ai κ cap B rs N nb r e) ?_ (n:=r.ls.length) ⟨0,rfl,by omega,aw.refl _ _,f64,.refl ok,k⟩;rintro m e' h' ⟨j,rfl,hj,K,Sg,g,k'⟩;have bX:=g.ok;have q3:=K.at f3;have Sf:=K.at f62;have q63:=K.at f63;unfold nB;by_cases aS:j<r.ls.length
 .have wj:=wrap_i64 ((j:Int)+1) (by omega) (by omega);obtain⟨x,hx⟩: ∃x,r.ls[j]? =some x:=⟨_,aX aS⟩;have MG:=dk hx;have R:=k'.O.os.r i r hr;obtain⟨b,cs,o,s,ha,hb,_,_,dy,_⟩:=R.L.el hx;have rd:=dy 0 8 (by decide);simp[-ag] at rd;have tB:=R.L.len;obtain⟨hd,Tv,Ge,X6⟩:=R.ls x MG;simp at Sf;rw[ha,tB] at Sf;simp[q3,Sf,q63,Sg,aS,rd,-ag,av];refine aE.cut (fun h2=>ab aG h' h2/\ ∃s,h2.tr.get h'.next=some (.aA [.int .i64 x.op,.int .i64 x.dst,.bool x.a.1,.int .i64 x.a.2,.bool x.b.1,.int .i64 x.b.2,.int .i64 x.fn,.slice x.args.a x.args.l x.args.c] false 0 s)) ?_ ?_
  .exact⟨(ab.refl bX).var _ _,h'.clock,by simp[aJ]⟩
  rintro h2 ⟨g2,sX,dS⟩;have k2:=k'.bt bX g2;obtain⟨lN,lnb⟩:=k'.lt bX;have nX: ¬xg N nb h'.next:=fun e=>by rcases e with e|e<;>omega
  refine aE.call (V:=Xz N nb ai x.a h2) (by simpa using vg g2.ok k2.w Tv k.FB) ?_;rintro _ h3 ⟨g3,w3,u,rfl,_,_,_⟩;have k3:=k2.step g2.ok (.refl g2.ok) g3 w3;have fK:=g3.get g2.ok dS nX;simp[q3,fK];refine aE.call (V:=Xz N nb ai x.b h3) (by simpa using vg g3.ok k3.w Ge k.FB) ?_;rintro _ h4 ⟨g4,w4,u2,rfl,_,_,_⟩;have k4:=k3.step g3.ok (.refl g3.ok) g4 w4;have tR:=g4.get g3.ok fK nX;simp[tR];refine Zv g4.ok k4 X6 (al x MG) (by simp[q3]) (by simp) (by simp) (by simp) ?_;intro e5 h5 K5 g5 k5;have rV:=g5.get g4.ok tR nX;have m3:=K5.at (t:=3) (by simp;exact q3);have m10:Env.get e5 10= .pointer (some ⟨h'.next,0,none⟩):=K5.at (t:=10) (by simp);have m64:=K5.at (t:=64) (by simp;exact Sg);have G5:=g.trans (g2.bt.trans (g3.trans (g4.trans g5)));have KK:aw NlL e e5:=by
   refine aw.trans ?_ (K5.bJ)
   repeat (refine aw.set ?_)
   exact K
  by_cases U8:0<=x.dst
  .obtain⟨dn,XV⟩: ∃u:Nat,x.dst=u:=⟨x.dst.toNat,by omega⟩;rw[XV] at rV hd;have U9:(0:Int)<=(dn:Int):=by omega
   simp[m3,m10,rV,U9];refine aE.call (V:=NmQ N nb ai h5) (by simpa using xx g5.ok k5.w (r:=dn) (by omega) k.FB) ?_;rintro _ h6 ⟨g6,w6,y,rfl,_⟩;simp[m64,wj];refine⟨r.ls.length-(j+1),by omega,j+1,rfl,aS,?_,by simp,G5.trans g6,k5.step g5.ok (.refl g5.ok) g6 w6⟩
   repeat (refine aw.set ?_)
   exact KK
  .simp[m3,m10,rV,U8,m64,wj];refine⟨r.ls.length-(j+1),by omega,j+1,rfl,aS,?_,by simp,G5,k5⟩
   repeat (refine aw.set ?_)
   exact KK
 .have:j=r.ls.length:=by omega
  subst this;simp[q63,Sg];exact C _ _ (aw.set K) g k'
def NbI (h:ae) (n0 ai:Nat) (κ cap:Nat->Nat) (B:SV) (rs:List XR) (N nb:Nat) (v1 v2:Value) (m:Nat) (e':Env) (h':ae):Prop:=
 ∃j:Nat,m=rs.length-j/\j<=rs.length/\Env.get e' 1=v1/\Env.get e' 2=v2/\Env.get e' 3= .pointer (some ⟨N,0,none⟩)/\Env.get e' 43=B.v/\Env.get e' 44= .int .i64 rs.length/\Env.get e' 45= .int .i64 j/\ab (xg N nb) h h'/\NR h' n0 ai κ cap B rs N nb
theorem RJ (ok:bu h) (k:NR h n0 ai κ cap B rs N nb) (T:TF rs)
  {e:Env} {Q:aP->Env->ae->Prop} {v1 v2:Value} (f1:Env.get e 1=v1) (f2:Env.get e 2=v2) (f3:Env.get e 3= .pointer (some ⟨N,0,none⟩)) (f43:Env.get e 43=B.v) (f44:Env.get e 44= .int .i64 rs.length) (f45:Env.get e 45= .int .i64 0)
  (C: ∀e' h',Env.get e' 1=v1->Env.get e' 2=v2->Env.get e' 3= .pointer (some ⟨N,0,none⟩)->ab (xg N nb) h h'->NR h' n0 ai κ cap B rs N nb->Q (.exit 2) e' h'):aB FF (.loop nD) e h Q:=by
 have Ez:=T.Ez;refine aB.loop (NbI h n0 ai κ cap B rs N nb v1 v2) ?_ (n:=rs.length) ⟨0,rfl,by omega,f1,f2,f3,f43,f44,f45,.refl ok,k⟩;rintro m e' h' ⟨j,rfl,hj,q1,q2,q3,Qh,Jk,OC,g,k'⟩;have bX:=g.ok;unfold nD;by_cases aS:j<rs.length
 .have wj:=wrap_i64 ((j:Int)+1) (by omega) (by omega);obtain⟨r,hr⟩: ∃r,rs[j]? =some r:=⟨_,aX aS⟩;have hm:=dk hr;obtain⟨sp,sl⟩:=T.size r hm;have R:=k'.O.os.r j r hr;obtain⟨b,cs,o,s,ha,hb,_,_,dy,_⟩:=k'.O.A.el hr;have rd:=dy 0 6 (by decide);simp[-ag] at rd;have ew:=k'.O.A.len;have jl:=R.P.len;have tB:=R.L.len;simp at Qh;rw[ha,ew] at Qh;simp[q3,Qh,Jk,OC,aS,rd,-ag,av,jl];refine aB.cut (fun h2=>ab aG h' h2/\ ∃s,h2.tr.get h'.next=some (.aA [.slice r.P.a r.ps.length r.P.c,.slice r.L.a r.ls.length r.L.c,.int .i64 r.kind,.bool r.on.1,.int .i64 r.on.2,.slice r.T.a r.T.l r.T.c] false 0 s)) ?_ ?_
  .exact⟨(ab.refl bX).var _ _,h'.clock,by simp[aJ,jl,tB]⟩
  rintro h2 ⟨g2,sX,dS⟩;have k2:=k'.bt bX g2;obtain⟨lN,lnb⟩:=k'.lt bX;have nX: ¬xg N nb h'.next:=fun e=>by rcases e with e|e<;>omega
  refine Zx g2.ok k2 hr (by omega) (by simp[q3]) (by simp[jl]) (by simp) (by simp) ?_;intro e3 h3 K3 g3 k3;have fK:=g3.get g2.ok dS nX;have a1:=K3.at (t:=1) (by simp;exact q1);have a2:=K3.at (t:=2) (by simp;exact q2);have a3:=K3.at (t:=3) (by simp;exact q3);have a6:Env.get e3 6= .pointer (some ⟨h'.next,0,none⟩):=K3.at (t:=6) (by simp);have a43:=K3.at (t:=43) (by simp;exact Qh);have a44:=K3.at (t:=44) (by simp;exact Jk);have a45:=K3.at (t:=45) (by simp;exact OC);simp[a6,fK];refine Zw g3.ok k3 hr (by omega) (T.al r hm) (by simp[a3]) (by simp[tB]) (by simp) (by simp) ?_;intro e4 h4 K4 g4 k4;have tR:=g4.get g3.ok fK nX;have b1:=K4.at (t:=1) (by simp;exact a1);have b2:=K4.at (t:=2) (by simp;exact a2);have b3:=K4.at (t:=3) (by simp;exact a3);have b6:=K4.at (t:=6) (by simp;exact a6);have b43:=K4.at (t:=43) (by simp;exact a43);have b44:=K4.at (t:=44) (by simp;exact a44);have b45:=K4.at (t:=45) (by simp;exact a45);simp[b3,b6,tR];refine aE.call (V:=Xz N nb ai r.on h4) (by simpa using vg g4.ok k4.w R.on k.FB) ?_;rintro _ h5 ⟨g5,w5,u,rfl,_,_,_⟩;simp[b45,wj];exact⟨rs.length-(j+1),by omega,j+1,rfl,aS,by simp[b1],by simp[b2],by simp[b3],by simp[b43,ha,ew],by simp[b44],by simp,g.trans (g2.bt.trans (g3.trans (g4.trans g5))),k4.step g4.ok (.refl g4.ok) g5 w5⟩
 .have:j=rs.length:=by omega
  subst this;simp[Jk,OC];exact C _ _ (by simp[q1]) (by simp[q2]) (by simp[q3]) g k'
def NqI (h:ae) (n0 ai:Nat) (κ cap:Nat->Nat) (B:SV) (rs:List XR) (N nb:Nat) (p:Nat) (v1 v2:Value) (m:Nat) (e':Env) (h':ae):Prop:=
 ∃j:Nat,m=p-j/\j<=p/\Env.get e' 1=v1/\Env.get e' 2=v2/\Env.get e' 3= .pointer (some ⟨N,0,none⟩)/\Env.get e' 34= .int .i64 p/\Env.get e' 35= .int .i64 j/\ab (xg N nb) h h'/\NR h' n0 ai κ cap B rs N nb
theorem RK (ok:bu h) (k:NR h n0 ai κ cap B rs N nb) {p:Nat} (hp:p<=ai)
  {e:Env} {Q:aP->Env->ae->Prop} {v1 v2:Value} (f1:Env.get e 1=v1) (f2:Env.get e 2=v2) (f3:Env.get e 3= .pointer (some ⟨N,0,none⟩)) (f34:Env.get e 34= .int .i64 p) (f35:Env.get e 35= .int .i64 0)
  (C: ∀e' h',Env.get e' 1=v1->Env.get e' 2=v2->Env.get e' 3= .pointer (some ⟨N,0,none⟩)->ab (xg N nb) h h'->NR h' n0 ai κ cap B rs N nb->Q (.exit 0) e' h'):aB FF (.loop nE) e h Q:=by
 have CN:=k.FB;refine aB.loop (NqI h n0 ai κ cap B rs N nb p v1 v2) ?_ (n:=p) ⟨0,rfl,by omega,f1,f2,f3,f34,f35,.refl ok,k⟩;rintro m e' h' ⟨j,rfl,hj,q1,q2,q3,q34,q35,g,k'⟩;unfold nE;by_cases aS:j<p
 .have wj:=wrap_i64 ((j:Int)+1) (by omega) (by omega);simp[q3,q34,q35,aS];refine aE.call (V:=NmQ N nb ai h') (by simpa using xx g.ok k'.w (r:=j) (by omega) k.FB) ?_;rintro _ h3 ⟨g3,w3,x,rfl,_⟩;simp[q35,wj];exact⟨p-(j+1),by omega,j+1,rfl,aS,by simp[q1],by simp[q2],by simp[q3],by simp[q34],by simp,g.trans g3,k'.step g.ok (.refl g.ok) g3 w3⟩
 .have:j=p:=by omega
  subst this;simp[q34,q35];exact C _ _ (by simp[q1]) (by simp[q2]) (by simp[q3]) g k'
end
section
variable {n0 ai:Nat} {κ cap:Nat->Nat} {B:SV} {rs:List XR} {N nb:Nat}
def JM (κ:Nat->Nat) (N nb x:Nat):Prop:=xg N nb x\/κ x≠0
theorem NR.Bz {h h':ae} (k:NR h n0 ai κ cap B rs N nb) (ok:bu h) {b:Nat} (hk:κ b=1) (g:ab (· =b) h h') {vs:List (Bool×Int)} {o:Nat} (hb: ∃s,h'.tr.get b=some (.aA (cr.flat vs) false o s)) (ho:o=0\/o=2) (hl:vs.length=cap b) (hv: ∀v∈vs,gK ai v):NR h' n0 ai κ cap B rs N nb:=
 ⟨k.O.Bz ok hk g hb ho hl hv,k.w.grow ok g (fun e=>by have:=k.κN;rw[e] at this;omega) (fun e=>by have:=k.κb;rw[e] at this;omega),k.κN,k.κb,k.FB⟩
def WaL:List Nat:=[21,22,164,165,166,167,168,169,170,171,172,173,174,175,176]
def WaI (h:ae) (n0 ai:Nat) (κ cap:Nat->Nat) (B:SV) (rs:List XR) (N nb:Nat) (A:SV) (X:Nat) (xc:List Value) (sX:Nat) (e:Env) (m:Nat) (e':Env) (h':ae):Prop:=
 ∃j:Nat,m=A.l-j/\j<=A.l/\aw WaL e e'/\Env.get e' 164= .int .i64 j/\ab (JM κ N nb) h h'/\NR h' n0 ai κ cap B rs N nb/\h'.tr.get X=some (.aA xc false 0 sX)
theorem ah_ (ok:bu h) (k:NR h n0 ai κ cap B rs N nb) (hA:VA κ cap A) (hl:A.l<=1048576) (hX:h.tr.get X=some (.aA xc false 0 sX)) (κX:κ X=0) (nX: ¬xg N nb X) (Gf:(xc.drop 7).take 1=[A.v])
  {e:Env} {Q:aP->Env->ae->Prop} (f3:Env.get e 3= .pointer (some ⟨N,0,none⟩)) (fX:Env.get e 20= .pointer (some ⟨X,0,none⟩)) (fA:Env.get e 162=A.v) (fl:Env.get e 163= .int .i64 A.l) (fj:Env.get e 164= .int .i64 0)
  (C: ∀e' h',aw WaL e e'->ab (JM κ N nb) h h'->NR h' n0 ai κ cap B rs N nb->h'.tr.get X=some (.aA xc false 0 sX)->Q (.exit 18) e' h'):aB FF (.loop nv) e h Q:=by
 refine aB.loop (WaI h n0 ai κ cap B rs N nb A X xc sX e) ?_ (n:=A.l) ⟨0,rfl,by omega,aw.refl _ _,fj,.refl ok,k,hX⟩;rintro m e' h' ⟨j,rfl,hj,K,qj,g,k',lM⟩;have bX:=g.ok;have q3:=K.at f3;have qX:=K.at fX;have qA:=K.at fA;have ql:=K.at fl;have uv:7+1<=xc.length:=by have:=congrArg List.length Gf;simp at this;omega
 unfold nv;by_cases aS:j<A.l
 .have wj:=wrap_i64 ((j:Int)+1) (by omega) (by omega);obtain⟨b,vs,o,s,v,ha,MC,hc,hb,ho,Hc,xp,hx,hv,rd⟩:=hA.val k'.O.os.V aS;simp at qA;rw[ha] at qA;have Ek:(xc.drop 7).take 1=[.slice (some ⟨b,0,none⟩) A.l A.c]:=by rw[Gf];simp[ha]
  have rX:bc h' X 7 1=some [.slice (some ⟨b,0,none⟩) A.l A.c]:=by rw[cy lM uv,Ek]
  have oX:=bX.bA lM;have Ei:=bX.st _ _ _ _ _ lM;have lX:=oX.lt;have Zu: ¬X=h'.next:=by omega
  have lb:=bX.wf _ _ hb;simp[q3,qX,qA,ql,qj,aS,rd,rX,oX,Zu,-ag,av,bg,aI,ay];refine aQ.cut (fun h2=>ab aG h' h2) ?_ ?_
  .exact((ab.refl bX).var _ _).tick
  intro h2 g2;have k2:=k'.bt bX g2;have dS:=g2.get bX lM (fun h=>h);refine aQ.call (V:=Xz N nb ai v h2) (by simpa using vg g2.ok k2.w hv k.FB) ?_;rintro _ h3 ⟨g3,w3,u,rfl,_,hu,_⟩;have k3:=k2.step g2.ok (.refl g2.ok) g3 w3;have fK:=g3.get g2.ok dS nX;have nbS: ¬xg N nb b:=fun e=>by have h1:=k.κN;have h2:=k.κb;rcases e with e|e<;>(rw[e] at MC;omega)
  have Bk:=g3.get g2.ok (g2.get bX hb (fun h=>h)) nbS;have hjv:j<vs.length:=(bY.mp hx).1;have hf:j*2+2<=(cr.flat vs).length:=by rw[cr.bC,eu];omega
  have Bm:j*2+2<=vs.length*2:=by omega
  have wN:sX<=h'.clock+1:=by omega
  simp[qX,fK,wN,aS,Bk,Bm,qj,wj];have g4:=aM (off:=j*2) (vs:=[Value.bool u.1,Value.int .i64 u.2]) g3.ok Bk;have e4:=cr.fu vs j u hjv;simp only[eu,ue] at e4;have Gc: ∃s,(put h3 b (j*2) (cr.flat vs) [Value.bool u.1,Value.int .i64 u.2] o).tr.get b=some (.aA (cr.flat (vs.set j u)) false o s):=⟨_,by rw[aD,e4]⟩;generalize put h3 b (j*2) (cr.flat vs) [Value.bool u.1,Value.int .i64 u.2] o=h4 at*;have k4:=k3.Bz g3.ok MC g4 Gc ho (by simp[Hc]) (fun w hw=>by
   rcases KG hw with h|h
   .exact xp w h
   .rw[h];exact hu)
  have nXb: ¬X=b:=fun e=>by rw[e] at κX;omega
  refine⟨A.l-(j+1),by omega,j+1,rfl,aS,?_,by simp,?_,k4,g4.get g3.ok fK nXb⟩
  .repeat (refine aw.set ?_)
   exact K
  .exact((g.trans g2.bt).trans (g3.bJ (fun x _ h=> .inl h))).trans (g4.bJ (fun x _ e=> .inr (by rw[e];omega)))
 .have:j=A.l:=by omega
  subst this;simp[ql,qj];exact C _ _ (aw.set K) g k' lM
def WrL:List Nat:=[17,18,129,130,131,132,133,134,135,136,137,138,139,140,141]
def WrI (h:ae) (n0 ai:Nat) (κ cap:Nat->Nat) (B:SV) (rs:List XR) (N nb:Nat) (A:SV) (X:Nat) (xc:List Value) (sX:Nat) (e:Env) (m:Nat) (e':Env) (h':ae):Prop:=
 ∃j:Nat,m=A.l-j/\j<=A.l/\aw WrL e e'/\Env.get e' 129= .int .i64 j/\ab (JM κ N nb) h h'/\NR h' n0 ai κ cap B rs N nb/\h'.tr.get X=some (.aA xc false 0 sX)
theorem aia (ok:bu h) (k:NR h n0 ai κ cap B rs N nb) (hA:VA κ cap A) (hl:A.l<=1048576) (hX:h.tr.get X=some (.aA xc false 0 sX)) (κX:κ X=0) (nX: ¬xg N nb X) (Gf:(xc.drop 1).take 1=[A.v])
  {e:Env} {Q:aP->Env->ae->Prop} (f3:Env.get e 3= .pointer (some ⟨N,0,none⟩)) (fX:Env.get e 16= .pointer (some ⟨X,0,none⟩)) (fA:Env.get e 127=A.v) (fl:Env.get e 128= .int .i64 A.l) (fj:Env.get e 129= .int .i64 0)
  (C: ∀e' h',aw WrL e e'->ab (JM κ N nb) h h'->NR h' n0 ai κ cap B rs N nb->h'.tr.get X=some (.aA xc false 0 sX)->Q (.exit 14) e' h'):aB FF (.loop nx) e h Q:=by
 refine aB.loop (WrI h n0 ai κ cap B rs N nb A X xc sX e) ?_ (n:=A.l) ⟨0,rfl,by omega,aw.refl _ _,fj,.refl ok,k,hX⟩;rintro m e' h' ⟨j,rfl,hj,K,qj,g,k',lM⟩;have bX:=g.ok;have q3:=K.at f3;have qX:=K.at fX;have qA:=K.at fA;have ql:=K.at fl;have uv:1+1<=xc.length:=by have:=congrArg List.length Gf;simp at this;omega
 unfold nx;by_cases aS:j<A.l
 .have wj:=wrap_i64 ((j:Int)+1) (by omega) (by omega);obtain⟨b,vs,o,s,v,ha,MC,hc,hb,ho,Hc,xp,hx,hv,rd⟩:=hA.val k'.O.os.V aS;simp at qA;rw[ha] at qA;have Ek:(xc.drop 1).take 1=[.slice (some ⟨b,0,none⟩) A.l A.c]:=by rw[Gf];simp[ha]
  have rX:bc h' X 1 1=some [.slice (some ⟨b,0,none⟩) A.l A.c]:=by rw[cy lM uv,Ek]
  have oX:=bX.bA lM;have Ei:=bX.st _ _ _ _ _ lM;have lX:=oX.lt;have Zu: ¬X=h'.next:=by omega
  have lb:=bX.wf _ _ hb;simp[q3,qX,qA,ql,qj,aS,rd,rX,oX,Zu,-ag,av,bg,aI,ay];refine aQ.cut (fun h2=>ab aG h' h2) ?_ ?_
  .exact((ab.refl bX).var _ _).tick
  intro h2 g2;have k2:=k'.bt bX g2;have dS:=g2.get bX lM (fun h=>h);refine aQ.call (V:=Xz N nb ai v h2) (by simpa using vg g2.ok k2.w hv k.FB) ?_;rintro _ h3 ⟨g3,w3,u,rfl,_,hu,_⟩;have k3:=k2.step g2.ok (.refl g2.ok) g3 w3;have fK:=g3.get g2.ok dS nX;have nbS: ¬xg N nb b:=fun e=>by have h1:=k.κN;have h2:=k.κb;rcases e with e|e<;>(rw[e] at MC;omega)
  have Bk:=g3.get g2.ok (g2.get bX hb (fun h=>h)) nbS;have hjv:j<vs.length:=(bY.mp hx).1;have hf:j*2+2<=(cr.flat vs).length:=by rw[cr.bC,eu];omega
  have Bm:j*2+2<=vs.length*2:=by omega
  have wN:sX<=h'.clock+1:=by omega
  simp[qX,fK,wN,aS,Bk,Bm,qj,wj];have g4:=aM (off:=j*2) (vs:=[Value.bool u.1,Value.int .i64 u.2]) g3.ok Bk;have e4:=cr.fu vs j u hjv;simp only[eu,ue] at e4;have Gc: ∃s,(put h3 b (j*2) (cr.flat vs) [Value.bool u.1,Value.int .i64 u.2] o).tr.get b=some (.aA (cr.flat (vs.set j u)) false o s):=⟨_,by rw[aD,e4]⟩;generalize put h3 b (j*2) (cr.flat vs) [Value.bool u.1,Value.int .i64 u.2] o=h4 at*;have k4:=k3.Bz g3.ok MC g4 Gc ho (by simp[Hc]) (fun w hw=>by
   rcases KG hw with h|h
   .exact xp w h
   .rw[h];exact hu)
  have nXb: ¬X=b:=fun e=>by rw[e] at κX;omega
  refine⟨A.l-(j+1),by omega,j+1,rfl,aS,?_,by simp,?_,k4,g4.get g3.ok fK nXb⟩
  .repeat (refine aw.set ?_)
   exact K
  .exact((g.trans g2.bt).trans (g3.bJ (fun x _ h=> .inl h))).trans (g4.bJ (fun x _ e=> .inr (by rw[e];omega)))
 .have:j=A.l:=by omega
  subst this;simp[ql,qj];exact C _ _ (aw.set K) g k' lM
end
section
variable {n0 ai:Nat} {κ cap:Nat->Nat} {B:SV} {rs:List XR} {N nb:Nat}
theorem L8 {r:XR} (hr:rs[i]? =some r):rs.set i r=rs:=by
 refine zV fun m=> ?_;rw[eR];by_cases e:i=m
 .subst e;rw[aU rfl,aU (bY.mp hr).1,hr]
 .rw[aT e]
theorem Ky {r r':XR} (w:e_ fe h B rs) (hr:rs[i]? =some r) (e:fe.enc r'=fe.enc r):e_ fe h B (rs.set i r'):=by
 refine zQ w (by simp) (fun m a c h1 h2=> ?_);rw[eR] at h2;by_cases e1:i=m
 .subst e1;rw[aU rfl,aU (bY.mp hr).1] at h2;cases h2;rw[hr] at h1;cases h1;exact e
 .rw[aT e1,h1] at h2;cases h2;rfl
theorem NR.SF {h h':ae} (k:NR h n0 ai κ cap B rs N nb) (ok:bu h) {i:Nat} {r:XR} (hr:rs[i]? =some r) (g:ab (ax r.P.v) h h') {WG:List (Int×SV)} (hP:e_ jR h' r.P WG) (gM: ∀p∈WG,(0<=p.1/\p.1<ai)/\VA κ cap p.2):NR h' n0 ai κ cap B (rs.set i { r with ps:=WG }) N nb:=by have R:=k.O.os.r i r hr;have hA:=k.O.A.grow ok g (fun b hb hs=>by have:=k.O.kB b hb;have:=R.kP b hs;omega);exact⟨⟨k.O.os.SF ok hr g hP rfl gM,Ky hA hr rfl,k.O.kB⟩,k.w.grow ok g (fun e=>by have:=k.κN;have:=R.kP _ e;omega) (fun e=>by have:=k.κb;have:=R.kP _ e;omega),k.κN,k.κb,k.FB⟩
theorem NR.aea {h h':ae} (k:NR h n0 ai κ cap B rs N nb) (ok:bu h) {i:Nat} {r:XR} (hr:rs[i]? =some r) (g:ab (ax r.L.v) h h') {I9:List XI} (hL:e_ mJ h' r.L I9) (JQ: ∀x∈I9,x.dst<ai/\gK ai x.a/\gK ai x.b/\VA κ cap x.args):NR h' n0 ai κ cap B (rs.set i { r with ls:=I9 }) N nb:=by have R:=k.O.os.r i r hr;have hA:=k.O.A.grow ok g (fun b hb hs=>by have:=k.O.kB b hb;have:=R.kL b hs;omega);exact⟨⟨k.O.os.aea ok hr g hL rfl JQ,Ky hA hr rfl,k.O.kB⟩,k.w.grow ok g (fun e=>by have:=k.κN;have:=R.kL _ e;omega) (fun e=>by have:=k.κb;have:=R.kL _ e;omega),k.κN,k.κb,k.FB⟩
def WpL:List Nat:=[15,16,17,18,112,113,114,115,116,117,118,119,120,121,122,123,124,125,126,127,128,129,130,131,132,133,134,135,136,137,138,139,140,141,142]
def WpI (h:ae) (n0 ai:Nat) (κ cap:Nat->Nat) (B:SV) (rs:List XR) (N nb i:Nat) (r:XR) (X:Nat) (xc:List Value) (sX:Nat) (e:Env) (m:Nat) (e':Env) (h':ae):Prop:=
 ∃(j:Nat) (qs:List (Int×SV)),m=r.ps.length-j/\j<=r.ps.length/\aw WpL e e'/\Env.get e' 112= .int .i64 j/\ab (JM κ N nb) h h'/\NR h' n0 ai κ cap B (rs.set i { r with ps:=qs }) N nb/\qs.length=r.ps.length/\(∀q∈qs,q.2.l<=1048576)/\h'.tr.get X=some (.aA xc false 0 sX)
theorem Wh (ok:bu h) (k:NR h n0 ai κ cap B rs N nb) {r:XR} (hr:rs[i]? =some r) (hl:r.ps.length<=1048576) (hX:h.tr.get X=some (.aA xc false 0 sX)) (κX:κ X=0) (nX: ¬xg N nb X) (Gf:xc.take 1=[r.P.v]) (K0: ∀q∈r.ps,q.2.l<=1048576)
  {e:Env} {Q:aP->Env->ae->Prop} (f3:Env.get e 3= .pointer (some ⟨N,0,none⟩)) (f14:Env.get e 14= .pointer (some ⟨X,0,none⟩)) (f110:Env.get e 110=r.P.v) (f111:Env.get e 111= .int .i64 r.ps.length) (f112:Env.get e 112= .int .i64 0)
  (C: ∀e' h' qs,qs.length=r.ps.length->aw WpL e e'->ab (JM κ N nb) h h'->NR h' n0 ai κ cap B (rs.set i { r with ps:=qs }) N nb->h'.tr.get X=some (.aA xc false 0 sX)->Q (.exit 12) e' h'):aB FF (.loop ny) e h Q:=by
 have ff:=(bY.mp hr).1;refine aB.loop (WpI h n0 ai κ cap B rs N nb i r X xc sX e) ?_ (n:=r.ps.length) ⟨0,r.ps,rfl,by omega,aw.refl _ _,f112,.refl ok,by rw[L8 hr];exact k,rfl,K0,hX⟩;rintro m e' h' ⟨j,qs,rfl,hj,K,adS,g,k',hqs,hqv,lM⟩;have bX:=g.ok;have q3:=K.at f3;have HA:=K.at f14;have adR:=K.at f110;have aik:=K.at f111;have uv:1<=xc.length:=by have:=congrArg List.length Gf;simp at this;omega
 unfold ny;by_cases aS:j<r.ps.length
 .have wj:=wrap_i64 ((j:Int)+1) (by omega) (by omega);obtain⟨q,hq⟩: ∃q,qs[j]? =some q:=⟨_,aX (by omega)⟩;have K9:=dk hq;have ME:(rs.set i { r with ps:=qs })[i]? =some { r with ps:=qs } :=by rw[eR,aU rfl,aU ff]
  have R:=k'.O.os.r i _ ME;have RP:e_ jR h' r.P qs:=R.P;obtain⟨bP,cs,o,s,ha,hb,_,eH,dy,_⟩:=RP.el hq;have rd:=dy 0 2 (by decide);simp[-ag] at rd;have jl:=RP.len;obtain⟨⟨h0,h1⟩,YU⟩:=R.ps q K9;obtain⟨u,hu⟩: ∃u:Nat,q.1=u:=⟨q.1.toNat,by omega⟩;rw[hu] at rd;simp at adR;rw[ha,jl,hqs] at adR;have Ek:(xc.drop 0).take 1=[.slice (some ⟨bP,0,none⟩) r.ps.length r.P.c]:=by rw[List.drop_zero,Gf];simp[ha,jl,hqs]
  have rX:bc h' X 0 1=some [.slice (some ⟨bP,0,none⟩) r.ps.length r.P.c]:=by rw[cy lM (by omega),Ek]
  have oX:=bX.bA lM;have Ei:=bX.st _ _ _ _ _ lM;have lX:=oX.lt;have Zu: ¬X=h'.next:=by omega
  simp[q3,HA,adR,aik,adS,aS,rd,rX,oX,Zu,-ag,av,bg,aI,ay];refine aQ.cut (fun h2=>ab aG h' h2/\ ∃s,h2.tr.get h'.next=some (.aA [.int .i64 u,.slice q.2.a q.2.l q.2.c] false 0 s)) ?_ ?_
  .exact⟨((ab.refl bX).var _ _).tick,h'.clock,by simp[aJ]⟩
  rintro h2 ⟨g2,s2,KM⟩;have k2:=k'.bt bX g2;have dS:=g2.get bX lM (fun h=>h);refine aQ.call (V:=NmQ N nb ai h2) (by simpa using xx g2.ok k2.w (r:=u) (by omega) k.FB) ?_;rintro _ h3 ⟨g3,w3,x,rfl,hx⟩;have k3:=k2.step g2.ok (.refl g2.ok) g3 w3;have fK:=g3.get g2.ok dS nX;obtain⟨lN,lnb⟩:=k'.lt bX;have nY: ¬xg N nb h'.next:=fun e=>by rcases e with e|e<;>omega
  have Mz:=g3.get g2.ok KM nY;have κP:κ bP=3:=R.kP bP (bU ha);have R3:=(k3.O.os.r i _ ME).P;obtain⟨bP',cs3,o3,s3,ha3,Bk,_,KV,_,Lb⟩:=R3.el hq;rw[ha] at ha3;cases ha3;have hf:=KV 0 1 (by decide);simp at hf;have wN:sX<=h'.clock+1:=by omega
  have nYP: ¬h'.next=bP:=fun e=>by have hw:=k'.O.os.new h'.next;rw[<-e] at κP;have:=(hw (by omega)).2;omega
  simp[HA,fK,wN,aS,Bk,hf,nYP,Mz];have g4:=aM (off:=j*2) (vs:=[Value.int .i64 x]) g3.ok Bk;have XK:=Lb ((x:Int),q.2) 0 [.int .i64 x] (by simp) rfl (put h3 bP (j*2) cs3 [Value.int .i64 x] o3) ⟨h3.clock,by simp⟩;have XO:=g4.get g3.ok Mz nYP;have tR:=g4.get g3.ok fK (fun e=>by rw[e] at κX;omega);generalize put h3 bP (j*2) cs3 [Value.int .i64 x] o3=h4 at*;have k4:=k3.SF g3.ok ME (g4.bJ (fun y _ e=>e▸bU ha)) XK (fun p hp=>by
   rcases KG hp with h|h
   .exact R.ps p h
   .rw[h];exact⟨⟨by show(0:Int)<=x;omega,by show(x:Int)<ai;omega⟩,YU⟩)
  rw[List.set_set] at k4;refine aia g4.ok k4 YU (hqv q K9) XO ?_ nY rfl (by simp[q3]) (by simp) (by simp) (by simp) (by simp) ?_
  .have hw:=k'.O.os.new h'.next;rcases tP (κ h'.next) with h|h
   .exact h
   .have:=(hw (by omega)).2;omega
  intro e5 h5 K5 g5 k5 hY5;have aoB:=K5.at (t:=112) (by simp;exact adS);have rV:=g5.get g4.ok tR (fun e=>by rcases e with e|e;exact nX e;exact e κX);simp[aoB,wj];refine⟨r.ps.length-(j+1),by omega,j+1,qs.set j ((x:Int),q.2),rfl,aS,?_,by simp,?_,k5,by simp[hqs],fun p hp=> ?_,rV⟩
  .refine aw.set (aw.set (aw.trans ?_ (K5.bJ)))
   repeat (refine aw.set ?_)
   exact K
  .exact(((g.trans g2.bt).trans (g3.bJ (fun x _ h=> .inl h))).trans (g4.bJ (fun x _ e=> .inr (by rw[e];omega)))).trans g5
  .rcases KG hp with h|h
   .exact hqv p h
   .rw[h];exact hqv q K9
 .have:j=r.ps.length:=by omega
  subst this;simp[aik,adS];exact C _ _ qs hqs (aw.set K) g k' lM
end
def abn (ai:Nat) (u a:Bool×Int):Prop:=u.1=a.1/\gK ai u/\(a.1=false->u=a)
theorem L9 {u a:Bool×Int} (hu:abn ai u a):Ye u=Ye a:=by
 obtain⟨u1,_,u3⟩:=hu;unfold Ye;rw[u1];cases h:a.1 with
 |true=>rfl
 |false=>rw[u3 h]
theorem zP (φ:Sh->Bool) (ls:List XI):rR φ ls=((ls.map MK).filter φ).length:=by unfold rR;rw[List.filter_map,XE];rfl
theorem Ul {φ:Sh->Bool} {ls:List XI} {x y:XI} (h:ls[j]? =some x) (e:MK y=MK x):rR φ (ls.set j y)=rR φ ls:=by
 rw[zP,zP,List.map_set];congr 2;refine zV fun m=> ?_;rw[eR];by_cases e1:j=m
 .subst e1;rw[aU rfl,aU (by simpa using(bY.mp h).1),tQ,h,e];rfl
 .rw[aT e1]
section
variable {n0 ai:Nat} {κ cap:Nat->Nat} {B:SV} {rs:List XR} {N nb:Nat}
theorem NR.box (k:NR h n0 ai κ cap B rs N nb) (ok:bu h) (g:ab (· =Y) h h') (κY:κ Y=0) (nY: ¬xg N nb Y):NR h' n0 ai κ cap B rs N nb:=
 ⟨k.O.grow ok g (fun b hb=>by rw[hb];exact κY),k.w.grow ok g (fun e=>nY (.inl e.symm)) (fun e=>nY (.inr e.symm)),k.κN,k.κb,k.FB⟩
def WlD:List Nat:=[151,152,153,154,155,156,157,158,159,160]
theorem aae (ok:bu h) (k:NR h n0 ai κ cap B rs N nb) (Tv:gK ai x.a) (Ge:gK ai x.b) (hY:h.tr.get Y=some (.aA [.int .i64 x.op,.int .i64 x.dst,.bool x.a.1,.int .i64 x.a.2,.bool x.b.1,.int .i64 x.b.2,.int .i64 x.fn,.slice x.args.a x.args.l x.args.c] false 0 sY)) (κY:κ Y=0) (nY: ¬xg N nb Y)
  {e:Env} {Q:aP->Env->ae->Prop} (f3:Env.get e 3= .pointer (some ⟨N,0,none⟩)) (f20:Env.get e 20= .pointer (some ⟨Y,0,none⟩))
  (C: ∀e' h' u w s,aw WlD e e'->ab (fun z=>xg N nb z\/z=Y) h h'->NR h' n0 ai κ cap B rs N nb->abn ai u x.a->abn ai w x.b->h'.tr.get Y=some (.aA [.int .i64 x.op,.int .i64 x.dst,.bool u.1,.int .i64 u.2,.bool w.1,.int .i64 w.2,.int .i64 x.fn,.slice x.args.a x.args.l x.args.c] false 0 s)->Q .normal e' h'):aB FF Ph e h Q:=by
 have oY:=ok.bA hY;have Ei:=ok.st _ _ _ _ _ hY;unfold Ph;simp[f3,f20,hY,aq hY,oY];have xz:=(aW ok).ok;have gt:ab aG h (tick h):=aW ok;generalize tick h=h1 at xz gt ⊢;have k1:=k.bt ok gt;have hY1:=gt.get ok hY (fun h=>h);refine aQ.call (V:=Xz N nb ai x.a h1) (by simpa using vg xz k1.w Tv k.FB) ?_;rintro _ h2 ⟨g2,w2,u,rfl,u1,u2,u3⟩;have k2:=k1.step xz (.refl xz) g2 w2;have KM:=g2.get xz hY1 nY;simp[f20,KM,Ei];refine aQ.call (V:=Xz N nb ai x.b h2) (by simpa using vg g2.ok k2.w Ge k.FB) ?_;rintro _ h3 ⟨g3,w3,w,rfl,v1,v2,v3⟩;have k3:=k2.step g2.ok (.refl g2.ok) g3 w3;have Mz:=g3.get g2.ok KM nY;simp[f20,Mz];have g4:=((ab.refl g3.ok).put (S:=(· =Y)) (off:=2) (vs:=[Value.bool u.1,Value.int .i64 u.2]) ⟨_,Mz⟩ (.inr rfl)).put (b:=Y) (off:=4) (cs:=[.int .i64 x.op,.int .i64 x.dst,.bool u.1,.int .i64 u.2,.bool x.b.1,.int .i64 x.b.2,.int .i64 x.fn,.slice x.args.a x.args.l x.args.c]) (o:=0) (vs:=[Value.bool w.1,Value.int .i64 w.2]) ⟨h3.clock,by simp[aJ]⟩ (.inr rfl);refine C _ _ u w (h3.clock+1) ?_ ?_ (k3.box g3.ok g4 κY nY) ⟨u1,u2,u3⟩ ⟨v1,v2,v3⟩ ?_
 .repeat (refine aw.set ?_)
  exact aw.refl _ _
 .exact((gt.bt.trans (g2.bJ (fun z _ h=> .inl h))).trans (g3.bJ (fun z _ h=> .inl h))).trans (g4.bJ (fun z _ h=> .inr h))
 .rw[aD];rfl
theorem Qw (ok:bu h) (k:NR h n0 ai κ cap B rs N nb) {r:XR} (ME:rs[i]? =some r) {x x':XI} (hx:r.ls[j]? =some x) (hd:x'.dst<ai) (ha:gK ai x'.a) (hb:gK ai x'.b) (hv:VA κ cap x'.args) (hX:h.tr.get X=some (.aA xc false 0 sX)) (κX:κ X=0) (nX: ¬xg N nb X) (Gf:(xc.drop 1).take 1=[r.L.v]) (hY:h.tr.get Y=some (.aA (mJ.enc x') false 0 sY))
  {e:Env} {Q:aP->Env->ae->Prop} (f14:Env.get e 14= .pointer (some ⟨X,0,none⟩)) (f19:Env.get e 19= .int .i64 j) (f20:Env.get e 20= .pointer (some ⟨Y,0,none⟩))
  (C: ∀e' h',aw [185,186,187,188,189] e e'->ab (JM κ N nb) h h'->NR h' n0 ai κ cap B (rs.set i { r with ls:=r.ls.set j x' }) N nb->h'.tr.get X=some (.aA xc false 0 sX)->Q .normal e' h'):aB FF Pg e h Q:=by
 have R:=k.O.os.r i r ME;obtain⟨bL,cs,o,s,haL,hbL,_,eH,_,fH⟩:=R.L.el hx;have aS:=(bY.mp hx).1;have tB:=R.L.len;have uv:1+1<=xc.length:=by have:=congrArg List.length Gf;simp at this;omega
 have Ek:(xc.drop 1).take 1=[.slice (some ⟨bL,0,none⟩) r.ls.length r.L.c]:=by rw[Gf];simp[haL,tB]
 have rX:bc h X 1 1=some [.slice (some ⟨bL,0,none⟩) r.ls.length r.L.c]:=by rw[cy hX uv,Ek]
 have hf:=eH 0 8 (by decide);simp at hf;have KM:=hY;simp only[Ux] at KM;simp at KM;have κL:κ bL=4:=R.kL bL (bU haL);unfold Pg;simp[f14,f19,f20,rX,KM,aq KM,aS,hbL,hf,-ag];have g4:=aM (off:=j*8) (vs:=[Value.int .i64 x'.op,.int .i64 x'.dst,.bool x'.a.1,.int .i64 x'.a.2,.bool x'.b.1,.int .i64 x'.b.2,.int .i64 x'.fn,.slice x'.args.a x'.args.l x'.args.c]) ok hbL;have hL4:=fH x' 0 [Value.int .i64 x'.op,.int .i64 x'.dst,.bool x'.a.1,.int .i64 x'.a.2,.bool x'.b.1,.int .i64 x'.b.2,.int .i64 x'.fn,.slice x'.args.a x'.args.l x'.args.c] (by simp) rfl (put h bL (j*8) cs [Value.int .i64 x'.op,.int .i64 x'.dst,.bool x'.a.1,.int .i64 x'.a.2,.bool x'.b.1,.int .i64 x'.b.2,.int .i64 x'.fn,.slice x'.args.a x'.args.l x'.args.c] o) ⟨h.clock,by simp⟩;have k4:=k.aea ok ME (g4.bJ (fun y _ e=>e▸bU haL)) hL4 (fun z hz=>by
  rcases KG hz with h|h
  .exact R.ls z h
  .rw[h];exact⟨hd,ha,hb,hv⟩)
 refine C _ _ ?_ (g4.bJ (fun z _ e=> .inr (by rw[e];omega))) k4 (g4.get ok hX (fun e=>by rw[e] at κX;omega))
 repeat (refine aw.set ?_)
 exact aw.refl _ _
def WlL:List Nat:=[19,20,21,22,146,147,148,149,150,151,152,153,154,155,156,157,158,159,160,161,162,163,164,165,166,167,168,169,170,171,172,173,174,175,176,177,178,179,180,181,182,183,184,185,186,187,188,189,190]
def WlI (h:ae) (n0 ai:Nat) (κ cap:Nat->Nat) (B:SV) (rs:List XR) (N nb i:Nat) (r:XR) (X:Nat) (xc:List Value) (sX:Nat) (e:Env) (m:Nat) (e':Env) (h':ae):Prop:=
 ∃(j:Nat) (ys:List XI),m=r.ls.length-j/\j<=r.ls.length/\aw WlL e e'/\Env.get e' 146= .int .i64 j/\ab (JM κ N nb) h h'/\NR h' n0 ai κ cap B (rs.set i { r with ls:=ys }) N nb/\ys.length=r.ls.length/\(∀x∈ys,x.args.l<=1048576)/\(∀φ,rR φ ys=rR φ r.ls)/\h'.tr.get X=some (.aA xc false 0 sX)
theorem We (ok:bu h) (k:NR h n0 ai κ cap B rs N nb) {r:XR} (hr:rs[i]? =some r) (hl:r.ls.length<=1048576) (al: ∀x∈r.ls,x.args.l<=1048576) (hX:h.tr.get X=some (.aA xc false 0 sX)) (κX:κ X=0) (nX: ¬xg N nb X) (Gf:(xc.drop 1).take 1=[r.L.v])
  {e:Env} {Q:aP->Env->ae->Prop} (f3:Env.get e 3= .pointer (some ⟨N,0,none⟩)) (f14:Env.get e 14= .pointer (some ⟨X,0,none⟩)) (f144:Env.get e 144=r.L.v) (f145:Env.get e 145= .int .i64 r.ls.length) (f146:Env.get e 146= .int .i64 0)
  (C: ∀e' h' ys,ys.length=r.ls.length->aw WlL e e'->ab (JM κ N nb) h h'->NR h' n0 ai κ cap B (rs.set i { r with ls:=ys }) N nb->(∀φ,rR φ ys=rR φ r.ls)->h'.tr.get X=some (.aA xc false 0 sX)->Q (.exit 16) e' h'):aB FF (.loop nw) e h Q:=by
 have ff:=(bY.mp hr).1;refine aB.loop (WlI h n0 ai κ cap B rs N nb i r X xc sX e) ?_ (n:=r.ls.length) ⟨0,r.ls,rfl,by omega,aw.refl _ _,f146,.refl ok,by rw[L8 hr];exact k,rfl,al,fun _=>rfl,hX⟩;rintro m e' h' ⟨j,ys,rfl,hj,K,adV,g,k',PT,uw,G7,lM⟩;have bX:=g.ok;have q3:=K.at f3;have HA:=K.at f14;have adU:=K.at f144;have ain:=K.at f145;have uv:2<=xc.length:=by have:=congrArg List.length Gf;simp at this;omega
 unfold nw;by_cases aS:j<r.ls.length
 .have wj:=wrap_i64 ((j:Int)+1) (by omega) (by omega);obtain⟨x,hx⟩: ∃x,ys[j]? =some x:=⟨_,aX (by omega)⟩;have MG:=dk hx;have ME:(rs.set i { r with ls:=ys })[i]? =some { r with ls:=ys } :=by rw[eR,aU rfl,aU ff]
  have R:=k'.O.os.r i _ ME;have RL:e_ mJ h' r.L ys:=R.L;obtain⟨bL,cs,o,s,ha,hb,_,eH,dy,_⟩:=RL.el hx;have rd:=dy 0 8 (by decide);simp[-ag] at rd;have tB:=RL.len;obtain⟨hd,Tv,Ge,X6⟩:=R.ls x MG;simp at adU;rw[ha,tB,PT] at adU;simp[adU,ain,adV,aS,rd,-ag,av];refine aB.cut (fun h2=>ab aG h' h2/\ ∃s,h2.tr.get h'.next=some (.aA [.int .i64 x.op,.int .i64 x.dst,.bool x.a.1,.int .i64 x.a.2,.bool x.b.1,.int .i64 x.b.2,.int .i64 x.fn,.slice x.args.a x.args.l x.args.c] false 0 s)) ?_ ?_
  .exact⟨(ab.refl bX).var _ _,h'.clock,by simp[aJ]⟩
  rintro h2 ⟨g2,s2,KM⟩;have k2:=k'.bt bX g2;have dS:=g2.get bX lM (fun h=>h);obtain⟨lN,lnb⟩:=k'.lt bX;have lX:=bX.wf _ _ lM;have nY: ¬xg N nb h'.next:=fun e=>by rcases e with e|e<;>omega
  have κY:κ h'.next=0:=by
   have hw:=k'.O.os.new h'.next;rcases tP (κ h'.next) with h|h
   .exact h
   .have:=(hw (by omega)).2;omega
  refine aae g2.ok k2 Tv Ge KM κY nY (by simp[q3]) (by simp) ?_;intro e3 h3 u w s3 K3 g3 k3 hu hw Mz;have fK:=g3.get g2.ok dS (fun e=>by rcases e with e|e;exact nX e;omega);have a3:=K3.at (t:=3) (by simp;exact q3);have a14:=K3.at (t:=14) (by simp;exact HA);have a19:Env.get e3 19= .int .i64 j:=K3.at (t:=19) (by simp);have a20:Env.get e3 20= .pointer (some ⟨h'.next,0,none⟩):=K3.at (t:=20) (by simp);have ali:=K3.at (t:=146) (by simp;exact adV);have KK3:aw WlL e e3:=by
   refine aw.trans ?_ (K3.bJ)
   repeat (refine aw.set ?_)
   exact K
  simp[a20,Mz];refine ah_ g3.ok k3 X6 (uw x MG) Mz κY nY rfl (by simp[a3]) (by simp[a20]) (by simp) (by simp) (by simp) ?_;intro e4 h4 K4 g4 k4 XO;have tR:=g4.get g3.ok fK (fun e=>by rcases e with e|e;exact nX e;exact e κX);have b3:=K4.at (t:=3) (by simp;exact a3);have b14:=K4.at (t:=14) (by simp;exact a14);have b19:=K4.at (t:=19) (by simp;exact a19);have b20:=K4.at (t:=20) (by simp;exact a20);have afH:=K4.at (t:=146) (by simp;exact ali);have KK4:aw WlL e e4:=by
   refine aw.trans ?_ (K4.bJ)
   repeat (refine aw.set ?_)
   exact KK3
  have G4:ab (JM κ N nb) h h4:=((g.trans g2.bt).trans' g3 (fun _ _ h=>h) (fun z hz e=>by
   rcases e with e|e
   .exact .inl e
   .have:=g.next;omega)).trans g4
  have hxl3:1+1<=xc.length:=uv;have κL:κ bL=4:=R.kL bL (bU ha)
  
  have fin: ∀(e6:Env) (h6:ae) (d:Int),d<ai->aw WlL e e6->ab (JM κ N nb) h h6->NR h6 n0 ai κ cap B (rs.set i { r with ls:=ys.set j ⟨x.op,d,u,w,x.fn,x.args⟩ }) N nb->h6.tr.get X=some (.aA xc false 0 sX)-> ∃m,m<r.ls.length-j/\WlI h n0 ai κ cap B rs N nb i r X xc sX e m (Tr.set (Tr.set e6 190 (.int .i64 ((j:Int)+1))) 146 (.int .i64 ((j:Int)+1))) h6:=by
   intro e6 h6 d hdr K6 G6 k6 yp;refine⟨r.ls.length-(j+1),by omega,j+1,ys.set j ⟨x.op,d,u,w,x.fn,x.args⟩,rfl,aS,aw.set (aw.set K6),by simp,G6,k6,by simp[PT],fun z hz=> ?_,fun φ=> ?_,yp⟩
   .rcases KG hz with h|h
    .exact uw z h
    .rw[h];exact uw x MG
   .rw[Ul hx ?_]
    .exact G7 φ
    .simp only[MK,L9 hu,L9 hw]
  by_cases U8:0<=x.dst
  .obtain⟨dn,XV⟩: ∃u:Nat,x.dst=u:=⟨x.dst.toNat,by omega⟩;rw[XV] at XO hd;have U9:(0:Int)<=(dn:Int):=by omega
   simp[b3,b20,XO,U9];refine aE.call (V:=NmQ N nb ai h4) (by simpa using xx g4.ok k4.w (r:=dn) (by omega) k.FB) ?_;rintro _ h5 ⟨g5,w5,y,rfl,hy⟩;have k5:=k4.step g4.ok (.refl g4.ok) g5 w5;have hY5:=g5.get g4.ok XO nY;have rV:=g5.get g4.ok tR nX;simp[b20,hY5];have g6:=(ab.refl g5.ok).put (S:=(· =h'.next)) (off:=1) (vs:=[Value.int .i64 y]) ⟨_,hY5⟩ (.inr rfl);have hY6: ∃s,(put h5 h'.next 1 [.int .i64 x.op,.int .i64 dn,.bool u.1,.int .i64 u.2,.bool w.1,.int .i64 w.2,.int .i64 x.fn,.slice x.args.a x.args.l x.args.c] [Value.int .i64 y] 0).tr.get h'.next=some (.aA (mJ.enc ⟨x.op,y,u,w,x.fn,x.args⟩) false 0 s):=⟨h5.clock,by rw[aD];rfl⟩;have yp:=g6.get g5.ok rV (by omega);have k6:=k5.box g5.ok g6 κY nY;generalize put h5 h'.next 1 _ _ 0=h6 at*;obtain⟨s6,hY6⟩:=hY6;have lY:h'.next<h6.next:=g6.ok.wf _ _ hY6;refine Qw g6.ok k6 ME hx (x':=⟨x.op,y,u,w,x.fn,x.args⟩) (by show(y:Int)<ai;omega) hu.2.1 hw.2.1 X6 yp κX nX Gf hY6 (by simp[b14]) (by simp[b19]) (by simp[b20]) ?_;intro e7 h7 K7 g7 k7 Tg;rw[List.set_set] at k7;have Ub:=K7.at (t:=146) (by simp;exact afH);simp[Ub,wj];refine fin e7 h7 y (by omega) ?_ ?_ k7 Tg
   .refine aw.trans ?_ (K7.bJ)
    repeat (refine aw.set ?_)
    exact KK4
   .exact((G4.trans (g5.bJ (fun z _ h=> .inl h))).trans' g6 (fun _ _ h=>h) (fun z hz e=>by have:=g.next;omega)).trans g7
  .simp[b20,XO,U8];refine Qw g4.ok k4 ME hx (x':=⟨x.op,x.dst,u,w,x.fn,x.args⟩) hd hu.2.1 hw.2.1 X6 tR κX nX Gf XO (by simp[b14]) (by simp[b19]) (by simp[b20]) ?_;intro e7 h7 K7 g7 k7 Tg;rw[List.set_set] at k7;have Ub:=K7.at (t:=146) (by simp;exact afH);simp[Ub,wj];refine fin e7 h7 x.dst hd ?_ (G4.trans g7) k7 Tg;refine aw.trans ?_ (K7.bJ)
   repeat (refine aw.set ?_)
   exact KK4
 .have:j=r.ls.length:=by omega
  subst this;simp[ain,adV];exact C _ _ ys PT (aw.set K) g k' G7 lM
end
section
variable {n0 ai:Nat} {κ cap:Nat->Nat} {B:SV} {rs:List XR} {N nb:Nat}
def WbD:List Nat:=[191,192,193,194,195,196,197,198,199,200,201]
theorem aad (ok:bu h) (k:NR h n0 ai κ cap B rs N nb) {r:XR} (ME:rs[j]? =some r) {F sF:Nat} {p rg:Int} (hF:h.tr.get F=some (.aA (au name p rg B) false 0 sF)) (κF:κ F=0) (nF: ¬xg N nb F) {r0:XR} (hX:h.tr.get X=some (.aA (fe.enc r0) false 0 sX)) (h0:r0.on=r.on)
  {e:Env} {Q:aP->Env->ae->Prop} (f1:Env.get e 1= .pointer (some ⟨F,0,none⟩)) (f3:Env.get e 3= .pointer (some ⟨N,0,none⟩)) (f13:Env.get e 13= .int .i64 j) (f14:Env.get e 14= .pointer (some ⟨X,0,none⟩))
  (C: ∀e' h' u,aw WbD e e'->ab (JM κ N nb) h h'->NR h' n0 ai κ cap B (rs.set j { r with on:=u }) N nb->Q .normal e' h'):aB FF Pd e h Q:=by
 have aS:=(bY.mp ME).1;have R:=k.O.os.r j r ME;obtain⟨bB,cs,oB,sB,ig,FZ,_,eH,dy,_⟩:=k.O.A.el ME;have κB:κ bB=2:=k.O.kB bB (bU ig);have ew:=k.O.A.len;have kx:=hF;simp[au] at kx;rw[ig,ew] at kx;have dS:=hX;simp only[qJ] at dS;simp at dS;rw[h0] at dS;have oF:=ok.bA hF;have oX:=ok.bA hX;have Ei:=ok.st _ _ _ _ _ hF;unfold Pd;simp[f1,f3,f13,f14,kx,dS,aq kx,aq dS,oF,oX];have xz:=(aW ok).ok;have gt:ab aG h (tick h):=aW ok;generalize tick h=h1 at xz gt ⊢;have k1:=k.bt ok gt;have wK:=gt.get ok kx (fun h=>h);refine aQ.call (V:=Xz N nb ai r.on h1) (by simpa using vg xz k1.w R.on k.FB) ?_;rintro _ h2 ⟨g2,w2,u,rfl,u1,u2,u3⟩;have k2:=k1.step xz (.refl xz) g2 w2;have vH:=g2.get xz wK nF;obtain⟨bB',cs2,oB2,sB2,ov,IK,_,ag0,_,ahC⟩:=k2.O.A.el ME;rw[ig] at ov;cases ov;have hf:=ag0 3 2 (by decide);simp at hf;simp[f1,vH,Ei,aS,IK,hf];have g3:=aM (off:=j*6+3) (vs:=[Value.bool u.1,Value.int .i64 u.2]) g2.ok IK;have A3:=ahC { r with on:=u } 3 [Value.bool u.1,Value.int .i64 u.2] (by simp) rfl (put h2 bB (j*6+3) cs2 [Value.bool u.1,Value.int .i64 u.2] oB2) ⟨h2.clock,by simp⟩;have os3:=(k2.O.os.abb ME r.kind u u2).grow g2.ok g3 (fun x e=> .inr (by rw[e];exact κB));have k3:NR (put h2 bB (j*6+3) cs2 [Value.bool u.1,Value.int .i64 u.2] oB2) n0 ai κ cap B (rs.set j { r with on:=u }) N nb:=
  ⟨⟨os3,A3,k2.O.kB⟩,k2.w.grow g2.ok g3 (fun e=>by have:=k.κN;rw[e] at this;omega) (fun e=>by have:=k.κb;rw[e] at this;omega),k.κN,k.κb,k.FB⟩
 refine C _ _ u ?_ ?_ k3
 .repeat (refine aw.set ?_)
  exact aw.refl _ _
 .exact(gt.bt.trans (g2.bJ (fun z _ h=> .inl h))).trans (g3.bJ (fun z _ e=> .inr (by rw[e];omega)))
def WbI (h:ae) (n0 ai:Nat) (κ cap:Nat->Nat) (B:SV) (rs:List XR) (N nb F:Nat) (v2:Value) (m:Nat) (e':Env) (h':ae):Prop:=
 ∃(j:Nat) (bH:List XR),m=rs.length-j/\j<=rs.length/\Env.get e' 1= .pointer (some ⟨F,0,none⟩)/\Env.get e' 2=v2/\Env.get e' 3= .pointer (some ⟨N,0,none⟩)/\Env.get e' 102=B.v/\Env.get e' 103= .int .i64 rs.length/\Env.get e' 104= .int .i64 j/\ab (JM κ N nb) h h'/\NR h' n0 ai κ cap B bH N nb/\bH.length=rs.length/\(∀i,j<=i->bH[i]? =rs[i]?)/\(∀r∈bH,r.ps.length<=100000/\r.ls.length<=100000)/\ ∀φ,fN φ bH=fN φ rs
theorem Oo (ok:bu h) (k:NR h n0 ai κ cap B rs N nb) (um:n0<=h.next) (T:TF rs) {F sF:Nat} {p rg:Int} (hF:h.tr.get F=some (.aA (au name p rg B) false 0 sF)) (κF:κ F=0) (nF: ¬xg N nb F)
  {e:Env} {Q:aP->Env->ae->Prop} {v2:Value} (f1:Env.get e 1= .pointer (some ⟨F,0,none⟩)) (f2:Env.get e 2=v2) (f3:Env.get e 3= .pointer (some ⟨N,0,none⟩)) (f102:Env.get e 102=B.v) (f103:Env.get e 103= .int .i64 rs.length) (f104:Env.get e 104= .int .i64 0)
  (C: ∀e' h' bH,Env.get e' 1= .pointer (some ⟨F,0,none⟩)->Env.get e' 2=v2->Env.get e' 3= .pointer (some ⟨N,0,none⟩)->ab (JM κ N nb) h h'->NR h' n0 ai κ cap B bH N nb->bH.length=rs.length->(∀r∈bH,r.ps.length<=100000/\r.ls.length<=100000)->(∀φ,fN φ bH=fN φ rs)->Q (.exit 10) e' h'):aB FF (.loop nz) e h Q:=by
 have Ez:=T.Ez;refine aB.loop (WbI h n0 ai κ cap B rs N nb F v2) ?_ (n:=rs.length) ⟨0,rs,rfl,by omega,f1,f2,f3,f102,f103,f104,.refl ok,k,rfl,fun _ _=>rfl,T.size,fun _=>rfl⟩;rintro m e' h' ⟨j,bH,rfl,hj,q1,q2,q3,ZP,adP,adQ,g,k',uJ,B1,p_,G7⟩;have bX:=g.ok;unfold nz;by_cases aS:j<rs.length
 .have wj:=wrap_i64 ((j:Int)+1) (by omega) (by omega);obtain⟨r,hr⟩: ∃r,rs[j]? =some r:=⟨_,aX aS⟩;have wM:bH[j]? =some r:=by rw[B1 j (dK _)];exact hr
  have hm:=dk hr;obtain⟨sp,sl⟩:=T.size r hm;have R:=k'.O.os.r j r wM;obtain⟨bB,cs,o,s,ha,hb,_,_,dy,_⟩:=k'.O.A.el wM;have rd:=dy 0 6 (by decide);simp[-ag] at rd;have ew:=k'.O.A.len;have jl:=R.P.len;have tB:=R.L.len;simp at ZP;rw[ha,ew,uJ] at ZP;simp[ZP,adP,adQ,aS,rd,-ag,av,jl];refine aB.cut (fun h2=>ab aG h' h2/\ ∃s,h2.tr.get h'.next=some (.aA (fe.enc r) false 0 s)) ?_ ?_
  .exact⟨(ab.refl bX).var _ _,h'.clock,by simp[aJ,jl]⟩
  rintro h2 ⟨g2,sX,dS⟩;have k2:=k'.bt bX g2;obtain⟨lN,lnb⟩:=k'.lt bX;have nX: ¬xg N nb h'.next:=fun e=>by rcases e with e|e<;>omega
  have ln:=g.next;have κX:κ h'.next=0:=by
   have hw:=k'.O.os.new h'.next;rcases tP (κ h'.next) with h|h
   .exact h
   .have:=(hw (by omega)).2;omega
  have nW: ¬JM κ N nb h'.next:=fun e=>by rcases e with e|e;exact nX e;exact e κX
  have nWF: ¬JM κ N nb F:=fun e=>by rcases e with e|e;exact nF e;exact e κF
  have K0: ∀q∈r.ps,q.2.l<=1048576:=by intro q hq;obtain⟨pk,zo⟩: ∃pk,(Edge.bw (bz rs))[j]? =some pk:=⟨_,aX (by rw[Edge.dz,dx];exact aS)⟩;have h1:=T.Ff j r pk hr zo q hq;have h2:=T.JC pk (dk zo);omega
  refine Wh g2.ok k2 wM (by omega) dS κX nX rfl K0 (by simp[q3]) (by simp) (by simp[jl]) (by simp) (by simp) ?_;intro e3 h3 qs acV K3 g3 k3 fK;have a1:=K3.at (t:=1) (by simp;exact q1);have a2:=K3.at (t:=2) (by simp;exact q2);have a3:=K3.at (t:=3) (by simp;exact q3);have a13:Env.get e3 13= .int .i64 j:=K3.at (t:=13) (by simp);have a14:Env.get e3 14= .pointer (some ⟨h'.next,0,none⟩):=K3.at (t:=14) (by simp);have alf:=K3.at (t:=102) (by simp;exact ZP);have alg:=K3.at (t:=103) (by simp;exact adP);have alh:=K3.at (t:=104) (by simp;exact adQ);have hr3:(bH.set j { r with ps:=qs })[j]? =some { r with ps:=qs } :=by rw[eR,aU rfl,aU (by omega)]
  have zW:=fK;simp only[qJ] at zW;simp at zW;simp[a14,zW];refine We g3.ok k3 hr3 (by show r.ls.length<=_;omega) (T.al r hm) fK κX nX rfl (by simp[a3]) (by simp[a14]) (by simp) (by simp[tB]) (by simp) ?_;intro e4 h4 ys adl K4 g4 k4 anv tR;have b1:=K4.at (t:=1) (by simp;exact a1);have b2:=K4.at (t:=2) (by simp;exact a2);have b3:=K4.at (t:=3) (by simp;exact a3);have b13:=K4.at (t:=13) (by simp;exact a13);have b14:=K4.at (t:=14) (by simp;exact a14);have alv:=K4.at (t:=102) (by simp;exact alf);have alw:=K4.at (t:=103) (by simp;exact alg);have alx:=K4.at (t:=104) (by simp;exact alh);rw[List.set_set] at k4;have hr4:(bH.set j { r with ps:=qs,ls:=ys })[j]? =some { r with ps:=qs,ls:=ys } :=by rw[eR,aU rfl,aU (by omega)]
  have G4:=(g.trans g2.bt).trans (g3.trans g4);have F9:=(G4).get ok hF nWF;simp;refine aad g4.ok k4 hr4 F9 κF nF tR rfl b1 b3 b13 b14 ?_;intro e5 h5 u K5 g5 k5;rw[List.set_set] at k5;have alz:=K5.at (t:=104) alx;have aly:=K5.at (t:=102) alv;simp[alz,wj];refine⟨rs.length-(j+1),by omega,j+1,bH.set j { r with ps:=qs,ls:=ys,on:=u },rfl,aS,by simp[K5.at (t:=1) b1],by simp[K5.at (t:=2) b2],by simp[K5.at (t:=3) b3],by simp[aly,ha,ew,uJ],by simp[K5.at (t:=103) alw],by simp,G4.trans g5,k5,by simp[uJ],fun i hi=> ?_,fun z hz=> ?_,fun φ=> ?_⟩
  .rw[eR,aT (by omega)];exact B1 i (by omega)
  .rcases KG hz with h|h
   .exact p_ z h
   .rw[h];show qs.length<=100000/\ys.length<=100000;rw[acV,adl];exact⟨sp,sl⟩
  .have:=vn (fun r:XR=>rR φ r.ls) bH j r { r with ps:=qs,ls:=ys,on:=u } wM;have h2:=anv φ;have h3:=G7 φ;unfold fN at h3 ⊢;dsimp only at this h2;omega
 .have:j=rs.length:=by omega
  subst this;simp[adP,adQ];exact C _ _ bH (by simp[q1]) (by simp[q2]) (by simp[q3]) g k' uJ p_ G7
end
def TT (name:ByteArray) (p:Int) (n0 ai:Nat) (κ0:Nat->Nat) (rs:List XR) (h:ae) (v:Value) (h':ae):Prop:=
 ab (fun x=>κ0 x≠0) h h'/\ ∃(B':SV) (bH:List XR) (κ cap:Nat->Nat) (many:Nat),v= .agg ⟨au name p many B'⟩/\many<=ai/\(∀x,x<h.next->κ x=κ0 x)/\mF h' n0 ai κ cap B' bH/\(0<bH.length/\bH.length<=72)/\(∀r∈bH,r.ps.length<=100000/\r.ls.length<=100000)/\ ∀φ,fN φ bH=fN φ rs
theorem Zy (ai:Nat):TU (List.replicate ai (-1)) 0 ai:=by refine⟨by simp,fun v hv=> .inl (List.eq_of_mem_replicate hv),?_⟩;rw[Bg,List.countP_replicate];simp
theorem On (ok:bu h) {name:ByteArray} {p n0 ai:Nat} (um:n0<=h.next) (O:mF h n0 ai κ0 ub B rs) (T:TF rs) (hp:p<=ai) (CN:ai<1000000):
  aF FF wS [.agg ⟨au name p ai B⟩] h (TT name p n0 ai κ0 rs h):=by
 have κnew: ∀x,h.next<=x->κ0 x=0:=fun x hx=>by
  have hw:=O.os.new x;rcases tP (κ0 x) with h1|h1
  .exact h1
  .have:=(hw (by omega)).2;omega
 refine aF.of DL ?_;unfold v5;have n2: ¬h.next=h.next+1:=by omega
 have n3: ¬h.next+1=h.next:=by omega
 simp[au,n2,n3];refine aQ.cut (fun h1=>ab aG h h1/\h1.tr.get h.next=some (.aA (au name p ai B) false 0 0)/\(∃s,h1.tr.get (h.next+1)=some (.aA [.string ⟨⟨[]⟩⟩,.int .i64 0,.int .i64 0,.slice none 0 0] false 0 s))) ?_ ?_
 .exact⟨(((ab.refl ok).new _ _).new _ _).tick,by simp[au,n2],⟨0,by simp⟩⟩
 rintro h1 ⟨g1,wK,⟨sR,sG⟩⟩;have lF:=g1.ok.wf _ _ wK;have lR:=g1.ok.wf _ _ sG;refine aQ.call (V:=aby rs h1) (by simpa [au] using LD g1.ok (name:=name) (p:=p) (r:=ai) (O.bt ok g1) T.toTF0) ?_;rintro _ h2 ⟨g2,L,rfl,hL⟩;have iI:=g1.trans g2;have kx:=g2.get g1.ok wK (fun h=>h);have xW:=g2.get g1.ok sG (fun h=>h);have O2:=O.bt ok iI;simp[kx];refine aQ.call (V:=abw name p ai n0 ai κ0 rs h2) (by simpa [au] using PY g2.ok (name:=name) (p:=p) (r:=ai) O2 (by have:=iI.next;omega) T.toTF0 hL (fun x hx=>κnew x (by omega))) ?_;rintro _ h3 ⟨g3,B',bH,κ,cap,rfl,iM,O3,T3,hR3',acH⟩;have ln2:=iI.next;have κ35: ∀x,(κ0 x=3\/κ0 x=5)->κ0 x≠0:=fun x h=>by omega
 have vH:=g3.get g2.ok kx (fun e=>κ35 _ e (κnew _ (by omega)));have Ga:=g3.get g2.ok xW (fun e=>κ35 _ e (κnew _ (by omega)));simp[au] at vH;have l2:=g2.next;have l3:=g3.next;have κF:κ h.next=0:=by rw[iM _ (by omega)];exact κnew _ (by omega)
 have κR:κ (h.next+1)=0:=by rw[iM _ (by omega)];exact κnew _ (by omega)
 have n4: ¬h.next=h3.next:=by omega
 have lF3:=g3.ok.wf _ _ vH;have oF3:=g3.ok.bA vH;simp[au,vH,n4];refine aE.cut (fun h4=>ab (· =h.next) h3 h4/\(∃s,h4.tr.get h.next=some (.aA (au name p ai B') false 0 s))/\ ∃s,h4.tr.get h3.next=some (.aA [.int .i64 (-1)] false 0 s)) ?_ ?_
 .have g4:=(ab.refl g3.ok).put (S:=(· =h.next)) (off:=0) (vs:=[Value.string name,Value.int .i64 p,Value.int .i64 ai,Value.slice B'.a B'.l B'.c]) ⟨_,vH⟩ (.inr rfl);exact⟨g4.new _ _,⟨h3.clock,by simp[au,n4]⟩,⟨0,by simp⟩⟩
 rintro h4 ⟨g4,⟨sF4,F9⟩,⟨sM,hM4⟩⟩;refine aE.call (V:=fun v h'=>ab aG h4 h'/\ ∃d s,v= .slice (some ⟨d,0,none⟩) ai ai/\h4.next<=d/\h'.tr.get d=some (.aA (bp.flat (List.replicate ai (-1:Int))) false 0 s)) (by simpa using E8 g4.ok ai CN (x:= -1) hM4) ?_;rintro _ h5 ⟨g5,d,sd,rfl,XV,MB⟩;have NG:=g5.get g4.ok F9 (fun h=>h);have UT:=NG;simp[au] at UT;have l4:=g4.next;have l5:=g5.next;have ld:=g5.ok.wf _ _ MB;have nF5: ¬h.next=h5.next:=by omega
 simp[UT,nF5];refine aB.cut (fun h6=>ab aG h5 h6/\ ∃s,h6.tr.get h5.next=some (.aA [.slice (some ⟨d,0,none⟩) ai ai,.int .i64 0] false 0 s)) ?_ ?_
 .exact⟨(ab.refl g5.ok).new _ _,0,by simp⟩
 rintro h6 ⟨g6,sN,hN6⟩;have hd6:=g6.get g5.ok MB (fun h=>h);have hF6:=g6.get g5.ok NG (fun h=>h);have l6:=g6.next;have G46:=g5.trans g6;have G36:ab (· =h.next) h3 h6:=g4.trans G46.bt;have O6:mF h6 n0 ai κ cap B' bH:=O3.grow g3.ok G36 (fun x e=>by rw[e];exact κF);have KJ:=G36.get g3.ok Ga (by omega);have κhi: ∀x,h3.next<=x->κ x=0:=fun x hx=>by
  have hw:=O3.os.new x;rcases tP (κ x) with h1|h1
  .exact h1
  .have:=(hw (by omega)).2;omega
 have k6:NR h6 n0 ai κ cap B' bH h5.next d:=⟨O6,⟨_,0,sN,sd,hN6,hd6,by omega,Zy ai⟩,κhi _ (by omega),κhi _ (by omega),CN⟩;have nF: ¬xg h5.next d h.next:=fun e=>by rcases e with e|e<;>omega
 have nR: ¬xg h5.next d (h.next+1):=fun e=>by rcases e with e|e<;>omega
 refine RK (v1:= .pointer (some ⟨h.next,0,none⟩)) (v2:= .pointer (some ⟨h.next+1,0,none⟩)) g6.ok k6 (p:=p) hp (by simp) (by simp) (by simp) (by simp) (by simp) ?_;intro e7 h7 q1 q2 q3 g7 k7;have hF7:=g7.get g6.ok hF6 nF;have agh:=hF7;simp[au] at agh;have ew:=O3.A.len;simp[q1,agh];refine RJ (v1:= .pointer (some ⟨h.next,0,none⟩)) (v2:= .pointer (some ⟨h.next+1,0,none⟩)) g7.ok k7 T3 (by simp[q1]) (by simp[q2]) (by simp[q3]) (by simp) (by simp[ew]) (by simp) ?_;intro e8 h8 r1 r2 r3 g8 k8;have hF8:=g8.get g7.ok hF7 nF;have agi:=hF8;simp[au] at agi;simp[r1,agi];have l7:=g7.next;have l8:=g8.next;refine Oo (v2:= .pointer (some ⟨h.next+1,0,none⟩)) g8.ok k8 (by omega) T3 hF8 κF nF (by simp[r1]) (by simp[r2]) (by simp[r3]) (by simp) (by simp[ew]) (by simp) ?_;intro e9 h9 rs9 s1 s2 s3 g9 k9 hl9 an7 anx;have nFW: ¬JM κ h5.next d h.next:=fun e=>by rcases e with e|e;exact nF e;exact e κF
 have nRW: ¬JM κ h5.next d (h.next+1):=fun e=>by rcases e with e|e;exact nR e;exact e κR
 have hF9:=g9.get g8.ok hF8 nFW;have hR9:=g9.get g8.ok (g8.get g7.ok (g7.get g6.ok KJ nR) nR) nRW;obtain⟨now,many,t1,t2,hN9,hb9,hne9,nm9⟩:=k9.w;have ab5:=hF9;simp[au] at ab5;simp[s1,s2,s3,ab5,hN9,hR9,n2,n3];have gw:=((ab.refl g9.ok).put (S:=fun x=>x=h.next\/x=h.next+1) (off:=2) (vs:=[Value.int .i64 many]) ⟨_,ab5⟩ (.inr (.inl rfl))).put (b:=h.next+1) (off:=0) (cs:=[Value.string ⟨⟨[]⟩⟩,Value.int .i64 0,Value.int .i64 0,Value.slice none 0 0]) (o:=0) (vs:=[Value.string name,Value.int .i64 p,Value.int .i64 many,Value.slice B'.a B'.l B'.c]) ⟨sR,by simp[hR9,n3]⟩ (.inr (.inr rfl));generalize put (put h9 _ _ _ _ _) _ _ _ _ _=Tc at gw ⊢;have qg:=nm9.qg;have Ez:=T3.Ez;have n1:=T3.n1;have adq: ∀x,x<h.next-> ¬xg h5.next d x:=fun x hx e=>by rcases e with e|e<;>omega
 have Gw:ab (fun x=>κ0 x≠0) h h9:=by
  refine((((((iI.bt).trans (g3.bJ (fun x _ e=>κ35 x e))).trans' G36 (fun _ _ e=>e) (fun x hx e=>by omega)).trans' g7 (fun _ _ e=>e) (fun x hx e=>(adq x hx e).elim)).trans' g8 (fun _ _ e=>e) (fun x hx e=>(adq x hx e).elim)).trans' g9 (fun _ _ e=>e) (fun x hx e=> ?_));rcases e with e|e
  .exact(adq x hx e).elim
  .rw[iM x (by omega)] at e;exact e
 refine⟨Gw.trans' gw (fun _ _ e=>e) (fun x hx e=>by omega),B',rs9,κ,cap,many,by simp[au],by omega,fun x hx=>iM x (by omega),k9.O.grow g9.ok gw (fun b e=>by rcases e with e|e<;>(rw[e];first|exact κF|exact κR)),⟨by omega,by omega⟩,an7,fun φ=>(anx φ).trans ((acH φ).2 T.seen)⟩
def aap (name:ByteArray) (p:Int) (n0 ai:Nat) (κ0:Nat->Nat) (rs:List XR) (h:ae) (v:Value) (h':ae):Prop:=
 ab (fun x=>κ0 x≠0) h h'/\ ∃(B':SV) (bH:List XR) (κ cap:Nat->Nat) (many:Nat),v= .agg ⟨au name p many B'⟩/\many<=ai/\(∀x,x<h.next->κ x=κ0 x)/\mF h' n0 ai κ cap B' bH/\(0<bH.length/\bH.length<=72)/\(∀r∈bH,r.ps.length<=100000/\r.ls.length<=100000)/\ ∀φ,fN φ bH<=fN φ rs/\(Seen rs->fN φ bH=fN φ rs)
theorem SN (ok:bu h) {name:ByteArray} {p n0 ai:Nat} (um:n0<=h.next) (O:mF h n0 ai κ0 ub B rs) (T:TF0 rs) (hp:p<=ai) (CN:ai<1000000):
  aF FF Cj [.agg ⟨au name p ai B⟩] h (aap name p n0 ai κ0 rs h):=by
 have κnew: ∀x,h.next<=x->κ0 x=0:=fun x hx=>by
  have hw:=O.os.new x;rcases tP (κ0 x) with h1|h1
  .exact h1
  .have:=(hw (by omega)).2;omega
 refine aF.of Kf ?_;unfold BM;have n2: ¬h.next=h.next+1:=by omega
 have n3: ¬h.next+1=h.next:=by omega
 simp[au,n2,n3];refine aQ.cut (fun h1=>ab aG h h1/\h1.tr.get h.next=some (.aA (au name p ai B) false 0 0)/\(∃s,h1.tr.get (h.next+1)=some (.aA [.string ⟨⟨[]⟩⟩,.int .i64 0,.int .i64 0,.slice none 0 0] false 0 s))) ?_ ?_
 .exact⟨(((ab.refl ok).new _ _).new _ _).tick,by simp[au,n2],⟨0,by simp⟩⟩
 rintro h1 ⟨g1,wK,⟨sR,sG⟩⟩;have lF:=g1.ok.wf _ _ wK;have lR:=g1.ok.wf _ _ sG;refine aQ.call (V:=aby rs h1) (by simpa [au] using LD g1.ok (name:=name) (p:=p) (r:=ai) (O.bt ok g1) T) ?_;rintro _ h2 ⟨g2,L,rfl,hL⟩;have iI:=g1.trans g2;have kx:=g2.get g1.ok wK (fun h=>h);have xW:=g2.get g1.ok sG (fun h=>h);have O2:=O.bt ok iI;simp[kx];refine aQ.call (V:=abw name p ai n0 ai κ0 rs h2) (by simpa [au] using PY g2.ok (name:=name) (p:=p) (r:=ai) O2 (by have:=iI.next;omega) T hL (fun x hx=>κnew x (by omega))) ?_;rintro _ h3 ⟨g3,B3,rs3,κ3,abG,rfl,z9,O3,T3,_,acH⟩;have ln2:=iI.next;have ln3:=g3.next;have κ35: ∀x,(κ0 x=3\/κ0 x=5)->κ0 x≠0:=fun x h=>by omega
 have Ga:=g3.get g2.ok xW (fun e=>κ35 _ e (κnew _ (by omega)));have l2:=g2.next;have κR3:κ3 (h.next+1)=0:=by rw[z9 _ (by omega)];exact κnew _ (by omega)
 simp[au];refine aQ.call (V:=TL name p ai n0 ai κ3 abG B3 rs3 h3) (by simpa [au] using Kq g3.ok (name:=name) (p:=p) (rg:=ai) (by omega) O3 T3) ?_;rintro _ h4 ⟨g4,rfl,TH,κ4,G8,P4⟩;have ln4:=g4.next;have NJ:=g4.get g3.ok Ga (fun e=>e κR3);have κR4:κ4 (h.next+1)=0:=by rw[G8 _ (by omega)];exact κR3
 simp[au];refine aQ.call (V:=TT name p n0 ai κ4 TH h4) (by simpa [au] using On g4.ok (name:=name) (p:=p) (by omega) P4.O P4.tf hp CN) ?_;rintro _ h5 ⟨g5,B5,rs5,κ5,abH,many,rfl,hm,Ee,O5,hl5,hs5,anw⟩;have u9:=g5.get g4.ok NJ (fun e=>e κR4);simp[au,u9];have gw:=(ab.refl g5.ok).put (S:=(· =h.next+1)) (off:=0) (vs:=[Value.string name,Value.int .i64 p,Value.int .i64 many,Value.slice B5.a B5.l B5.c]) ⟨_,u9⟩ (.inr rfl);generalize put h5 _ _ _ _ _=h6 at gw ⊢;have κR5:κ5 (h.next+1)=0:=by rw[Ee _ (by omega)];exact κR4
 have G:ab (fun x=>κ0 x≠0) h h5:=by
  refine((iI.bt.trans (g3.bJ (fun x _ e=>κ35 x e))).trans' g4 (fun _ _ e=>e) (fun x hx e=> ?_)).trans' g5 (fun _ _ e=>e) (fun x hx e=> ?_)
  .rw[z9 x (by omega)] at e;exact e
  .rw[G8 x (by omega),z9 x (by omega)] at e;exact e
 refine⟨G.trans' gw (fun _ _ e=>e) (fun x hx e=>by omega),B5,rs5,κ5,abH,many,by simp[au],hm,fun x hx=>by rw[Ee x (by omega),G8 x (by omega),z9 x (by omega)],O5.grow g5.ok gw (fun b e=>by rw[e];exact κR5),hl5,hs5,fun φ=> ?_⟩;rw[anw φ,P4.CS φ];exact acH φ
def ae6 (bs:List GB):Prop:=bs.length<=1000/\ ∀b∈bs,b.eS.length<=1000000/\b.list.length<=1000000
def LgI (h:ae) (B:SV) (bs:List GB) (F:Nat) (fc:List Value) (m:Nat) (e:Env) (h2:ae):Prop:=
 ∃j k:Nat,m=bs.length-j/\j<=bs.length/\Env.get e 1= .pointer (some ⟨F,0,none⟩)/\Env.get e 3= .int .i64 k/\k<=j*2000000/\Env.get e 7=B.v/\Env.get e 8= .int .i64 bs.length/\Env.get e 9= .int .i64 j/\ab aG h h2
theorem Ob (ok:bu h) {name:ByteArray} {p r:Int} (hB:AU h B bs) (C:ae6 bs):
  aF FF yx [.agg ⟨au name p r B⟩] h (vO h):=by
 have ew:=SliceR.len hB;have hl:=C.1;refine aF.of FK ?_;unfold yf;simp[au,ew];refine aB.cut (fun h1=>ab aG h h1/\ ∃s,h1.tr.get h.next=some (.aA (au name p r B) false 0 s)) ?_ ?_
 .exact⟨(ab.refl ok).new _ _,0,by simp[au,ew]⟩
 rintro h1 ⟨g1,sF,wK⟩;refine aB.loop (LgI h1 B bs h.next (au name p r B)) ?_ (n:=bs.length) ⟨0,0,rfl,by omega,by simp,by simp,by omega,by simp[ew],by simp,by simp,.refl g1.ok⟩;rintro m e h2 ⟨j,k,rfl,hj,q1,q3,hk,q7,q8,q9,g2⟩;have kx:=g2.get g1.ok wK (fun h=>h);unfold vy;by_cases aS:j<bs.length
 .have hb:bs[j]? =some bs[j]:=aX aS;have hm:=zk aS;generalize bs[j]=b at hb hm;obtain⟨c1,c2⟩:=C.2 b hm;obtain⟨bB,off,cells,ig,_,_,⟨P,L,T,rfl,sP,sL,sT⟩,oB,dy⟩:=SliceR.later ok hB hb;have rd:=dy h2 (g1.trans g2) 0 6 (by decide);simp[-ag] at rd;have jl:=SliceR.len sP;have tB:=SliceR.len sL;simp at q7;rw[ig,ew] at q7;have wj:=wrap_i64 ((j:Int)+1) (by omega) (by omega);have w1:=wrap_i64 ((b.eS.length:Int)+b.list.length) (by omega) (by omega);have w2:=wrap_i64 ((k:Int)+((b.eS.length:Int)+b.list.length)) (by omega) (by omega);have gv:ab aG h2 (put (aL h2 [.slice none 0 0,.slice none 0 0,.int .i64 0,.bool false,.int .i64 0,.slice none 0 0] 0) h2.next 0 [.slice none 0 0,.slice none 0 0,.int .i64 0,.bool false,.int .i64 0,.slice none 0 0] [P.v,L.v,.int .i64 b.kind,.bool b.on.1,.int .i64 b.on.2,T.v] 0):=(ab.refl g2.ok).var _ _;simp at gv;simp[q1,q3,q7,q8,q9,aS,rd,jl,tB,wj,w1,w2,-ag,av];rw[jl,tB] at gv;refine⟨bs.length-(j+1),by omega,j+1,k+(b.eS.length+b.list.length),rfl,aS,by simp[q1],by simp,by omega,by simp[q7,ig,ew],by simp[q8],by simp,g2.trans gv⟩
 .have:j=bs.length:=by omega
  subst this;have vG:=kx;simp[au] at vG;by_cases a1:(40:Int)<(bs.length:Int)
  .simp[q1,q3,q8,q9,vG,ew,a1];exact⟨g1.trans g2,_,rfl⟩
  .by_cases a2:(300:Int)<(k:Int)
   .simp[q1,q3,q8,q9,vG,ew,a1,a2];exact⟨g1.trans g2,_,rfl⟩
   .simp[q1,q3,q8,q9,vG,ew,a1,a2];exact⟨g1.trans g2,_,rfl⟩
def gS (c:List Value) (g:GG):Prop:= ∃I:SV,c=[.string g.name,.int .i64 g.size,I.v]
theorem SliceR.imp {α:Type} {R R':List Value->α->Prop} {sz:Nat} {xs:List α} (s:SliceR R sz h v xs) (hR: ∀c x,R c x->R' c x):SliceR R' sz h v xs:=by
 obtain⟨a,cap,rfl,s⟩:=s;refine⟨a,cap,rfl,?_⟩;rcases s with s|⟨b,off,cs,ro,o,st,rfl,hb,he⟩
 .exact .inl s
 .exact .inr ⟨b,off,cs,ro,o,st,rfl,hb,fun i x hx=>⟨(he i x hx).1,hR _ _ (he i x hx).2⟩⟩
theorem aaz (s:SliceR (gR h) 3 h' v gs):SliceR gS 3 h' v gs:=SliceR.imp s fun _ _ ⟨I,e,_⟩=>⟨I,e⟩
def dR (gs:List GG):Int:=(gs.map (·.size)).sum
def TO (gs:List GG):Prop:=gs.length<=10/\ ∀g∈gs,1<=g.size/\g.size<=200
theorem Cw {g:GG} (h:gs[j]? =some g):dR (gs.take (j+1))=dR (gs.take j)+g.size:=by unfold dR;rw[yn,h];simp
theorem BF (hg: ∀g∈gs,1<=g.size/\g.size<=200):0<=dR gs/\dR gs<=200*gs.length:=by
 induction gs with
 |nil=>simp[dR]
 |cons g gs ih=>
  have h1:=ih (fun x hx=>hg x (by simp[hx]));have h2:=hg g (by simp);unfold dR at h1 ⊢;simp only[Fw,Mu,List.length_cons];omega
def ald (h:ae) (G:SV) (gs:List GG) (m:Nat) (e:Env) (h2:ae):Prop:=
 ∃j:Nat,m=gs.length-j/\j<=gs.length/\Env.get e 3= .int .i64 (dR (gs.take j))/\Env.get e 7=G.v/\Env.get e 8= .int .i64 gs.length/\Env.get e 9= .int .i64 j/\ab aG h h2
def HO (gs:List GG) (h:ae) (v:Value) (h':ae):Prop:=ab aG h h'/\v= .int .i64 (dR gs)
theorem Lq (ok:bu h) {G F:SV} (hG:SliceR gS 3 h G.v gs) (C:TO gs):
  aF FF Ao [.agg ⟨[G.v,F.v]⟩] h (HO gs h):=by
 have NH:=SliceR.len hG;obtain⟨hl,hs⟩:=C;refine aF.of H7 ?_;unfold zH;simp[NH];refine aB.cut (fun h1=>ab aG h h1) ((ab.refl ok).new _ _) ?_;intro h1 g1;refine aB.loop (ald h1 G gs) ?_ (n:=gs.length) ⟨0,rfl,by omega,by simp[dR],by simp[NH],by simp,by simp,.refl g1.ok⟩;rintro m e h2 ⟨j,rfl,hj,q3,q7,q8,q9,g2⟩;unfold wZ;by_cases aS:j<gs.length
 .have hg:gs[j]? =some gs[j]:=aX aS;have hm:=zk aS;generalize gs[j]=g at hg hm;obtain⟨c1,c2⟩:=hs g hm;obtain⟨bG,off,cells,hGa,_,_,⟨I,rfl⟩,oG,dy⟩:=SliceR.later ok hG hg;have rd:=dy h2 (g1.trans g2) 0 3 (by decide);simp[-ag] at rd;simp at q7;rw[hGa,NH] at q7;have hw:=BF (gs:=gs.take j) (fun g hg=>hs g (YI hg));have JT:(gs.take j).length<=10:=by simp;omega
  have wj:=wrap_i64 ((j:Int)+1) (by omega) (by omega);have w1:=wrap_i64 (dR (gs.take j)+g.size) (by omega) (by omega);have et:=Cw hg;have gv:ab aG h2 (put (aL h2 [.string ⟨⟨[]⟩⟩,.int .i64 0,.slice none 0 0] 0) h2.next 0 [.string ⟨⟨[]⟩⟩,.int .i64 0,.slice none 0 0] [.string g.name,.int .i64 g.size,.slice I.a I.l I.c] 0):=(ab.refl g2.ok).var _ _;simp[q3,q7,q8,q9,aS,rd,wj,w1,-ag,av];refine⟨gs.length-(j+1),by omega,j+1,rfl,aS,by simp[et],by simp[q7,hGa,NH],by simp[q8],by simp,g2.trans gv⟩
 .have:j=gs.length:=by omega
  subst this;rw[xV] at q3;simp[q3,q8,q9];exact⟨g1.trans g2,rfl⟩
def ale (h:ae) (U:Nat) (uc:List Value) (gs:List GG) (m:Nat) (e:Env) (h2:ae):Prop:=
 ∃j:Nat,m=gs.length-j/\j<=gs.length/\Env.get e 1= .pointer (some ⟨U,0,none⟩)/\Env.get e 3= .int .i64 (dR (gs.take j))/\Env.get e 4= .int .i64 j/\h2=h
theorem LV (ok:bu h) {G F:SV} (hG:SliceR gS 3 h G.v gs) (C:TO gs):
  aF FF pU [.agg ⟨[G.v,F.v]⟩] h (HO gs h):=by
 have NH:=SliceR.len hG;obtain⟨hl,hs⟩:=C;refine aF.of xS ?_;unfold pI;simp[NH];refine aB.cut (fun h1=>ab aG h h1/\ ∃s,h1.tr.get h.next=some (.aA [.slice G.a gs.length G.c,.slice F.a F.l F.c] false 0 s)) ⟨(ab.refl ok).new _ _,0,by simp[NH]⟩ ?_;rintro h1 ⟨g1,sU,hU⟩;refine aB.loop (ale h1 h.next [] gs) ?_ (n:=gs.length) ⟨0,rfl,by omega,by simp,by simp[dR],by simp,rfl⟩;rintro m e h2 ⟨j,rfl,hj,q1,q3,q4,rfl⟩;unfold mS;by_cases aS:j<gs.length
 .have hg:gs[j]? =some gs[j]:=aX aS;have hm:=zk aS;generalize gs[j]=g at hg hm;obtain⟨c1,c2⟩:=hs g hm;obtain⟨bG,off,cells,hGa,_,_,⟨I,rfl⟩,oG,dy⟩:=SliceR.later ok hG hg;have rd:=dy h2 g1 1 1 (by decide);simp[-ag] at rd;rw[hGa] at hU;have hw:=BF (gs:=gs.take j) (fun g hg=>hs g (YI hg));have JT:(gs.take j).length<=10:=by simp;omega
  have wj:=wrap_i64 ((j:Int)+1) (by omega) (by omega);have w1:=wrap_i64 (dR (gs.take j)+g.size) (by omega) (by omega);have et:=Cw hg;simp[q1,q3,q4,hU,aq hU,aS,rd,wj,w1,-ag];exact⟨gs.length-(j+1),by omega,j+1,rfl,aS,by simp[q1],by simp[et],by simp,rfl⟩
 .have:j=gs.length:=by omega
  subst this;rw[xV] at q3;simp[q1,q3,q4,hU];exact⟨g1,rfl⟩
theorem LU (h:ae) (ok:bu h) (az op dst an bn fn:Int) (ar br:Bool) (aa:Option Addr) (al ac:Nat):
  aF FF pT [.int .i64 az,.agg ⟨aC op dst ar an br bn fn (.slice aa al ac)⟩] h (fun v h'=>v= .bool (cZ az op ar an br bn)/\ab aG h h'):=by
 refine aF.of xR ?_;unfold pH;have g:ab aG h (aL h (aC op dst ar an br bn fn (.slice aa al ac)) 0):=aO ok _ _;simp only[aC] at g;by_cases k5:op=5
 .subst k5;cases br with
  |true=>
   simp[aC,cZ];exact g
  |false=>
   simp[aC,cZ];exact⟨by rfl,g⟩
 by_cases k6:op=6
 .subst k6;cases br with
  |true=>
   simp[aC,cZ];exact g
  |false=>
   simp[aC,cZ];exact⟨by rfl,g⟩
 have e5:(op==5)=false:=by simpa using k5
 have e6:(op==6)=false:=by simpa using k6
 by_cases X8:op=18
 .subst X8;cases ar with
  |true=>
   simp[aC,cZ];exact g
  |false=>
   by_cases c1:0<=an
   .by_cases c2:an<az
    .simp[aC,cZ,c1,c2];exact⟨by omega,g⟩
    .simp[aC,cZ,c1,c2];exact⟨by omega,g⟩
   .simp[aC,cZ,c1];exact g
 have e18:(op==18)=false:=by simpa using X8
 by_cases c1:1<=op
 .by_cases c2:op<=17
  .simp[aC,cZ,e5,e6,e18,k5,k6,X8,c1,c2];exact g
  .simp[aC,cZ,e5,e6,e18,k5,k6,X8,c1,c2];exact g
 .simp[aC,cZ,e5,e6,e18,k5,k6,X8,c1];exact g
def zd (az:Int) (x:GI):Bool:=cZ az x.op x.a.1 x.a.2 x.b.1 x.b.2
def vu (az:Int) (xs:List GI):Nat:=(xs.filter fun x=> !zd az x).length
def lD (az:Int) (bs:List GB):Nat:=(bs.map fun b=>vu az b.list).sum
def shG (x:GI):Sh:=(x.op,Ye x.a,Ye x.b)
def Uk (φ:Sh->Bool) (xs:List GI):Nat:=(xs.filter fun x=>φ (shG x)).length
def Nh (φ:Sh->Bool) (bs:List GB):Nat:=(bs.map fun b=>Uk φ b.list).sum
def fg (az:Int) (s:Sh):Bool:=cZ az s.1 s.2.1.1 s.2.1.2 s.2.2.1 s.2.2.2
theorem EZ (az op:Int) (a b:Bool×Int):cZ az op a.1 a.2 b.1 b.2=fg az (op,Ye a,Ye b):=by
 unfold fg Ye cZ;dsimp only;have e1: ∀n:Int,(!a.1&&(decide (0<=a.2)&&decide (a.2<=n)))=(!a.1&&(decide (0<=if a.1=true then 0 else a.2)&&decide ((if a.1=true then 0 else a.2)<=n))):=by intro n;cases a.1<;>simp
 have e2:(!b.1&&decide (b.2≠0))=(!b.1&&decide ((if b.1=true then 0 else b.2)≠0)):=by cases b.1<;>simp
 rw[e1,e2]
theorem Lo (az:Int) (bs:List GB):lD az bs=Nh (fun s=> !fg az s) bs:=by unfold lD Nh vu Uk zd shG;simp only[EZ]
def sQ (az:Int) (fs:List GF):Nat:=(fs.map fun f=>lD az f.blocks).sum
structure Yj (fs:List GF):Prop where
 f:fs.length<=1000
 b: ∀f∈fs,f.blocks.length<=1000
 l: ∀f∈fs,∀b∈f.blocks,b.list.length<=1000000
theorem Og {xs:List GI} {x:GI} (h:xs[j]? =some x):vu az (xs.take (j+1))=vu az (xs.take j)+(if zd az x then 0 else 1):=by unfold vu;rw[yn,h,List.filter_append,IG];cases hq:zd az x<;>simp[hq]
theorem VZ (az:Int) (xs:List GI) (j:Nat):vu az (xs.take j)<=xs.length:=ug (QT _ _) (by simp;omega)
theorem Oe {b:GB} (h:bs[j]? =some b):lD az (bs.take (j+1))=lD az (bs.take j)+vu az b.list:=by unfold lD;rw[yn,h];simp
theorem Of (h:fs[j]? =some f):sQ az (fs.take (j+1))=sQ az (fs.take j)+lD az f.blocks:=by unfold sQ;rw[yn,h];simp
theorem OS {α:Type} {f:α->Nat} {k:Nat} : ∀ {l:List α},(∀x∈l,f x<=k)->(l.map f).sum<=l.length*k
 |[],_=>Nat.zero_le _
 |x::l,h=>by have h1:=h x (by simp);have h2:=OS (l:=l) (fun y hy=>h y (by simp[hy]));simp only[Fw,Mu,List.length_cons,rU];omega
theorem Lm (h1:bs.length<=1000) (h2: ∀b∈bs,b.list.length<=1000000) (j:Nat):lD az (bs.take j)<=1000000000:=by
 have:=OS (f:=fun b:GB=>vu az b.list) (k:=1000000) (l:=bs.take j) (fun b hb=>ug (QT _ _) (h2 b (YI hb)));have hl:(bs.take j).length<=1000:=by simp;omega
 have:=CI 1000000 hl;unfold lD;omega
theorem VY (C:Yj fs) (j:Nat):sQ az (fs.take j)<=1000000000000:=by
 have:=OS (f:=fun f:GF=>lD az f.blocks) (k:=1000000000) (l:=fs.take j) (fun f hf=>by have hm:=YI hf;have:=Lm (az:=az) (C.b f hm) (C.l f hm) f.blocks.length;rw[xV] at this;exact this)
 have hl:(fs.take j).length<=1000:=by have:=C.f;simp;omega
 have:=CI 1000000000 hl;unfold sQ;omega
def LdL:List Nat:=[4,7,28,29,30,31,32,33,34,35,36,37,38,39,40,41,42,43,44,45,46,47,48,49,50,51,52,53,54,55,56,57,58,59,60]
def akC (h1:ae) (az:Int) (n:Nat) (xs:List GI) (e:Env) (m:Nat) (e':Env) (h':ae):Prop:=
 ∃j:Nat,m=xs.length-j/\j<=xs.length/\aw LdL e e'/\Env.get e' 4= .int .i64 ((n+vu az (xs.take j):Nat):Int)/\Env.get e' 7= .int .i64 j/\ab aG h1 h'
theorem RC (ok:bu h) (g1:ab aG h h1) (hF:SliceR (fR h) 4 h F.v fs) (hU:h1.tr.get U=some (.aA [G.v,F.v] false 0 sU)) {k m n:Nat} {b:GB} (hk:fs[k]? =some f) (hm:f.blocks[m]? =some b) (hl:b.list.length<=1000000) (hn:n<=2000000000000) {az:Int}
  {e:Env} {Q:aP->Env->ae->Prop} (f1:Env.get e 1= .pointer (some ⟨U,0,none⟩)) (f3:Env.get e 3= .int .i64 az) (f4:Env.get e 4= .int .i64 n) (f5:Env.get e 5= .int .i64 k) (f6:Env.get e 6= .int .i64 m) (f7:Env.get e 7= .int .i64 0)
  (C: ∀e' h',aw LdL e e'->Env.get e' 4= .int .i64 ((n+vu az b.list:Nat):Int)->ab aG h1 h'->Q (.exit 4) e' h'):aB FF (.loop jM) e h1 Q:=by
 have pJ:=SliceR.len hF;refine aB.loop (akC h1 az n b.list e) ?_ (n:=b.list.length) ⟨0,rfl,by omega,aw.refl _ _,by simpa [vu] using f4,f7,.refl g1.ok⟩;rintro i e' h' ⟨j,rfl,hj,K,q4,q7,g⟩;have q1:=K.at f1;have q3:=K.at f3;have q5:=K.at f5;have q6:=K.at f6;have bX:=g.ok;have gg:=g1.trans g;obtain⟨bF,aoS,cF,zl,qK,_,⟨B,rfl,sB⟩,oF,hrdF⟩:=SliceR.later ok hF hk;obtain⟨bB,offB,cB,ig,Vi,_,⟨P,L,T,rfl,sP,sL,sT⟩,oB,hrdB⟩:=SliceR.later ok sB hm;have ew:=SliceR.len sB;have tB:=SliceR.len sL;have rF:=hrdF h' gg 3 1 (by decide);have rB:=hrdB h' gg 1 1 (by decide);have zm:=g.get g1.ok hU (fun h=>h);simp at zm;rw[zl,pJ] at zm;simp[-ag] at rF rB;rw[ig,ew] at rF;rw[tB] at rB;unfold jM;by_cases aS:j<b.list.length
 .have wj:=wrap_i64 ((j:Int)+1) (by omega) (by omega);obtain⟨x,hx⟩: ∃x,b.list[j]? =some x:=⟨_,aX aS⟩;obtain⟨bL,offL,cL,UW,_,_,⟨A,rfl,sA⟩,oL,hrdL⟩:=SliceR.later ok sL hx;have rL:=hrdL h' gg 0 8 (by decide);simp[-ag,aC] at rL;rw[UW] at rB;have hle:=VZ az b.list j;have Hb:=Og (az:=az) hx;simp[q1,q3,q5,q6,q7,zm,aq zm,qK,rF,Vi,rB,aS,rL,-ag];refine aE.call (V:=fun v h2=>v= .bool (zd az x)/\ab aG h' h2) (by simpa [aC,zd] using LU h' bX az x.op x.dst x.a.2 x.b.2 x.fn x.a.1 x.b.1 A.a A.l A.c) ?_;rintro _ h2 ⟨rfl,g2⟩;have CL:=g2.get bX zm (fun h=>h);cases hq:zd az x with
  |true=>
   rw[hq] at Hb;simp at Hb;simp[q7,wj];refine⟨b.list.length-(j+1),by omega,j+1,rfl,aS,?_,by simp[q4,Hb],by simp,g.trans g2⟩
   repeat (refine aw.set ?_)
   exact K
  |false=>
   rw[hq] at Hb;simp at Hb;have w4:=wrap_i64 (((n+vu az (b.list.take j):Nat):Int)+1) (by omega) (by omega);simp only[Int.natCast_add] at w4 q4;simp[q4,q7,wj,w4];refine⟨b.list.length-(j+1),by omega,j+1,rfl,aS,?_,?_,by simp,g.trans g2⟩
   .repeat (refine aw.set ?_)
    exact K
   .simp;rw[Hb];simp only[Int.natCast_add];omega
 .have:j=b.list.length:=by omega
  subst this;rw[xV] at q4;simp[q1,q5,q6,q7,zm,aq zm,qK,rF,Vi,rB,-ag];refine C _ _ ?_ (by simpa using q4) g
  repeat (refine aw.set ?_)
  exact K
def akD (h1:ae) (U:Nat) (az:Int) (k n:Nat) (bs:List GB) (m:Nat) (e':Env) (h':ae):Prop:=
 ∃j:Nat,m=bs.length-j/\j<=bs.length/\Env.get e' 1= .pointer (some ⟨U,0,none⟩)/\Env.get e' 3= .int .i64 az/\Env.get e' 4= .int .i64 ((n+lD az (bs.take j):Nat):Int)/\Env.get e' 5= .int .i64 k/\Env.get e' 6= .int .i64 j/\ab aG h1 h'
theorem Ln (ok:bu h) (g1:ab aG h h1) (hF:SliceR (fR h) 4 h F.v fs) (hU:h1.tr.get U=some (.aA [G.v,F.v] false 0 sU)) (hk:fs[k]? =some f) (hb:f.blocks.length<=1000) (hl: ∀b∈f.blocks,b.list.length<=1000000) (hn:n<=1000000000000) {az:Int}
  {e:Env} {Q:aP->Env->ae->Prop} (f1:Env.get e 1= .pointer (some ⟨U,0,none⟩)) (f3:Env.get e 3= .int .i64 az) (f4:Env.get e 4= .int .i64 n) (f5:Env.get e 5= .int .i64 k) (f6:Env.get e 6= .int .i64 0)
  (C: ∀e' h',Env.get e' 1= .pointer (some ⟨U,0,none⟩)->Env.get e' 3= .int .i64 az->Env.get e' 4= .int .i64 ((n+lD az f.blocks:Nat):Int)->Env.get e' 5= .int .i64 k->ab aG h1 h'->Q (.exit 2) e' h'):aB FF (.loop jN) e h1 Q:=by
 have pJ:=SliceR.len hF;refine aB.loop (akD h1 U az k n f.blocks) ?_ (n:=f.blocks.length) ⟨0,rfl,by omega,f1,f3,by simpa [lD] using f4,f5,f6,.refl g1.ok⟩;rintro i e' h' ⟨j,rfl,hj,q1,q3,q4,q5,q6,g⟩;have bX:=g.ok;have gg:=g1.trans g;obtain⟨bF,aoS,cF,zl,qK,_,⟨B,rfl,sB⟩,oF,hrdF⟩:=SliceR.later ok hF hk;have ew:=SliceR.len sB;have rF:=hrdF h' gg 3 1 (by decide);have hU0:=g.get g1.ok hU (fun h=>h);have zm:=hU0;simp at zm;rw[zl,pJ] at zm;simp[-ag] at rF;rw[ew] at rF;unfold jN;by_cases aS:j<f.blocks.length
 .have wj:=wrap_i64 ((j:Int)+1) (by omega) (by omega);obtain⟨b,U4⟩: ∃b,f.blocks[j]? =some b:=⟨_,aX aS⟩;have hle:=Lm (az:=az) hb hl j;have Hb:=Oe (az:=az) U4;simp[q1,q5,q6,zm,aq zm,qK,rF,aS,-ag];refine RC ok gg hF hU0 hk U4 (hl b (dk U4)) (n:=n+lD az (f.blocks.take j)) (az:=az) (by omega) (by simp[q1]) (by simp[q3]) (by simp[q4]) (by simp[q5]) (by simp[q6]) (by simp) ?_;intro e3 h3 K3 k4 g3;have k6:=K3.at (t:=6) (by simp;exact q6);simp[k6,wj];refine⟨f.blocks.length-(j+1),by omega,j+1,rfl,aS,by simpa using K3.at (t:=1) (by simp;exact q1),by simpa using K3.at (t:=3) (by simp;exact q3),?_,by simpa using K3.at (t:=5) (by simp;exact q5),by simp,g.trans g3⟩;rw[Hb];simp[k4];omega
 .have:j=f.blocks.length:=by omega
  subst this;rw[xV] at q4;simp[q1,q5,q6,zm,aq zm,qK,rF,-ag];exact C _ _ (by simp[q1]) (by simp[q3]) (by simpa using q4) (by simp[q5]) g
def akE (h1:ae) (U:Nat) (az:Int) (fs:List GF) (m:Nat) (e':Env) (h':ae):Prop:=
 ∃j:Nat,m=fs.length-j/\j<=fs.length/\Env.get e' 1= .pointer (some ⟨U,0,none⟩)/\Env.get e' 3= .int .i64 az/\Env.get e' 4= .int .i64 ((sQ az (fs.take j):Nat):Int)/\Env.get e' 5= .int .i64 j/\ab aG h1 h'
theorem Hk (ok:bu h) (hG:SliceR gS 3 h G.v gs) (hF:SliceR (fR h) 4 h F.v fs) (Cg:TO gs) (Cf:Yj fs):
  aF FF qT [.agg ⟨[G.v,F.v]⟩] h (fun v h'=>ab aG h h'/\v= .int .i64 ((sQ (dR gs) fs:Nat):Int)):=by
 have pJ:=SliceR.len hF;have NH:=SliceR.len hG;have iL:=Cf.f;refine aF.of yT ?_;unfold qE;simp;refine aE.cut (fun h1=>ab aG h h1/\ ∃s,h1.tr.get h.next=some (.aA [G.v,F.v] false 0 s)) ⟨(ab.refl ok).new _ _,0,by simp⟩ ?_;rintro h1 ⟨g1,sU,hU⟩;refine aE.call (V:=HO gs h1) (by simpa using LV (F:=F) g1.ok (hG.mono ok g1 fun _ _ h=>h) Cg) ?_;rintro _ h2 ⟨g2,rfl⟩;have iI:=g1.trans g2;have CL:=g2.get g1.ok hU (fun h=>h);simp;refine aB.loop (akE h2 h.next (dR gs) fs) ?_ (n:=fs.length) ⟨0,rfl,by omega,by simp,by simp,by simp[sQ],by simp,.refl g2.ok⟩;rintro i e' h' ⟨j,rfl,hj,q1,q3,q4,q5,g⟩;have bX:=g.ok;have hU0:=g.get g2.ok CL (fun h=>h);have zm:=hU0;simp at zm;rw[pJ] at zm;unfold oK;by_cases aS:j<fs.length
 .have wj:=wrap_i64 ((j:Int)+1) (by omega) (by omega);obtain⟨f,hfj⟩: ∃f,fs[j]? =some f:=⟨_,aX aS⟩;have hm:=dk hfj;have Hb:=Of (az:=dR gs) hfj;have hle:=VY (az:=dR gs) Cf j;simp[q1,q5,zm,aS];refine Ln ok (iI.trans g) hF hU0 hfj (Cf.b f hm) (Cf.l f hm) (n:=sQ (dR gs) (fs.take j)) (az:=dR gs) hle (by simp[q1]) (by simp[q3]) (by simp[q4]) (by simp[q5]) (by simp) ?_;intro e3 h3 k1 k3 k4 k5 g3;simp[k5,wj];refine⟨fs.length-(j+1),by omega,j+1,rfl,aS,by simp[k1],by simp[k3],?_,by simp,g.trans g3⟩;rw[Hb];simp[k4]
 .have:j=fs.length:=by omega
  subst this;rw[xV] at q4;simp[q1,q4,q5,zm];exact iI.trans g
section
variable {f:GF} {rs:List XR}
theorem Pp.at (R:Pp rs bs) {r:XR} (h:rs[i]? =some r): ∃b,bs[i]? =some b/\RD r b:=by obtain⟨b,hb⟩: ∃b,bs[i]? =some b:=⟨_,aX (by rw[<-R.1];exact(bY.mp h).1)⟩;exact⟨b,hb,R.2 i r b h hb⟩
theorem Pp.mem (R:Pp rs bs) {r:XR} (h:r∈rs): ∃b∈bs,RD r b:=by obtain⟨i,hi⟩:=rT h;obtain⟨b,hb,rd⟩:=R.at hi;exact⟨b,dk hb,rd⟩
theorem Pp.ts (R:Pp rs bs):bz rs=bj bs:=by
 refine zV fun i=> ?_;unfold bz bj;rw[tQ,tQ];rcases AV i rs.length with hi|hi
 .obtain⟨r,hr⟩: ∃r,rs[i]? =some r:=⟨_,aX hi⟩;obtain⟨b,hb,rd⟩:=R.at hr;rw[hr,hb];simp only[CJ];rw[rd.to]
 .rw[uI hi,uI (by rw[<-R.1];exact hi)];rfl
theorem Pp.map {bs:List GB} (R:Pp rs bs) (p:XR->Nat) (q:GB->Nat) (h: ∀r b,RD r b->p r=q b):rs.map p=bs.map q:=by
 refine zV fun i=> ?_;rw[tQ,tQ];rcases AV i rs.length with hi|hi
 .obtain⟨r,hr⟩: ∃r,rs[i]? =some r:=⟨_,aX hi⟩;obtain⟨b,hb,rd⟩:=R.at hr;rw[hr,hb];simp only[CJ];rw[h r b rd]
 .rw[uI hi,uI (by rw[<-R.1];exact hi)];rfl
theorem Hl: ∀(bs:List GB),fL bs=(bs.map fun b=>b.eS.length+b.list.length).sum
 |[]=>rfl
 |b::bs=>by simp only[fL,Fw,Mu];rw[Hl bs]
theorem Qo {q:XI} {p:GI} (h:Gu q p):MK q=shG p:=by obtain⟨c1,c2,c3,c4,c5⟩:=h;unfold MK shG;rw[c1,c3,c4]
theorem Um (R:Pp rs bs) (φ:Sh->Bool):fN φ rs=Nh φ bs:=by
 unfold fN Nh;rw[R.map (fun r=>rR φ r.ls) (fun b=>Uk φ b.list) (fun r b rd=> ?_)];rw[zP];unfold Uk;have:r.ls.map MK=b.list.map shG:=by
  refine zV fun i=> ?_;rw[tQ,tQ];rcases AV i r.ls.length with hi|hi
  .obtain⟨q,hq⟩: ∃q,r.ls[i]? =some q:=⟨_,aX hi⟩;obtain⟨p,hp⟩: ∃p,b.list[i]? =some p:=⟨_,aX (by rw[<-rd.ll];exact hi)⟩;rw[hq,hp];simp only[CJ];rw[Qo (rd.ls i q p hq hp).1]
  .rw[uI hi,uI (by rw[<-rd.ll];exact hi)];rfl
 rw[this,List.filter_map,XE];rfl
theorem Z7 (F:mU f) (L:Dp f) (S:r6 f.blocks) (R:Pp rs f.blocks):TF rs:=by
 have hb:=F.head.blocks;have hl:rs.length=f.blocks.length:=R.1;have hE:=F.body.ends;have tin: ∀b∈f.blocks,∀t∈b.to,1<=t/\t<(f.blocks.length:Int):=fun b hb t ht=>by have:=(hE b hb).to t ht;unfold Z8 at this;omega
 have jT:=R.ts;have pK:(bz rs).length=rs.length:=dx rs;have Y5: ∀ts∈bz rs,∀t∈ts,t.toNat<(bz rs).length:=by intro ts h t ht;obtain⟨r,hr,rfl⟩:=j9.1 h;obtain⟨b,YW,rd⟩:=R.mem hr;rw[rd.to] at ht;have:=tin b YW t ht;omega
 have two: ∀ts∈bz rs,ts.length<=2:=fun ts h=>by obtain⟨r,hr,rfl⟩:=j9.1 h;obtain⟨b,YW,rd⟩:=R.mem hr;rw[rd.to];rcases(hE b YW).kind with⟨_,e⟩|⟨_,t,e⟩|⟨_,t,u,e,_⟩<;>rw[e]<;>simp
 refine⟨⟨by omega,by have:=L.1;omega,fun r hr=> ?_,fun r hr t ht=> ?_,fun k r hr q hq=> ?_,?_,fun r hr x hx=> ?_,fun k hk=> ?_⟩,fun k r hr=> .inl ?_⟩
 .obtain⟨b,YW,rd⟩:=R.mem hr;unfold TM;rw[rd.kind,rd.to];rcases(hE b YW).kind with h|h|⟨h,t,u,e,_⟩
  .exact .inl h
  .exact .inr (.inl h)
  .exact .inr (.inr ⟨h,t,u,e⟩)
 .obtain⟨b,YW,rd⟩:=R.mem hr;rw[rd.to] at ht;rw[hl];exact tin b YW t ht
 .obtain⟨b,dq,rd⟩:=R.at hr;obtain⟨m,hm⟩:=rT hq;obtain⟨p,hp⟩: ∃p,b.eS[m]? =some p:=⟨_,aX (by rw[<-rd.pl];exact(bY.mp hm).1)⟩;obtain⟨_,e2⟩:=rd.ps m q p hm hp;obtain⟨_,l,tT,ph⟩:=(F.body.J8 k b dq).eS p (dk hp);rw[<-jT] at tT;rw[e2,ph.len,Edge.qe Y5 tT,pK]
 .rw[R.map oN (fun b=>b.eS.length+b.list.length) (fun r b rd=>by simp only[oN];rw[rd.pl,rd.ll]),<-Hl];have:=F.head.many;omega
 .obtain⟨b,YW,rd⟩:=R.mem hr;obtain⟨m,hm⟩:=rT hx;obtain⟨p,hp⟩: ∃p,b.list[m]? =some p:=⟨_,aX (by rw[<-rd.ll];exact(bY.mp hm).1)⟩;rw[(rd.ls m x p hm hp).2];obtain⟨j,hj⟩:=rT YW;have:=(xq ((F.body.J8 j b hj).list p (dk hp))).2;omega
 .have h1:=Edge.ox (n:=(bz rs).length) (dw:=bz rs) two k (bz rs).length;obtain⟨ps,gM⟩: ∃ps,(Edge.bw (bz rs))[k]? =some ps:=⟨_,aX (by rw[Edge.dz,pK];exact hk)⟩;have h2:((Edge.upto (bz rs).length (bz rs) (bz rs).length)[k]?).getD []=ps:=by show((Edge.bw (bz rs))[k]?).getD []=ps;rw[gM];rfl
  rw[h2] at h1;have h3:=Edge.qe Y5 gM;rw[pK] at h3;rw[<-h3];have:=L.1;omega
 .have qK:=(bY.mp hr).1;have e1:py f.blocks=Edge.vf (bz rs):=by rw[jT];simp[py,bj,Edge.vf]
  rw[<-Edge.LJ (by omega) Y5 k];have hS:f.blocks.length<=(Dfs.lH (Edge.vf (bz rs)) (bz rs).length).length:=by unfold r6 pW at S;rw[e1,XE] at S;rw[pK,hl];exact S
  obtain⟨nd,lt,_⟩:=Dfs.xC (dw:=Edge.vf (bz rs)) (n:=(bz rs).length) (by omega) (fun b t ht=>by obtain⟨ts,u,h1,h2,rfl⟩:=Edge.AE ht;exact Y5 ts (dk h1) u h2)
  by_cases hk:k∈Dfs.lH (Edge.vf (bz rs)) (bz rs).length
  .exact hk
  .have h1:(k::Dfs.lH (Edge.vf (bz rs)) (bz rs).length).Nodup:=List.nodup_cons.2 ⟨hk,nd⟩;have h2:=gK_ h1 (l₂:=List.range (bz rs).length) (fun x hx=>by
    rcases List.mem_cons.1 hx with rfl|hx
    .exact NB.2 (by rw[pK];exact qK)
    .exact NB.2 (lt x hx))
   simp only[List.length_cons,List.length_range] at h2;rw[pK] at h2 hS;omega
theorem aiy (F:mU f) {l:List Int} (h:(Edge.bw (bj f.blocks))[i]? =some l):l.length<=80:=by
 have h1:=Edge.ox (n:=(bj f.blocks).length) (dw:=bj f.blocks) (fun ts jT=>by obtain⟨b,hb,rfl⟩:=j9.1 jT;rcases(F.body.ends b hb).kind with⟨_,e⟩|⟨_,t,e⟩|⟨_,t,u,e,_⟩<;>rw[e]<;>simp) i (bj f.blocks).length
 have h2:((Edge.upto (bj f.blocks).length (bj f.blocks) (bj f.blocks).length)[i]?).getD []=l:=by show((Edge.bw (bj f.blocks))[i]?).getD []=l;rw[h];rfl
 rw[h2] at h1;have h3:(bj f.blocks).length=f.blocks.length:=by simp[bj]
 have:=F.head.blocks;omega
theorem VI (F:mU f): ∀b∈f.blocks,InB f.ai.toNat b:=by
 intro b hb;obtain⟨i,hi⟩:=rT hb;have B:=F.body.J8 i b hi;have s:=F.sm b hb;have hr:=F.head.ai;have hp:=F.head.params;have E:=F.body.ends b hb;refine⟨by have:=s.ph;have:=ni hb;have:=F.head.many;omega,by have:=ni hb;have:=F.head.many;omega,?_,fun p hp2=> ?_,fun x hx=> ?_,fun h=> ?_⟩
 .rcases E.kind with⟨_,h⟩|⟨_,t,h⟩|⟨_,t,u,h,_⟩<;>rw[h]<;>simp
 .obtain⟨_,l,hl,ph⟩:=B.eS p hp2;have:=ph.dst;unfold vP at this;have:=ph.len;have:=aiy F hl;exact⟨by omega,by omega,fun v hv=>A9 (ph.row v hv)⟩
 .have I:=B.list x hx;have:=(xq I).2;refine⟨?_,A9 I.a,A9 I.b,by omega,fun v hv=>A9 (Li I v hv)⟩;rcases PX I with h|h
  .omega
  .unfold vP at h;omega
 .have:=E.on h;omega
end
structure XG where
 name:ByteArray
 size:Int
 I:SV
def DU:Enc XG:=⟨fun x=>[.string x.name,.int .i64 x.size,x.I.v],3,fun _=>rfl,by decide,fun _=>rfl⟩
@[simp] theorem aiV:DU.sz=3:=rfl
@[simp] theorem Uw (x:XG):DU.enc x=[.string x.name,.int .i64 x.size,x.I.v]:=rfl
structure XF where
 name:ByteArray
 params:Int
 ai:Int
 B:SV
def zR:Enc XF:=⟨fun x=>au x.name x.params x.ai x.B,4,fun _=>rfl,by decide,fun _=>rfl⟩
@[simp] theorem aiZ:zR.sz=4:=rfl
@[simp] theorem afT (x:XF):zR.enc x=[.string x.name,.int .i64 x.params,.int .i64 x.ai,x.B.v]:=rfl
def aal (h:ae) (y:XG) (g:GG):Prop:=y.name=g.name/\y.size=g.size/\SliceR nR 1 h y.I.v g.init
theorem af1 (s:SliceR (gR h) 3 h v gs): ∃ys:List XG,ys.length=gs.length/\bk DU h v ys/\ ∀(i:Nat) (y:XG) (g:GG),ys[i]? =some y->gs[i]? =some g->aal h y g:=
 SliceR.pick (E:=DU) (Q:=aal h) s (fun c x ⟨I,e,hI⟩=>⟨⟨x.name,x.size,I⟩,e,rfl,rfl,hI⟩)
def Pr (h:ae) (y:XF) (f:GF):Prop:=y.name=f.name/\y.params=f.params/\y.ai=f.ai/\AU h y.B f.blocks
theorem afY (s:SliceR (fR h) 4 h v fs): ∃ys:List XF,ys.length=fs.length/\bk zR h v ys/\ ∀(i:Nat) (y:XF) (f:GF),ys[i]? =some y->fs[i]? =some f->Pr h y f:=
 SliceR.pick (E:=zR) (Q:=Pr h) s (fun c x ⟨B,e,hB⟩=>⟨⟨x.name,x.params,x.ai,B⟩,e,rfl,rfl,rfl,hB⟩)
def JZ (ys:List XG) (gs:List GG):Prop:=ys.length=gs.length/\ ∀(i:Nat) (y:XG) (g:GG),ys[i]? =some y->gs[i]? =some g->y.name=g.name/\y.size=g.size
def akl (h0 h:ae) (G F f:SV) (U R1 R2:Nat) (fv:Value) (gs:List GG) (m:Nat) (e:Env) (h':ae):Prop:=
 ∃(j:Nat) (ys:List XG),m=gs.length-j/\j<=gs.length/\Env.get e 1=fv/\Env.get e 2= .pointer (some ⟨U,0,none⟩)/\Env.get e 4= .pointer (some ⟨R1,0,none⟩)/\Env.get e 5= .pointer (some ⟨R2,0,none⟩)/\Env.get e 15=G.v/\Env.get e 16= .int .i64 gs.length/\Env.get e 17= .int .i64 j/\
  ab (ax G.v) h h'/\e_ DU h' G ys/\JZ ys gs/\ ∀(i:Nat) (y:XG) (g:GG),j<=i->ys[i]? =some y->gs[i]? =some g->SliceR nR 1 h0 y.I.v g.init
theorem Ir (jG:bu h0) (g0:ab aG h0 h) {G F f:SV} {U R1 R2 sU:Nat} {fv:Value} {ys:List XG} (hU:h.tr.get U=some (.aA [G.v,F.v] false 0 sU)) (nU: ¬ax G.v U) (hG:e_ DU h G ys) (YO: ∀b,ax G.v b->h0.next<=b) (PT:JZ ys gs) (hI: ∀(i:Nat) (y:XG) (g:GG),ys[i]? =some y->gs[i]? =some g->SliceR nR 1 h0 y.I.v g.init) (hgl:gs.length<=10) (tS: ∀g∈gs,g.init.length<=1048576)
  {e:Env} {Q:aP->Env->ae->Prop} (f1:Env.get e 1=fv) (f2:Env.get e 2= .pointer (some ⟨U,0,none⟩)) (f4:Env.get e 4= .pointer (some ⟨R1,0,none⟩)) (f5:Env.get e 5= .pointer (some ⟨R2,0,none⟩)) (f15:Env.get e 15=G.v) (f16:Env.get e 16= .int .i64 gs.length) (f17:Env.get e 17= .int .i64 0)
  (C: ∀e' h' ys',Env.get e' 1=fv->Env.get e' 2= .pointer (some ⟨U,0,none⟩)->Env.get e' 4= .pointer (some ⟨R1,0,none⟩)->Env.get e' 5= .pointer (some ⟨R2,0,none⟩)->ab (ax G.v) h h'->e_ DU h' G ys'->JZ ys' gs->Q (.exit 0) e' h'):aB FF (.loop rI) e h Q:=by
 have NH:=hG.len;refine aB.loop (akl h0 h G F f U R1 R2 fv gs) ?_ (n:=gs.length) ⟨0,ys,rfl,by omega,f1,f2,f4,f5,f15,f16,f17,.refl g0.ok,hG,PT,fun i y g _ a b=>hI i y g a b⟩;rintro m e' h' ⟨j,zs,rfl,hj,q1,q2,q4,q5,Az,Gk,q17,g,hG',MH,hI'⟩;have bX:=g.ok;have gg:ab aG h0 h':=g0.trans' g (fun _ _ h=>h) (fun x hx e=>by have:=YO x e;omega);have zm:=g.get g0.ok hU nU;have CL:=zm;simp at CL;have Ei:=bX.st _ _ _ _ _ zm;have oU:=bX.bA zm;unfold rI;by_cases aS:j<gs.length
 .have wj:=wrap_i64 ((j:Int)+1) (by omega) (by omega);obtain⟨y,hy⟩: ∃y,zs[j]? =some y:=⟨_,aX (by rw[MH.1];exact aS)⟩;obtain⟨gj,hgj⟩: ∃y,gs[j]? =some y:=⟨_,aX aS⟩;have sI:=hI' j y gj (dK _) hy hgj;obtain⟨b,cs,o,s,ha,hb,YY,eH,dy,fH⟩:=hG'.el hy;have ab8:=hG'.len;have rd:=dy 0 3 (by decide);simp[-ag] at rd;rw[ha,ab8,MH.1] at CL;simp at Az;rw[ha,ab8,MH.1] at Az;have nUb: ¬U=b:=fun e=>nU (e▸bU ha);simp[q2,Az,Gk,q17,aS,rd,-ag,av,bg,aI,aq CL,oU,ay];refine aQ.cut (fun h2=>ab aG h' h2) (((ab.refl bX).var _ _).tick) ?_;intro h2 g2;have D4:=g2.get bX CL (fun h=>h);have Bk:=g2.get bX hb (fun h=>h);refine aQ.call (V:=tp bp h2 gj.init) (by simpa using jQ bp (bytes:=8) mf rfl (by decide) g2.ok ((aa6 sI).bt jG (gg.trans g2)) (by have:=tS gj (dk hgj);omega)) ?_;rintro _ h3 ⟨g3,I',rfl,_,_,_⟩;have PI:=g3.get g2.ok D4 (fun h=>h);have Gc:=g3.get g2.ok Bk (fun h=>h);have wN:sU<=h'.clock+1:=by omega
  have hf:=eH 2 1 (by decide);simp at hf;simp[q2,PI,wN,aS,Gc,hf,q17,wj];have g4:=aM (off:=j*3+2) (vs:=[Value.slice I'.a I'.l I'.c]) g3.ok Gc;have A4:=fH { y with I:=I' } 2 [Value.slice I'.a I'.l I'.c] (by simp) rfl (put h3 b (j*3+2) cs [Value.slice I'.a I'.l I'.c] o) ⟨h3.clock,by simp⟩;refine⟨gs.length-(j+1),by omega,j+1,zs.set j { y with I:=I' },rfl,aS,by simp[q1],by simp[q2],by simp[q4],by simp[q5],by simp[Az,ha,ab8,MH.1],by simp[Gk],by simp,((g.trans g2.bt).trans g3.bt).trans (g4.bJ (fun x _ e=>e▸bU ha)),A4,⟨by simp[MH.1],fun i a c h1 h2=> ?_⟩,fun i a c hi h1 h2=> ?_⟩
  .rw[eR] at h1;by_cases e1:j=i
   .subst e1;rw[aU rfl,aU (by rw[MH.1];exact aS)] at h1;cases h1;exact MH.2 j y c hy h2
   .rw[aT e1] at h1;exact MH.2 i a c h1 h2
  .rw[eR,aT (by omega)] at h1;exact hI' i a c (by omega) h1 h2
 .have:j=gs.length:=by omega
  subst this;simp[Gk,q17];exact C _ _ zs (by simp[q1]) (by simp[q2]) (by simp[q4]) (by simp[q5]) g hG' MH
abbrev BG:Type:=GF->Nat->List XR->Prop
def Gt (P:Nat->List XR->Prop) (name:ByteArray) (p:Int) (n0:Nat) (κ0:Nat->Nat) (h:ae) (v:Value) (h':ae):Prop:=
 ab (fun x=>κ0 x≠0) h h'/\ ∃(B':SV) (bH:List XR) (κ cap:Nat->Nat) (ai many:Nat),v= .agg ⟨au name p many B'⟩/\(∀x,x<h.next->κ x=κ0 x)/\mF h' n0 ai κ cap B' bH/\bH.length<=72/\(∀r∈bH,r.ps.length<=100000/\r.ls.length<=100000)/\P many bH
def zu (M:Nat) (P:BG) (h:ae) (z:XF) (f:GF):Prop:=
 ∃(n0 ai many:Nat) (κ cap:Nat->Nat) (rs:List XR),mF h n0 ai κ cap z.B rs/\(∀x,x<M->κ x=0)/\rs.length<=72/\(∀r∈rs,r.ps.length<=100000/\r.ls.length<=100000)/\(z.name=f.name/\z.params=f.params/\z.ai=many)/\P f many rs
theorem zu.grow {S:Nat->Prop} {M:Nat} {P:BG} {h h':ae} {z:XF} {f:GF} (d:zu M P h z f) (ok:bu h) (g:ab S h h') (hS: ∀b,S b->b<M\/h.next<=b):zu M P h' z f:=by
 obtain⟨n0,ai,many,κ,cap,rs,O,G7,a,b,c,d⟩:=d;refine⟨n0,ai,many,κ,cap,rs,O.grow ok g (fun x hx=> ?_),G7,a,b,c,d⟩;rcases hS x hx with h1|h1
 .exact G7 x h1
 .have hw:=O.os.new x;rcases tP (κ x) with h2|h2
  .exact h2
  .have:=(hw (by omega)).2;omega
structure aak (f:GF):Prop where
 F:mU f
 L:Dp f
 S:r6 f.blocks
def akm (h0 hL:ae) (P:BG) (F:SV) (U R1 R2:Nat) (fv:Value) (fs:List GF) (m:Nat) (e:Env) (h':ae):Prop:=
 ∃(k:Nat) (zs:List XF),m=fs.length-k/\k<=fs.length/\Env.get e 1=fv/\Env.get e 2= .pointer (some ⟨U,0,none⟩)/\Env.get e 4= .pointer (some ⟨R1,0,none⟩)/\Env.get e 5= .pointer (some ⟨R2,0,none⟩)/\Env.get e 36=F.v/\Env.get e 37= .int .i64 fs.length/\Env.get e 38= .int .i64 k/\
  ab (ax F.v) hL h'/\e_ zR h' F zs/\zs.length=fs.length/\(∀(i:Nat) (z:XF) (f:GF),i<k->zs[i]? =some z->fs[i]? =some f->zu hL.next P h' z f)/\ ∀(i:Nat) (z:XF) (f:GF),k<=i->zs[i]? =some z->fs[i]? =some f->Pr h0 z f
theorem Nn {h0 hL:ae} (jG:bu h0) (g0:ab aG h0 hL) {P:BG} {fv:Value} {U R1 R2 sU s1 s2:Nat} {fs:List GF} {zs0:List XF} (hU:hL.tr.get U=some (.aA [G.v,F.v] false 0 sU)) (sG:hL.tr.get R1=some (.aA [.slice none 0 0,.slice none 0 0] false 0 s1)) (xW:hL.tr.get R2=some (.aA [.int .i64 0,.int .i64 0] false 0 s2)) (n12: ¬R1=R2) (nU: ¬ax F.v U) (nR1: ¬ax F.v R1) (nR2: ¬ax F.v R2)
  (hF:e_ zR hL F zs0) (KI: ∀b,ax F.v b->h0.next<=b) (FA:zs0.length=fs.length) (hz: ∀(i:Nat) (z:XF) (f:GF),zs0[i]? =some z->fs[i]? =some f->Pr h0 z f) (iL:fs.length<=10) (cN: ∀f∈fs,aak f)
  (H: ∀f∈fs,∀(h:ae) (pn n0 ai:Nat) (κ cap:Nat->Nat) (B:SV) (rs:List XR),bu h->ab (ax F.v) hL h->n0<=h.next->hL.next<=n0->f.params=pn->f.ai=ai->pn<=ai->ai<1000000->mF h n0 ai κ cap B rs->Pp rs f.blocks->cP FF fv [.agg ⟨au f.name pn ai B⟩] h (Gt (P f) f.name pn n0 κ h))
  {e:Env} {Q:aP->Env->ae->Prop} (f1:Env.get e 1=fv) (f2:Env.get e 2= .pointer (some ⟨U,0,none⟩)) (f4:Env.get e 4= .pointer (some ⟨R1,0,none⟩)) (f5:Env.get e 5= .pointer (some ⟨R2,0,none⟩)) (f36:Env.get e 36=F.v) (f37:Env.get e 37= .int .i64 fs.length) (f38:Env.get e 38= .int .i64 0)
  (bad: ∀e' h' a,Env.get e' 4= .pointer (some ⟨R1,0,none⟩)->Env.get e' 5= .pointer (some ⟨R2,0,none⟩)->ab (fun b=>ax F.v b\/b=R1\/b=R2) hL h'->(∃s,h'.tr.get R1=some (.aA [.slice none 0 0,.slice none 0 0] false 0 s))->(∃s,h'.tr.get R2=some (.aA [.int .i64 10,.int .i64 a] false 0 s))->Q .ret e' h')
  (wH: ∀e' h' zs,Env.get e' 2= .pointer (some ⟨U,0,none⟩)->Env.get e' 4= .pointer (some ⟨R1,0,none⟩)->Env.get e' 5= .pointer (some ⟨R2,0,none⟩)->ab (ax F.v) hL h'->e_ zR h' F zs->zs.length=fs.length->(∀(i:Nat) (z:XF) (f:GF),zs[i]? =some z->fs[i]? =some f->zu hL.next P h' z f)->Q (.exit 2) e' h'):aB FF (.loop rH) e hL Q:=by
 have okL:=g0.ok;refine aB.loop (akm h0 hL P F U R1 R2 fv fs) ?_ (n:=fs.length) ⟨0,zs0,rfl,by omega,f1,f2,f4,f5,f36,f37,f38,.refl okL,hF,FA,fun i z f h=>by omega,fun i z f _ a b=>hz i z f a b⟩;rintro m e' h' ⟨k,zs,rfl,hk,q1,q2,q4,q5,Ya,Yb,Sd,g,sD,Lg,hD,hT⟩;have bX:=g.ok;have ln:=g.next;have gg:ab aG h0 h':=g0.trans' g (fun _ _ h=>h) (fun x hx e=>by have:=KI x e;omega);have zm:=g.get okL hU nU;have hR1':=g.get okL sG nR1;have hR2':=g.get okL xW nR2;have pJ:=sD.len;unfold rH;by_cases qK:k<fs.length
 .have wk:=wrap_i64 ((k:Int)+1) (by omega) (by omega);obtain⟨z,hzk⟩: ∃z,zs[k]? =some z:=⟨_,aX (by omega)⟩;obtain⟨f,hfk⟩: ∃z,fs[k]? =some z:=⟨_,aX qK⟩;obtain⟨e1,e2,e3,hBs⟩:=hT k z f (dK _) hzk hfk;have K:=cN f (dk hfk);have hr:=K.F.head.ai;have hp:=K.F.head.params;obtain⟨pn,NY⟩: ∃n:Nat,f.params=n:=⟨f.params.toNat,by omega⟩;obtain⟨rn,Vu⟩: ∃n:Nat,f.ai=n:=⟨f.ai.toNat,by omega⟩;obtain⟨b,cs,o,s,ha,hb,YY,eH,dy,fH⟩:=sD.el hzk;have rd:=dy 0 4 (by decide);simp[-ag] at rd;rw[e1,e2,e3,NY,Vu] at rd;simp at Ya;rw[ha,pJ,Lg] at Ya;simp[Ya,Yb,Sd,q1,qK,rd,-ag,av];refine aE.cut (fun h2=>ab aG h' h2/\ ∃s,h2.tr.get h'.next=some (.aA (au f.name pn rn z.B) false 0 s)) ?_ ?_
  .exact⟨(ab.refl bX).var _ _,h'.clock,by simp[aJ,au]⟩
  rintro h2 ⟨g2,sX,dS⟩;have iI:=gg.trans g2;have ND:AU h2 z.B f.blocks:=hBs.mono jG iI;have l2:=g2.next;have lX:=g2.ok.wf _ _ dS;refine aE.call (V:=aaf f.name pn rn rn f.blocks h2) (by simpa [au] using QJ g2.ok (name:=f.name) (p:=pn) (r:=rn) (ai:=rn) ND (fun b hb=>by have:=VI K.F b hb;rw[Vu] at this;simpa using this) (by have:=K.F.head.blocks;omega)) ?_;rintro _ h3 ⟨g3,B3,rs,κ,cap,rfl,O3,R3⟩;have fK:=g3.get g2.ok dS (fun h=>h);have κlo: ∀x,x<h2.next->κ x=0:=fun x hx=>by
   have hw:=O3.os.new x;rcases tP (κ x) with h1|h1
   .exact h1
   .have:=(hw (by omega)).1;omega
  have l3:=g3.next;simp[q1];refine aE.cD (V:=Gt (P f) f.name pn h2.next κ h3) (by simpa [q1,au] using H f (dk hfk) h3 pn h2.next rn κ cap B3 rs g3.ok (g.trans (g2.trans g3).bt) (by omega) (by omega) NY Vu (by omega) (by omega) O3 R3) ?_;rintro _ h4 ⟨g4,B4,TH,κ4,alC,aiw,many,rfl,G8,O4,Re,hs4,XK⟩;have G4:ab aG h' h4:=(g2.trans g3).trans' g4 (fun _ _ h=>h) (fun x hx e=>e (κlo x (by omega)));have tR:=g4.get g3.ok fK (fun e=>e (κlo _ lX));have D6:=tR;simp[au] at D6;simp[au,D6];refine aE.cut (fun h5=>ab (· =h'.next) h4 h5/\ ∃s,h5.tr.get h'.next=some (.aA [.string f.name,.int .i64 pn,.int .i64 many,.slice B4.a B4.l B4.c] false 0 s)) ?_ ?_
  .exact⟨(ab.refl g4.ok).put ⟨_,D6⟩ (.inr rfl),h4.clock,by simp⟩
  rintro h5 ⟨g5,s5,rV⟩;have κX4:κ4 h'.next=0:=by rw[G8 _ (by omega)];exact κlo _ lX
  have O5:=O4.grow g4.ok g5 (fun x e=>by rw[e];exact κX4);have G5:ab aG h' h5:=G4.trans' g5 (fun _ _ h=>h) (fun x hx e=>by omega);obtain⟨bs5,amU,hV5⟩:=O5.view;have C5:ae6 bs5:=by refine⟨by rw[hV5.1];omega,fun b hb=> ?_⟩;obtain⟨i,hi⟩:=rT hb;obtain⟨r,hr⟩: ∃r,TH[i]? =some r:=⟨_,aX (by rw[<-hV5.1];exact(bY.mp hi).1)⟩;have v:=hV5.2 i r b hr hi;have:=hs4 r (dk hr);rw[v.pl,v.ll];omega
  refine aE.call (V:=vO h5) (by simpa [au] using Ob g5.ok (name:=f.name) (p:=pn) (r:=many) amU C5) ?_;rintro _ h6 ⟨g6,big,rfl⟩;have G6:=G5.trans g6;have GL6:ab (ax F.v) hL h6:=g.trans G6.bt;have PJ:=GL6.get okL hU nU;have YS:=GL6.get okL sG nR1;have YT:=GL6.get okL xW nR2;have yp:=g6.get g5.ok rV (fun h=>h);cases big with
  |true=>
   simp;refine aE.call (by simpa using jz h6 g6.ok 10 (k:Int)) ?_;rintro _ h7 ⟨rfl,g7⟩;have UY:=g7.get g6.ok YS (fun h=>h);have UZ:=g7.get g6.ok YT (fun h=>h);have n21: ¬R2=R1:=fun e=>n12 e.symm;simp[q4,q5,UY,UZ,n21];have GL7:ab (fun b=>ax F.v b\/b=R1\/b=R2) hL h7:=(GL6.bJ (fun x _ h=> .inl h)).trans g7.bt;refine bad _ _ k (by simp[q4]) (by simp[q5]) ?_ ⟨h7.clock,by simp[n12]⟩ ⟨h7.clock+1,by simp⟩;exact(GL7.put ⟨_,UY⟩ (.inr (.inr (.inl rfl)))).put ⟨s2,by simp[n21,UZ]⟩ (.inr (.inr (.inr rfl)))
  |false=>
   have A6:=sD.grow bX G6 (fun _ _ h=>h);obtain⟨b6,cs6,o6,s6,ha6,Th,hjA6,ag1,hrd6,ahD⟩:=A6.el hzk;rw[ha] at ha6;cases ha6;have acf:=PJ;simp at acf;rw[ha,pJ,Lg] at acf;have hf6:=ag1 0 4 (by decide);simp at hf6;simp[q2,acf,yp,qK,Th,hf6,Sd,wk];have lb:b<hL.next:=hF.bA okL (bU ha);have g7:=aM (off:=k*4) (vs:=[Value.string f.name,Value.int .i64 pn,Value.int .i64 many,Value.slice B4.a B4.l B4.c]) g6.ok Th;have A7:=ahD ⟨f.name,pn,many,B4⟩ 0 [Value.string f.name,Value.int .i64 pn,Value.int .i64 many,Value.slice B4.a B4.l B4.c] (by simp) rfl (put h6 b (k*4) cs6 [Value.string f.name,Value.int .i64 pn,Value.int .i64 many,Value.slice B4.a B4.l B4.c] o6) ⟨h6.clock,by simp⟩;have GL7:=GL6.trans (g7.bJ (fun x _ e=>e▸bU ha));generalize put h6 b (k*4) cs6 _ o6=h7 at*;have hkz:k<zs.length:=by omega
   refine⟨fs.length-(k+1),by omega,k+1,zs.set k ⟨f.name,pn,many,B4⟩,rfl,qK,by simp[q1],by simp[q2],by simp[q4],by simp[q5],by simp[Ya,ha,pJ,Lg],by simp[Yb],by simp,GL7,A7,by simp[Lg],fun i z2 f2 hi h1 h2=> ?_,fun i z2 f2 hi h1 h2=> ?_⟩
   .rw[eR] at h1;by_cases e1:k=i
    .subst e1;rw[aU rfl,aU hkz] at h1;cases h1;rw[hfk] at h2;cases h2;have D5:zu hL.next P h5 ⟨f.name,pn,many,B4⟩ f:=⟨_,aiw,many,κ4,alC,TH,O5,fun x hx=>by rw[G8 x (by omega)];exact κlo x (by omega),Re,hs4,⟨rfl,NY.symm,rfl⟩,XK⟩;exact(D5.grow g5.ok g6 (fun _ h=>h.elim)).grow g6.ok g7 (fun x e=> .inl (by omega))
    .rw[aT e1] at h1;exact((hD i z2 f2 (by omega) h1 h2).grow bX G6 (fun _ h=>h.elim)).grow g6.ok g7 (fun x e=> .inl (by omega))
   .rw[eR,aT (by omega)] at h1;exact hT i z2 f2 (by omega) h1 h2
 .have:k=fs.length:=by omega
  subst this;simp[Yb,Sd];exact wH _ _ zs (by simp[q2]) (by simp[q4]) (by simp[q5]) g sD Lg (fun i z f a b=>hD i z f (by have:=(bY.mp b).1;omega) a b)
def aai (P:BG) (gs:List GG) (fs:List GF) (h:ae) (v:Value) (h':ae):Prop:=
 ab aG h h'/\ ∃(G' F':SV) (c a:Int),v= .tuple #[.agg ⟨[G'.v,F'.v]⟩,.agg ⟨[.int .i64 c,.int .i64 a]⟩]/\
  ((c≠0/\G'=fI/\F'=fI)\/(c=0/\(∀b,ax G'.v b\/ax F'.v b->h.next<=b)/\ ∃M ys zs,h.next<=M/\e_ DU h' G' ys/\JZ ys gs/\e_ zR h' F' zs/\zs.length=fs.length/\ ∀(i:Nat) (z:XF) (f:GF),zs[i]? =some z->fs[i]? =some f->zu M P h' z f))
theorem QO (ok:bu h) {P:BG} {fv:Value} {u:GU} (hu:uR h G F u) (hgl:u.globals.length<=10) (tS: ∀g∈u.globals,g.init.length<=1048576) (iL:u.funcs.length<=10) (cN: ∀f∈u.funcs,aak f)
  (H: ∀f∈u.funcs,∀(h1:ae) (pn n0 ai:Nat) (κ cap:Nat->Nat) (B:SV) (rs:List XR),bu h1->ab aG h h1->n0<=h1.next->h.next<=n0->f.params=pn->f.ai=ai->pn<=ai->ai<1000000->mF h1 n0 ai κ cap B rs->Pp rs f.blocks->cP FF fv [.agg ⟨au f.name pn ai B⟩] h1 (Gt (P f) f.name pn n0 κ h1)):
  aF FF Al [.agg ⟨[G.v,F.v]⟩,fv] h (aai P u.globals u.funcs h):=by
 obtain⟨ys,uw,PT,hY⟩:=af1 hu.1;obtain⟨zs,FA,MH,hZ⟩:=afY hu.2;refine aF.of H0 ?_;unfold zF;have n1: ¬h.next=h.next+1:=by omega
 have n2: ¬h.next=h.next+1+1:=by omega
 simp[n1,n2];refine aE.cut (fun h1=>ab aG h h1/\(∃s,h1.tr.get h.next=some (.aA [G.v,F.v] false 0 s))/\(∃s,h1.tr.get (h.next+1)=some (.aA [.slice none 0 0,.slice none 0 0] false 0 s))/\(∃s,h1.tr.get (h.next+1+1)=some (.aA [.int .i64 0,.int .i64 0] false 0 s))) ?_ ?_
 .exact⟨(((ab.refl ok).new _ _).new _ _).new _ _,⟨0,by simp[n1,n2]⟩,⟨0,by simp⟩,⟨0,by simp⟩⟩
 rintro h1 ⟨g1,⟨sU,XL⟩,⟨s1,amn⟩,⟨s2,ago⟩⟩;have lR:=g1.ok.wf _ _ ago;refine aE.call (V:=tp DU h1 ys) (by simpa using jQ DU (bytes:=48) j6 rfl (by decide) g1.ok (PT.bt ok g1) (by omega)) ?_;rintro _ h2 ⟨g2,G',rfl,hG2,YO,_⟩;have CL:=g2.get g1.ok XL (fun h=>h);have IN:=CL;simp at IN;have amo:=g2.get g1.ok amn (fun h=>h);have amr:=g2.get g1.ok ago (fun h=>h);have NH:=hG2.len;simp[IN];refine aB.cut (fun h3=>ab (· =h.next) h2 h3/\ ∃s,h3.tr.get h.next=some (.aA [G'.v,F.v] false 0 s)) ?_ ?_
 .exact⟨(ab.refl g2.ok).put ⟨_,IN⟩ (.inr rfl),h2.clock,by simp⟩
 rintro h3 ⟨g3,sU3,D4⟩;have l2:=g2.next;have iI:=g1.trans g2;have dh:ab aG h h3:=iI.trans' g3 (fun _ _ h=>h) (fun x hx e=>by omega);have nG: ∀x,x<h1.next-> ¬ax G'.v x:=fun x hx e=>by have:=YO x e;omega
 have hG3:=hG2.grow g2.ok g3 (fun b hb e=>by have:=YO b hb;omega);have amp:=g3.get g2.ok amo (by omega);have ams:=g3.get g2.ok amr (by omega);refine Ir (fv:=fv) (R1:=h.next+1) (R2:=h.next+1+1) (f:=fI) ok dh D4 (nG _ (by omega)) hG3 (fun b hb=>by have:=YO b hb;have:=g1.next;omega) ⟨uw,fun i y g a b=>⟨(hY i y g a b).1,(hY i y g a b).2.1⟩⟩ (fun i y g a b=>(hY i y g a b).2.2) hgl tS (by simp) (by simp) (by simp) (by simp) (by simp) (by simp[NH,uw]) (by simp) ?_;intro e4 h4 ys4 q1 q2 q4 q5 g4 hG4 hS4;have mK:ab aG h h4:=dh.trans' g4 (fun _ _ h=>h) (fun x hx e=>by have:=YO x e;have:=g1.next;omega);have PI:=g4.get g3.ok D4 (nG _ (by omega));have amq:=g4.get g3.ok amp (nG _ (by omega));have amt:=g4.get g3.ok ams (nG _ (by omega));have Gb:=PI;simp at Gb;simp[q2,Gb];refine aE.call (V:=tp zR h4 zs) (by simpa using jQ zR (bytes:=56) me rfl (by decide) g4.ok (MH.bt ok mK) (by omega)) ?_;rintro _ h5 ⟨g5,F',rfl,NG,KI,_⟩;have hU5:=g5.get g4.ok PI (fun h=>h);have ace:=hU5;simp at ace;have l34:h2.next<=h4.next:=ug g3.next g4.next;have pJ:=NG.len;have hG5:=hG4.bt g4.ok g5;simp[q2,ace];refine aB.cut (fun h6=>ab (· =h.next) h5 h6/\ ∃s,h6.tr.get h.next=some (.aA [G'.v,F'.v] false 0 s)) ?_ ?_
 .exact⟨(ab.refl g5.ok).put ⟨_,ace⟩ (.inr rfl),h5.clock,by simp⟩
 rintro h6 ⟨g6,sU6,PJ⟩;have l5:=g5.next;have UK:ab aG h h6:=(mK.trans g5).trans' g6 (fun _ _ h=>h) (fun x hx e=>by omega);have g46:ab (· =h.next) h4 h6:=g5.bt.trans g6;have nF: ∀x,x<h4.next-> ¬ax F'.v x:=fun x hx e=>by have:=KI x e;omega
 have hF6:=NG.grow g5.ok g6 (fun b hb e=>by have:=KI b hb;omega);have hG6:=hG5.grow g5.ok g6 (fun b hb e=>by have:=YO b hb;omega);have YS:=g46.get g4.ok amq (by omega);have YT:=g46.get g4.ok amt (by omega);have l1:=g1.next;refine Nn (R1:=h.next+1) (R2:=h.next+1+1) (U:=h.next) (zs0:=zs) (fs:=u.funcs) ok UK PJ YS YT (by omega) (nF _ (by omega)) (nF _ (by omega)) (nF _ (by omega)) hF6 (fun b hb=>by have:=KI b hb;omega) FA hZ iL cN (fun f hf h1 pn n0 ai κ cap B rs a1 a2 a3 a4 a5 a6 a7 a8 a9 a10=>H f hf h1 pn n0 ai κ cap B rs a1 (UK.trans' a2 (fun _ _ h=>h) (fun x hx e=>by have:=KI x e;omega)) a3 (by have:=UK.next;omega) a5 a6 a7 a8 a9 a10) (by simp[q1]) (by simp[q2]) (by simp[q4]) (by simp[q5]) (by simp) (by simp[pJ,FA]) (by simp) ?_ ?_
 .rintro e7 h7 a k4 k5 g7 ⟨t1,hA⟩ ⟨t2,hB⟩;simp[k4,k5,hA,hB];exact⟨UK.trans' g7 (fun _ _ h=>h) (fun x hx e=>by
   rcases e with e|e|e
   .have:=KI x e;omega
   .omega
   .omega),fI,fI,10,a,rfl,.inl ⟨by decide,rfl,rfl⟩⟩
 .intro e7 h7 zs7 k2 k4 k5 g7 hF7 hl7 hD7;have hU7:=g7.get g6.ok PJ (nF _ (by omega));have UY:=g7.get g6.ok YS (nF _ (by omega));have UZ:=g7.get g6.ok YT (nF _ (by omega));have agx:=hU7;simp at agx;have hFG: ∀b,ax G'.v b-> ¬ax F'.v b:=fun b hb h=>by have:=hG4.bA g4.ok hb;have:=KI b h;omega
  have hG7:=hG6.grow g6.ok g7 hFG;simp[k2,k4,k5,agx,UY,UZ];have gw:=((ab.refl g7.ok).put (S:=fun x=>x=h.next+1\/x=h.next+1+1) (off:=0) (vs:=[Value.slice G'.a G'.l G'.c,Value.slice F'.a F'.l F'.c]) ⟨_,UY⟩ (.inr (.inl rfl))).put (b:=h.next+1+1) (off:=0) (cs:=[.int .i64 0,.int .i64 0]) (o:=0) (vs:=[.int .i64 0,.int .i64 0]) ⟨s2,by simp[UZ]⟩ (.inr (.inr rfl));have l6:=g6.next;generalize put (put h7 _ _ _ _ _) _ _ _ _ _=h8 at gw ⊢;refine⟨(UK.trans' g7 (fun _ _ h=>h) (fun x hx e=>by have:=KI x e;omega)).trans' gw (fun _ _ h=>h) (fun x hx e=>by omega),G',F',0,0,by simp,.inr ⟨rfl,fun b hb=>by
   rcases hb with hb|hb
   .have:=YO b hb;omega
   .have:=KI b hb;omega,h6.next,ys4,zs7,by omega,hG7.grow g7.ok gw (fun b hb e=>by have:=YO b hb;omega),hS4,hF7.grow g7.ok gw (fun b hb e=>by have:=KI b hb;omega),hl7,fun i z f a b=>(hD7 i z f a b).grow g7.ok gw (fun x e=> .inl (by omega))⟩⟩
def bE (e:Int×Int):Value:= .agg ⟨[.int .i64 e.1,.int .i64 e.2]⟩
def jU (gs:List (Int×Int)):List (Value×Value):=gs.map fun e=>(bE e,.bool true)
theorem It (a b:Int×Int):gE [9,1,1] (bE a) (bE b)=some (a==b):=by obtain⟨a1,a2⟩:=a;obtain⟨b1,b2⟩:=b;simp only[gE,bE,bx,dI,if_true,Bool.and_true];rfl
theorem I8 (e:Int×Int): ∀gs:List (Int×Int),pd [9,1,1] (bE e) (jU gs)=some (if e∈gs then some (.bool true) else none)
 |[]=>rfl
 |x::gs=>by
  show(match gE [9,1,1] (bE e) (bE x) with
   |some true=>some (some (Value.bool true))
   |some false=>pd [9,1,1] (bE e) (jU gs)
   |none=>none)=_
  rw[It];cases h:e==x with
  |true=>
   have:e=x:=by simpa using h
   subst this;simp
  |false=>
   have: ¬e=x:=by simpa using h
   dsimp only;rw[I8 e gs];simp[this]
theorem aiJ (e:Int×Int): ∀gs:List (Int×Int),e∉gs->rM [9,1,1] (bE e) (.bool true) (jU gs)=some (jU (gs++[e]))
 |[],_=>rfl
 |x::gs,hn=>by
  show(match gE [9,1,1] (bE e) (bE x) with
   |some true=>if(zb (bE e)&&plain (.bool true))=true then some ((bE e,Value.bool true)::jU gs) else none
   |some false=>match rM [9,1,1] (bE e) (.bool true) (jU gs) with|some r'=>some ((bE x,Value.bool true)::r')|none=>none
   |none=>none)=_
  have h1: ¬e=x:=fun h=>hn (by simp[h]);have h2:e∉gs:=fun h=>hn (by simp[h]);rw[It,show(e==x)=false by simpa using h1];dsimp only;rw[aiJ e gs h2];rfl
theorem aax (e:Int×Int): ∀gs:List (Int×Int),e∉gs->wC [9,1,1] (.bool false) (bE e) (jU gs)=some (.bool false,gs.length,jU gs++[(bE e,.bool false)])
 |[],_=>rfl
 |x::gs,hn=>by
  show(match gE [9,1,1] (bE e) (bE x) with
   |some true=>if zb (bE e)=true then some (Value.bool true,0,(bE e,Value.bool true)::jU gs) else none
   |some false=>match wC [9,1,1] (.bool false) (bE e) (jU gs) with|some (v,i,r')=>some (v,i+1,(bE x,Value.bool true)::r')|none=>none
   |none=>none)=_
  have h1: ¬e=x:=fun h=>hn (by simp[h]);have h2:e∉gs:=fun h=>hn (by simp[h]);rw[It,show(e==x)=false by simpa using h1];dsimp only;rw[aax e gs h2];rfl
theorem Yy (e:Int×Int) (gs:List (Int×Int)):(jU gs++[(bE e,Value.bool false)]).set gs.length (bE e,.bool true)=jU (gs++[e]):=by
 have:(jU gs).length=gs.length:=by simp[jU]
 rw[<-this,List.set_append];simp[jU]
theorem abO (e:Int×Int) (gs:List (Int×Int)):(jU gs++[(bE e,Value.bool false)])[gs.length]? =some (bE e,.bool false):=by
 have:(jU gs).length=gs.length:=by simp[jU]
 rw[<-this];simp
theorem QX (ok:bu h) (o:o9) (ho: ∀cs ro op s,o≠ .aA cs ro op s):ab aG h (h.new o):=by
 refine⟨Nat.le_succ _,dK _,fun b hb _=>y4 _ hb,⟨fun b ob hb=> ?_,fun b cs ro op s hb=> ?_⟩⟩
 .simp only[ae.new,Tr.aN] at hb ⊢;by_cases e:b=h.next
  .omega
  .rw[aT e] at hb;exact Nat.lt_succ_of_lt (ok.wf b ob hb)
 .simp only[ae.new,Tr.aN] at hb ⊢;by_cases e:b=h.next
  .rw[aU e] at hb;injection hb with hb;exact absurd hb (ho _ _ _ _)
  .rw[aT e] at hb;exact ok.st b cs ro op s hb
def zc (h:ae) (r:Nat) (es:List (Value×Value)):ae:= { h with clock:=h.clock+1,tr:=h.tr.set r (.map es) }
@[simp] theorem aeO (h:ae) (r:Nat) (es:List (Value×Value)):(zc h r es).next=h.next:=rfl
@[simp] theorem abK (h:ae) (r:Nat) (es:List (Value×Value)):(zc h r es).clock=h.clock+1:=rfl
theorem ml (h:ae) (r b:Nat) (es:List (Value×Value)):(zc h r es).tr.get b=if b=r then some (.map es) else h.tr.get b:=by simp only[zc,Tr.aN]
theorem GV (ok:bu h) {r:Nat} (es:List (Value×Value)) {o:o9} (hr:h.tr.get r=some o):ab (· =r) h (zc h r es):=by
 refine⟨dK _,Nat.le_succ _,fun x hx hn=>by rw[ml,aT hn],⟨fun x ob hx=> ?_,fun x Il ro o' s' hx=> ?_⟩⟩
 .rw[ml] at hx;by_cases e:x=r
  .subst e;exact ok.wf _ _ hr
  .rw[aT e] at hx;exact ok.wf x ob hx
 .rw[ml] at hx;by_cases e:x=r
  .rw[aU e] at hx;cases hx
  .rw[aT e] at hx;exact Nat.le_succ_of_le (ok.st x Il ro o' s' hx)
def kN (x:Int×Int):Prop:=x=(0,0)\/x.1=1\/x=(2,0)
def ux (a b:Int×Int):Int×Int:=if a.1=0\/a=b then b else if b.1=0 then a else(2,0)
def FX (x:Int×Int):Nat:=(2-x.1).toNat
theorem kN.join (ha:kN a) (hb:kN b):kN (ux a b):=by
 unfold ux;split
 .exact hb
 .split
  .exact ha
  .exact .inr (.inr rfl)
theorem VO (ha:kN a) (hb:kN b) (hn:ux a b≠a):FX (ux a b)<FX a:=by
 unfold ux at hn ⊢;split
 .rename_i h;rw[aU h] at hn;rcases h with h|h
  .rcases ha with rfl|h1|rfl
   .rcases hb with rfl|h2|rfl
    .exact absurd rfl hn
    .simp[FX,h2]
    .decide
   .omega
   .simp at h
  .exact absurd h.symm hn
 .rename_i h;rw[aT h] at hn;split
  .rename_i h2;rw[aU h2] at hn;exact absurd rfl hn
  .rename_i h2;rw[aT h2] at hn;rcases ha with rfl|h1|rfl
   .exact absurd (.inl rfl) h
   .simp[FX,h1]
   .exact absurd rfl hn
def Sa (N:Nat) (fx:List (Int×Int)) (gs:List (Int×Int)):Nat:=(fx.map FX).sum+(N-gs.length)
structure MO (nb:Nat) (gs:List (Int×Int)):Prop where
 nd:gs.Nodup
 lt: ∀e∈gs,0<=e.1/\e.1<nb/\0<=e.2/\e.2<nb
theorem MO.len {gs:List (Int×Int)} (g:MO nb gs):gs.length<=nb*nb:=by
 have h:(gs.map fun e=>e.1.toNat*nb+e.2.toNat).Nodup:=by
  show List.Pairwise (· ≠ ·) _;rw[List.pairwise_map];refine List.Pairwise.imp_of_mem (fun {x y} hx hy cJ e=>cJ ?_) g.nd;obtain⟨a1,a2,a3,a4⟩:=g.lt x hx;obtain⟨b1,b2,b3,b4⟩:=g.lt y hy;have e1:x.1.toNat=y.1.toNat:=by
   have h1:(x.1.toNat*nb+x.2.toNat)/nb=x.1.toNat:=by rw[Nat.mul_comm,Nat.mul_add_div (by omega),Nat.div_eq_of_lt (by omega),ID]
   have h2:(y.1.toNat*nb+y.2.toNat)/nb=y.1.toNat:=by rw[Nat.mul_comm,Nat.mul_add_div (by omega),Nat.div_eq_of_lt (by omega),ID]
   rw[<-h1,<-h2];exact congrArg (· /nb) e
  have e2:x.2.toNat=y.2.toNat:=by rw[e1] at e;exact Nat.add_left_cancel e
  exact Prod.ext (by omega) (by omega)
 have h2:=gK_ h (l₂:=List.range (nb*nb)) (fun x hx=>by obtain⟨e,he,rfl⟩:=j9.1 hx;obtain⟨a1,a2,a3,a4⟩:=g.lt e he;rw[NB];have:(e.1.toNat+1)*nb<=nb*nb:=CI _ (by omega);rw[rU] at this;omega)
 simpa using h2
theorem MO.add {gs:List (Int×Int)} (g:MO nb gs) (hn:e∉gs) (h:0<=e.1/\e.1<nb/\0<=e.2/\e.2<nb):MO nb (gs++[e]):=by
 refine⟨?_,fun x hx=> ?_⟩
 .rw[List.nodup_append];refine⟨g.nd,by simp,fun a ha b hb e2=> ?_⟩;simp at hb;subst e2;exact hn (hb▸ha)
 .rcases tO.1 hx with hx|hx
  .exact g.lt x hx
  .simp at hx;rw[hx];exact h
theorem ZO {fx gs:List (Int×Int)} {r:Nat} (h:fx[r]? =some a) (hb:FX b<FX a):Sa N (fx.set r b) gs<Sa N fx gs:=by have:=vn FX fx r a b h;unfold Sa;omega
theorem ZN {fx gs:List (Int×Int)} (g:MO nb (gs++[e])):Sa (nb*nb) fx (gs++[e])<Sa (nb*nb) fx gs:=by have:=g.len;unfold Sa;simp at this ⊢;omega
section
variable {h0 hz:ae} {S d m n nb:Nat} {name:ByteArray} {p r:Int} {B AH:SV}
def cu (name:ByteArray) (p r:Int) (B AH:SV) (d n m:Nat) (aV:Bool):List Value:=[.string name,.int .i64 p,.int .i64 r,B.v,AH.v,.slice (some ⟨d,0,none⟩) n n,.map (some m),.bool aV]
def DM (d m x:Nat):Prop:=x=d\/x=m
structure St (h0 hz h:ae) (S d m n nb:Nat) (name:ByteArray) (p r:Int) (B AH:SV) (fx gs:List (Int×Int)) (aV:Bool):Prop where
 g:ab aG h0 h
 gy:ab (DM d m) hz h
 Zt:hz.next<=S
 nS:h0.next<=S
 nd:h0.next<=d
 nm:h0.next<=m
 hS: ∃s,h.tr.get S=some (.aA (cu name p r B AH d n m aV) false 0 s)
 hd: ∃s,h.tr.get d=some (.aA (jt.flat fx) false 0 s)
 hm:h.tr.get m=some (.map (jU gs))
 fl:fx.length=n
 fk: ∀x∈fx,kN x
 gi:MO nb gs
 ne:S≠d/\S≠m/\d≠m
def HN (S d m x:Nat):Prop:=x=S\/x=d\/x=m
theorem St.grow {fx gs:List (Int×Int)} (w:St h0 hz h S d m n nb name p r B AH fx gs aV) (g:ab aG h h'):St h0 hz h' S d m n nb name p r B AH fx gs aV:=by obtain⟨s1,hS⟩:=w.hS;obtain⟨s2,hd⟩:=w.hd;exact⟨w.g.trans g,w.gy.trans g.bt,w.Zt,w.nS,w.nd,w.nm,⟨s1,g.get w.g.ok hS (fun h=>h)⟩,⟨s2,g.get w.g.ok hd (fun h=>h)⟩,g.get w.g.ok w.hm (fun h=>h),w.fl,w.fk,w.gi,w.ne⟩
def jy (fx:List (Int×Int)) (v:Bool×Int):Int×Int:=if v.1 then(fx[v.2.toNat]?).getD (0,0) else(1,v.2)
theorem Bf {fx:List (Int×Int)} (fk: ∀x∈fx,kN x) (v:Bool×Int):kN (jy fx v):=by
 unfold jy;split
 .cases h:fx[v.2.toNat]? with
  |none=>exact .inl rfl
  |some x=>exact fk x (dk h)
 .exact .inr (.inl rfl)
structure Sv (h:ae) (S d m n:Nat) (name:ByteArray) (p r:Int) (B AH:SV) (fx:List (Int×Int)):Prop where
 hS: ∃s aV,h.tr.get S=some (.aA (cu name p r B AH d n m aV) false 0 s)
 hd: ∃s,h.tr.get d=some (.aA (jt.flat fx) false 0 s)
 fl:fx.length=n
theorem St.sv {fx gs:List (Int×Int)} (w:St h0 hz h S d m n nb name p r B AH fx gs aV):Sv h S d m n name p r B AH fx:=by obtain⟨s,hS⟩:=w.hS;exact⟨⟨s,aV,hS⟩,w.hd,w.fl⟩
theorem Sv.grow {Z:Nat->Prop} {fx:List (Int×Int)} (w:Sv h S d m n name p r B AH fx) (ok:bu h) (g:ab Z h h') (nS: ¬Z S) (nd: ¬Z d):Sv h' S d m n name p r B AH fx:=by obtain⟨⟨s,aV,hS⟩,⟨s2,hd⟩,fl⟩:=w;exact⟨⟨s,aV,g.get ok hS nS⟩,⟨s2,g.get ok hd nd⟩,fl⟩
theorem Aw (ok:bu h) {fx:List (Int×Int)} (w:Sv h S d m n name p r B AH fx) {v:Bool×Int} (hv:gK n v):
  aF FF ta [.pointer (some ⟨S,0,none⟩),.agg ⟨[.bool v.1,.int .i64 v.2]⟩] h (fun u h'=>u=bE (jy fx v)/\ab aG h h'):=by
 obtain⟨s1,aV,hS⟩:=w.hS;obtain⟨s2,hd⟩:=w.hd;refine aF.of zN ?_;unfold se;obtain⟨rg,k⟩:=v;have e1: ¬h.next=h.next+1:=by omega
 cases rg with
 |false=>
  simp[jy,bE,e1];exact((ab.refl ok).new _ _).var _ _
 |true=>
  obtain⟨k0,kn⟩:=hv rfl;dsimp only at k0 kn;obtain⟨k,rfl⟩: ∃k':Nat,k=k':=⟨k.toNat,by omega⟩;have hk:k<n:=by omega
  obtain⟨x,hx⟩: ∃x,fx[k]? =some x:=⟨_,aX (by rw[w.fl];exact hk)⟩;have oS:=ok.bA hS;have od:=ok.bA hd;have r0:=zf hd hx 0 2 (by decide);have nh:=hS;simp[cu] at nh;simp[-ag] at r0;simp[nh,oS,od,r0,hk,aI,d_,aq nh,ay,av,-ag,e1];have:jy fx (true,(k:Int))=x:=by simp[jy,hx]
  rw[this];refine⟨rfl,?_⟩;exact((ab.refl ok).new _ _).tick.var _ _
theorem Rs (h:ae) (ok:bu h) (a b:Int×Int):aF FF yz [bE a,bE b] h (fun u h'=>u=bE (ux a b)/\ab aG h h'):=by
 refine aF.of FN ?_;unfold yj;obtain⟨a1,a2⟩:=a;obtain⟨b1,b2⟩:=b;have e1: ¬h.next=h.next+1:=by omega
 have e2: ¬h.next=h.next+1+1:=by omega
 have e3: ¬h.next+1=h.next+1+1:=by omega
 have G:ab aG h (aL (aL (aL h [.int .i64 a1,.int .i64 a2] 0) [.int .i64 b1,.int .i64 b2] 0) [.int .i64 0,.int .i64 0] 0):=((((ab.refl ok).new _ _).new _ _).new _ _);have W: ∀vs:List Value,ab aG h (put (aL (aL (aL h [.int .i64 a1,.int .i64 a2] 0) [.int .i64 b1,.int .i64 b2] 0) [.int .i64 0,.int .i64 0] 0) (h.next+1+1) 0 [.int .i64 0,.int .i64 0] vs 0):=fun vs=>G.put ⟨0,by simp⟩ (.inl (by omega));by_cases c1:a1=0
 .subst c1;simp[bE,ux,e1,e2,e3];exact W _
 .have Uf:(a1==0)=false:=by simpa using c1
  by_cases c2:a1=b1/\a2=b2
  .obtain⟨rfl,rfl⟩:=c2;simp[bE,ux,e1,e2,e3,c1,Uf,gE,bx,dI];exact W _
  .have c2':(a1==b1&&a2==b2)=false:=by
    cases h1:a1==b1 with
    |false=>rfl
    |true=>
     cases h2:a2==b2 with
     |false=>rfl
     |true=>exact absurd ⟨by simpa using h1,by simpa using h2⟩ c2
   have c3: ¬((a1,a2)=(b1,b2)):=fun e=>c2 (by cases e;exact⟨rfl,rfl⟩);by_cases c4:b1=0
   .subst c4;simp[bE,ux,e1,e2,e3,c1,Uf,c2',gE,bx,dI];exact W _
   .have c4':(b1==0)=false:=by simpa using c4
    have c5:ux (a1,a2) (b1,b2)=(2,0):=by unfold ux;rw[aT (fun e=>by rcases e with e|e;exact c1 e;exact c3 e),aT c4]
    rw[c5];simp[bE,e1,e2,e3,c1,Uf,c2',c4',gE,bx,dI];exact W _
def Yg (N:Nat) (fx gs:List (Int×Int)) (aV:Bool) (YF gs':List (Int×Int)) (yr:Bool):Prop:=Sa N YF gs'<=Sa N fx gs/\(aV=false->yr=true->Sa N YF gs'<Sa N fx gs)/\(aV=true->yr=true)
theorem Yg.refl (N:Nat) (fx gs:List (Int×Int)) (aV:Bool):Yg N fx gs aV fx gs aV:=⟨dK _,(fun h1 h2=>by rw[h1] at h2;cases h2),fun h=>h⟩
theorem Yg.trans {f1 g1 f2 g2 f3 g3:List (Int×Int)} {m1 m2 m3:Bool} (a:Yg N f1 g1 m1 f2 g2 m2) (b:Yg N f2 g2 m2 f3 g3 m3):Yg N f1 g1 m1 f3 g3 m3:=by
 obtain⟨a1,a2,a3⟩:=a;obtain⟨b1,b2,b3⟩:=b;refine⟨ug b1 a1,fun h1 h3=> ?_,fun h=>b3 (a3 h)⟩;cases h2:m2 with
 |true=>have:=a2 h1 h2;omega
 |false=>have:=b2 h2 h3;omega
def Gr (h0 hz:ae) (S d m n nb:Nat) (name:ByteArray) (p r:Int) (B AH:SV) (fx gs:List (Int×Int)) (aV:Bool) (h h':ae):Prop:=
 ab (HN S d m) h h'/\ ∃YF gs' yr,St h0 hz h' S d m n nb name p r B AH YF gs' yr/\Yg (nb*nb) fx gs aV YF gs' yr
theorem Gr.refl {h:ae} {fx gs:List (Int×Int)} {aV:Bool} (w:St h0 hz h S d m n nb name p r B AH fx gs aV):Gr h0 hz S d m n nb name p r B AH fx gs aV h h:=⟨.refl w.g.ok,fx,gs,aV,w,Yg.refl _ _ _ _⟩
theorem St.news {fx gs:List (Int×Int)} (w:St h0 hz h S d m n nb name p r B AH fx gs aV) {a y:Int×Int} (ha:fx[k]? =some a) (hy:kN y) (hp:FX y<FX a):
  Gr h0 hz S d m n nb name p r B AH fx gs aV h (put (put h d (k*2) (jt.flat fx) [.int .i64 y.1,.int .i64 y.2] 0) S 7 (cu name p r B AH d n m aV) [.bool true] 0):=by
 have ok:=w.g.ok;obtain⟨s1,hS⟩:=w.hS;obtain⟨s2,hd⟩:=w.hd;have qK:=(bY.mp ha).1;have sp:=AL fx k y qK;obtain⟨n1,n2,n3⟩:=w.ne;have g1:=(ab.refl ok).put (S:=HN S d m) (off:=k*2) (vs:=[.int .i64 y.1,.int .i64 y.2]) ⟨_,hd⟩ (.inr (.inr (.inl rfl)));have hS1:(put h d (k*2) (jt.flat fx) [.int .i64 y.1,.int .i64 y.2] 0).tr.get S=some (.aA (cu name p r B AH d n m aV) false 0 s1):=by rw[eV,aT n1,hS]
 have Tj:(put h d (k*2) (jt.flat fx) [.int .i64 y.1,.int .i64 y.2] 0).tr.get d=some (.aA (jt.flat (fx.set k y)) false 0 h.clock):=by rw[eV,aU rfl,sp]
 have PR:(put h d (k*2) (jt.flat fx) [.int .i64 y.1,.int .i64 y.2] 0).tr.get m=some (.map (jU gs)):=by rw[eV,aT (fun e=>n3 e.symm),w.hm]
 generalize put h d (k*2) (jt.flat fx) [.int .i64 y.1,.int .i64 y.2] 0=h1 at g1 hS1 Tj PR ⊢;have g2:=g1.put (off:=7) (vs:=[.bool true]) ⟨s1,hS1⟩ (.inr (.inl rfl));refine⟨g2,fx.set k y,gs,true,⟨w.g.trans' g2 (fun _ _ h=>h) (fun x hx e=> ?_),w.gy.trans' g2 (fun _ _ h=>h) (fun x hx e=> ?_),w.Zt,w.nS,w.nd,w.nm,⟨h1.clock,by simp[cu]⟩,⟨h.clock,by rw[eV,aT (fun e=>n1 e.symm),Tj]⟩,by rw[eV,aT (fun e=>n2 e.symm),PR],by simp[w.fl],fun x hx=> ?_,w.gi,w.ne⟩,?_⟩
 .have:=w.nS;have:=w.nd;have:=w.nm
  rcases e with e|e|e<;>omega
 .have:=w.Zt;rcases e with e|e|e
  .omega
  .exact .inl e
  .exact .inr e
 .rcases KG hx with h|h
  .exact w.fk x h
  .rw[h];exact hy
 .have:=ZO (N:=nb*nb) (gs:=gs) ha hp;exact⟨by omega,fun _ _=>this,fun _=>rfl⟩
theorem Fk {fx gs:List (Int×Int)} (w:St h0 hz h S d m n nb name p r B AH fx gs aV) (hk:k<n) {x:Int×Int} (hx:kN x):
  aF FF qR [.pointer (some ⟨S,0,none⟩),.int .i64 k,bE x] h (fun _ h'=>Gr h0 hz S d m n nb name p r B AH fx gs aV h h'):=by
 have ok:=w.g.ok;obtain⟨s1,hS⟩:=w.hS;obtain⟨s2,hd⟩:=w.hd;obtain⟨a,ha⟩: ∃x,fx[k]? =some x:=⟨_,aX (by rw[w.fl];exact hk)⟩;have hfa:=w.fk a (dk ha);refine aF.of yR ?_;unfold qC;obtain⟨x1,x2⟩:=x;have oS:=ok.bA hS;have od:=ok.bA hd;have nh:=hS;simp[cu] at nh;have r0:=zf hd ha 0 2 (by decide);simp[-ag] at r0;simp[bE,nh,oS,od,r0,hk,aI,d_,aq nh,ay,av,-ag];refine aQ.cut (fun h1=>ab aG h h1/\ ∃s,h1.tr.get h.next=some (.aA [.int .i64 x1,.int .i64 x2] false 0 s)) ?_ ?_
 .exact⟨((ab.refl ok).new _ _).tick,0,by simp⟩
 rintro h1 ⟨g1,s3,mL⟩;refine aQ.call (V:=fun u h'=>u=bE (ux a (x1,x2))/\ab aG h1 h') (by simpa [bE] using Rs h1 g1.ok a (x1,x2)) ?_;rintro _ h2 ⟨rfl,g2⟩;have iI:=g1.trans g2;have dS:=g2.get g1.ok mL (fun h=>h);have lX:=g1.ok.wf _ _ mL;have hj:=hfa.join hx;have anV:=VO hfa hx;generalize ux a (x1,x2)=y at*;obtain⟨y1,y2⟩:=y;obtain⟨a1,a2⟩:=a;have w2:=w.grow iI;obtain⟨s5,hS2⟩:=w2.hS;obtain⟨s6,D9⟩:=w2.hd;have oS2:=g2.ok.bA hS2;have od2:=g2.ok.bA D9;have U0:=hS2;simp[cu] at U0;have r2:=zf D9 ha 0 2 (by decide);simp[-ag] at r2;have nS: ¬S=h.next:=by have:=oS.lt;omega
 have nd: ¬d=h.next:=by have:=od.lt;omega
 have nSd: ¬S=d:=w.ne.1;have nSm: ¬m=S:=fun e=>w.ne.2.1 e.symm;have ndm: ¬m=d:=fun e=>w.ne.2.2 e.symm;have gX:ab aG h (put h2 h.next 0 [.int .i64 x1,.int .i64 x2] [.int .i64 y1,.int .i64 y2] 0):=iI.put ⟨s3,dS⟩ (.inl (dK _));by_cases c:y1=a1/\y2=a2
 .obtain⟨rfl,rfl⟩:=c;simp[bE,dS,U0,nS,nd,r2,hk,aq U0,ay,av,bg,-ag,gE,bx,dI];exact⟨gX.tick.bt,fx,gs,aV,w.grow gX.tick,Yg.refl _ _ _ _⟩
 .have c':(y1==a1&&y2==a2)=false:=by
   cases h1:y1==a1 with
   |false=>rfl
   |true=>
    cases h2:y2==a2 with
    |false=>rfl
    |true=>exact absurd ⟨by simpa using h1,by simpa using h2⟩ c
  have hp:=anV (fun e=>c (by cases e;exact⟨rfl,rfl⟩));have qK:k*2+2<=fx.length*2:=by have:=w.fl;omega
  have sp:=AL fx k (y1,y2) (by rw[w.fl];exact hk);simp[bE,dS,U0,nS,nd,r2,hk,aq U0,ay,av,bg,-ag,gE,bx,dI,c',D9,qK,nSd];have wX:=w.grow gX.tick.tick;have q:=wX.news ha hj hp;exact⟨gX.tick.tick.bt.trans q.1,q.2⟩
end
section
variable {S d m n:Nat} {name:ByteArray} {p r:Int} {B AH:SV}
def gz (fx:List (Int×Int)) (v:Bool×Int):Bool×Int:=if v.1=true/\(jy fx v).1=1 then(false,(jy fx v).2) else v
theorem Au {fx:List (Int×Int)} {v:Bool×Int} (h:gK ai v):gK ai (gz fx v):=by
 unfold gz;split
 .intro h;cases h
 .exact h
theorem wU (ok:bu h) {fx:List (Int×Int)} (w:Sv h S d m n name p r B AH fx) {v:Bool×Int} (hv:gK n v):
  aF FF qQ [.pointer (some ⟨S,0,none⟩),.agg ⟨[.bool v.1,.int .i64 v.2]⟩] h (fun u h'=>u= .agg ⟨[.bool (gz fx v).1,.int .i64 (gz fx v).2]⟩/\ab aG h h'):=by
 refine aF.of yQ ?_;unfold qB;have e1: ¬h.next=h.next+1:=by omega
 simp[e1];refine aE.cut (fun h1=>ab aG h h1/\(∃s,h1.tr.get h.next=some (.aA [.bool v.1,.int .i64 v.2] false 0 s))/\ ∃s,h1.tr.get (h.next+1)=some (.aA [.bool false,.int .i64 0] false 0 s)) ⟨((ab.refl ok).new _ _).new _ _,⟨0,by simp[e1]⟩,0,by simp⟩ ?_;rintro h1 ⟨g1,⟨s1,mL⟩,s2,sG⟩;have lR:=g1.ok.wf _ _ sG;refine aE.call (V:=fun u h'=>u=bE (jy fx v)/\ab aG h1 h') (by simpa using Aw g1.ok (w.grow ok g1 (fun h=>h) (fun h=>h)) hv) ?_;rintro _ h2 ⟨rfl,g2⟩;have iI:=g1.trans g2;have dS:=g2.get g1.ok mL (fun h=>h);have xW:=g2.get g1.ok sG (fun h=>h);have l2:=g2.next;have n1: ¬h.next=h2.next:=by omega
 have n2: ¬h.next+1=h2.next:=by omega
 obtain⟨v1,v2⟩:=v;unfold gz;generalize jy fx (v1,v2)=y at*;obtain⟨y1,y2⟩:=y;have fin: ∀(hh:ae) (vs:List Value),ab aG h hh->(∃s,hh.tr.get (h.next+1)=some (.aA [.bool false,.int .i64 0] false 0 s))->ab aG h (put hh (h.next+1) 0 [.bool false,.int .i64 0] vs 0):=fun hh vs g ⟨s,hR⟩=>g.put ⟨_,hR⟩ (.inl (by omega));cases v1 with
 |false=>
  simp[bE,dS,xW,n1,n2];exact fin _ _ (iI.var _ _) ⟨s2,by simp[xW,n2]⟩
 |true=>
  by_cases c:y1=1
  .subst c;simp[bE,dS,xW,n1,n2];exact fin _ _ (iI.var _ _) ⟨s2,by simp[xW,n2]⟩
  .have c':(y1==1)=false:=by simpa using c
   simp[bE,dS,xW,n1,n2,c,c'];exact fin _ _ (iI.var _ _) ⟨s2,by simp[xW,n2]⟩
def Av (fx:List (Int×Int)) (x:XI):XI:= { x with a:=gz fx x.a,b:=gz fx x.b }
theorem Sj {az op:Int} {fx:List (Int×Int)} {a b:Bool×Int} (h:cZ az op a.1 a.2 b.1 b.2=true):cZ az op (gz fx a).1 (gz fx a).2 (gz fx b).1 (gz fx b).2=true:=by
 have key: ∀v:Bool×Int,v.1=false->gz fx v=v:=by intro v hv;unfold gz;rw[aT (fun e=>by rw[hv] at e;cases e.1)]
 unfold cZ at h ⊢;split
 .rename_i c;rw[aU c] at h;simp only[uf,Bool.not_eq_true'] at h;rw[key b h.1];simp[h]
 .rename_i c;rw[aT c] at h;split
  .rename_i c2;rw[aU c2] at h;simp only[uf,Bool.not_eq_true'] at h;rw[key a h.1];simpa using h
  .rename_i c2;rw[aT c2] at h;exact h
def vA (az:Int) (fx:List (Int×Int)) (y:XI):Bool:=decide (y.dst<0)||(!((((fx[y.dst.toNat]?).getD (0,0)).1)==1)|| !cZ az y.op y.a.1 y.a.2 y.b.1 y.b.2)
theorem RE (az:Int) (fx:List (Int×Int)) (ls:List XI):rR (fun s=> !fg az s) ((ls.map (Av fx)).filter (vA az fx))<=rR (fun s=> !fg az s) ls:=by
 have key: ∀x:XI,fg az (MK x)=true->fg az (MK (Av fx x))=true:=by intro x h;have h1:=EZ az x.op x.a x.b;have h2:=EZ az x.op (gz fx x.a) (gz fx x.b);have e1:fg az (MK x)=cZ az x.op x.a.1 x.a.2 x.b.1 x.b.2:=h1.symm;have e2:fg az (MK (Av fx x))=cZ az x.op (gz fx x.a).1 (gz fx x.a).2 (gz fx x.b).1 (gz fx x.b).2:=h2.symm;rw[e2];rw[e1] at h;exact Sj h
 unfold rR;rw[List.filter_filter];show((ls.map (Av fx)).filter (fun a=> !fg az (MK a)&&vA az fx a)).length<=(ls.filter (fun x=> !fg az (MK x))).length;induction ls with
 |nil=>simp
 |cons x ls ih=>
  simp only[Fw,List.filter_cons];cases hq:fg az (MK x) with
  |true=>
   rw[key x hq];simpa using ih
  |false=>
   simp only[Bool.not_false,if_true,List.length_cons];split
   .rw[List.length_cons];omega
   .omega
end
section
variable {S d m:Nat} {name:ByteArray} {p r:Int} {B AH:SV} {n0 ai:Nat} {κ cap:Nat->Nat} {rs:List XR} {fx:List (Int×Int)}
structure Tn (h:ae) (n0 ai:Nat) (κ cap:Nat->Nat) (rs:List XR) (S d m Y:Nat) (name:ByteArray) (p r:Int) (B AH:SV) (fx:List (Int×Int)):Prop where
 O:cq h n0 ai κ cap rs
 v:Sv h S d m ai name p r B AH fx
 hY: ∃s,h.tr.get Y=some (.aA [.pointer (some ⟨S,0,none⟩)] false 0 s)
 κS:κ S=0
 κd:κ d=0
 κY:κ Y=0
variable {Y:Nat}
theorem Tn.bt {h h':ae} (k:Tn h n0 ai κ cap rs S d m Y name p r B AH fx) (ok:bu h) (g:ab aG h h'):Tn h' n0 ai κ cap rs S d m Y name p r B AH fx:=by obtain⟨O,v,⟨s,hY⟩,a,b,c⟩:=k;exact⟨O.bt ok g,v.grow ok g (fun h=>h) (fun h=>h),⟨s,g.get ok hY (fun h=>h)⟩,a,b,c⟩
theorem Tn.Bz {h h':ae} (k:Tn h n0 ai κ cap rs S d m Y name p r B AH fx) (ok:bu h) {b:Nat} (hk:κ b=1) (g:ab (· =b) h h') {vs:List (Bool×Int)} {o:Nat} (hb: ∃s,h'.tr.get b=some (.aA (cr.flat vs) false o s)) (ho:o=0\/o=2) (hl:vs.length=cap b) (hv: ∀v∈vs,gK ai v):Tn h' n0 ai κ cap rs S d m Y name p r B AH fx:=by
 obtain⟨O,v,⟨s,hY⟩,a,b2,c⟩:=k;have n1: ¬S=b:=fun e=>by rw[e] at a;omega
 have n2: ¬d=b:=fun e=>by rw[e] at b2;omega
 have n3: ¬Y=b:=fun e=>by rw[e] at c;omega
 exact⟨O.Bz ok hk g hb ho hl hv,v.grow ok g n1 n2,⟨s,g.get ok hY n3⟩,a,b2,c⟩
def uN (κ:Nat->Nat) (x:Nat):Prop:=κ x=1
def afw:List Nat:=[10,11,40,41,42,43,44,45,46,47,48,49,50,51,52]
def ak3 (h:ae) (n0 ai:Nat) (κ cap:Nat->Nat) (rs:List XR) (S d m Y:Nat) (name:ByteArray) (p r:Int) (B AH:SV) (fx:List (Int×Int)) (A:SV) (e:Env) (mm:Nat) (e':Env) (h':ae):Prop:=
 ∃j:Nat,mm=A.l-j/\j<=A.l/\aw afw e e'/\Env.get e' 40= .int .i64 j/\ab (uN κ) h h'/\Tn h' n0 ai κ cap rs S d m Y name p r B AH fx
theorem Xr (ok:bu h) (k:Tn h n0 ai κ cap rs S d m Y name p r B AH fx) (hA:VA κ cap A) (hl:A.l<=1048576) (hX:h.tr.get X=some (.aA xc false 0 sX)) (κX:κ X=0) (Gf:(xc.drop 1).take 1=[A.v])
  {e:Env} {Q:aP->Env->ae->Prop} (f3:Env.get e 3= .pointer (some ⟨Y,0,none⟩)) (fX:Env.get e 9= .pointer (some ⟨X,0,none⟩)) (fA:Env.get e 38=A.v) (fl:Env.get e 39= .int .i64 A.l) (fj:Env.get e 40= .int .i64 0)
  (C: ∀e' h',aw afw e e'->ab (uN κ) h h'->Tn h' n0 ai κ cap rs S d m Y name p r B AH fx->Q (.exit 2) e' h'):aB FF (.loop ja) e h Q:=by
 refine aB.loop (ak3 h n0 ai κ cap rs S d m Y name p r B AH fx A e) ?_ (n:=A.l) ⟨0,rfl,by omega,aw.refl _ _,fj,.refl ok,k⟩;rintro mm e' h' ⟨j,rfl,hj,K,qj,g,k'⟩;have bX:=g.ok;have q3:=K.at f3;have qX:=K.at fX;have qA:=K.at fA;have ql:=K.at fl;have lM:=g.get ok hX (fun e=>by unfold uN at e;omega);have uv:1+1<=xc.length:=by have:=congrArg List.length Gf;simp at this;omega
 unfold ja;by_cases aS:j<A.l
 .have wj:=wrap_i64 ((j:Int)+1) (by omega) (by omega);obtain⟨b,vs,o,s,v,ha,MC,hc,hb,ho,Hc,xp,hx,hv,rd⟩:=hA.val k'.O.V aS;simp at qA;rw[ha] at qA;have Ek:(xc.drop 1).take 1=[.slice (some ⟨b,0,none⟩) A.l A.c]:=by rw[Gf];simp[ha]
  have rX:bc h' X 1 1=some [.slice (some ⟨b,0,none⟩) A.l A.c]:=by rw[cy lM uv,Ek]
  have oX:=bX.bA lM;have Ei:=bX.st _ _ _ _ _ lM;have lX:=oX.lt;have Zu: ¬X=h'.next:=by omega
  have lb:=bX.wf _ _ hb;obtain⟨sY,hY⟩:=k'.hY;have oY:=bX.bA hY;have rY:bc h' Y 0 1=some [.pointer (some ⟨S,0,none⟩)]:=by rw[cy hY (by simp)];rfl
  have lY:=oY.lt;have nYn: ¬Y=h'.next:=by omega
  simp[q3,qX,qA,ql,qj,aS,rd,rX,rY,oX,oY,Zu,nYn,-ag,av,bg,aI,ay];refine aQ.cut (fun h2=>ab aG h' h2) ?_ ?_
  .exact((ab.refl bX).var _ _).tick
  intro h2 g2;have k2:=k'.bt bX g2;have dS:=g2.get bX lM (fun h=>h);refine aQ.call (V:=fun u h'=>u= .agg ⟨[.bool (gz fx v).1,.int .i64 (gz fx v).2]⟩/\ab aG h2 h') (by simpa using wU g2.ok k2.v hv) ?_;rintro _ h3 ⟨rfl,g3⟩;have hu:gK ai (gz fx v):=Au hv;generalize gz fx v=u at*;have k3:=k2.bt g2.ok g3;have fK:=g3.get g2.ok dS (fun h=>h);have Bk:=g3.get g2.ok (g2.get bX hb (fun h=>h)) (fun h=>h);have hjv:j<vs.length:=(bY.mp hx).1;have hf:j*2+2<=(cr.flat vs).length:=by rw[cr.bC,eu];omega
  have Bm:j*2+2<=vs.length*2:=by omega
  have wN:sX<=h'.clock+1:=by omega
  simp[qX,fK,wN,aS,Bk,Bm,qj,wj];have g4:=aM (off:=j*2) (vs:=[Value.bool u.1,Value.int .i64 u.2]) g3.ok Bk;have e4:=cr.fu vs j u hjv;simp only[eu,ue] at e4;have Gc: ∃s,(put h3 b (j*2) (cr.flat vs) [Value.bool u.1,Value.int .i64 u.2] o).tr.get b=some (.aA (cr.flat (vs.set j u)) false o s):=⟨_,by rw[aD,e4]⟩;generalize put h3 b (j*2) (cr.flat vs) [Value.bool u.1,Value.int .i64 u.2] o=h4 at*;have k4:=k3.Bz g3.ok MC g4 Gc ho (by simp[Hc]) (fun w hw=>by
   rcases KG hw with h|h
   .exact xp w h
   .rw[h];exact hu)
  refine⟨A.l-(j+1),by omega,j+1,rfl,aS,?_,by simp,?_,k4⟩
  .repeat (refine aw.set ?_)
   exact K
  .exact((g.trans g2.bt).trans g3.bt).trans (g4.bJ (fun x _ e=>by unfold uN;rw[e];exact MC))
 .have:j=A.l:=by omega
  subst this;simp[ql,qj];exact C _ _ (aw.set K) g k'
def afv:List Nat:=[15,16,74,75,76,77,78,79,80,81,82,83,84,85,86]
def ak1 (h:ae) (n0 ai:Nat) (κ cap:Nat->Nat) (rs:List XR) (S d m Y:Nat) (name:ByteArray) (p r:Int) (B AH:SV) (fx:List (Int×Int)) (A:SV) (e:Env) (mm:Nat) (e':Env) (h':ae):Prop:=
 ∃j:Nat,mm=A.l-j/\j<=A.l/\aw afv e e'/\Env.get e' 74= .int .i64 j/\ab (uN κ) h h'/\Tn h' n0 ai κ cap rs S d m Y name p r B AH fx
theorem SQ (ok:bu h) (k:Tn h n0 ai κ cap rs S d m Y name p r B AH fx) (hA:VA κ cap A) (hl:A.l<=1048576) (hX:h.tr.get X=some (.aA xc false 0 sX)) (κX:κ X=0) (Gf:(xc.drop 7).take 1=[A.v])
  {e:Env} {Q:aP->Env->ae->Prop} (f3:Env.get e 3= .pointer (some ⟨Y,0,none⟩)) (fX:Env.get e 14= .pointer (some ⟨X,0,none⟩)) (fA:Env.get e 72=A.v) (fl:Env.get e 73= .int .i64 A.l) (fj:Env.get e 74= .int .i64 0)
  (C: ∀e' h',aw afv e e'->ab (uN κ) h h'->Tn h' n0 ai κ cap rs S d m Y name p r B AH fx->Q (.exit 6) e' h'):aB FF (.loop iY) e h Q:=by
 refine aB.loop (ak1 h n0 ai κ cap rs S d m Y name p r B AH fx A e) ?_ (n:=A.l) ⟨0,rfl,by omega,aw.refl _ _,fj,.refl ok,k⟩;rintro mm e' h' ⟨j,rfl,hj,K,qj,g,k'⟩;have bX:=g.ok;have q3:=K.at f3;have qX:=K.at fX;have qA:=K.at fA;have ql:=K.at fl;have lM:=g.get ok hX (fun e=>by unfold uN at e;omega);have uv:7+1<=xc.length:=by have:=congrArg List.length Gf;simp at this;omega
 unfold iY;by_cases aS:j<A.l
 .have wj:=wrap_i64 ((j:Int)+1) (by omega) (by omega);obtain⟨b,vs,o,s,v,ha,MC,hc,hb,ho,Hc,xp,hx,hv,rd⟩:=hA.val k'.O.V aS;simp at qA;rw[ha] at qA;have Ek:(xc.drop 7).take 1=[.slice (some ⟨b,0,none⟩) A.l A.c]:=by rw[Gf];simp[ha]
  have rX:bc h' X 7 1=some [.slice (some ⟨b,0,none⟩) A.l A.c]:=by rw[cy lM uv,Ek]
  have oX:=bX.bA lM;have Ei:=bX.st _ _ _ _ _ lM;have lX:=oX.lt;have Zu: ¬X=h'.next:=by omega
  have lb:=bX.wf _ _ hb;obtain⟨sY,hY⟩:=k'.hY;have oY:=bX.bA hY;have rY:bc h' Y 0 1=some [.pointer (some ⟨S,0,none⟩)]:=by rw[cy hY (by simp)];rfl
  have lY:=oY.lt;have nYn: ¬Y=h'.next:=by omega
  simp[q3,qX,qA,ql,qj,aS,rd,rX,rY,oX,oY,Zu,nYn,-ag,av,bg,aI,ay];refine aQ.cut (fun h2=>ab aG h' h2) ?_ ?_
  .exact((ab.refl bX).var _ _).tick
  intro h2 g2;have k2:=k'.bt bX g2;have dS:=g2.get bX lM (fun h=>h);refine aQ.call (V:=fun u h'=>u= .agg ⟨[.bool (gz fx v).1,.int .i64 (gz fx v).2]⟩/\ab aG h2 h') (by simpa using wU g2.ok k2.v hv) ?_;rintro _ h3 ⟨rfl,g3⟩;have hu:gK ai (gz fx v):=Au hv;generalize gz fx v=u at*;have k3:=k2.bt g2.ok g3;have fK:=g3.get g2.ok dS (fun h=>h);have Bk:=g3.get g2.ok (g2.get bX hb (fun h=>h)) (fun h=>h);have hjv:j<vs.length:=(bY.mp hx).1;have hf:j*2+2<=(cr.flat vs).length:=by rw[cr.bC,eu];omega
  have Bm:j*2+2<=vs.length*2:=by omega
  have wN:sX<=h'.clock+1:=by omega
  simp[qX,fK,wN,aS,Bk,Bm,qj,wj];have g4:=aM (off:=j*2) (vs:=[Value.bool u.1,Value.int .i64 u.2]) g3.ok Bk;have e4:=cr.fu vs j u hjv;simp only[eu,ue] at e4;have Gc: ∃s,(put h3 b (j*2) (cr.flat vs) [Value.bool u.1,Value.int .i64 u.2] o).tr.get b=some (.aA (cr.flat (vs.set j u)) false o s):=⟨_,by rw[aD,e4]⟩;generalize put h3 b (j*2) (cr.flat vs) [Value.bool u.1,Value.int .i64 u.2] o=h4 at*;have k4:=k3.Bz g3.ok MC g4 Gc ho (by simp[Hc]) (fun w hw=>by
   rcases KG hw with h|h
   .exact xp w h
   .rw[h];exact hu)
  refine⟨A.l-(j+1),by omega,j+1,rfl,aS,?_,by simp,?_,k4⟩
  .repeat (refine aw.set ?_)
   exact K
  .exact((g.trans g2.bt).trans g3.bt).trans (g4.bJ (fun x _ e=>by unfold uN;rw[e];exact MC))
 .have:j=A.l:=by omega
  subst this;simp[ql,qj];exact C _ _ (aw.set K) g k'
end
end Go.Proofs.YtdhnndleffachaaGreatDoor
